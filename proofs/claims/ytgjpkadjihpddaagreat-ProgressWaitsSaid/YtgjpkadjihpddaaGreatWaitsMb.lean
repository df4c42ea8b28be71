/-
  Texts made small by a program (see NOTES). Conditions: those that each theorem names.
-/
import Derived.Test.YtgjpkadjihpddaaGreatWaitsMa
import Derived.OrdersIn
import Derived.RangeFuncRecord
set_option linter.unusedVariables false
set_option linter.unusedSimpArgs false
set_option linter.unusedSectionVars false
set_option maxHeartbeats 2000000
noncomputable section
namespace Go.TQ
section
open Go.RowKit
def bn.bR:bn->List Nat
 | .tmp t=>[t]
 | .oY _=>[]
def bS.bR:bS->List Nat
 | .lI x| .box x| .Du x| .load _ x| .zN _ x| .not x| .conv _ x| .len _ x| .zG x| .vy _ x| .xS _ x
 | .Jv _ _ x=>x.bR
 | .pick c x y=>c.bR++x.bR++y.bR
 | .alloc _=>[]
 | .store _ p x=>p.bR++x.bR
 | .build _ ps=>ps.flatMap fun p=>p.2.2.bR
 | .MT _ _ _ _ ps=>ps.flatMap fun p=>p.2.bR
 | .zK _ x i| .zQ _ _ x i=>x.bR++i.bR
 | .bin _ x y| .nR _ x y| .D8 _ _ x y| .Hl _ x y| .tY _ x y| .xp x y| .Dw _ _ _ _ x y
 =>x.bR++y.bR
 | .call _ xs=>xs.flatMap bn.bR
 | .vb f xs=>f.bR++xs.flatMap bn.bR
 | .cY _ _ _ _ s x=>s.bR++x.bR
 | .Jj _ caps| .Jk _ caps| .ow _ caps=>caps.flatMap bn.bR
 | .JA _ _ x y=>x.bR++y.bR
 | .LJ _ _ _ _ l c=>l.bR++c.bR
 | .Gc _ x lo hi=>x.bR++(match lo with|some l=>l.bR|none=>[])++(match hi with|some h=>h.bR|none=>[])
def SG.bR(g:SG):List Nat:=(match g.g with|some (t,_)=>[t]|none=>[])++g.op.bR
def bS.qB:bS->Bool
 | .lI _| .Du _| .pick ..| .bin ..| .nR ..| .D8 ..| .Hl ..| .not _| .conv ..| .vy ..| .Jj ..| .Jk ..| .build ..| .tY ..| .xp ..| .Dw ..
 | .Jv ..| .ow ..| .len true _=>false
 |_=>true
def mG:PV->List Nat
 | .own id _| .ptr id _ _| .eN id _ _ _ _| .view id _ _ _ _=>[id]
 |_=>[]
def eU(H:Nat->fE):Nat->PV->List Nat
 |0,_=>[]
 |n+1,.own id _=>id::(match(H id).c with| .row _ _ es=>es.flatMap (fun e=>e.flatMap (eU H n))|_=>[])
 |n+1,.ptr id _ _=>id::(match(H id).c with| .box cs=>cs.flatMap (eU H n)|_=>[])
 |n+1,.agg cs|n+1,.dg cs|n+1,.bY _ cs|n+1,.jx _ cs=>cs.flatMap (eU H n)
 |_+1,_=>[]
def fg(nid:Nat)(S:St):bS->List Nat
 | .load _ p| .zN _ p| .zG p| .store _ p _=>mG (p.val S)
 | .zK _ x _| .zQ _ _ x _| .len false x| .xS _ x| .Gc _ x _ _
 =>mG (x.val S)
 | .box _| .alloc _| .MT ..| .LJ ..=>[nid]
 | .cY _ _ _ _ s x=>nid::(mG (s.val S)++mG (x.val S))
 | .JA _ _ x y=>mG (x.val S)++mG (y.val S)
 | .call _ xs=>nid::(xs.map (·.val S)).flatMap (eU S.H 9)
 | .vb f xs=>nid::(eU S.H 10 (f.val S)++(xs.map (·.val S)).flatMap (eU S.H 9))
 |_=>[]
section
variable {Γ : mR} {S S' : St} {nid : Nat}
theorem bn.val_congr{x:bn}(h:∀t∈x.bR,S'.env t=S.env t):x.val S'=x.val S:=by
 cases x with
 |tmp t=>exact h t (by simp[bn.bR])
 |oY v=>rfl
theorem rA{xs:List bn}(h:∀t∈xs.flatMap bn.bR,S'.env t=S.env t):xs.map (·.val S')=xs.map (·.val S):=
 Qq70 fun x hx=>bn.val_congr fun t ht=>h t (QQ.2 ⟨x,hx,ht⟩)
theorem Tg{H H':Nat->fE}{ex:Option Nat}:∀(n:Nat) (x:PV),(∀id∈eU H n x,H' id=H id)->fz H' ex n x=fz H ex n x
 |0,x,_=>by cases x<;>simp[fz]
 |n+1,x,h=>by
  have go:∀cs:List PV,(∀id∈cs.flatMap (eU H n),H' id=H id)->cs.map (fz H' ex n)=cs.map (fz H ex n):=fun cs hc=>
   Qq70 fun y hy=>Tg n y fun id hid=>hc id (QQ.2 ⟨y,hy,hid⟩)
  cases x with
  |own id ak=>
   have h0:H' id=H id:=h id (by simp[eU])
   simp only[fz,h0];split
   ·rfl
   ·cases hc:(H id).c with
    |row e k es=>
     simp only;congr 1;refine Qq70 fun y hy=>go y fun i hi=>h i ?_
     simp only[eU,hc,QA];exact .inr (QQ.2 ⟨y,hy,hi⟩)
    |dead=>rfl
    |box cs=>rfl
  |ptr id ak off=>
   have h0:H' id=H id:=h id (by simp[eU])
   simp only[fz,h0];split
   ·rfl
   ·cases hc:(H id).c with
    |box cs=>
     simp only;rw[go cs fun i hi=>h i (by simp only[eU,hc,QA];exact .inr hi)]
    |dead=>rfl
    |row e k es=>rfl
  |agg cs=>simp only[fz];rw[go cs (by simpa[eU]using h)]
  |dg cs=>simp only[fz];rw[go cs (by simpa[eU]using h)]
  |bY f cs=>simp only[fz];rw[go cs (by simpa[eU]using h)]
  |_=>simp[fz]
theorem CS{H H':Nat->fE}{ex:Option Nat}{xs:List PV}(h:∀id∈xs.flatMap (eU H 9),H' id=H id):xs.map (fz H' ex 9)=xs.map (fz H ex 9):=
 Qq70 fun y hy=>Tg 9 y fun id hid=>h id (QQ.2 ⟨y,hy,hid⟩)
theorem B5{f:FuncId}{args:List PV}(hnid:S'.H nid=S.H nid)(h:∀id∈args.flatMap (eU S.H 9),S'.H id=S.H id):kq Γ nid S' f args=kq Γ nid S f args:=by
 have ZK:∀(m:Model) (e k:Nat),zj m e k S' args=zj m e k S args:=by
  intro m e k;unfold zj
  cases args with
  |nil=>rfl
  |cons x rest=>
   cases x with
   |own id ak=>
    have h0:S'.H id=S.H id:=h id (by simp[eU])
    have h1:rest.map (fz S'.H (some id) 9)=rest.map (fz S.H (some id) 9):=CS fun i hi=>h i (by simp only[List.flatMap_cons,Qz];exact .inr hi)
    simp only[h0,h1]
   |_=>rfl
 have O1:∀(m:Model) (e k:Nat),zi m e k S' args=zi m e k S args:=by
  intro m e k;unfold zi
  cases args with
  |nil=>rfl
  |cons x rest=>
   cases x with
   |own id ak=>
    have h0:S'.H id=S.H id:=h id (by simp[eU])
    have h1:rest.map (fz S'.H (some id) 9)=rest.map (fz S.H (some id) 9):=CS fun i hi=>h i (by simp only[List.flatMap_cons,Qz];exact .inr hi)
    simp only[h0,h1]
   |_=>rfl
 unfold kq
 cases hm:Γ f with
 |none=>rfl
 |some m=>
  simp only[ZK,O1,Ed,hnid,CS (ex:=none) h];split
  ·rfl
  ·rfl
  ·rfl
  split
  ·rfl
  split
  ·cases hp:args[m.pos]? with
   |none=>rfl
   |some x=>
    cases x with
    |ptr id ak off=>
     cases off with
     |zero=>
      have hmem:PV.ptr id ak 0∈args:=Q7 hp;have h0:S'.H id=S.H id:=h id (QQ.2 ⟨_,hmem,by simp[eU]⟩)
      have h1:(cutAt m.pos args).map (fz S'.H (some id) 9)=(cutAt m.pos args).map (fz S.H (some id) 9):=CS fun i hi=>by
       obtain⟨y,hy,hiy⟩:=QQ.1 hi;refine h i (QQ.2 ⟨y,?_,hiy⟩);unfold cutAt at hy;rcases Qz.1 hy with hy|hy
       ·exact Q0 hy
       ·exact Q1 hy
      simp only[h0,h1]
     |succ k=>rfl
    |_=>rfl
  ·rfl
theorem Hh:∀(ps:List (Nat×Nat×bn)) (cs:List PV),(∀t∈ps.flatMap (fun p=>p.2.2.bR),S'.env t=S.env t)->qO S' cs ps=qO S cs ps
 |[],cs,_=>rfl
 |(off,n,x)::ps,cs,h=>by
  have h0:x.val S'=x.val S:=bn.val_congr fun t ht=>h t (by simp[ht])
  simp only[qO,h0];split
  ·exact Hh ps _ fun t ht=>h t (by simp only[List.flatMap_cons,Qz];exact .inr ht)
  ·rfl
theorem Hi(k:Nat):∀(ps:List (Nat×bn)) (es:List (List PV)),(∀t∈ps.flatMap (fun p=>p.2.bR),S'.env t=S.env t)->uf S' k es ps=uf S k es ps
 |[],es,_=>rfl
 |(i,x)::ps,es,h=>by
  have h0:x.val S'=x.val S:=bn.val_congr fun t ht=>h t (by simp[ht])
  simp only[uf,h0];split
  ·exact Hi k ps _ fun t ht=>h t (by simp only[List.flatMap_cons,Qz];exact .inr ht)
  ·rfl
theorem zO{x:PV}(h:∀id∈mG x,S'.H id=S.H id):iY S' x=iY S x:=by
 cases x with
 |own id ak=>have h0:S'.H id=S.H id:=h id (by simp[mG]);simp only[iY,h0]
 |view id ak k lo n=>have h0:S'.H id=S.H id:=h id (by simp[mG]);simp only[iY,h0]
 |_=>rfl
theorem Lu{y:Option bn}{d:Int}(h:∀l,y=some l->l.val S'=l.val S):sV S' y d=sV S y d:=by
 cases y with
 |none=>rfl
 |some l=>simp only[sV,h l rfl]
theorem Xi{op:bS}(he:∀t∈op.bR,S'.env t=S.env t)(hH:∀id∈fg nid S op,S'.H id=S.H id):exec Γ nid S' op=exec Γ nid S op:=by
 cases op with
 |lI x=>simp only[exec,bn.val_congr (x:=x) he]
 |pick c x y=>
  have h1:c.val S'=c.val S:=bn.val_congr fun t ht=>he t (by simp[bS.bR,ht])
  have h2:x.val S'=x.val S:=bn.val_congr fun t ht=>he t (by simp[bS.bR,ht])
  have h3:y.val S'=y.val S:=bn.val_congr fun t ht=>he t (by simp[bS.bR,ht])
  simp only[exec,h1,h2,h3]
 |box x=>
  have h1:x.val S'=x.val S:=bn.val_congr he;have h2:S'.H nid=S.H nid:=hH nid (by simp[fg])
  simp only[exec,h1,h2]
 |Du x=>
  have h1:x.val S'=x.val S:=bn.val_congr he;simp only[exec,h1]
 |alloc z=>
  have h2:S'.H nid=S.H nid:=hH nid (by simp[fg])
  simp only[exec,h2]
 |load n p=>
  have h1:p.val S'=p.val S:=bn.val_congr he;simp only[exec,h1];simp only[fg]at hH
  cases hp:p.val S with
  |ptr id ak off=>rw[hp]at hH;have h2:S'.H id=S.H id:=hH id (by simp[mG]);simp only[h2]
  |eN id ak k i off=>rw[hp]at hH;have h2:S'.H id=S.H id:=hH id (by simp[mG]);simp only[h2]
  |_=>rfl
 |store n p x=>
  have h1:p.val S'=p.val S:=bn.val_congr fun t ht=>he t (by simp[bS.bR,ht])
  have h2:x.val S'=x.val S:=bn.val_congr fun t ht=>he t (by simp[bS.bR,ht])
  simp only[exec,h1,h2];simp only[fg]at hH
  cases hp:p.val S with
  |ptr id ak off=>rw[hp]at hH;have h3:S'.H id=S.H id:=hH id (by simp[mG]);simp only[h3]
  |eN id ak k i off=>rw[hp]at hH;have h3:S'.H id=S.H id:=hH id (by simp[mG]);simp only[h3]
  |_=>rfl
 |build z ps=>simp only[exec,Hh ps z he]
 |MT m e k z ps=>
  have h2:S'.H nid=S.H nid:=hH nid (by simp[fg])
  simp only[exec,Hi k ps z he,h2]
 |zN off p=>
  have h1:p.val S'=p.val S:=bn.val_congr he;simp only[exec,h1];simp only[fg]at hH
  cases hp:p.val S with
  |ptr id ak off=>rw[hp]at hH;have h2:S'.H id=S.H id:=hH id (by simp[mG]);simp only[h2]
  |eN id ak k i off=>rw[hp]at hH;have h2:S'.H id=S.H id:=hH id (by simp[mG]);simp only[h2]
  |_=>rfl
 |zK k x i=>
  have h1:x.val S'=x.val S:=bn.val_congr fun t ht=>he t (by simp[bS.bR,ht])
  have h2:i.val S'=i.val S:=bn.val_congr fun t ht=>he t (by simp[bS.bR,ht])
  simp only[exec,h1,h2];simp only[fg]at hH
  cases hp:x.val S with
  |own id ak=>rw[hp]at hH;have h3:S'.H id=S.H id:=hH id (by simp[mG]);simp only[h3]
  |view id ak k lo n=>rw[hp]at hH;have h3:S'.H id=S.H id:=hH id (by simp[mG]);simp only[h3]
  |_=>rfl
 |zQ k len x i=>
  have h1:x.val S'=x.val S:=bn.val_congr fun t ht=>he t (by simp[bS.bR,ht])
  have h2:i.val S'=i.val S:=bn.val_congr fun t ht=>he t (by simp[bS.bR,ht])
  simp only[exec,h1,h2];simp only[fg]at hH
  cases hp:x.val S with
  |ptr id ak off=>rw[hp]at hH;have h3:S'.H id=S.H id:=hH id (by simp[mG]);simp only[h3]
  |_=>rfl
 |bin op x y=>
  have h1:x.val S'=x.val S:=bn.val_congr fun t ht=>he t (by simp[bS.bR,ht])
  have h2:y.val S'=y.val S:=bn.val_congr fun t ht=>he t (by simp[bS.bR,ht])
  simp only[exec,h1,h2]
 |nR n x y=>
  have h1:x.val S'=x.val S:=bn.val_congr fun t ht=>he t (by simp[bS.bR,ht])
  have h2:y.val S'=y.val S:=bn.val_congr fun t ht=>he t (by simp[bS.bR,ht])
  simp only[exec,h1,h2]
 |Hl n x y=>
  have h1:x.val S'=x.val S:=bn.val_congr fun t ht=>he t (by simp[bS.bR,ht])
  have h2:y.val S'=y.val S:=bn.val_congr fun t ht=>he t (by simp[bS.bR,ht])
  simp only[exec,h1,h2]
 |D8 n ks x y=>
  have h1:x.val S'=x.val S:=bn.val_congr fun t ht=>he t (by simp[bS.bR,ht])
  have h2:y.val S'=y.val S:=bn.val_congr fun t ht=>he t (by simp[bS.bR,ht])
  simp only[exec,h1,h2]
 |Dw e n len k x y=>
  have h1:x.val S'=x.val S:=bn.val_congr fun t ht=>he t (by simp[bS.bR,ht])
  have h2:y.val S'=y.val S:=bn.val_congr fun t ht=>he t (by simp[bS.bR,ht])
  simp only[exec,h1,h2]
 |xp x y=>
  have h1:x.val S'=x.val S:=bn.val_congr fun t ht=>he t (by simp[bS.bR,ht])
  have h2:y.val S'=y.val S:=bn.val_congr fun t ht=>he t (by simp[bS.bR,ht])
  simp only[exec,h1,h2]
 |not x=>simp only[exec,bn.val_congr (x:=x) he]
 |conv k x=>simp only[exec,bn.val_congr (x:=x) he]
 |Jv n off x=>simp only[exec,bn.val_congr (x:=x) he]
 |ow q xs=>simp only[exec,rA he]
 |JA e k x y=>
  have h1:x.val S'=x.val S:=bn.val_congr fun t ht=>he t (by simp[bS.bR,ht])
  have h2:y.val S'=y.val S:=bn.val_congr fun t ht=>he t (by simp[bS.bR,ht])
  simp only[exec,h1,h2];rw[zO (fun id hid=>hH id (by simp[fg,hid]))]
  cases hx:x.val S with
  |own id ak=>have h0:S'.H id=S.H id:=hH id (by simp[fg,hx,mG]);simp only[h0]
  |view id ak k lo n=>have h0:S'.H id=S.H id:=hH id (by simp[fg,hx,mG]);simp only[h0]
  |_=>rfl
 |len b x=>
  have h1:x.val S'=x.val S:=bn.val_congr he
  cases b with
  |true=>simp only[exec,h1]
  |false=>simp only[exec,h1];rw[zO (by simpa[fg]using hH)]
 |call f xs=>simp only[exec,rA he];exact B5 (hH nid (by simp[fg])) fun id hid=>hH id (by simp only[fg,QA];exact .inr hid)
 |vb fv xs=>
  have h1:fv.val S'=fv.val S:=bn.val_congr fun t ht=>he t (by simp[bS.bR,ht])
  have h2:xs.map (·.val S')=xs.map (·.val S):=rA fun t ht=>he t (by simp only[bS.bR,Qz];exact .inr ht)
  simp only[exec,h1,h2];simp only[fg]at hH
  cases hp:fv.val S with
  |bY f caps=>
   rw[hp]at hH;refine B5 (hH nid (by simp)) fun id hid=>hH id ?_
   simp only[List.flatMap_append,Qz,QA]at hid ⊢;right;rcases hid with hid|hid
   ·exact .inr hid
   ·exact .inl (by simpa[eU]using hid)
  |jx f first=>
   rw[hp]at hH;refine B5 (hH nid (by simp)) fun id hid=>hH id ?_
   simp only[List.flatMap_append,Qz,QA]at hid ⊢;right;rcases hid with hid|hid
   ·exact .inl (by simpa[eU]using hid)
   ·exact .inr hid
  |_=>rfl
 |cY z e k b s x=>
  have h1:s.val S'=s.val S:=bn.val_congr fun t ht=>he t (by simp[bS.bR,ht])
  have h2:x.val S'=x.val S:=bn.val_congr fun t ht=>he t (by simp[bS.bR,ht])
  have h3:S'.H nid=S.H nid:=hH nid (by simp[fg])
  have h4:iY S' (x.val S)=iY S (x.val S):=zO fun id hid=>hH id (by simp[fg,hid])
  simp only[exec,h1,h2,h3,h4]
  cases hp:s.val S with
  |own id ak=>have h5:S'.H id=S.H id:=hH id (by simp[fg,hp,mG]);simp only[h5]
  |_=>rfl
 |zG x=>
  have h1:x.val S'=x.val S:=bn.val_congr he;simp only[exec,h1];simp only[fg]at hH
  cases hp:x.val S with
  |ptr id ak off=>rw[hp]at hH;have h2:S'.H id=S.H id:=hH id (by simp[mG]);simp only[h2]
  |_=>rfl
 |vy i x=>simp only[exec,bn.val_congr (x:=x) he]
 |Jj f caps=>simp only[exec,rA he]
 |Jk f caps=>simp only[exec,rA he]
 |LJ e k b z l c=>
  have h1:l.val S'=l.val S:=bn.val_congr fun t ht=>he t (by simp[bS.bR,ht])
  have h2:c.val S'=c.val S:=bn.val_congr fun t ht=>he t (by simp[bS.bR,ht])
  have h3:S'.H nid=S.H nid:=hH nid (by simp[fg])
  simp only[exec,h1,h2,h3]
 |Gc k x lo hi=>
  have h1:x.val S'=x.val S:=bn.val_congr fun t ht=>he t (by simp[bS.bR,ht])
  have h2:∀l,lo=some l->l.val S'=l.val S:=fun l hl=>bn.val_congr fun t ht=>he t (by simp[bS.bR,hl,ht])
  have h3:∀l,hi=some l->l.val S'=l.val S:=fun l hl=>bn.val_congr fun t ht=>he t (by simp[bS.bR,hl,ht])
  simp only[fg]at hH;simp only[exec,h1];have h4:∀d,sV S' lo d=sV S lo d:=fun d=>Lu h2
  have h5:∀d,sV S' hi d=sV S hi d:=fun d=>Lu h3
  cases hp:x.val S with
  |own id ak=>rw[hp]at hH;have h6:S'.H id=S.H id:=hH id (by simp[mG]);simp only[h4,h5,h6]
  |view id ak k lo n=>rw[hp]at hH;have h6:S'.H id=S.H id:=hH id (by simp[mG]);simp only[h4,h5,h6]
  |sl es=>cases lo<;>cases hi<;>simp_all
  |_=>rfl
 |tY m x y=>
  have h1:x.val S'=x.val S:=bn.val_congr fun t ht=>he t (by simp[bS.bR,ht])
  have h2:y.val S'=y.val S:=bn.val_congr fun t ht=>he t (by simp[bS.bR,ht])
  simp only[exec,h1,h2]
 |xS n x=>
  have h1:x.val S'=x.val S:=bn.val_congr he;have h2:iY S' (x.val S)=iY S (x.val S):=zO (by simpa[fg]using hH)
  simp only[exec,h1];cases hx:x.val S<;>first|rfl|(rw[hx]at h2;simp only[h2])
theorem uY{α β:Type}{f g:α->List β}:∀{l:List α},(∀x∈l,f x=g x)->l.flatMap f=l.flatMap g
 |[],_=>rfl
 |x::l,h=>by simp only[List.flatMap_cons];rw[h x (by simp),uY fun y hy=>h y (by simp[hy])]
theorem Ez{H H':Nat->fE}:∀(n:Nat) (x:PV),(∀id∈eU H n x,H' id=H id)->eU H' n x=eU H n x
 |0,x,_=>by simp[eU]
 |n+1,x,h=>by
  have go:∀cs:List PV,(∀id∈cs.flatMap (eU H n),H' id=H id)->cs.flatMap (eU H' n)=cs.flatMap (eU H n):=fun cs hc=>
   uY fun y hy=>Ez n y fun id hid=>hc id (QQ.2 ⟨y,hy,hid⟩)
  cases x with
  |own id ak=>
   have h0:H' id=H id:=h id (by simp[eU])
   simp only[eU,h0]
   cases hc:(H id).c with
   |row e k es=>
    simp only;congr 1;refine uY fun y hy=>go y fun i hi=>h i ?_
    simp only[eU,hc,QA];exact .inr (QQ.2 ⟨y,hy,hi⟩)
   |dead=>rfl
   |box cs=>rfl
  |ptr id ak off=>
   have h0:H' id=H id:=h id (by simp[eU])
   simp only[eU,h0]
   cases hc:(H id).c with
   |box cs=>
    simp only;rw[go cs fun i hi=>h i (by simp only[eU,hc,QA];exact .inr hi)]
   |dead=>rfl
   |row e k es=>rfl
  |agg cs=>simp only[eU];exact go cs (by simpa[eU]using h)
  |dg cs=>simp only[eU];exact go cs (by simpa[eU]using h)
  |bY f cs=>simp only[eU];exact go cs (by simpa[eU]using h)
  |jx f cs=>simp only[eU];exact go cs (by simpa[eU]using h)
  |_=>simp[eU]
theorem Jb{H H':Nat->fE}{n:Nat}{xs:List PV}(h:∀id∈xs.flatMap (eU H n),H' id=H id):xs.flatMap (eU H' n)=xs.flatMap (eU H n):=
 uY fun y hy=>Ez n y fun id hid=>h id (QQ.2 ⟨y,hy,hid⟩)
theorem Wk{op:bS}(he:∀t∈op.bR,S'.env t=S.env t)(hH:∀id∈fg nid S op,S'.H id=S.H id):fg nid S' op=fg nid S op:=by
 cases op with
 |load n p=>simp only[fg,bn.val_congr (x:=p) he]
 |zN off p=>simp only[fg,bn.val_congr (x:=p) he]
 |zG p=>simp only[fg,bn.val_congr (x:=p) he]
 |store n p x=>
  have h1:p.val S'=p.val S:=bn.val_congr fun t ht=>he t (by simp[bS.bR,ht])
  simp only[fg,h1]
 |zK k x i=>
  have h1:x.val S'=x.val S:=bn.val_congr fun t ht=>he t (by simp[bS.bR,ht])
  simp only[fg,h1]
 |zQ k l x i=>
  have h1:x.val S'=x.val S:=bn.val_congr fun t ht=>he t (by simp[bS.bR,ht])
  simp only[fg,h1]
 |xS n x=>simp only[fg,bn.val_congr (x:=x) he]
 |JA e k x y=>simp only[fg,bn.val_congr (x:=x) fun t ht=>he t (by simp[bS.bR,ht]),bn.val_congr (x:=y) fun t ht=>he t (by simp[bS.bR,ht])]
 |Gc k x lo hi=>
  have h1:x.val S'=x.val S:=bn.val_congr fun t ht=>he t (by simp[bS.bR,ht])
  simp only[fg,h1]
 |len b x=>
  cases b with
  |true=>rfl
  |false=>simp only[fg,bn.val_congr (x:=x) he]
 |cY z e k b s x=>
  have h1:s.val S'=s.val S:=bn.val_congr fun t ht=>he t (by simp[bS.bR,ht])
  have h2:x.val S'=x.val S:=bn.val_congr fun t ht=>he t (by simp[bS.bR,ht])
  simp only[fg,h1,h2]
 |call f xs=>
  simp only[fg,rA he];rw[Jb fun id hid=>hH id (by simp only[fg,QA];exact .inr hid)]
 |vb fv xs=>
  have h1:fv.val S'=fv.val S:=bn.val_congr fun t ht=>he t (by simp[bS.bR,ht])
  have h2:xs.map (·.val S')=xs.map (·.val S):=rA fun t ht=>he t (by simp only[bS.bR,Qz];exact .inr ht)
  simp only[fg,QA,Qz]at hH;simp only[fg,h1,h2];rw[Ez 10 _ fun id hid=>hH id (.inr (.inl hid)),Jb fun id hid=>hH id (.inr (.inr hid))]
 |_=>rfl
def Al(Γ:mR)(nid:Nat)(S:St)(g:SG):Option (PV×Option (Nat×fE)):=
 match g.wanted S with
 |some true=>exec Γ nid S g.op
 |some false=>some (.undef,none)
 |none=>none
def D7(nid:Nat)(S:St)(g:SG):List Nat:=
 match g.wanted S with
 |some true=>fg nid S g.op
 |_=>[]
theorem UW(g:SG):z8 Γ nid S g=(Al Γ nid S g).map fun p=>S.cY g.d p.1 p.2:=by
 unfold z8 Al
 cases g.wanted S with
 |none=>rfl
 |some b=>cases b<;>rfl
theorem F5{g:SG}(he:∀t∈g.bR,S'.env t=S.env t):g.wanted S'=g.wanted S:=by
 unfold SG.wanted
 cases hg:g.g with
 |none=>rfl
 |some p=>
  obtain⟨t,want⟩:=p;simp only;rw[he t (by simp[SG.bR,hg])]
theorem OW{g:SG}(he:∀t∈g.bR,S'.env t=S.env t)(hH:∀id∈D7 nid S g,S'.H id=S.H id):Al Γ nid S' g=Al Γ nid S g:=by
 unfold Al;rw[F5 he];unfold D7 at hH
 cases hw:g.wanted S with
 |none=>rfl
 |some b=>
  cases b with
  |false=>rfl
  |true=>
   rw[hw]at hH;exact Xi (fun t ht=>he t (by simp[SG.bR,ht])) hH
theorem OP{g:SG}(he:∀t∈g.bR,S'.env t=S.env t)(hH:∀id∈D7 nid S g,S'.H id=S.H id):D7 nid S' g=D7 nid S g:=by
 unfold D7;rw[F5 he];unfold D7 at hH
 cases hw:g.wanted S with
 |none=>rfl
 |some b=>
  cases b with
  |false=>rfl
  |true=>
   rw[hw]at hH;exact Wk (fun t ht=>he t (by simp[SG.bR,ht])) hH
structure vC where
 d:Option Nat
 us:List Nat
 rd:List Nat
 wr:Option Nat
structure XU (p q:vC):Prop where
 d1:∀t,p.d=some t->t∉q.us
 d2:∀t,q.d=some t->t∉p.us
 dd:∀t,p.d=some t->q.d≠some t
 w1:∀i,p.wr=some i->i∉q.rd
 w2:∀i,q.wr=some i->i∉p.rd
 ww:∀i,p.wr=some i->q.wr≠some i
def Dq(nid:Nat)(S:St)(g:SG)(p:PV×Option (Nat×fE)):vC:=⟨g.d,g.bR,D7 nid S g,p.2.map (·.1)⟩
def nI(Γs:Nat->mR)(base:Nat):List (Nat×SG)->St->Option (St×List vC)
 |[],S=>some (S,[])
 |(i,g)::l,S=>
  match Al (Γs i) (base+i) S g with
  |none=>none
  |some p=>
   match nI Γs base l (S.cY g.d p.1 p.2)with
   |none=>none
   |some (S',fs)=>some (S',Dq (base+i) S g p::fs)
theorem St.lQ(d:Option Nat)(x:PV)(wr:Option (Nat×fE)){t:Nat}(h:d≠some t):(S.cY d x wr).env t=S.env t:=by
 cases d with
 |none=>rfl
 |some d=>exact cu _ _ (fun e=>h (by rw[e]))
theorem St.Ft(d:Option Nat)(x:PV)(wr:Option (Nat×fE)){i:Nat}(h:wr.map (·.1)≠some i):(S.cY d x wr).H i=S.H i:=by
 cases wr with
 |none=>rfl
 |some p=>exact cu _ _ (fun e=>h (by rw[e];rfl))
theorem Rg{α:Type}(f:Nat->α){i j:Nat}(x y:α)(h:i≠j):bJ (bJ f i x) j y=bJ (bJ f j y) i x:=by
 funext k
 simp only[bJ];split<;>split<;>first|rfl|omega
theorem St.abr(d e:Option Nat)(x y:PV)(p q:Option (Nat×fE))(hd:∀t,d=some t->e≠some t)(hw:∀i,p.map (·.1)=some i->q.map (·.1)≠some i):(S.cY d x p).cY e y q=(S.cY e y q).cY d x p:=by
 unfold St.cY;congr 1
 ·cases d with
  |none=>rfl
  |some d=>
   cases e with
   |none=>rfl
   |some e=>exact Rg _ _ _ (fun h=>hd d rfl (by rw[h]))
 ·cases p with
  |none=>rfl
  |some p=>
   cases q with
   |none=>rfl
   |some q=>exact Rg _ _ _ (fun h=>hw p.1 rfl (by rw[h];rfl))
theorem Gq{Γs:Nat->mR}{base:Nat}:∀(l1:List (Nat×SG)) (i:Nat) (g:SG) (l2:List (Nat×SG)) (S S':St) (fs:List vC),nI Γs base (l1++(i,g)::l2) S=some (S',fs)->
  (∀(k:Nat) (fk fi:vC),k<l1.length->fs[k]?=some fk->fs[l1.length]?=some fi->XU fk fi)->
  ∃p,Al (Γs i) (base+i) S g=some p/\(∀fi,fs[l1.length]?=some fi->fi=Dq (base+i) S g p)/\nI Γs base (l1++l2) (S.cY g.d p.1 p.2)=some (S',fs.eraseIdx l1.length)
 |[],i,g,l2,S,S',fs,h,_=>by
  simp only[List.nil_append,nI]at h;split at h
  ·cases h
  ·rename_i p hp;split at h
   ·cases h
   ·rename_i S1 fs1 h1;injection h with h
    injection h with h2 h3
    subst h2 h3;exact⟨p,hp,fun fi hfi=>by simp at hfi;exact hfi.symm,by simpa using h1⟩
 |(x,gx)::l1,i,g,l2,S,S',fs,h,hi=>by
  simp only[List.cons_append,nI]at h;split at h
  ·cases h
  ·rename_i px hpx;split at h
   ·cases h
   ·rename_i S1 fs1 h1;injection h with h
    injection h with h2 h3
    subst h2 h3;obtain⟨p,hp,hfp,hrest⟩:=Gq l1 i g l2 (S.cY gx.d px.1 px.2) S1 fs1 h1 (fun k fk fi hk hfk hfi=>hi (k+1) fk fi (by simp;omega) (by simpa using hfk) (by simpa using hfi))
    have hlen:l1.length<fs1.length:=by
     have:∀(l:List (Nat×SG)) (S:St) (S':St) (fs:List vC),nI Γs base l S=some (S',fs)->fs.length=l.length:=by
      intro l
      induction l with
      |nil=>intro S S' fs h;simp only[nI,Qf,Prod.mk.injEq]at h;rw[<-h.2];rfl
      |cons q l ih=>
       intro S S' fs h;obtain⟨j,gj⟩:=q;simp only[nI]at h;split at h
       ·cases h
       ·split at h
        ·cases h
        ·rename_i S2 fs2 h2;injection h with h
         injection h with h3 h4
         subst h4;simp[ih _ _ _ h2]
     rw[this _ _ _ _ h1];simp
    have hfi:=hfp _ (Qv hlen);have hind:=hi 0 (Dq (base+x) S gx px) _ (by simp) (by simp) (show(Dq (base+x) S gx px::fs1)[l1.length+1]?=some fs1[l1.length]by rw[List.getElem?_cons_succ];exact Qv hlen)
    rw[hfi]at hind;have he:∀t∈g.bR,S.env t=(S.cY gx.d px.1 px.2).env t:=fun t ht=>(St.lQ _ _ _ (fun e=>hind.d1 t e ht)).symm
    have hH:∀id∈D7 (base+i) (S.cY gx.d px.1 px.2) g,S.H id=(S.cY gx.d px.1 px.2).H id:=fun id hid=>(St.Ft _ _ _ (fun e=>hind.w1 id e hid)).symm
    have hp':Al (Γs i) (base+i) S g=some p:=(OW he hH).trans hp;have hg':=OP (nid:=base+i) he hH;have hex:∀t∈gx.bR,(S.cY g.d p.1 p.2).env t=S.env t:=fun t ht=>St.lQ _ _ _ (fun e=>hind.d2 t e ht)
    have hHx:∀id∈D7 (base+x) S gx,(S.cY g.d p.1 p.2).H id=S.H id:=fun id hid=>St.Ft _ _ _ (fun e=>hind.w2 id e hid)
    have hpx':Al (Γs x) (base+x) (S.cY g.d p.1 p.2) gx=some px:=(OW hex hHx).trans hpx;have hgx':=OP (nid:=base+x) hex hHx;have hcomm:(S.cY g.d p.1 p.2).cY gx.d px.1 px.2=(S.cY gx.d px.1 px.2).cY g.d p.1 p.2:=(St.abr _ _ _ _ _ _ hind.dd hind.ww).symm;refine⟨p,hp',fun fi hf=> ?_,?_⟩
    ·have:fi=fs1[l1.length]:=by
      have h5:(Dq (base+x) S gx px::fs1)[l1.length+1]?=some fi:=by simpa using hf
      simp only[List.getElem?_cons_succ,Qv hlen,Qf]at h5;exact h5.symm
     rw[this,hfi];simp only[Dq,hg']
    ·simp only[List.cons_append,nI,hpx',hcomm,hrest,QE,List.eraseIdx_cons_succ];congr 2;simp only[Dq,hgx']
end
section
variable {P : Program} {E : En} {Γ : mR} {hs : List Nat}
def wj(o:Oper):Nat:=o.after.toList.foldl (fun m e=>if Region.binds .any e then m|||(1<<<e.on)else m) 0
def ZN(ds:List Nat)(M:Nat):Nat:=ds.zipIdx.foldl (fun m p=>if M.testBit p.2 then m|||p.1 else m) M
def Cb(ds:List Nat):Nat->Nat->Nat
 |0,M=>M
 |n+1,M=>Cb ds n (ZN ds M)
theorem Ue(i j:Nat):(1<<<i).testBit j=decide (j=i):=by
 rw[Nat.one_shiftLeft,Nat.testBit_two_pow];exact decide_eq_decide.2 ⟨fun h=>h.symm,fun h=>h.symm⟩
theorem Tu{o:Oper}{R:Nat->Prop}(h:∀e∈o.after,Region.binds .any e=true->R e.on):∀j,(wj o).testBit j=true->R j:=by
 have:∀(l:List Edge) (m:Nat),(∀e∈l,Region.binds .any e=true->R e.on)->(∀j,m.testBit j=true->R j)->∀j,(l.foldl (fun m e=>if Region.binds .any e then m|||(1<<<e.on)else m) m).testBit j=true->R j:=by
  intro l
  induction l with
  |nil=>intro m _ hm j hj;exact hm j hj
  |cons e l ih=>
   intro m hl hm j hj;refine ih _ (fun e' he'=>hl e' (by simp[he'])) ?_ j hj
   intro k hk;simp only at hk;split at hk
   ·rename_i hb;rw[Nat.testBit_or,Qn,Ue,Qi]at hk;rcases hk with hk|hk
    ·exact hm k hk
    ·rw[hk];exact hl e (by simp) hb
   ·exact hm k hk
 exact this o.after.toList 0 (fun e he=>h e (by simpa using he)) (fun j hj=>by simp at hj)
theorem ZM{ds:List Nat}{R:Nat->Prop}(hd:∀i d,ds[i]?=some d->R i->∀j,d.testBit j=true->R j){M:Nat}(hM:∀j,M.testBit j=true->R j):∀j,(ZN ds M).testBit j=true->R j:=by
 have:∀(l:List (Nat×Nat)) (m:Nat),(∀p∈l,R p.2->∀j,p.1.testBit j=true->R j)->(∀j,m.testBit j=true->R j)->∀j,(l.foldl (fun m p=>if M.testBit p.2 then m|||p.1 else m) m).testBit j=true->R j:=by
  intro l
  induction l with
  |nil=>intro m _ hm j hj;exact hm j hj
  |cons p l ih=>
   intro m hl hm j hj;refine ih _ (fun q hq=>hl q (by simp[hq])) ?_ j hj
   intro k hk;simp only at hk;split at hk
   ·rename_i hb;rw[Nat.testBit_or,Qn]at hk;rcases hk with hk|hk
    ·exact hm k hk
    ·exact hl p (by simp) (hM _ hb) k hk
   ·exact hm k hk
 refine this ds.zipIdx M (fun p hp hR j hj=> ?_) hM
 obtain⟨d,i⟩:=p;rw[List.mem_zipIdx_iff_getElem?]at hp;exact hd i d hp hR j hj
theorem O7{ds:List Nat}{R:Nat->Prop}(hd:∀i d,ds[i]?=some d->R i->∀j,d.testBit j=true->R j):∀(n M:Nat),(∀j,M.testBit j=true->R j)->∀j,(Cb ds n M).testBit j=true->R j
 |0,_,hM=>hM
 |n+1,_,hM=>O7 hd n _ (ZM hd hM)
def Na(ops:List Oper):List (Nat×Nat):=
 let ds:=ops.map wj
 (List.range ops.length).flatMap fun j=>
  let M:=Cb ds ops.length (ds.getD j 0)
  (List.range j).filterMap fun i=>if M.testBit i then none else some (i,j)
def NX(g h:SG):Bool:=
 (match g.d with|some t=> !h.bR.contains t&&h.d !=some t|none=>true)&&(match h.d with|some t=> !g.bR.contains t|none=>true)
def BX(p q:vC):Bool:=
 (match p.wr with|some i=> !q.rd.contains i&&q.wr !=some i|none=>true)&&(match q.wr with|some i=> !p.rd.contains i|none=>true)
def Xv(ops:List Oper)(gs:List SG):Option (List (Nat×Nat)):=
 let un:=Na ops
 if un.all (fun p=>match gs[p.1]?,gs[p.2]? with|some g,some h=>NX g h|_,_=>false)&&ops.zipIdx.all (fun p=>p.1.after.toList.all fun e=> !Region.binds .any e||decide (e.on<p.2))then
  some (un.filter fun p=>match gs[p.1]?,gs[p.2]? with|some g,some h=>g.op.qB&&h.op.qB|_,_=>true)
 else none
def Nj(Γs:Nat->mR)(base:Nat)(un:List (Nat×Nat))(gs:List SG)(S:St):Option St:=
 match nI Γs base (gs.zipIdx.map fun p=>(p.2,p.1)) S with
 |none=>none
 |some (S',fs)=>if un.all (fun p=>match fs[p.1]?,fs[p.2]? with|some a,some b=>BX a b|_,_=>false)then some S' else none
theorem RB{nid:Nat}{S:St}{op:bS}(h:op.qB=false):fg nid S op=[]:=by
 cases op with
 |len b x=>cases b<;>simp_all [bS.qB,fg]
 |_=>simp_all [bS.qB,fg]
theorem V4{nid:Nat}{S:St}{op:bS}(h:op.qB=false){p:PV×Option (Nat×fE)}(he:exec Γ nid S op=some p):p.2=none:=by
 cases op with
 |lI x=>simp only[exec,Qf]at he;rw[<-he]
 |pick c x y=>
  simp only[exec]at he;split at he<;>first|(injection he with he;rw[<-he])|cases he
 |bin op x y=>simp only[exec,Qb]at he;obtain⟨_,_,rfl⟩:=he;rfl
 |nR n x y=>
  simp only[exec]at he;split at he
  ·split at he
   ·injection he with he;rw[<-he]
   ·cases he
  ·cases he
 |Hl n x y=>
  simp only[exec]at he;split at he
  ·injection he with he;rw[<-he]
  ·cases he
 |Dw e n len k x y=>
  simp only[exec]at he;split at he
  ·split at he
   ·simp only[Qb]at he;obtain⟨_,_,rfl⟩:=he;rfl
   ·cases he
  ·cases he
 |xp x y=>
  simp only[exec]at he;split at he
  ·simp only[Qb]at he;obtain⟨_,_,rfl⟩:=he;rfl
  ·cases he
 |not x=>
  simp only[exec]at he;split at he<;>first|(injection he with he;rw[<-he])|cases he
 |conv k x=>
  simp only[exec]at he;split at he<;>first|(injection he with he;rw[<-he])|cases he
 |vy i x=>
  simp only[exec]at he;split at he
  ·simp only[Qb]at he;obtain⟨_,_,rfl⟩:=he;rfl
  ·cases he
 |Jv n off x=>
  simp only[exec]at he;split at he
  ·simp only[Qb]at he;obtain⟨_,_,rfl⟩:=he;rfl
  ·cases he
 |ow q xs=>simp only[exec,Qb]at he;obtain⟨_,_,rfl⟩:=he;rfl
 |Jj f c=>simp only[exec,Qf]at he;rw[<-he]
 |Du x=>
  simp only[exec]at he;split at he
  ·injection he with he;rw[<-he]
  ·cases he
 |Jk f c=>simp only[exec,Qf]at he;rw[<-he]
 |D8 n ks x y=>
  simp only[exec]at he;split at he
  ·simp only[Qb]at he;obtain⟨_,_,rfl⟩:=he;rfl
  ·cases he
 |build z ps=>simp only[exec,Qb]at he;obtain⟨_,_,rfl⟩:=he;rfl
 |tY m x y=>
  simp only[exec]at he;split at he
  ·split at he
   ·injection he with he;rw[<-he]
   ·cases he
  ·cases he
 |len b x=>
  cases b with
  |true=>
   simp only[exec]at he;split at he<;>first|(injection he with he;rw[<-he])|cases he
  |false=>simp[bS.qB]at h
 |_=>simp[bS.qB]at h
theorem Ni{Γs:Nat->mR}{base:Nat}:∀(l:List (Nat×SG)) (S S':St) (fs:List vC),nI Γs base l S=some (S',fs)->fs.length=l.length/\∀(k i:Nat) (g:SG) (f:vC),l[k]?=some (i,g)->fs[k]?=some f->
  f.d=g.d/\f.us=g.bR/\(g.op.qB=false->f.rd=[]/\f.wr=none)
 |[],S,S',fs,h=>by simp only[nI,Qf,Prod.mk.injEq]at h;rw[<-h.2];exact⟨rfl,fun k i g f hk=>by simp at hk⟩
 |(j,gj)::l,S,S',fs,h=>by
  simp only[nI]at h;split at h
  ·cases h
  ·rename_i p hp;split at h
   ·cases h
   ·rename_i S2 fs2 h2;injection h with h
    injection h with h3 h4
    subst h4;obtain⟨h5,h6⟩:=Ni l _ _ _ h2;refine⟨by simp[h5],fun k i g f hk hf=> ?_⟩
    cases k with
    |zero=>
     simp only[List.getElem?_cons_zero,Qf,Prod.mk.injEq]at hk hf;obtain⟨rfl,rfl⟩:=hk;subst hf;refine⟨rfl,rfl,fun ht=> ?_⟩
     unfold Al at hp;simp only[Dq,D7];split at hp
     ·rename_i hw;rw[hw];exact⟨RB ht,by rw[V4 ht hp];rfl⟩
     ·rename_i hw;injection hp with hp
      subst hp;rw[hw];exact⟨rfl,rfl⟩
     ·cases hp
    |succ k=>exact h6 k i g f (by simpa using hk) (by simpa using hf)
def oz(gs:List SG)(listed:Array Bool):List (Nat×SG):=(gs.zipIdx.map fun p=>(p.2,p.1)).filter fun p=> !listed.getD p.1 true
theorem BP{gs:List SG}{listed:Array Bool}{i:Nat}{g:SG}:(i,g)∈oz gs listed↔gs[i]?=some g/\listed.getD i true=false:=by
 unfold oz;simp only[List.mem_filter,QP,Prod.mk.injEq,Prod.exists,Bool.not_eq_true'];constructor
 ·rintro⟨⟨x,j,h1,rfl,rfl⟩,h2⟩;rw[List.mem_zipIdx_iff_getElem?]at h1;exact⟨h1,h2⟩
 ·rintro⟨h1,h2⟩;exact⟨⟨g,i,by rw[List.mem_zipIdx_iff_getElem?];exact h1,rfl,rfl⟩,h2⟩
theorem Je(gs:List SG)(listed:Array Bool):(oz gs listed).Pairwise fun p q=>p.1<q.1:=by
 unfold oz;refine List.Pairwise.filter _ ?_;rw[List.pairwise_map]
 have:∀(l:List SG) (k:Nat),(l.zipIdx k).Pairwise fun p q=>p.2<q.2:=by
  intro l
  induction l with
  |nil=>intro k;simp
  |cons x l ih=>
   intro k;rw[List.zipIdx_cons,Q3];refine⟨fun q hq=> ?_,ih (k+1)⟩
   obtain⟨y,j⟩:=q;have:=List.le_snd_of_mem_zipIdx hq;simp only at this ⊢;omega
 exact this gs 0
theorem JO{gs:List SG}{listed:Array Bool}{i:Nat}{g:SG}{l1 l2:List (Nat×SG)}(hi:i<listed.size)(h:oz gs listed=l1++(i,g)::l2):oz gs (listed.setIfInBounds i true)=l1++l2:=by
 have hsort:=Je gs listed;rw[h]at hsort
 have h1:oz gs (listed.setIfInBounds i true)=(oz gs listed).filter fun p=>decide (p.1≠i):=by
  unfold oz;rw[List.filter_filter];congr 1
  funext p
  by_cases hp:p.1=i
  ·rw[hp];simp[QN,Array.getElem?_setIfInBounds_self_of_lt hi]
  ·have:(listed.setIfInBounds i true).getD p.1 true=listed.getD p.1 true:=by
    simp only[QN];rw[Array.getElem?_setIfInBounds_ne (fun e=>hp e.symm)]
   rw[this];simp[hp]
 rw[h1,h,List.filter_append,List.filter_cons];simp only[ne_eq,not_true_eq_false,decide_false,Qq,Qu];rw[Qq68]at hsort;obtain⟨_,s2,s3⟩:=hsort;rw[Q3]at s2;rw[List.filter_eq_self.2,List.filter_eq_self.2]
 ·intro q hq;have:=s2.1 q hq;simp only at this;simp;omega
 ·intro q hq;have:=s3 q hq (i,g) (by simp)
  simp only at this;simp;omega
def ahi(ops:List Oper)(l:List (Nat×SG))(fs:List vC):Prop:=
 ∀(a b:Nat) (p q:Nat×SG) (f h:vC),a<b->l[a]?=some p->l[b]?=some q->fs[a]?=some f->fs[b]?=some h->(Cb (ops.map wj) ops.length ((ops.map wj).getD q.1 0)).testBit p.1=false->XU f h
theorem aa5{Γs:Nat->mR}(hΓ:∀i,lR P (Γs i)){ops:Array Oper}{gs:List SG}(hc:ops.toList.mapM (uh P hs ops)=some gs)(hd:∀o∈ops.toList,∀t,o.dst=some t->E.can t){base:Nat}{S':St}{Q:Exit->Act->World->Prop}
  (hQ:∀a' w' L',Rel E S' a' w' L'->Q .normal a' w'):∀(fuel:Nat) (listed:Array Bool) (S:St) (a:Act) (w:World) (L:Nat->Value) (fs:List vC),listed.size=ops.size->
  (∀i o,ops[i]?=some o->listed.getD i true=true->∀e∈o.after,Region.binds .any e=true->listed.getD e.on true=true)->
  (∀i o,ops[i]?=some o->∀e∈o.after,Region.binds .any e=true->e.on<i)->
  Rel E S a w L->base+ops.size<=S.N->nI Γs base (oz gs listed) S=some (S',fs)->ahi ops.toList (oz gs listed) fs->(oz gs listed).length<=fuel->wpAnyIn (WF E.rd) 0 P .any ops Q fuel listed a w:=by
 have hgl:gs.length=ops.size:=by have:=pK hc;simpa using this
 intro fuel
 induction fuel with
 |zero=>
  intro listed S a w L fs hsz hcl hback h hN hrun hap hfu;have hp:oz gs listed=[]:=Qq66 (by omega)
  rw[hp]at hrun;simp only[nI,Qf,Prod.mk.injEq]at hrun
  have hrd:Region.ready .any ops listed=[]:=by
   rw[List.eq_nil_iff_forall_not_mem];intro i hi;simp only[Region.ready,List.mem_filter,List.mem_range,Qm,Bool.not_eq_true']at hi;obtain⟨h1,h2,_⟩:=hi;have:(i,gs[i]'(by omega))∈oz gs listed:=BP.2 ⟨Qv (by omega),h2⟩
   rw[hp]at this;cases this
  refine⟨hrd,?_⟩;rw[hrun.1]at h;exact hQ a w L h
 |succ fuel ih=>
  intro listed S a w L fs hsz hcl hback h hN hrun hap hfu;refine⟨fun hrd=> ?_,fun i hi=> ?_⟩
  ·
   have hp:oz gs listed=[]:=by
    rcases hpe:oz gs listed with _|⟨⟨i,g⟩,l⟩
    ·rfl
    ·exfalso;have hmem:(i,g)∈oz gs listed:=by rw[hpe];simp
     obtain⟨h1,h2⟩:=BP.1 hmem;have hil:i<ops.size:=by have:=(Qw.1 h1).1;omega
     have hmin:∀j,j<i->listed.getD j true=true:=by
      intro j hj
      cases hlj:listed.getD j true with
      |true=>rfl
      |false=>
       have hm:(j,gs[j]'(by omega))∈oz gs listed:=BP.2 ⟨Qv (by omega),hlj⟩
       have hs:=Je gs listed;rw[hpe,Q3]at hs;rw[hpe]at hm;rcases QA.1 hm with hm|hm
       ·injection hm with hm;omega
       ·have:=hs.1 _ hm;simp only at this;omega
     have:i∈Region.ready .any ops listed:=by
      simp only[Region.ready,List.mem_filter,List.mem_range,Qm,Bool.not_eq_true'];refine⟨hil,h2,?_⟩;rw[Array.getElem?_eq_getElem hil];simp only[Qe,Q2,Array.all_eq_true_iff_forall_mem,Qn,Bool.not_eq_true'];intro e he
      cases hb:Region.binds .any e with
      |false=>exact .inl rfl
      |true=>
       right;have hlt:=hback i _ (Array.getElem?_eq_getElem hil) e he hb;have:=hmin e.on hlt;rw[QN]at this ⊢;rw[Array.getElem?_eq_getElem (by omega)]at this ⊢
       simpa using this
     rw[hrd]at this;cases this
   rw[hp]at hrun;simp only[nI,Qf,Prod.mk.injEq]at hrun;rw[hrun.1]at h;exact hQ a w L h
  ·simp only[Region.ready,List.mem_filter,List.mem_range,Qm,Bool.not_eq_true']at hi;obtain⟨hil,hli,hpre⟩:=hi;have ho:ops[i]?=some ops[i]:=Array.getElem?_eq_getElem hil;rw[ho]at hpre;simp only[Qe,Q2,Array.all_eq_true_iff_forall_mem,Qn,Bool.not_eq_true']at hpre;have hgi:gs[i]?=some (gs[i]'(by omega)):=Qv (by omega)
   have hmem:(i,gs[i]'(by omega))∈oz gs listed:=BP.2 ⟨hgi,hli⟩
   obtain⟨l1,l2,hsplit⟩:=List.append_of_mem hmem;rw[hsplit]at hrun hap
   have hpreT:∀e∈ops[i].after,Region.binds .any e=true->listed.getD e.on true=true:=fun e he hb=>by
    rcases hpre e he with h1|h1
    ·rw[hb]at h1;cases h1
    ·have hlt:=hback i _ ho e he hb;rw[QN]at h1 ⊢;rw[Array.getElem?_eq_getElem (by omega)]at h1 ⊢
     simpa using h1
   have hanc:∀j,(Cb (ops.toList.map wj) ops.toList.length ((ops.toList.map wj).getD i 0)).testBit j=true->listed.getD j true=true:=by
    refine O7 (R:=fun j=>listed.getD j true=true) (fun k d hk hR=> ?_) _ _ ?_
    ·rw[QT,Qb]at hk;obtain⟨o,ho',rfl⟩:=hk;exact Tu (fun e he hb=>hcl k o (by simpa using ho') hR e he hb)
    ·have:(ops.toList.map wj).getD i 0=wj ops[i]:=by simp[List.getD_eq_getElem?_getD,hil]
     rw[this];exact Tu (fun e he hb=>hpreT e he hb)
   have hfl:=(Ni _ _ _ _ hrun).1
   obtain⟨p,hp,_,hrest⟩:=Gq l1 i _ l2 S S' fs hrun (fun k fk fi hk hfk hfi=>by
    have hk1:(l1++(i,gs[i]'(by omega))::l2)[k]?=some l1[k]:=by rw[List.getElem?_append_left hk];exact Qv hk
    refine hap k l1.length l1[k] (i,gs[i]'(by omega)) fk fi hk hk1 (by simp) hfk hfi ?_
    cases hb:(Cb (ops.toList.map wj) ops.toList.length ((ops.toList.map wj).getD i 0)).testBit l1[k].1 with
    |false=>rfl
    |true=>
     have h1:=hanc _ hb;have h2:l1[k]∈oz gs listed:=by rw[hsplit];simp[QZ]
     have h3:=(BP (i:=l1[k].1) (g:=l1[k].2)).1 h2;rw[h3.2]at h1
     cases h1)
   have hcog:uh P hs ops ops[i]=some (gs[i]'(by omega)):=by
    have:∀(l:List Oper) (r:List SG),l.mapM (uh P hs ops)=some r->∀(k:Nat) (o:Oper) (g:SG),l[k]?=some o->r[k]?=some g->uh P hs ops o=some g:=by
     intro l
     induction l with
     |nil=>intro r _ k o g hk;simp at hk
     |cons x l ihl=>
      intro r hr k o g hk hg;simp only[Qq74,Qd,Qc,Option.pure_def,Qf]at hr;obtain⟨y,hy,ys,hys,rfl⟩:=hr
      cases k with
      |zero=>simp at hk hg;subst hk hg;exact hy
      |succ k=>exact ihl ys hys k o g (by simpa using hk) (by simpa using hg)
    exact this _ _ hc i _ _ (by simp) hgi
   have hstp:z8 (Γs i) (base+i) S (gs[i]'(by omega))=some (S.cY (gs[i]'(by omega)).d p.1 p.2):=by rw[UW,hp];rfl
   have hstep:=w7 (K:=wpAnyIn (WF E.rd) 0 P .any ops Q fuel (listed.setIfInBounds i true)) (Q:=Q) (hΓ i) hcog h (nid:=base+i) (by omega) (hd _ (by simp)) hstp (fun a' w' L' h'=>by
    refine ih _ _ a' w' L' (fs.eraseIdx l1.length) (by simpa using hsz) (fun k o hk hlk e he hb=> ?_) hback h' hN (by rw[JO (by omega) hsplit];exact hrest) ?_ ?_
    ·by_cases hki:k=i
     ·subst hki;rw[ho]at hk;injection hk with hk
      subst hk;have hlt:=hback k _ ho e he hb;have:=hpreT e he hb;simp only[QN]at this ⊢;rw[Array.getElem?_setIfInBounds_ne (by omega)]
      exact this
     ·have hlk':listed.getD k true=true:=by
       simp only[QN]at hlk ⊢;rw[Array.getElem?_setIfInBounds_ne (fun e=>hki e.symm)]at hlk
       exact hlk
      have:=hcl k o hk hlk' e he hb
      by_cases hei:e.on=i
      ·rw[hei,QN,Array.getElem?_setIfInBounds_self_of_lt (by omega)]
       rfl
      ·simp only[QN]at this ⊢;rw[Array.getElem?_setIfInBounds_ne (fun e=>hei e.symm)]
       exact this
    ·rw[JO (by omega) hsplit]
     intro x y p' q' f h0 hxy hp' hq' hf hh hanc'
     have hget:∀(z:Nat),(l1++l2)[z]?=(l1++(i,gs[i]'(by omega))::l2)[if z<l1.length then z else z+1]?:=by
      intro z;split
      ·rename_i hz;rw[List.getElem?_append_left hz,List.getElem?_append_left hz]
      ·rename_i hz;rw[List.getElem?_append_right (by omega),List.getElem?_append_right (by omega)]
       have:z+1 - l1.length=(z - l1.length)+1:=by omega
       rw[this,List.getElem?_cons_succ]
     have hgetf:∀(z:Nat),(fs.eraseIdx l1.length)[z]?=fs[if z<l1.length then z else z+1]?:=by
      intro z;rw[List.getElem?_eraseIdx];split<;>rfl
     rw[hget]at hp' hq';rw[hgetf]at hf hh;refine hap _ _ p' q' f h0 ?_ hp' hq' hf hh hanc';split<;>split<;>omega
    ·rw[JO (by omega) hsplit]
     rw[hsplit]at hfu;simp at hfu ⊢
     omega)
   unfold wpOpIn;rw[ho];simp only;split
   ·rename_i hw;rw[Qr hw]at hstep;exact hstep
   ·rename_i hw;rw[Qs hw]at hstep;exact hstep
theorem Us{ops:List Oper}{i j:Nat}(hj:j<ops.length)(hij:i<j)(h:(Cb (ops.map wj) ops.length ((ops.map wj).getD j 0)).testBit i=false):(i,j)∈Na ops:=by
 unfold Na;simp only[QQ,List.mem_range,List.mem_filterMap];exact⟨j,hj,i,hij,by rw[h];rfl⟩
theorem aaX{g h:SG}{f e:vC}(hf:f.d=g.d/\f.us=g.bR)(he:e.d=h.d/\e.us=h.bR)(ha:NX g h=true)(hi:BX f e=true):XU f e:=by
 unfold NX at ha;unfold BX at hi;rw[Qm]at ha hi;obtain⟨a1,a2⟩:=ha;obtain⟨i1,i2⟩:=hi;refine⟨fun t ht=> ?_,fun t ht=> ?_,fun t ht hq=> ?_,fun i hw=> ?_,fun i hw=> ?_,fun i hw hq=> ?_⟩
 ·rw[hf.1]at ht;rw[ht]at a1;simp only[Qm,Bool.not_eq_true',List.contains_eq_mem,Qj]at a1;rw[he.2];exact a1.1
 ·rw[he.1]at ht;rw[ht]at a2;simp only[Bool.not_eq_true',List.contains_eq_mem,Qj]at a2;rw[hf.2];exact a2
 ·rw[hf.1]at ht;rw[he.1]at hq;rw[ht,hq]at a1;simp at a1
 ·rw[hw]at i1;simp only[Qm,Bool.not_eq_true',List.contains_eq_mem,Qj]at i1;exact i1.1
 ·rw[hw]at i2;simp only[Bool.not_eq_true',List.contains_eq_mem,Qj]at i2;exact i2
 ·rw[hw,hq]at i1;simp at i1
theorem aaB(gs:List SG)(n:Nat)(hn:gs.length=n):oz gs (Array.replicate n false)=gs.zipIdx.map fun p=>(p.2,p.1):=by
 unfold oz;rw[List.filter_eq_self];rintro⟨i,g⟩ hp;simp only[QP,Prod.mk.injEq,Prod.exists]at hp;obtain⟨x,j,h1,rfl,rfl⟩:=hp;rw[List.mem_zipIdx_iff_getElem?]at h1;have:=(Qw.1 h1).1;simp only[QN,Array.getElem?_replicate];rw[Qr (by omega)]
 rfl
theorem ag7{Γs:Nat->mR}(hΓ:∀i,lR P (Γs i))(hm:P.follows .mixedOrders=true){nt id:Nat}{ops:Array Oper}{gs:List SG}{un:List (Nat×Nat)}{Q:Exit->St->Prop}{S S':St}(hc:ops.toList.mapM (uh P hs ops)=some gs)(hd:∀o∈ops.toList,∀t,o.dst=some t->t<nt)
  (hu:Xv ops.toList gs=some un) (hr:Nj Γs S.N un gs {S with N:=S.N+gs.length}=some S') (h:Q .normal S'):V P nt (.region id ops true) Q S:=fun E hE hk a w L hrel=>by
 have hl:gs.length=ops.size:=by have:=pK hc;simpa using this
 refine wpIn_region_any hm ?_;unfold Xv at hu;simp only at hu;split at hu
 ·rename_i hchk;injection hu with hu
  rw[Qm]at hchk;obtain⟨hap,hback⟩:=hchk;unfold Nj at hr;split at hr
  ·cases hr
  ·rename_i S1 fs hrun;split at hr
   ·rename_i hall;injection hr with hr
    subst hr;have hfp:=Ni _ _ _ _ hrun;have hpd:=aaB gs ops.size hl;refine aa5 (E:=E) (base:=S.N) hΓ hc (ZI hE hk hd) (fun a' w' L' h'=>⟨S1,L',h',h⟩) ops.size (Array.replicate ops.size false) {S with N:=S.N+gs.length} a _ L fs (by simp) ?_ ?_ ((hrel.room gs.length).drew _) (by simp[hl]) (by rw[hpd];exact hrun) ?_ (by rw[hpd];simp[hl])
    ·intro i o ho hli;exfalso;have:=(Q8.1 ho).1;simp only[QN,Array.getElem?_replicate]at hli;rw[Qr this]at hli;cases hli
    ·intro i o ho e he hb;have h1:=QH.1 hback (o,i) (by rw[List.mem_zipIdx_iff_getElem?];simpa using ho)
     have h2:=QH.1 h1 e (by simpa using he)
     rw[hb]at h2;simpa using h2
    ·rw[hpd];intro x y p q f e hxy hp hq hf he hanc
     have hget:∀(z:Nat) (r:Nat×SG),(gs.zipIdx.map fun p=>(p.2,p.1))[z]?=some r->r.1=z/\gs[z]?=some r.2:=by
      intro z r hz;simp only[QT,Qb,Prod.exists,List.getElem?_zipIdx,Prod.mk.injEq]at hz;obtain⟨u,v,⟨u',hu',rfl,rfl⟩,rfl⟩:=hz;exact⟨by simp,hu'⟩
     obtain⟨p1,p2⟩:=hget x p hp;obtain⟨q1,q2⟩:=hget y q hq;have fx:=hfp.2 x p.1 p.2 f hp hf;have fy:=hfp.2 y q.1 q.2 e hq he;have hy:y<ops.toList.length:=by have:=(Qw.1 q2).1;simp;omega
     rw[p1,q1]at hanc;have hmem:=Us hy hxy hanc;have ha:=QH.1 hap _ hmem;simp only[p2,q2]at ha;refine aaX ⟨fx.1,fx.2.1⟩ ⟨fy.1,fy.2.1⟩ ha ?_
     cases htx:p.2.op.qB with
     |false=>
      obtain⟨r1,r2⟩:=fx.2.2 htx;unfold BX;rw[r1,r2];cases e.wr<;>simp
     |true=>
      cases hty:q.2.op.qB with
      |false=>
       obtain⟨r1,r2⟩:=fy.2.2 hty;unfold BX;rw[r1,r2];cases f.wr<;>simp
      |true=>
       have hin:(x,y)∈un:=by
        rw[<-hu,List.mem_filter];exact⟨hmem,by simp[p2,q2,htx,hty]⟩
       have:=QH.1 hall _ hin;simpa[hf,he]using this
   ·cases hr
 ·cases hu
end
end
section
open Go.RowKit
def aM(P:Program)(nt:Nat)(hs:List Nat):Code->Option SC
 | .skip=>some .skip
 | .region _ ops false=>
  match ops.toList.mapM (uh P hs ops)with
  |some gs=>if ops.toList.all (fun o=>match o.dst with|some t=>decide (t<nt)|none=>true)then some (.xu gs)else none
  |none=>none
 | .region _ ops true=>
  match ops.toList.mapM (uh P hs ops)with
  |some gs=>
   if ops.toList.all (fun o=>match o.dst with|some t=>decide (t<nt)|none=>true)&&P.follows .mixedOrders then
    match Xv ops.toList gs with
    |some un=>some (.qP un gs)
    |none=>none
   else none
  |none=>none
 | .seq x y=>
  match aM P nt hs x,aM P nt hs y with
  |some x',some y'=>some (.seq x' y')
  |_,_=>none
 | .cond c x y=>
  match bd c,aM P nt hs x,aM P nt hs y with
  |some c',some x',some y'=>some (.cond c' x' y')
  |_,_,_=>none
 | .block id c=>(aM P nt hs c).map (.block id)
 | .loop c=>(aM P nt hs c).map .loop
 | .exit id=>some (.exit id)
 | .ret=>some .ret
 | .rangeFunc g ps x y=>
  match bd g,aM P nt hs x,aM P nt hs y with
  |some g',some x',some y'=>if AG x&&AG y&&ps.toList.all (fun t=>decide (t<nt))then some (.Gs g' ps.toList x' y')else none
  |_,_,_=>none
 |_=>none
section
variable {P : Program} {S : St} {Γ : mR} {nt : Nat} {Q : Exit -> St -> Prop}
def VS(P:Program)(nt:Nat)(sc:SC)(Q:Exit->St->Prop)(S:St):Prop:=∀c hs,aM P nt hs c=some sc->V P nt c Q S
theorem VS.mono{sc:SC}{Q':Exit->St->Prop}(h:VS P nt sc Q S)(hq:∀e S,Q e S->Q' e S):VS P nt sc Q' S:=fun c hs hc=>(h c hs hc).mono hq
theorem Tt{ops:Array Oper}(h:ops.toList.all (fun o=>match o.dst with|some t=>decide (t<nt)|none=>true)=true):∀o∈ops.toList,∀t,o.dst=some t->t<nt:=by
 intro o ho t ht;have:=QH.1 h o ho;rw[ht]at this;simpa using this
theorem aeo(h:Q .normal S):VS P nt .skip Q S:=by
 intro c hs hc
 cases c with
 |skip=>exact afQ h
 |region id ops d=>cases d<;>simp only[aM]at hc<;>(try split at hc)<;>(try split at hc)<;>(try split at hc)<;>cases hc
 |seq x y=>simp only[aM]at hc;split at hc<;>cases hc
 |cond c x y=>simp only[aM]at hc;split at hc<;>cases hc
 |block id c=>simp only[aM,Qb]at hc;obtain⟨_,_,hc⟩:=hc;cases hc
 |loop c=>simp only[aM,Qb]at hc;obtain⟨_,_,hc⟩:=hc;cases hc
 |rangeFunc g ps x y=>simp only[aM]at hc;(try split at hc)<;>(try split at hc)<;>cases hc
 |_=>simp only[aM]at hc<;>cases hc
theorem aer{id:Nat}(h:Q (.exit id) S):VS P nt (.exit id) Q S:=by
 intro c hs hc
 cases c with
 |exit j=>simp only[aM,Qf,SC.exit.injEq]at hc;subst hc;exact afR h
 |region id ops d=>cases d<;>simp only[aM]at hc<;>(try split at hc)<;>(try split at hc)<;>(try split at hc)<;>cases hc
 |seq x y=>simp only[aM]at hc;split at hc<;>cases hc
 |cond c x y=>simp only[aM]at hc;split at hc<;>cases hc
 |block id c=>simp only[aM,Qb]at hc;obtain⟨_,_,hc⟩:=hc;cases hc
 |loop c=>simp only[aM,Qb]at hc;obtain⟨_,_,hc⟩:=hc;cases hc
 |rangeFunc g ps x y=>simp only[aM]at hc;(try split at hc)<;>(try split at hc)<;>cases hc
 |_=>simp only[aM]at hc<;>cases hc
theorem afT(h:Q .ret S):VS P nt .ret Q S:=by
 intro c hs hc
 cases c with
 |ret=>exact ag5 h
 |region id ops d=>cases d<;>simp only[aM]at hc<;>(try split at hc)<;>(try split at hc)<;>(try split at hc)<;>cases hc
 |seq x y=>simp only[aM]at hc;split at hc<;>cases hc
 |cond c x y=>simp only[aM]at hc;split at hc<;>cases hc
 |block id c=>simp only[aM,Qb]at hc;obtain⟨_,_,hc⟩:=hc;cases hc
 |loop c=>simp only[aM,Qb]at hc;obtain⟨_,_,hc⟩:=hc;cases hc
 |rangeFunc g ps x y=>simp only[aM]at hc;(try split at hc)<;>(try split at hc)<;>cases hc
 |_=>simp only[aM]at hc<;>cases hc
theorem ZV{x y:SC}(h:VS P nt x (Nd (VS P nt y Q) Q) S):VS P nt (.seq x y) Q S:=by
 intro c hs hc
 cases c with
 |seq p q=>
  simp only[aM]at hc;split at hc
  ·rename_i x' y' hx hy;injection hc with hc
   injection hc with h1 h2
   subst h1 h2;refine ag4 ((h p hs hx).mono ?_);intro e S' hq;cases e<;>first|exact hq q hs hy|exact hq
  ·cases hc
 |region id ops d=>cases d<;>simp only[aM]at hc<;>(try split at hc)<;>(try split at hc)<;>(try split at hc)<;>cases hc
 |cond c x y=>simp only[aM]at hc;split at hc<;>cases hc
 |block id c=>simp only[aM,Qb]at hc;obtain⟨_,_,hc⟩:=hc;cases hc
 |loop c=>simp only[aM,Qb]at hc;obtain⟨_,_,hc⟩:=hc;cases hc
 |rangeFunc g ps x y=>simp only[aM]at hc;(try split at hc)<;>(try split at hc)<;>cases hc
 |_=>simp only[aM]at hc<;>cases hc
theorem aes{c:bn}{x y:SC}{b:Bool}(hb:c.val S= .bool b)(h:VS P nt (if b then x else y) Q S):VS P nt (.cond c x y) Q S:=by
 intro cc hs hc
 cases cc with
 |cond c0 p q=>
  simp only[aM]at hc;split at hc
  ·rename_i c' x' y' hc' hx hy;injection hc with hc
   injection hc with h1 h2 h3
   subst h1 h2 h3;refine afS hc' hb ?_;cases b
   ·exact h q hs hy
   ·exact h p hs hx
  ·cases hc
 |region id ops d=>cases d<;>simp only[aM]at hc<;>(try split at hc)<;>(try split at hc)<;>(try split at hc)<;>cases hc
 |seq x y=>simp only[aM]at hc;split at hc<;>cases hc
 |block id c=>simp only[aM,Qb]at hc;obtain⟨_,_,hc⟩:=hc;cases hc
 |loop c=>simp only[aM,Qb]at hc;obtain⟨_,_,hc⟩:=hc;cases hc
 |rangeFunc g ps x y=>simp only[aM]at hc;(try split at hc)<;>(try split at hc)<;>cases hc
 |_=>simp only[aM]at hc<;>cases hc
theorem abu{c:bn}{x y:SC}(hb:c.val S= .fW)(h1:VS P nt x Q S)(h2:VS P nt y Q S):VS P nt (.cond c x y) Q S:=by
 intro cc hs hc
 cases cc with
 |cond c0 p q=>
  simp only[aM]at hc;split at hc
  ·rename_i c' x' y' hc' hx hy;injection hc with hc
   injection hc with e1 e2 e3
   subst e1 e2 e3;intro E hE hk a w L hr;have hv:=hr.fj hc';rw[hb]at hv;generalize hu:a.eval c0=u at hv
   cases hv with
   |fW b=>
    refine wpIn_cond hu ?_;cases b
    ·exact h2 q hs hy E hE hk.ach a w L hr
    ·exact h1 p hs hx E hE hk.aci a w L hr
  ·cases hc
 |region id ops d=>cases d<;>simp only[aM]at hc<;>(try split at hc)<;>(try split at hc)<;>(try split at hc)<;>cases hc
 |seq x y=>simp only[aM]at hc;split at hc<;>cases hc
 |block id c=>simp only[aM,Qb]at hc;obtain⟨_,_,hc⟩:=hc;cases hc
 |loop c=>simp only[aM,Qb]at hc;obtain⟨_,_,hc⟩:=hc;cases hc
 |rangeFunc g ps x y=>simp only[aM]at hc;(try split at hc)<;>(try split at hc)<;>cases hc
 |_=>simp only[aM]at hc<;>cases hc
theorem abv{id:Nat}{x:SC}(h:VS P nt x (Ef id Q) S):VS P nt (.block id x) Q S:=by
 intro c hs hc
 cases c with
 |block j p=>
  simp only[aM,Qb]at hc;obtain⟨x',hx,hc⟩:=hc;injection hc with h1 h2
  subst h1 h2;exact aen (h p hs hx)
 |region id ops d=>cases d<;>simp only[aM]at hc<;>(try split at hc)<;>(try split at hc)<;>(try split at hc)<;>cases hc
 |seq x y=>simp only[aM]at hc;split at hc<;>cases hc
 |cond c x y=>simp only[aM]at hc;split at hc<;>cases hc
 |loop c=>simp only[aM,Qb]at hc;obtain⟨_,_,hc⟩:=hc;cases hc
 |rangeFunc g ps x y=>simp only[aM]at hc;(try split at hc)<;>(try split at hc)<;>cases hc
 |_=>simp only[aM]at hc<;>cases hc
theorem afV{Γs:Nat->mR}(hΓ:∀i,lR P (Γs i)){un:List (Nat×Nat)}{gs:List SG}{S':St}(hr:Nj Γs S.N un gs {S with N:=S.N+gs.length}=some S')(h:Q .normal S'):VS P nt (.qP un gs) Q S:=by
 intro c hs hc
 cases c with
 |region id ops d=>
  cases d with
  |false=>simp only[aM]at hc;(try split at hc)<;>(try split at hc)<;>(try split at hc)<;>cases hc
  |true=>
   simp only[aM]at hc;split at hc
   ·rename_i gs' hgs;split at hc
    ·rename_i hd;split at hc
     ·rename_i un' hun;injection hc with hc
      injection hc with h1 h2
      subst h1 h2;rw[Qm]at hd;exact ag7 hΓ hd.2 hgs (Tt hd.1) hun hr h
     ·cases hc
    ·cases hc
   ·cases hc
 |seq x y=>simp only[aM]at hc;split at hc<;>cases hc
 |cond c x y=>simp only[aM]at hc;split at hc<;>cases hc
 |block id c=>simp only[aM,Qb]at hc;obtain⟨_,_,hc⟩:=hc;cases hc
 |loop c=>simp only[aM,Qb]at hc;obtain⟨_,_,hc⟩:=hc;cases hc
 |rangeFunc g ps x y=>simp only[aM]at hc;(try split at hc)<;>(try split at hc)<;>cases hc
 |_=>simp only[aM]at hc<;>cases hc
def ev(P:Program)(nt:Nat)(Γ:mR):SC->(Exit->St->Prop)->St->Prop
 | .skip,Q,S=>Q .normal S
 | .xu gs,Q,S=>match AB Γ S.N gs {S with N:=S.N+gs.length}with|some S'=>Q .normal S'|none=>False
 | .qP un gs,Q,S=>match Nj (fun _=>Γ) S.N un gs {S with N:=S.N+gs.length}with|some S'=>Q .normal S'|none=>False
 | .seq x y,Q,S=>ev P nt Γ x (Nd (ev P nt Γ y Q) Q) S
 | .cond c x y,Q,S=>match c.val S with| .bool b=>(b=true->ev P nt Γ x Q S)/\(b=false->ev P nt Γ y Q S)| .fW=>ev P nt Γ x Q S/\ev P nt Γ y Q S|_=>False
 | .block id c,Q,S=>ev P nt Γ c (Ef id Q) S
 | .loop c,Q,S=>VS P nt (.loop c) Q S
 | .Gs g ps x y,Q,S=>VS P nt (.Gs g ps x y) Q S
 | .exit id,Q,S=>Q (.exit id) S
 | .ret,Q,S=>Q .ret S
inductive RV where
 |tmp (t:Nat)
 |cell (t:Nat) (n:Option Nat)
def nc(P:Program):List ResultVar->Option (List RV)
 |[]=>some []
 | .tmp t::rs=>(nc P rs).map (.tmp t::·)
 | .cell t ty::rs=>match s4 P ty,nc P rs with
  |some n,some rs'=>some (.cell t n::rs')
  |_,_=>none
def BB(S:St):RV->Option PV
 | .tmp t=>some (S.env t)
 | .cell t n=>match S.env t with
  | .ptr id ak off=>if(S.H id).ak=ak then(match(S.H id).c with| .box cs=>xb n (cs.drop off)|_=>none)else none
  |_=>none
def wJ(S:St):List RV->Option (List PV)
 |[]=>some []
 |r::rs=>match BB S r,wJ S rs with
  |some x,some xs=>some (x::xs)
  |_,_=>none
def wc(S:St)(rs:List RV):Option PV:=
 match wJ S rs with
 |some [x]=>some x
 |some xs=>some (.dg xs)
 |none=>none
def ff(pos:Nat)(recv:Bool)(cs args:List PV):St:=
 {env:=fun t=>((iX pos (if recv then[.ptr 0 0 0]else[]) args)[t]?).getD .undef,H:=fun id=>if recv=true/\id=0 then⟨0,.box cs⟩else⟨0,.dead⟩,N:=if recv then 1 else 0}
abbrev St0:=ff 0
theorem S6{α:Type}(p:Nat)(x l:List α):(iX p x l).length=x.length+l.length:=by
 simp only[iX,QB,List.length_take,List.length_drop];omega
def A6(rs:List RV)(recv:Bool)(R:PV->List PV->Prop)(S:St):Prop:=
 match wc S rs with
 |some x=>match recv with
  |true=>match S.H 0 with
   |⟨0,.box cs'⟩=>cs'.all PV.closed=true/\R (fz S.H (some 0) 9 x) cs'
   |_=>False
  |false=>R (fz S.H none 9 x) []
 |none=>False
def aai(rs:List RV)(recv:Bool)(R:PV->List PV->Prop):Exit->St->Prop
 | .ret,S=>A6 rs recv R S
 | .normal,S=>A6 rs recv R S
 |_,_=>False
theorem Uk{E:En}{a:Act}{w:World}{L:Nat->Value}(h:Rel E S a w L){rv:ResultVar}{r:RV}{x:PV}(hc:nc P [rv]=some [r])(hx:BB S r=some x):
  ∃v,(match rv with| .tmp t=>pure (a.tmps.getD t undef)| .cell ad t=>do loadVar t (<-asAddr (a.tmps.getD ad undef)):Sem Value).run P w= .ok v w/\bm w (br E S L) (S.gh L) x v:=by
 cases rv with
 |tmp t=>
  simp only[nc,Qe,Qf,List.cons.injEq,and_true]at hc;subst hc;simp only[BB,Qf]at hx;subst hx;exact⟨_,rfl,h.env t⟩
 |cell t ty=>
  simp only[nc]at hc;split at hc
  ·rename_i n rs' hn hrs;injection hc with hc
   injection hc with h1 h2
   subst h1 h2;simp only[BB]at hx;split at hx
   ·rename_i id ak off e;split at hx
    ·rename_i hver;split at hx
     ·rename_i cs hcc;have r:=h.env t;rw[e]at r;obtain⟨hN,_⟩:=r.oI (show(S.gh L).V id=ak from hver)
      obtain⟨b,hv,hL⟩:=h.pH r hver hcc;obtain⟨b',cur,T,hL',hh,hr,_⟩:=h.o6 hN hcc;rw[hL]at hL';simp only[Value.pointer.injEq,Qf,Addr.mk.injEq]at hL';obtain⟨rfl,_⟩:=hL';obtain⟨v,hrun,hx'⟩:=Ie (P:=P) (ad:=⟨b,off,none⟩) hn (hr.drop off) (fun i u hu=>by rw[add_mid];exact o0 hh (gk hu)) hx
      exact⟨v,by simp[hv,asAddr,hrun],hx'⟩
     ·cases hx
    ·cases hx
   ·cases hx
  ·cases hc
theorem Gt{E:En}{a:Act}{w:World}{L:Nat->Value}(h:Rel E S a w L):∀(rvs:List ResultVar) (rs:List RV) (xs:List PV),nc P rvs=some rs->wJ S rs=some xs->
  ∃vs,(rvs.mapM fun| .tmp t=>pure (a.tmps.getD t undef)| .cell ad t=>do loadVar t (<-asAddr (a.tmps.getD ad undef)):Sem (List Value)).run P w= .ok vs w/\bg w (br E S L) (S.gh L) xs vs
 |[],rs,xs,hc,hx=>by
  simp only[nc,Qf]at hc;subst hc;simp only[wJ,Qf]at hx;subst hx;exact⟨[],by simp,.nil⟩
 |rv::rvs,rs,xs,hc,hx=>by
  have hsp:∃r rs',rs=r::rs'/\nc P [rv]=some [r]/\nc P rvs=some rs':=by
   cases rv with
   |tmp t=>
    simp only[nc,Qb]at hc;obtain⟨rs',h1,rfl⟩:=hc;exact⟨_,rs',rfl,rfl,h1⟩
   |cell t ty=>
    simp only[nc]at hc;split at hc
    ·rename_i n rs' hn hrs;injection hc with hc
     subst hc;exact⟨_,rs',rfl,by simp[nc,hn],hrs⟩
    ·cases hc
  obtain⟨r,rs',rfl,h1,h2⟩:=hsp;simp only[wJ]at hx;split at hx
  ·rename_i x xs' hx1 hx2;injection hx with hx
   subst hx;obtain⟨v,hv,hr⟩:=Uk h h1 hx1;obtain⟨vs,hvs,hrs⟩:=Gt h rvs rs' xs' h2 hx2;refine⟨v::vs,?_,.cons hr hrs⟩;simp only[Qq74,Sem.run_bind]
   erw [hv]
   simp only[Result.andThen_ok]
   erw [hvs]
   rfl
  ·cases hx
theorem Jc{E:En}{a:Act}{w:World}{L:Nat->Value}(h:Rel E S a w L){fn:Func}{rs:List RV}{x:PV}(hc:nc P fn.results.toList=some rs)(hx:wc S rs=some x):
  ∃v,(results fn a.tmps).run P w= .ok v w/\bm w (br E S L) (S.gh L) x v:=by
 unfold wc at hx
 cases hl:wJ S rs with
 |none=>rw[hl]at hx;cases hx
 |some xs=>
  rw[hl]at hx;obtain⟨vs,hvs,hr⟩:=Gt h _ _ _ hc hl
  have hrun:(results fn a.tmps).run P w= .ok (if h:vs.toArray.size=1 then vs.toArray[0]else .tuple vs.toArray) w:=by
   unfold results;rw[Array.mapM_eq_mapM_toList];simp only[Sem.run_bind,map_eq_pure_bind]
   erw [hvs]
   rfl
  refine⟨_,hrun,?_⟩
  match xs,vs,hr,hx with
  |[],vs,hr,hx=>
   injection hx with hx
   subst hx;have:=hr.qG;subst this;exact .dg _ _ hr.1 hr.2
  |[y],vs,hr,hx=>
   injection hx with hx
   subst hx;obtain⟨v,vs',rfl,h1,h2⟩:=hr.cons_inv;have:=h2.qG;subst this;exact h1
  |y::z::ys,vs,hr,hx=>
   injection hx with hx
   subst hx;obtain⟨v,vs',rfl,h1,h2⟩:=hr.cons_inv;obtain⟨u,us,rfl,h3,h4⟩:=h2.cons_inv;rw[dif_neg (by simp)]
   exact .dg _ _ hr.1 hr.2
theorem H4{w w':World}(h:w.heap=#[]):Cf w w':=⟨by rw[h];exact QS _,fun k o hk _=>by rw[h]at hk;simp at hk⟩
theorem Rel.shut{E:En}{S:St}{a:Act}{w:World}{L:Nat->Value}(h:Rel E S a w L)(hwk:E.wk.heap=#[]){d:Deferred}{ds:List Deferred}(hd:a.defers=d::ds):
  ∃D w',d.target= .collected D/\(Instr.takeDeferred D).run P w= .ok [] w'/\Rel E S {a with defers:=ds} w' L:=by
 have hnd:=h.defers.nodup;rw[hd,List.nodup_cons]at hnd;obtain⟨D,h1,h2,h3⟩:=h.defers.at_ d (by rw[hd];exact Qx)
 have hoth:∀k,k≠D->(w.putObj D (.deferred none)).heap[k]?=w.heap[k]?:=fun k hk=>World.putObj_heap_other hk
 have hcell:∀(p:Addr) (v:Value),w.cell? p=some v->p.block≠D:=by
  intro p v hp e;unfold World.cell? at hp;rw[e,h3]at hp;simp at hp
 have hs:dZ w (w.putObj D (.deferred none)) (br E S L) (br E S L):=⟨fun p v hp hm=>⟨(World.cell?_of_block (hoth _ (hcell p v hp))).trans hp,hm⟩,fun b es ck hb hm=>⟨(hoth b (fun e=>by rw[e,h3]at hb;cases hb)).trans hb,hm⟩⟩
 have hne:∀id b,id<S.N->(S.H id).c.live=true->cW (L id)=some b->b≠D:=by
  intro id b hid hl hb e;obtain⟨o,h4,h5⟩:=(h.obj id hid).cells hl hb;rw[e,h3]at h4;injection h4 with h4
  rw[<-h4]at h5;cases h5
 refine⟨D,w.putObj D (.deferred none),by rw[h1],run_takeDeferred h3,⟨fun e=>(by have:=h.defers.none e;rw[hd]at this;cases this),hnd.2,fun d' hd'=> ?_⟩,h.size,fun t=>(h.env t).mono hs (Gh.le.refl _),fun id hid=> ?_,h.apart,h.fresh,
  ⟨⟨h.fr.os,h.fr.tape,h.fr.output,by rw[World.putObj_size];exact h.fr.size,fun b hb hr=>by rw[hoth b (by omega)];exact h.fr.block b hb hr,h.fr.drawn⟩,H4 hwk⟩,h.BE⟩
 ·obtain⟨D',h4,h5,h6⟩:=h.defers.at_ d' (by rw[hd];exact Qy _ hd')
  have hDD:D'≠D:=by
   intro e;subst e;rw[<-h1]at h4;exact hnd.1 (h4▸hd')
  exact⟨D',h4,h5,by rw[hoth _ hDD];exact h6⟩
 ·cases hl:(S.H id).c.live with
  |false=>
   cases hc:(S.H id).c with
   |dead=>trivial
   |box cs=>rw[hc]at hl;cases hl
   |row e k es=>rw[hc]at hl;cases hl
  |true=>exact(h.obj id hid).mono hs (Gh.le.refl _) (fun b hb _=>hoth b (hne id b hid hl hb))
theorem Jl{E:En}{S:St}{L:Nat->Value}(hwk:E.wk.heap=#[]){fn:Func}{R:Ending->World->Prop}{tmps:Array Value}(hR:∀w',Rel E S {tmps:=tmps,defers:=[]} w' L->∃v,(results fn tmps).run P w'= .ok v w'/\R (.returned v) w'):
  ∀(ds:List Deferred) (w:World),Rel E S {tmps:=tmps,defers:=ds} w L->LeavesInM (WF none) 0 P fn tmps R ds .returning w
 |[],w,h=>hR w h
 |d::ds,w,h=>by
  obtain⟨D,w',h1,h2,h3⟩:=Rel.shut (P:=P) h hwk rfl;exact⟨(fun e=>by cases e),.inl ⟨D,w',h1,h2,Jl hwk hR ds w' h3⟩⟩
theorem O3{f:FuncId}{fn:Func}{c:Code}{E:En}{S0:St}{Q:Exit->St->Prop}{args:Array Value}{w:World}{L:Nat->Value}{R:Ending->World->Prop}(hf:P.funcs[f]?=some fn)(hb:fn.body=some c)(h:V P fn.ntmps c Q S0)
  (hE:E.nt=fn.ntmps) (hrd:E.rd=none/\E.nd=false) (hkt:∀t,E.kt t=none) (hwk:E.wk.heap=#[]) (hrel:Rel E S0 {tmps:=args++Array.replicate (fn.ntmps - args.size) undef,defers:=[]} w L)
  (fin:∀(e:Exit) (S':St) (L':Nat->Value) (a':Act) (w':World),Rel E S' a' w' L'->Q e S'->(e= .ret\/e= .normal)/\∃v,(results fn a'.tmps).run P w'= .ok v w'/\R (.returned v) w'):Calls P f args w R:=by
 have h0:=h E hE ⟨fun t _=>hkt t,.inl hrd⟩ _ w L hrel
 rw[hrd.1]at h0;refine xY.1 (callsIn_of_wp_marks (F:=WF none) (n:=0) hf hb trivial (wpIn_mono h0 ?_));rintro e a' w' ⟨S',L',h1,h2⟩
 have h3:LeavesInM (WF none) 0 P fn a'.tmps R a'.defers .returning w':=
  Jl hwk (fun w'' hw''=>(fin e S' L' _ w'' hw'' h2).2) a'.defers w' h1
 rcases(fin e S' L' a' w' h1 h2).1 with rfl|rfl<;>exact h3
theorem ZC{f:FuncId}{fn:Func}{c:Code}{sc:SC}{rs:List RV}{pos:Nat}{recv:Bool}{cs args cs':List PV}{r:PV}(hf:P.funcs[f]?=some fn)(hb:fn.body=some c){hs:List Nat}(hc:aM P fn.ntmps hs c=some sc)(hrs:nc P fn.results.toList=some rs)
  (hlen:(if recv then 1 else 0)+args.length<=fn.ntmps) (h:VS P fn.ntmps sc (aai rs recv fun r' cs''=>r'=r/\(recv=true->cs''=cs')) (ff pos recv cs args)):Iw P f pos recv cs args r cs':=by
 intro w X hX rb T rvs vs hrecv hargs
 have hrb0:∀b,(if recv then some rb else none)=some b->b<w.heap.size/\¬gb b:=by
  intro b hb
  cases recv with
  |false=>cases hb
  |true=>
   simp only[Qt,Qf]at hb;subst hb;exact⟨(Q8.1 (hrecv rfl).1).1,(hrecv rfl).2.2⟩
 let E:En:={w0:=w,rb:=if recv then some rb else none,nt:=fn.ntmps,X:=X,hX:=hX,W0:=recv,rv:= .pointer (some ⟨rb,0,none⟩),rk:=false,Mx:=hrb0,Zk:=fun h=>(by cases h),rd:=none,nd:=false,kt:=fun _=>none,wk:={w with heap:=#[]}}
 let L:Nat->Value:=fun _=> .pointer (some ⟨rb,0,none⟩)
 have hvl:vs.length=args.length:=hargs.1
 have hm:∀b,br E (ff pos recv cs args) L b->Mc recv rb X b:=by
  rintro b (⟨id,hid,hl,hb⟩|hb)
  ·simp only[ff]at hid hl
   cases recv with
   |false=>simp at hid
   |true=>
    simp only[L,cW,Qf]at hb;exact .inl ⟨rfl,hb.symm⟩
  ·exact .inr hb
 have hm':∀b,Mc recv rb X b->br E (ff pos recv cs args) L b:=by
  rintro b (⟨h1,h2⟩|hb)
  ·subst h2;exact .inl ⟨0,by simp[ff,h1],by simp[ff,h1,yE.live],rfl⟩
  ·exact .inr hb
 have hst:dZ w w (Mc recv rb X) (br E (ff pos recv cs args) L):=(dZ.of fun _ hn=>fun h'=>hn (hm _ h'))
 have hrel:Rel E (ff pos recv cs args) {tmps:=(iX pos (tc recv rb) vs).toArray++Array.replicate (fn.ntmps - (iX pos (tc recv rb) vs).toArray.size) undef,defers:=[]} w L:=by
  refine⟨Marks.nil rfl,⟨?_,fun t v hv=>by cases hv⟩,fun t=> ?_,fun id hid=> ?_,fun i j b hi hj _ _ _ _=> ?_,fun id hid=> ?_,⟨Fr.refl _ _,H4 rfl⟩,fun _ _ _=>rfl⟩
  ·cases recv<;>simp[tc,E,S6]at hlen ⊢<;>omega
  ·have hget:(((iX pos (tc recv rb) vs).toArray++Array.replicate (fn.ntmps - (iX pos (tc recv rb) vs).toArray.size) undef).getD t undef)=((iX pos (tc recv rb) vs)[t]?).getD undef:=by
    rw[QN,Array.getElem?_append]
    by_cases ht:t<(iX pos (tc recv rb) vs).toArray.size
    ·rw[Qr ht];simp
    ·rw[Qs ht,Array.getElem?_replicate];have hn:(iX pos (tc recv rb) vs)[t]?=none:=Qq71 (by simpa using ht)
     rw[hn];split<;>rfl
   simp only;rw[hget]
   have hall:bg w (br E (ff pos recv cs args) L) ((ff pos recv cs args).gh L) (iX pos (if recv then[.ptr 0 0 0]else[]) args) (iX pos (tc recv rb) vs):=by
    have ha:=hargs.mono hst (dX.le ((ff pos recv cs args).gh L));refine((ha.take pos).append ?_).append (ha.drop pos)
    cases recv with
    |false=>exact .nil
    |true=>
     simp only[tc,Qt];exact .cons (.ptr _ _ _ _ (by simp[St.gh,ff]) (QS _) (fun _=>by simp[St.gh,L,cW])) .nil
   show bm w _ _ (((iX pos (if recv then[.ptr 0 0 0]else[]) args:List PV)[t]?).getD .undef) _
   cases hx:(iX pos (if recv then[.ptr 0 0 0]else[]) args:List PV)[t]? with
   |none=>
    have:(iX pos (tc recv rb) vs)[t]?=none:=by
     rw[List.getElem?_eq_none_iff]at hx ⊢;rw[hall.1];exact hx
    rw[this];exact .undef
   |some x=>
    obtain⟨v,hv,hr⟩:=hall.get hx;rw[hv];exact hr
  ·cases recv with
   |false=>simp[ff]at hid
   |true=>
    simp[ff]at hid;subst hid;obtain⟨h1,h2,_⟩:=hrecv rfl;have e:((ff pos true cs args).H 0).c= .box cs:=by simp[ff]
    rw[e];exact⟨rb,rvs.toArray,T,rfl,h1,.inl (by simp[E]),by simpa using h2.mono hst (dX.le ((ff pos true cs args).gh L))⟩
  ·cases recv with
   |false=>simp[ff]at hi
   |true=>simp[ff]at hi hj;omega
  ·cases recv with
   |false=>simp[ff]
   |true=>simp[ff]at hid ⊢;omega
 have fin:∀(S':St) (L':Nat->Value) (a':Act) (w':World),Rel E S' a' w' L'->A6 rs recv (fun r' cs''=>r'=r/\(recv=true->cs''=cs')) S'->
   ∃v,(results fn a'.tmps).run P w'= .ok v w'/\V2 recv rb X w r cs' (.returned v) w':=by
  intro S' L' a' w' h' hret;unfold A6 at hret;split at hret
  ·rename_i x hx;obtain⟨v,hv,hrep⟩:=Jc h' hrs hx;refine⟨v,hv,?_⟩
   cases recv with
   |false=>
    simp only[Qq,false_implies,and_true]at hret;subst hret;refine⟨v,[],rfl,?_,(fun hq=>by cases hq),h'.fr.toFr⟩
    refine h'.fz (fun b hb=> ?_) (fun id b hid hl _ hb hq=> ?_) 9 hrep
    ·rcases hb with⟨hb,_⟩|hb
     ·cases hb
     ·exact .inr hb
    ·rcases hq with⟨hq,_⟩|hq
     ·cases hq
     ·rcases((h'.obj id hid).ya hl hb).2 with h1|h1
      ·simp[E]at h1
      ·have:=hX.lt b hq;simp only[E]at h1;omega
   |true=>
    simp only at hret;split at hret
    ·rename_i cs'' hH;obtain⟨hcl,rfl,hcs⟩:=hret;have hcs:=hcs trivial;subst hcs
     have hN0:0<S'.N:=by
      rcases Nat.eq_zero_or_pos S'.N with h0|h0
      ·have:=h'.fresh 0 (by omega)
       rw[hH]at this;cases this
      ·exact h0
     have hL0:L' 0= .pointer (some ⟨rb,0,none⟩):=h'.BE rfl (by rw[hH];rfl) (by rw[hH])
     obtain⟨b,cur,T',hL',hh,hr,_⟩:=h'.o6 hN0 (show(S'.H 0).c= .box cs'' by rw[hH])
     rw[hL0]at hL';simp only[Value.pointer.injEq,Qf,Addr.mk.injEq]at hL';obtain⟨rfl,_⟩:=hL'
     have hsub:∀q,Mc true rb X q->br E S' L' q:=by
      rintro q (⟨_,rfl⟩|hq)
      ·exact .inl ⟨0,hN0,by rw[hH];rfl,by rw[hL0];rfl⟩
      ·exact .inr hq
     refine⟨v,cur.toList,rfl,?_,fun _=>⟨?_,hr.closed hcl hsub⟩,h'.fr.toFr⟩
     ·refine h'.fz hsub (fun id b hid hl hne hb hq=> ?_) 9 hrep
      have hnb:b≠rb:=fun e=>hne (by rw[h'.apart id 0 b hid hN0 hl (by rw[hH];rfl) hb (by rw[hL0,e];rfl)])
      rcases hq with⟨_,hq⟩|hq
      ·exact hnb hq
      ·rcases((h'.obj id hid).ya hl hb).2 with h1|h1
       ·simp only[E,Qt,Qf]at h1;exact hnb h1.symm
       ·have:=hX.lt b hq;simp only[E]at h1;omega
     ·exact⟨T',by simpa using hh⟩
    ·exact hret.elim
  ·exact hret.elim
 exact O3 hf hb (h c hs hc) rfl ⟨rfl,rfl⟩ (fun _=>rfl) rfl hrel fun e S' L' a' w' h1 h2=>by
  cases e with
  |normal=>exact⟨.inr rfl,fin S' L' a' w' h1 h2⟩
  |ret=>exact⟨.inl rfl,fin S' L' a' w' h1 h2⟩
  |exit i=>exact h2.elim
  |goto l=>exact h2.elim
  |panic c=>exact h2.elim
  |outgrown=>exact h2.elim
def R9(rs:List RV)(R:List PV->Prop):Exit->St->Prop
 | .ret,S=>match wc S rs with
  |some (.ptr id ak 0)=>if(S.H id).ak=ak then(match(S.H id).c with| .box cs=>cs.all PV.closed=true/\R cs|_=>False)else False
  |_=>False
 |_,_=>False
theorem aeb{f:FuncId}{fn:Func}{c:Code}{sc:SC}{rs:List RV}{args cs:List PV}(hf:P.funcs[f]?=some fn)(hb:fn.body=some c){hs:List Nat}(hc:aM P fn.ntmps hs c=some sc)(hrs:nc P fn.results.toList=some rs)
  (hlen:args.length<=fn.ntmps) (h:VS P fn.ntmps sc (R9 rs fun cs'=>cs'=cs) (ff 0 false [] args)):XZ P f args cs:=by
 intro w X hX vs hargs
 let E:En:={w0:=w,rb:=none,nt:=fn.ntmps,X:=X,hX:=hX,W0:=false,rv:=undef,rk:=false,Mx:=fun b hb=>(by cases hb),Zk:=fun h=>(by cases h),rd:=none,nd:=false,kt:=fun _=>none,wk:={w with heap:=#[]}}
 let L:Nat->Value:=fun _=> .pointer none
 have hst:dZ w w X (br E (ff 0 false [] args) L):=(dZ.of fun _ hn h'=>hn (by
  rcases h' with⟨id,hid,_⟩|h'
  ·simp[ff]at hid
  ·exact h'))
 have hvl:vs.length=args.length:=hargs.1
 have hrel:Rel E (ff 0 false [] args) {tmps:=vs.toArray++Array.replicate (fn.ntmps - vs.toArray.size) undef,defers:=[]} w L:=by
  refine⟨Marks.nil rfl,⟨?_,fun t v hv=>by cases hv⟩,fun t=> ?_,fun id hid=> ?_,fun i j b hi hj _ _ _ _=> ?_,fun id hid=> ?_,⟨Fr.refl _ _,H4 rfl⟩,fun hb _ _=>(by cases hb)⟩
  ·simp[E];omega
  ·have hget:((vs.toArray++Array.replicate (fn.ntmps - vs.toArray.size) undef).getD t undef)=(vs[t]?).getD undef:=by
    rw[QN,Array.getElem?_append]
    by_cases ht:t<vs.toArray.size
    ·rw[Qr ht];simp
    ·rw[Qs ht,Array.getElem?_replicate];have hn:vs[t]?=none:=Qq71 (by simpa using ht)
     rw[hn];split<;>rfl
   simp only;rw[hget];have ha:=hargs.mono hst (dX.le ((ff 0 false [] args).gh L));show bm w _ _ ((([]++args:List PV)[t]?).getD .undef) _;rw[List.nil_append]
   cases hx:args[t]? with
   |none=>
    have:vs[t]?=none:=by
     rw[List.getElem?_eq_none_iff]at hx ⊢;omega
    rw[this];exact .undef
   |some x=>
    obtain⟨v,hv,hr⟩:=ha.get hx;rw[hv];exact hr
  ·simp[ff]at hid
  ·simp[ff]at hi
  ·simp[ff]
 refine O3 hf hb (h c hs hc) rfl ⟨rfl,rfl⟩ (fun _=>rfl) rfl hrel fun e S' L' a' w' h' hq=> ?_
 cases e with
 |ret=>
  simp only[R9]at hq;split at hq
  ·rename_i id ak hx;split at hq
   ·rename_i hver;split at hq
    ·rename_i cs' hcc;obtain⟨hcl,rfl⟩:=hq;obtain⟨v,hv,hrep⟩:=Jc h' hrs hx;obtain⟨hN,_⟩:=hrep.oI (show(S'.gh L').V id=ak from hver)
     obtain⟨b,hvb,hL⟩:=h'.pH hrep hver hcc;obtain⟨b',cur,T,hL',hh,hr,hE⟩:=h'.o6 hN hcc;rw[hL]at hL';simp only[Value.pointer.injEq,Qf,Addr.mk.injEq]at hL';obtain⟨rfl,_⟩:=hL';refine⟨.inl rfl,v,hv,b,cur.toList,T,by rw[hvb],?_,by simpa using hh,?_,h'.fr.toFr⟩
     ·rcases hE with h1|h1
      ·simp[E]at h1
      ·exact h1
     ·refine hr.closed hcl ?_;rintro q (hq|rfl)
      ·exact .inr hq
      ·exact .inl ⟨id,hN,by rw[hcc];rfl,by rw[hL];rfl⟩
    ·exact hq.elim
   ·exact hq.elim
  ·exact hq.elim
 |normal=>exact hq.elim
 |exit i=>exact hq.elim
 |goto l=>exact hq.elim
 |panic c=>exact hq.elim
 |outgrown=>exact hq.elim
def nU(P:Program)(f:FuncId)(nt:Nat)(sc:SC)(rs:List RV):Prop:=
 ∃fn hs,P.funcs[f]?=some fn/\fn.ntmps=nt/\(fn.body.bind (aM P nt hs))=some sc/\nc P fn.results.toList=some rs/\(fn.name== "runtime.NumGoroutine")=false
theorem nU.enters{f:FuncId}{sc:SC}{rs:List RV}(h:nU P f nt sc rs):Enters P f:=by
 obtain⟨fn,hs,h1,_,h3,_,h5⟩:=h;refine⟨fn,h1,?_,h5⟩
 cases hb:fn.body with
 |none=>rw[hb]at h3;cases h3
 |some c=>rfl
theorem nU.O1{f:FuncId}{sc:SC}{rs:List RV}(h:nU P f nt sc rs){pos:Nat}{recv:Bool}{cs args cs':List PV}{r:PV}(hlen:(if recv then 1 else 0)+args.length<=nt)
  (hv:VS P nt sc (aai rs recv fun r' cs''=>r'=r/\(recv=true->cs''=cs')) (ff pos recv cs args)):Iw P f pos recv cs args r cs':=by
 obtain⟨fn,hs,h1,rfl,h3,h4,_⟩:=h
 cases hb:fn.body with
 |none=>rw[hb]at h3;cases h3
 |some c=>
  rw[hb]at h3;exact ZC h1 hb h3 h4 hlen hv
theorem nU.aia{f:FuncId}{sc:SC}{rs:List RV}(h:nU P f nt sc rs){args cs:List PV}(hlen:args.length<=nt)
  (hv:VS P nt sc (R9 rs fun cs'=>cs'=cs) (ff 0 false [] args)):XZ P f args cs:=by
 obtain⟨fn,hs,h1,rfl,h3,h4,_⟩:=h
 cases hb:fn.body with
 |none=>rw[hb]at h3;cases h3
 |some c=>
  rw[hb]at h3;exact aeb h1 hb h3 h4 hlen hv
def tab:List (FuncId×Model)->mR
 |[],_=>none
 |(g,m)::l,f=>if f=g then some m else tab l f
end
end
section
 def mkM{α:Type}(eI:α->List PV)(pre:α->Prop)(spec:α->PV):Model:=
 {recv:=false,pos:=0,fresh:=false,m:=fun _ args=>open Classical in if h:∃x,args=eI x/\pre x then some (spec (Classical.choose h),[])else none,rk:= .no,ro:=false,rm:=fun _ _=>none}
theorem Y2{α:Type}{eI:α->List PV}{pre:α->Prop}{spec:α->PV}:(mkM eI pre spec).fresh=false:=rfl
theorem aaO{α:Type}{eI:α->List PV}{pre:α->Prop}{spec:α->PV}:(mkM eI pre spec).recv=false:=rfl
@[simp] theorem ahj {α:Type} (f:Nat->α) (i:Nat) (x:α) (j:Nat):bJ f i x j=if j=i then x else f j:=rfl
@[simp] theorem ahM (g:FuncId) (m:Model) (l:List (FuncId×Model)) (f:FuncId):tab ((g,m)::l) f=if f=g then some m else tab l f:=rfl
@[simp] theorem aii (S:St) (ts:List Nat) (n t:Nat):(S.cut ts n).env t=if t∈ts then S.env t else .any:=rfl
@[simp] theorem aiw (S:St) (ts:List Nat) (n id:Nat):(S.cut ts n).H id=if id<n then S.H id else⟨0,.dead⟩:=rfl
@[simp] theorem aiv (S:St) (ts:List Nat) (n:Nat):(S.cut ts n).N=n:=rfl
attribute [simp] ev AB z8 SG.wanted exec St.cY bn.val St0 ff iX Nd aai A6 Ef agC wc wJ BB fz xb qO uf PV.cells PV.one PV.closed gW Io HC MU kq PV.tT PV.plain PV.oS PV.bw PV.u7 iY
 Nj nI Al Dq D7 fg eU mG BX aaO Y2 R9 PV.kg
section
variable (n : Nat)
@[simp] theorem ahu:PV.under n .any=true:=rfl
@[simp] theorem af8:PV.under n .undef=true:=rfl
@[simp] theorem ahr (k:IntKind) (i:Int):PV.under n (.int k i)=true:=rfl
@[simp] theorem agl (b:Bool):PV.under n (.bool b)=true:=rfl
@[simp] theorem af9:PV.under n .fW=true:=rfl
@[simp] theorem ahm (s:ByteArray):PV.under n (.str s)=true:=rfl
@[simp] theorem agi:PV.under n .jW=true:=rfl
@[simp] theorem agh:PV.under n .dW=true:=rfl
@[simp] theorem aho (cs:List PV):PV.under n (.ref cs)=true:=rfl
@[simp] theorem ahK (es:List (List PV)):PV.under n (.sl es)=true:=rfl
@[simp] theorem ahq (i v:Nat):PV.under n (.own i v)=decide (i<n):=rfl
@[simp] theorem ahp (i v o:Nat):PV.under n (.ptr i v o)=decide (i<n):=rfl
@[simp] theorem agj (i v k j o:Nat):PV.under n (.eN i v k j o)=decide (i<n):=rfl
@[simp] theorem agf (i v k j o:Nat):PV.under n (.view i v k j o)=decide (i<n):=rfl
@[simp] theorem ahv (cs:List PV):PV.under n (.agg cs)=cs.all (PV.kg n):=rfl
@[simp] theorem ahl (cs:List PV):PV.under n (.dg cs)=cs.all (PV.kg n):=rfl
@[simp] theorem ahs (f:FuncId) (cs:List PV):PV.under n (.bY f cs)=cs.all (PV.kg n):=rfl
@[simp] theorem agk:yE.under n .dead=true:=rfl
@[simp] theorem aht (cs:List PV):yE.under n (.box cs)=cs.all (PV.under n):=rfl
@[simp] theorem ahn (e k:Nat) (es:List (List PV)):yE.under n (.row e k es)=es.all fun u=>u.all (PV.under n):=rfl
end
def Ix:Nat->(Nat->Prop)->Prop
 |0,_=>True
 |n+1,p=>Ix n p/\p n
theorem HF{p:Nat->Prop}:∀{n:Nat},Ix n p↔∀i,i<n->p i
 |0=>by simp[Ix]
 |n+1=>by
  rw[Ix,HF];refine⟨fun h i hi=> ?_,fun h=>⟨fun i hi=>h i (by omega),h n (by omega)⟩⟩
  by_cases e:i=n
  ·rw[e];exact h.2
  ·exact h.1 i (by omega)
theorem Zy{S:St}{ts:List Nat}{n:Nat}:XX S ts n↔n<=S.N/\(∀t∈ts,(S.env t).under n=true)/\Ix n fun id=>(S.H id).c.under n=true:=
 ⟨fun h=>⟨h.N,h.env,HF.2 h.H⟩,fun h=>⟨h.1,h.2.1,HF.1 h.2.2⟩⟩
attribute [simp] Zy Ix
theorem i64_in{n:Int}(h: -9223372036854775808<=n)(h':n<=9223372036854775807):IntKind.i64.wrap n=n:=by
 rw[IntKind.wrap_i64];omega
end
section
structure TU where
 Ty:Type
 VE:DecidableEq Ty
 den:Ty->Type
 pv:(t:Ty)->den t->List PV
 size:Ty->Nat
 agg:Ty->Bool
 plain:Ty->Bool
inductive KV (U:TU) where
 |any
 |undef
 |int (k:IntKind) (n:Int)
 |bool (b:Bool)
 |fW
 |str (s:ByteArray)
 |jW
 |dW
 |bY (f:FuncId) (caps:List (KV U))
 |jx (f:FuncId) (first:List (KV U))
 |agg (cs:List (KV U))
 |dg (cs:List (KV U))
 |ptr (id ak off:Nat)
 |ref (cs:List (KV U))
 |sl (T:U.Ty) (xs:List (U.den T))
 |own (id ak:Nat)
 |eN (id ak k i off:Nat)
 |view (id ak k lo n:Nat)
 |jg (A B:U.Ty) (xs:List (U.den A×U.den B))
 |mX (b:Bool)
 |jw (T:TypeId) (x:KV U)
 |Tr (Ti Ts:TypeId) (b:Bool) (n:Int) (s:ByteArray)
def fF{U:TU}(T:U.Ty)(v:U.den T):PV:=
 match U.agg T with
 |true=> .agg (U.pv T v)
 |false=>(U.pv T v).headD .any
section
variable {U : TU}
mutual
def KV.pv:KV U->PV
 | .any=> .any
 | .undef=> .undef
 | .int k n=> .int k n
 | .bool b=> .bool b
 | .fW=> .fW
 | .str s=> .str s
 | .jW=> .jW
 | .dW=> .dW
 | .bY f cs=> .bY f (KV.DM cs)
 | .jx f cs=> .jx f (KV.DM cs)
 | .agg cs=> .agg (KV.DM cs)
 | .dg cs=> .dg (KV.DM cs)
 | .ptr id ak off=> .ptr id ak off
 | .ref cs=> .ref (KV.DM cs)
 | .sl T xs=> .sl (xs.map (U.pv T))
 | .own id ak=> .own id ak
 | .eN id ak k i off=> .eN id ak k i off
 | .view id ak k lo n=> .view id ak k lo n
 | .jg A B xs=> .jg (xs.map fun p=>fF A p.1) (xs.map fun p=>fF B p.2)
 | .mX b=> .mX b
 | .jw T x=> .jw T (KV.pv x)
 | .Tr Ti Ts b n s=> .jw (cond b Ts Ti) (cond b (.str s) (.int .i64 n))
def KV.DM:List (KV U)->List PV
 |[]=>[]
 |x::l=>KV.pv x::KV.DM l
end
theorem KV.cx:∀(l:List (KV U)),KV.DM l=l.map KV.pv
 |[]=>by simp[KV.DM]
 |x::l=>by simp[KV.DM,KV.cx l]
inductive ea (U:TU) where
 |dead
 |box (cs:List (KV U))
 |row (e k:Nat) (T:U.Ty) (xs:List (U.den T))
 |raw (e k:Nat) (es:List (List (KV U)))
structure dp (U:TU) where
 ak:Nat
 c:ea U
structure aZ (U:TU) where
 env:Nat->KV U
 H:Nat->dp U
 N:Nat
def ea.pv:ea U->yE
 | .dead=> .dead
 | .box cs=> .box (cs.map KV.pv)
 | .row e k T xs=> .row e k (xs.map (U.pv T))
 | .raw e k es=> .row e k (es.map fun c=>c.map KV.pv)
def dp.pv(o:dp U):fE:=⟨o.ak,o.c.pv⟩
def aZ.st(S:aZ U):St:=⟨fun t=>(S.env t).pv,fun id=>(S.H id).pv,S.N⟩
def fu{α:Type}(f:Nat->α)(i:Nat)(x:α)(j:Nat):α:=
 match Nat.beq j i with
 |true=>x
 |false=>f j
theorem cP{α:Type}(f:Nat->α)(i:Nat)(x:α):fu f i x=bJ f i x:=by
 funext j
 unfold fu bJ;split
 ·rename_i h;rw[Qr (QF h)]
 ·rename_i h;rw[Qs (Nat.ne_of_beq_eq_false h)]
def aZ.cY(S:aZ U)(d:Option Nat)(x:KV U)(wr:Option (Nat×dp U)):aZ U:=
 {env:=match d with|some d=>fu S.env d x|none=>S.env,H:=match wr with|some (id,o)=>fu S.H id o|none=>S.H,N:=S.N}
def jm(p:Nat×dp U):Nat×fE:=(p.1,p.2.pv)
theorem np{α β:Type}(g:α->β)(f:Nat->α)(i:Nat)(x:α):(fun j=>g (bJ f i x j))=bJ (fun j=>g (f j)) i (g x):=by
 funext j
 unfold bJ;split<;>rfl
theorem Aa(S:aZ U)(d:Option Nat)(x:KV U)(wr:Option (Nat×dp U)):(S.cY d x wr).st=S.st.cY d x.pv (wr.map jm):=by
 unfold aZ.cY St.cY aZ.st;congr 1
 ·cases d with
  |none=>rfl
  |some d=>simp only[cP];exact np _ _ _ _
 ·cases wr with
  |none=>rfl
  |some p=>obtain⟨i,o⟩:=p;simp only[cP,Qe,jm];exact np _ _ _ _
abbrev Lk(U:TU):=Nat->Nat->(T:U.Ty)->Option (List (U.den T))
def wm{U:TU}(T' T:U.Ty)(xs:List (U.den T')):Option (List (U.den T)):=
 match U.VE T' T with
 |isTrue h=>some (h▸xs)
 |isFalse _=>none
theorem o5{T' T:U.Ty}{xs:List (U.den T')}{ys:List (U.den T)}(h:wm T' T xs=some ys):∃e:T'=T,ys=e▸xs:=by
 unfold wm at h;split at h
 ·rename_i e _;injection h with h;exact⟨e,h.symm⟩
 ·cases h
def aZ.lk(S:aZ U):Lk U:=fun id ak T=>
 match Nat.beq (S.H id).ak ak with
 |true=>match(S.H id).c with
  | .row _ _ T' xs=>wm T' T xs
  |_=>none
 |false=>none
def nL:Lk U:=fun _ _ _=>none
def abb(k:IntKind):KV U->Option Int
 | .int k' n=>if k'=k then some n else none
 |_=>none
def Hp:KV U->Option Bool
 | .bool b=>some b
 |_=>none
def aa9:KV U->Option ByteArray
 | .str s=>some s
 |_=>none
def TC(lk:Lk U)(T:U.Ty):KV U->Option (List (U.den T))
 | .dW=>some []
 | .sl T' xs=>wm T' T xs
 | .own id ak=>lk id ak T
 |_=>none
def Xz{U:TU}(A' B' A B:U.Ty)(xs:List (U.den A'×U.den B')):Option (List (U.den A×U.den B)):=
 match U.VE A' A with
 |isTrue h=>(match U.VE B' B with
  |isTrue h'=>some (h▸h'▸xs)
  |isFalse _=>none)
 |isFalse _=>none
theorem Xy{A' B' A B:U.Ty}{xs:List (U.den A'×U.den B')}{ys:List (U.den A×U.den B)}(h:Xz A' B' A B xs=some ys):∃(e:A'=A) (e':B'=B),ys=e▸e'▸xs:=by
 unfold Xz at h;split at h
 ·rename_i e _;split at h
  ·rename_i e' _;injection h with h;exact⟨e,e',h.symm⟩
  ·cases h
 ·cases h
def aba(A B:U.Ty):KV U->Option (List (U.den A×U.den B))
 | .jg A' B' xs=>Xz A' B' A B xs
 |_=>none
inductive jT (lk:Lk U):KV U->PV->Prop where
 |int (k:IntKind) (n:Int):jT lk (.int k n) (.int k n)
 |bool (b:Bool):jT lk (.bool b) (.bool b)
 |str (s:ByteArray):jT lk (.str s) (.str s)
 |dW:jT lk .dW (.sl [])
 |sl (T:U.Ty) (xs:List (U.den T)):jT lk (.sl T xs) (.sl (xs.map (U.pv T)))
 |own (id ak:Nat) (T:U.Ty) (xs:List (U.den T)) (h:lk id ak T=some xs):jT lk (.own id ak) (.sl (xs.map (U.pv T)))
 |jg (A B:U.Ty) (xs:List (U.den A×U.den B)):jT lk (.jg A B xs) (.jg (xs.map fun p=>fF A p.1) (xs.map fun p=>fF B p.2))
 |mX (b:Bool):jT lk (.mX b) (.mX b)
 |jw (T:TypeId) (x:KV U):jT lk (.jw T x) (.jw T x.pv)
 |Tr (Ti Ts:TypeId) (b:Bool) (n:Int) (s:ByteArray):jT lk (.Tr Ti Ts b n s) (.jw (cond b Ts Ti) (cond b (.str s) (.int .i64 n)))
theorem ad3{lk:Lk U}{A B:U.Ty}{x:KV U}{xs:List (U.den A×U.den B)}(h:aba A B x=some xs):jT lk x (.jg (xs.map fun p=>fF A p.1) (xs.map fun p=>fF B p.2)):=by
 unfold aba at h;split at h
 ·obtain⟨e,e',rfl⟩:=Xy h;subst e;subst e';exact .jg _ _ _
 ·cases h
theorem ad5{lk:Lk U}{k:IntKind}{x:KV U}{n:Int}(h:abb k x=some n):jT lk x (.int k n):=by
 unfold abb at h;split at h
 ·split at h
  ·rename_i e;injection h with h;subst h e;exact .int _ _
  ·cases h
 ·cases h
theorem ad7{lk:Lk U}{x:KV U}{b:Bool}(h:Hp x=some b):jT lk x (.bool b):=by
 unfold Hp at h;split at h
 ·injection h with h;subst h;exact .bool _
 ·cases h
theorem ad2{lk:Lk U}{x:KV U}{s:ByteArray}(h:aa9 x=some s):jT lk x (.str s):=by
 unfold aa9 at h;split at h
 ·injection h with h;subst h;exact .str _
 ·cases h
theorem ad4{lk:Lk U}{T:U.Ty}{x:KV U}{xs:List (U.den T)}(h:TC lk T x=some xs):jT lk x (.sl (xs.map (U.pv T))):=by
 unfold TC at h;split at h
 ·injection h with h;subst h;exact .dW
 ·obtain⟨e,rfl⟩:=o5 h;subst e;exact .sl _ _
 ·exact .own _ _ _ _ h
 ·cases h
def PV.eH:PV->Bool
 | .int ..| .bool _| .str _| .sl _| .jg ..| .mX _| .jw ..=>true
 |_=>false
inductive gM (lk:Lk U):List (KV U)->List PV->Prop where
 |nil:gM lk [] []
 |cons {x:KV U} {y:PV} {xs:List (KV U)} {ys:List PV} (h:jT lk x y) (t:gM lk xs ys):gM lk (x::xs) (y::ys)
structure TK (U:TU) where
 eI:(t:U.Ty)->U.den t->List (KV U)
 dec:(t:U.Ty)->Lk U->List (KV U)->Option (U.den t)
 Nb:Nat->Option U.Ty
 oX:∀t v,(eI t v).map KV.pv=U.pv t v
 l9:∀t lk cs v,dec t lk cs=some v->gM lk cs (U.pv t v)
 len:∀t v,(U.pv t v).length=U.size t
 eH:∀t v y,y∈U.pv t v->y.eH=true
 one:∀t,U.agg t=false->U.size t=1
 plain:∀t,U.plain t=true->∀v y,y∈U.pv t v->y.plain=true
 J3:U.Ty->Option (IntKind×IntKind)
 Nu:∀t k l,J3 t=some (k,l)->U.agg t=true/\∀v,∃a b,eI t v=[.int k a,.int l b]
variable (K : TK U)
def F6(T:U.Ty)(v:U.den T):KV U:=
 match U.agg T with
 |true=> .agg (K.eI T v)
 |false=>(K.eI T v).headD .any
def Cv(lk:Lk U)(T:U.Ty)(x:KV U):Option (U.den T):=
 match U.agg T with
 |true=>(match x with| .agg cs=>K.dec T lk cs|_=>none)
 |false=>K.dec T lk [x]
theorem DD(T:U.Ty)(v:U.den T):(F6 K T v).pv=fF T v:=by
 unfold F6 fF;split
 ·simp only[KV.pv,KV.cx,K.oX]
 ·rename_i h;have h1:=K.len T v;rw[K.one T h]at h1;have h2:=K.oX T v
  cases he:K.eI T v with
  |nil=>rw[he]at h2;simp at h2;rw[h2]at h1;simp at h1
  |cons x l=>rw[he]at h2;rw[<-h2];rfl
def PV.dO:PV->Bool
 | .int ..| .bool _| .str _| .jW| .dW| .any| .mX _| .bY _ []=>true
 |_=>false
def KV.Jh:PV->KV U
 | .int k n=> .int k n
 | .bool b=> .bool b
 | .str s=> .str s
 | .jW=> .jW
 | .dW=> .dW
 | .mX b=> .mX b
 | .bY f []=> .bY f []
 |_=> .any
def bn.dO:bn->Bool
 | .tmp _=>true
 | .oY x=>x.dO
def bn.cF(S:aZ U):bn->KV U
 | .tmp t=>S.env t
 | .oY x=>KV.Jh x
theorem qJ{S:aZ U}{x:bn}(h:x.dO=true):x.val S.st=(x.cF S).pv:=by
 cases x with
 |tmp t=>rfl
 |oY x=>
  simp only[bn.dO]at h;unfold PV.dO at h;split at h<;>first|rfl|(cases h)
def KV.cells:KV U->List (KV U)
 | .agg cs=>cs
 |x=>[x]
def KV.one:KV U->Bool
 | .int ..| .bool _| .fW| .str _| .jW| .dW| .bY ..| .jx ..| .ptr ..| .eN ..| .ref _| .sl ..| .own ..| .view ..| .jg ..| .mX _| .jw ..| .Tr ..=>true
 |_=>false
def KV.closed:KV U->Bool
 | .int ..| .bool _| .str _| .jW| .dW| .sl ..| .ref _| .jg ..| .mX _| .jw ..| .Tr ..=>true
 | .bY _ []=>true
 |_=>false
def KV.bw:KV U->Bool
 | .agg cs| .dg cs| .bY _ cs=>cs.all KV.closed
 |x=>x.closed
theorem afb(x:KV U):x.pv.one=x.one:=by
 cases x with
 |_=>simp[KV.pv,PV.one,KV.one]
theorem ZF(x:KV U):x.pv.closed=x.closed:=by
 cases x with
 |bY f cs=>cases cs<;>simp[KV.pv,KV.DM,PV.closed,KV.closed]
 |_=>simp[KV.pv,PV.closed,KV.closed]
theorem wQ(x:KV U):x.pv.cells=x.cells.map KV.pv:=by
 cases x with
 |_=>simp[KV.pv,PV.cells,KV.cells,KV.cx]
theorem jE(l:List (KV U)):(l.map KV.pv).all PV.closed=l.all KV.closed:=by
 induction l with
 |nil=>rfl
 |cons x l ih=>simp only[QD,Qq69,ZF,ih]
theorem yc(l:List (KV U)):(l.map KV.pv).all PV.one=l.all KV.one:=by
 induction l with
 |nil=>rfl
 |cons x l ih=>simp only[QD,Qq69,afb,ih]
theorem MP(x:KV U):x.pv.bw=x.bw:=by
 cases x with
 |agg cs=>simp only[KV.pv,PV.bw,KV.bw,KV.cx];exact jE cs
 |dg cs=>simp only[KV.pv,PV.bw,KV.bw,KV.cx];exact jE cs
 |bY f cs=>simp only[KV.pv,PV.bw,KV.bw,KV.cx];exact jE cs
 |_=>simp[KV.pv,PV.bw,KV.bw,PV.closed,KV.closed]
end
end
section
open Go.RowKit
section
variable {P : Program} {nt : Nat} {hs : List Nat}
theorem Aq{c:Code}{x y:SC}(h:aM P nt hs c=some (.seq x y)):∃p q,c= .seq p q/\aM P nt hs p=some x/\aM P nt hs q=some y:=by
 cases c with
 |seq p q=>
  simp only[aM]at h;split at h
  ·rename_i x' y' hx hy;injection h with h
   injection h with h1 h2
   subst h1 h2;exact⟨p,q,rfl,hx,hy⟩
  ·cases h
 |region id ops d=>cases d<;>simp only[aM]at h<;>(try split at h)<;>(try split at h)<;>(try split at h)<;>cases h
 |cond c x y=>simp only[aM]at h;split at h<;>cases h
 |block id c=>simp only[aM,Qb]at h;obtain⟨_,_,h⟩:=h;cases h
 |loop c=>simp only[aM,Qb]at h;obtain⟨_,_,h⟩:=h;cases h
 |rangeFunc g ps x y=>simp only[aM]at h;split at h<;>(try split at h)<;>cases h
 |_=>simp only[aM]at h<;>cases h
theorem MR{c:Code}{o:bn}{x y:SC}(h:aM P nt hs c=some (.cond o x y)):∃o' p q,c= .cond o' p q/\bd o'=some o/\aM P nt hs p=some x/\aM P nt hs q=some y:=by
 cases c with
 |cond o' p q=>
  simp only[aM]at h;split at h
  ·rename_i c' x' y' hc hx hy;injection h with h
   injection h with h1 h2 h3
   subst h1 h2 h3;exact⟨o',p,q,rfl,hc,hx,hy⟩
  ·cases h
 |region id ops d=>cases d<;>simp only[aM]at h<;>(try split at h)<;>(try split at h)<;>(try split at h)<;>cases h
 |seq x y=>simp only[aM]at h;split at h<;>cases h
 |block id c=>simp only[aM,Qb]at h;obtain⟨_,_,h⟩:=h;cases h
 |loop c=>simp only[aM,Qb]at h;obtain⟨_,_,h⟩:=h;cases h
 |rangeFunc g ps x y=>simp only[aM]at h;split at h<;>(try split at h)<;>cases h
 |_=>simp only[aM]at h<;>cases h
theorem JD{c:Code}{id:Nat}{x:SC}(h:aM P nt hs c=some (.block id x)):∃p,c= .block id p/\aM P nt hs p=some x:=by
 cases c with
 |block j p=>
  simp only[aM,Qb]at h;obtain⟨x',hx,h⟩:=h;injection h with h1 h2
  subst h1 h2;exact⟨p,rfl,hx⟩
 |region id ops d=>cases d<;>simp only[aM]at h<;>(try split at h)<;>(try split at h)<;>(try split at h)<;>cases h
 |seq x y=>simp only[aM]at h;split at h<;>cases h
 |cond c x y=>simp only[aM]at h;split at h<;>cases h
 |loop c=>simp only[aM,Qb]at h;obtain⟨_,_,h⟩:=h;cases h
 |rangeFunc g ps x y=>simp only[aM]at h;split at h<;>(try split at h)<;>cases h
 |_=>simp only[aM]at h<;>cases h
theorem Xw{c:Code}{x:SC}(h:aM P nt hs c=some (.loop x)):∃p,c= .loop p/\aM P nt hs p=some x:=by
 cases c with
 |loop p=>
  simp only[aM,Qb]at h;obtain⟨x',hx,h⟩:=h;injection h with h1
  subst h1;exact⟨p,rfl,hx⟩
 |region id ops d=>cases d<;>simp only[aM]at h<;>(try split at h)<;>(try split at h)<;>(try split at h)<;>cases h
 |seq x y=>simp only[aM]at h;split at h<;>cases h
 |cond c x y=>simp only[aM]at h;split at h<;>cases h
 |block id c=>simp only[aM,Qb]at h;obtain⟨_,_,h⟩:=h;cases h
 |rangeFunc g ps x y=>simp only[aM]at h;split at h<;>(try split at h)<;>cases h
 |_=>simp only[aM]at h<;>cases h
theorem O2{c:Code}{gs:List SG}(h:aM P nt hs c=some (.xu gs)):∃id ops,c= .region id ops false/\ops.toList.mapM (uh P hs ops)=some gs/\∀o∈ops.toList,∀t,o.dst=some t->t<nt:=by
 cases c with
 |region id ops d=>
  cases d with
  |true=>simp only[aM]at h;(try split at h)<;>(try split at h)<;>(try split at h)<;>cases h
  |false=>
   simp only[aM]at h;split at h
   ·rename_i gs' hgs;split at h
    ·rename_i hd;injection h with h
     injection h with h
     subst h;exact⟨id,ops,rfl,hgs,Tt hd⟩
    ·cases h
   ·cases h
 |seq x y=>simp only[aM]at h;split at h<;>cases h
 |cond c x y=>simp only[aM]at h;split at h<;>cases h
 |block id c=>simp only[aM,Qb]at h;obtain⟨_,_,h⟩:=h;cases h
 |loop c=>simp only[aM,Qb]at h;obtain⟨_,_,h⟩:=h;cases h
 |rangeFunc g ps x y=>simp only[aM]at h;split at h<;>(try split at h)<;>cases h
 |_=>simp only[aM]at h<;>cases h
theorem Xx{c:Code}{id:Nat}(h:aM P nt hs c=some (.exit id)):c= .exit id:=by
 cases c with
 |exit j=>simp only[aM,Qf,SC.exit.injEq]at h;rw[h]
 |region id ops d=>cases d<;>simp only[aM]at h<;>(try split at h)<;>(try split at h)<;>(try split at h)<;>cases h
 |seq x y=>simp only[aM]at h;split at h<;>cases h
 |cond c x y=>simp only[aM]at h;split at h<;>cases h
 |block id c=>simp only[aM,Qb]at h;obtain⟨_,_,h⟩:=h;cases h
 |loop c=>simp only[aM,Qb]at h;obtain⟨_,_,h⟩:=h;cases h
 |rangeFunc g ps x y=>simp only[aM]at h;split at h<;>(try split at h)<;>cases h
 |_=>simp only[aM]at h<;>cases h
theorem MQ{c:Code}(h:aM P nt hs c=some .skip):c= .skip:=by
 cases c with
 |skip=>rfl
 |region id ops d=>cases d<;>simp only[aM]at h<;>(try split at h)<;>(try split at h)<;>(try split at h)<;>cases h
 |seq x y=>simp only[aM]at h;split at h<;>cases h
 |cond c x y=>simp only[aM]at h;split at h<;>cases h
 |block id c=>simp only[aM,Qb]at h;obtain⟨_,_,h⟩:=h;cases h
 |loop c=>simp only[aM,Qb]at h;obtain⟨_,_,h⟩:=h;cases h
 |rangeFunc g ps x y=>simp only[aM]at h;split at h<;>(try split at h)<;>cases h
 |_=>simp only[aM]at h<;>cases h
theorem ZG{c:Code}(h:aM P nt hs c=some .ret):c= .ret:=by
 cases c with
 |ret=>rfl
 |region id ops d=>cases d<;>simp only[aM]at h<;>(try split at h)<;>(try split at h)<;>(try split at h)<;>cases h
 |seq x y=>simp only[aM]at h;split at h<;>cases h
 |cond c x y=>simp only[aM]at h;split at h<;>cases h
 |block id c=>simp only[aM,Qb]at h;obtain⟨_,_,h⟩:=h;cases h
 |loop c=>simp only[aM,Qb]at h;obtain⟨_,_,h⟩:=h;cases h
 |rangeFunc g ps x y=>simp only[aM]at h;split at h<;>(try split at h)<;>cases h
 |_=>simp only[aM]at h<;>cases h
theorem ss{α β:Type}{f:α->Option β}{l:List α}{y:β}{ys:List β}(h:l.mapM f=some (y::ys)):∃x xs,l=x::xs/\f x=some y/\xs.mapM f=some ys:=by
 cases l with
 |nil=>simp at h
 |cons x xs=>
  simp only[Qq74,Qd,Qc,Option.pure_def,Qf,List.cons.injEq]at h;obtain⟨z,hz,zs,hzs,rfl,rfl⟩:=h;exact⟨x,xs,rfl,hz,hzs⟩
theorem GL{α β:Type}{f:α->Option β}{l:List α}(h:l.mapM f=some []):l=[]:=by
 cases l with
 |nil=>rfl
 |cons x xs=>
  simp only[Qq74,Qd,Qc,Option.pure_def,Qf]at h;obtain⟨z,hz,zs,hzs,h⟩:=h;cases h
theorem ZA{o:Oper}{fv:bn}{xs:List bn}(h:Ea P hs o=some (.vb fv xs)):∃(g:Operand) (args:Array Operand) (ts:Array TypeId),o.op= .call {callee:= .value g,args:=args,argTypes:=ts}/\bd g=some fv/\args.toList.mapM bd=some xs:=by
 unfold Ea at h;split at h
 case h_22 fop args ats hop=>
  simp only[Qd,Qc]at h;obtain⟨ys,hys,h⟩:=h;split at h
  ·cases h
  ·simp only[Qc,Qf,bS.vb.injEq]at h;obtain⟨fv',hfv,rfl,rfl⟩:=h;exact⟨_,_,_,hop,hfv,hys⟩
 all_goals (repeat' (first|(cases h;done)|split at h|(simp only[Qd,Qc]at h;obtain⟨_,_,h⟩:=h)|(obtain⟨_,_,h⟩:=h)))
theorem ze{x:Operand}{t:Nat}(h:bd x=some (.tmp t)):x= .tmp t:=by
 cases x with
 |tmp u=>simp only[bd,Qf,bn.tmp.injEq]at h;rw[h]
 |const v=>simp only[bd,Qb]at h;obtain⟨_,_,h⟩:=h;cases h
 |global g=>simp[bd]at h
 |func f=>simp[bd]at h
end
section
variable {P : Program}
def YX:mR:=fun _=>none
theorem LI:lR P YX:=fun _ _ h=>by cases h
theorem Rt{Γ:mR}(hΓ:lR P Γ){E:En}{hs:List Nat}{ops:Array Oper}{l2:List Oper}:∀(l:List Oper) (gs:List SG) (nid:Nat) (S S':St) (a:Act) (w:World) (L:Nat->Value),l.mapM (uh P hs ops)=some gs->Rel E S a w L->nid+l.length<=S.N->
  (∀o∈l,∀t,o.dst=some t->E.can t)->AB Γ nid gs S=some S'->∀{Q:Exit->Act->World->Prop},(∀a' w' L',Rel E S' a' w' L'->wpListIn (WF E.rd) 0 P ops Q l2 a' w')->wpListIn (WF E.rd) 0 P ops Q (l++l2) a w
 |[],gs,nid,S,S',a,w,L,hm,h,hN,hd,hr,Q,hQ=>by
  simp at hm;subst hm;simp only[AB,Qf]at hr;subst hr;exact hQ a w L h
 |o::l,gs,nid,S,S',a,w,L,hm,h,hN,hd,hr,Q,hQ=>by
  simp only[Qq74,Qd,Qc,Option.pure_def,Qf]at hm;obtain⟨g,hg,gs',hgs,rfl⟩:=hm;simp only[AB]at hr;split at hr
  ·rename_i S1 hs;rw[List.cons_append];refine wpListIn_step fun K hK=> ?_
   refine w7 hΓ hg h (by simp at hN;omega) (hd o (by simp)) hs (fun a' w' L' h'=>hK _ _ ?_)
   exact Rt hΓ l gs' (nid+1) S1 S' a' w' L' hgs h' (by rw[abO hs];simp at hN;omega) (fun o' ho'=>hd o' (by simp[ho'])) hr hQ
  ·cases hr
def EB(nt:Nat)(W:World)(X:Nat->Prop)(hX:tq W X)(kt:Nat->Option Value):En:=
 {w0:=W,rb:=none,nt:=nt,X:=X,hX:=hX,W0:=false,rv:=undef,rk:=false,Mx:=fun b hb=>(by cases hb),Zk:=fun h=>(by cases h),rd:=none,nd:=true,kt:=kt,wk:={W with heap:=#[]}}
def SB(env:Nat->PV):St:={env:=env,H:=fun _=>⟨0,.dead⟩,N:=8}
theorem PT{nt:Nat}{W:World}{X:Nat->Prop}(hX:tq W X){kt:Nat->Option Value}{env:Nat->PV}{a:Act}{L:Nat->Value}(hd:a.defers=[])(hs:a.tmps.size=nt)(hk:∀t v,kt t=some v->a.tmps.getD t undef=v)
  (he:∀t,bm W X dX (env t) (a.tmps.getD t undef)):Rel (EB nt W X hX kt) (SB env) a W L:=by
 have hM:∀b,br (EB nt W X hX kt) (SB env) L b->X b:=by
  rintro b (⟨id,_,hl,_⟩|h)
  ·cases hl
  ·exact h
 exact⟨Marks.nil hd,⟨hs,hk⟩,fun t=>(he t).mono (dZ.of fun _ hn=>fun h=>hn (hM _ h)) (dX.le _),fun _ _=>trivial,fun i j b _ _ hi=>(by cases hi),fun _ _=>rfl,⟨Fr.refl _ _,H4 rfl⟩,fun h=>(by cases h)⟩
theorem BD{nt:Nat}{W W':World}{X:Nat->Prop}{hX:tq W X}{kt:Nat->Option Value}{S:St}{a:Act}{L:Nat->Value}(h:Rel (EB nt W X hX kt) S a W' L):Fr none W W':=h.fr.toFr
theorem Im{hs:List Nat}{ops:Array Oper}{p:Nat->Prop}:∀{l:List Oper} {gs:List SG},l.mapM (uh P hs ops)=some gs->(∀g∈gs,∀t,g.d=some t->p t)->∀o∈l,∀t,o.dst=some t->p t
 |[],_,_,_=>by simp
 |x::l,gs,h,hp=>by
  simp only[Qq74,Qd,Qc,Option.pure_def,Qf]at h;obtain⟨g,hg,gs',hgs,rfl⟩:=h;intro o ho t ht;rcases QA.1 ho with rfl|ho
  ·exact hp g Qx t (by rw[(Ht hg).2.1];exact ht)
  ·exact Im hgs (fun g hg=>hp g (Qy _ hg)) o ho t ht
end
end
section
open Go.RowKit
section
variable {P : Program} {E : En} {S : St} {a : Act} {w : World} {L : Nat -> Value}
theorem Rel.HW(h:Rel E S a w L){w':World}{a':Act}{env':Nat->PV}(rd:Option Nat)(nd:Bool)(kt:Nat->Option Value)(wk:World)
  (hc:∀(b:Nat) (o:Obj),w.heap[b]?=some o->SY o=true->w'.heap[b]?=some o) (he:∀t,bm w (br E S L) (S.gh L) (env' t) (a'.tmps.getD t undef))
  (hm:Marks {E with rd:=rd,nd:=nd,kt:=kt,wk:=wk} a' w') (hs:a'.tmps.size=E.nt/\∀t v,kt t=some v->a'.tmps.getD t undef=v) (hf:FrE {E with rd:=rd,nd:=nd,kt:=kt,wk:=wk} w'):
  Rel {E with rd:=rd,nd:=nd,kt:=kt,wk:=wk} {S with env:=env'} a' w' L:=by
 have hcell:∀(p:Addr) (v:Value),w.cell? p=some v->w'.heap[p.block]?=w.heap[p.block]?:=by
  intro p v hp;unfold World.cell? at hp
  cases ho:w.heap[p.block]? with
  |none=>rw[ho]at hp;simp at hp
  |some o=>
   refine hc _ o ho ?_;rw[ho]at hp;cases o<;>first|rfl|(simp at hp)
 have hst:dZ w w' (br E S L) (br E S L):=⟨fun p v hp hn=>⟨(World.cell?_of_block (hcell p v hp)).trans hp,hn⟩,fun b _ _ hb hn=>⟨hc b _ hb rfl,hn⟩⟩
 refine⟨hm,hs,fun t=>(he t).mono hst (Gh.le.refl _),fun id hid=> ?_,h.apart,h.fresh,hf,h.BE⟩
 have ho:=h.obj id hid
 cases hl:(S.H id).c.live with
 |false=>
  cases hcc:(S.H id).c with
  |dead=>trivial
  |box cs=>rw[hcc]at hl;cases hl
  |row e k es=>rw[hcc]at hl;cases hl
 |true=>
  have:=wo.mono (w':=w') hst (Gh.le.refl _) (fun b hb _=>by
   obtain⟨o,h1,h2⟩:=ho.cells hl hb;rw[h1]
   exact hc b o h1 (adz h2)) ho
  cases hcc:(S.H id).c with
  |dead=>trivial
  |box cs=>rw[hcc]at this;exact this
  |row e k es=>rw[hcc]at this;exact this
theorem Fr.putObj{rb:Option Nat}{w0:World}(h:Fr rb w0 w){l:Nat}(hl:w0.heap.size<=l)(o:Obj):Fr rb w0 (w.putObj l o):=
 ⟨h.os,h.tape,h.output,by rw[World.putObj_size];exact h.size,fun b hb hr=>by rw[World.putObj_heap_other (by omega)];exact h.block b hb hr,h.drawn⟩
def St.uZ(S:St)(D:List Nat):St:={S with env:=fun t=>if t∈D then .any else S.env t}
theorem Rel.drop(h:Rel E S a w L)(D:List Nat):Rel E (S.uZ D) a w L:=
 ⟨h.defers,h.size,fun t=>by
  show bm _ _ _ (if t∈D then .any else S.env t) _
  split
  ·exact .any _
  ·exact h.env t,h.obj,h.apart,h.fresh,h.fr,h.BE⟩
theorem adf{x:World}(h:Cf x w){l:Nat}(hl:x.heap.size<=l)(o:Obj):Cf x (w.putObj l o):=
 ⟨by rw[World.putObj_size];exact h.size,fun k p hk hp=>by
  have hlt:k<x.heap.size:=(Q8.1 hk).1;rw[World.putObj_heap_other (by omega)]
  exact h.same k p hk hp⟩
theorem Hw{l:Nat}{o:Obj}(hl:w.heap[l]?=some o)(ho:SY o=false)(o':Obj):∀(b:Nat) (q:Obj),w.heap[b]?=some q->SY q=true->(w.putObj l o').heap[b]?=some q:=by
 intro b q hb hq
 have:b≠l:=by
  intro e;subst e;rw[hl]at hb;injection hb with hb
  subst hb;rw[ho]at hq;cases hq
 rw[World.putObj_heap_other this];exact hb
def Ze:Exit->Option Code
 | .ret=>some .ret
 | .exit i=>some (.exit i)
 | .goto l=>some (.goto l)
 |_=>none
def T1(I:St->Prop)(S:St):Prop:=∃S',(∀(E:En) (a:Act) (w:World) (L:Nat->Value),Rel E S a w L->∃L',Rel E S' a w L')/\I S'
theorem T1.of{I:St->Prop}{S:St}(h:I S):T1 I S:=⟨S,fun _ _ _ L h=>⟨L,h⟩,h⟩
def aeR(D:List Nat)(I:St->Prop)(Q:Exit->St->Prop):Exit->St->Prop
 | .normal,T=>T1 I (T.uZ D)
 | .ret,T=>Q .ret (T.uZ D)
 | .exit i,T=>Q (.exit i) (T.uZ D)
 | .goto l,T=>Q (.goto l) (T.uZ D)
 |_,_=>False
def SC.vp:SC->List Nat
 | .xu gs| .qP _ gs=>gs.filterMap (·.d)
 | .seq x y| .cond _ x y=>x.vp++y.vp
 | .block _ x| .loop x=>x.vp
 | .Gs _ ps x y=>ps++x.vp++y.vp
 |_=>[]
theorem NV{hs:List Nat}{ops:Array Oper}:∀(l:List Oper) (gs:List SG),l.mapM (uh P hs ops)=some gs->l.filterMap (·.dst)=gs.filterMap (·.d)
 |[],gs,h=>by
  simp at h;subst h;rfl
 |o::l,gs,h=>by
  simp only[Qq74,Qd,Qc,Option.pure_def,Qf]at h;obtain⟨g,hg,gs',hgs,rfl⟩:=h;simp only[List.filterMap_cons,(Ht hg).2.1,NV l gs' hgs]
theorem rM{nt:Nat}{hs:List Nat}:∀(c:Code) (sc:SC),aM P nt hs c=some sc->mm c=sc.vp
 | .skip,sc,h=>by simp only[aM]at h;injection h with h;subst h;rfl
 | .exit _,sc,h=>by simp only[aM]at h;injection h with h;subst h;rfl
 | .ret,sc,h=>by simp only[aM]at h;injection h with h;subst h;rfl
 | .region _ ops false,sc,h=>by
  simp only[aM]at h;split at h
  ·rename_i gs hgs;split at h
   ·injection h with h;subst h;exact NV _ _ hgs
   ·cases h
  ·cases h
 | .region _ ops true,sc,h=>by
  simp only[aM]at h;split at h
  ·rename_i gs hgs;split at h
   ·split at h
    ·injection h with h;subst h;exact NV _ _ hgs
    ·cases h
   ·cases h
  ·cases h
 | .seq x y,sc,h=>by
  simp only[aM]at h;split at h
  ·rename_i hx hy;injection h with h;subst h;simp only[mm,SC.vp,rM x _ hx,rM y _ hy]
  ·cases h
 | .cond c x y,sc,h=>by
  simp only[aM]at h;split at h
  ·rename_i _ hx hy;injection h with h;subst h;simp only[mm,SC.vp,rM x _ hx,rM y _ hy]
  ·cases h
 | .block _ x,sc,h=>by
  simp only[aM,Qb]at h;obtain⟨x',hx,rfl⟩:=h;simp only[mm,SC.vp,rM x _ hx]
 | .loop x,sc,h=>by
  simp only[aM,Qb]at h;obtain⟨x',hx,rfl⟩:=h;simp only[mm,SC.vp,rM x _ hx]
 | .rangeFunc g ps x y,sc,h=>by
  simp only[aM]at h;split at h
  ·rename_i _ hx hy;split at h
   ·injection h with h;subst h;simp only[mm,SC.vp,rM x _ hx,rM y _ hy]
   ·cases h
  ·cases h
 | .goto _,sc,h=>by simp only[aM]at h;cases h
 | .scope _,sc,h=>by simp only[aM]at h;cases h
 | .label _,sc,h=>by simp only[aM]at h;cases h
 | .refuse _,sc,h=>by simp only[aM]at h;cases h
def EK(fN:Nat)(c:Int):SC:=
 .seq (.xu [⟨some 2,none,.lI (.oY (.int .i64 0))⟩,⟨some 3,none,.lI (.oY (.bool true))⟩])
  (.block 0 (.loop (.seq (.seq (.xu [⟨some 4,none,.lI (.tmp 3)⟩]) (.cond (.tmp 4) .skip (.exit 0)))
   (.seq (.block 1 (.seq (.xu [⟨some 10,none,.lI (.tmp 0)⟩,⟨some 11,none,.lI (.tmp 2)⟩,⟨some 12,none,.vb (.tmp 10) [.tmp 11]⟩,⟨some 13,none,.not (.tmp 12)⟩]) (.cond (.tmp 13) .ret .skip)))
    (.xu [⟨some 6,none,.lI (.tmp 2)⟩,⟨some 7,none,.call fN [.tmp 6,.oY (.int .i64 c)]⟩,⟨some 5,none,.lI (.tmp 7)⟩,⟨some 8,none,.vy 0 (.tmp 5)⟩,⟨some 9,none,.vy 1 (.tmp 5)⟩,⟨some 2,none,.lI (.tmp 8)⟩,⟨some 3,none,.lI (.tmp 9)⟩])))))
end
end
section
section
variable {U : TU}
inductive dI (U:TU) where
 |ty (T:U.Ty)
 |bY (f:FuncId) (cs:List (dI U))
 |ref (a:dI U)
 |agg (cs:List (dI U))
inductive pW (U:TU) where
 |one (T:U.Ty)
 |many (Ts:List U.Ty)
 |fn (a:dI U)
@[reducible] def Fw (U:TU):List U.Ty->Type
 |[]=>Unit
 |T::l=>U.den T×Fw U l
mutual
@[reducible] def dI.den:dI U->Type
 | .ty T=>U.den T
 | .bY _ cs=>fq cs
 | .ref a=>a.den
 | .agg cs=>fq cs
@[reducible] def fq:List (dI U)->Type
 |[]=>Unit
 |a::l=>a.den×fq l
end
@[reducible] def pW.den:pW U->Type
 | .one T=>U.den T
 | .many Ts=>Fw U Ts
 | .fn a=>a.den
def C9:(Ts:List U.Ty)->Fw U Ts->List PV
 |[],_=>[]
 |T::l,v=>fF T v.1::C9 l v.2
mutual
def mn:(a:dI U)->a.den->PV
 | .ty T,v=>fF T v
 | .bY f cs,v=> .bY f (fZ cs v)
 | .ref a,v=> .ref (o8 a v)
 | .agg cs,v=> .agg (fZ cs v)
def o8:(a:dI U)->a.den->List PV
 | .ty T,v=>U.pv T v
 | .bY f cs,v=>[.bY f (fZ cs v)]
 | .ref a,v=>[.ref (o8 a v)]
 | .agg cs,v=>fZ cs v
def fZ:(A_s:List (dI U))->fq A_s->List PV
 |[],_=>[]
 |a::l,v=>mn a v.1::fZ l v.2
end
def vq:(r:pW U)->r.den->PV
 | .one T,v=>fF T v
 | .many Ts,v=> .dg (C9 Ts v)
 | .fn a,v=>mn a v
variable (K : TK U)
def tsK:(Ts:List U.Ty)->Fw U Ts->List (KV U)
 |[],_=>[]
 |T::l,v=>F6 K T v.1::tsK l v.2
mutual
def KL:(a:dI U)->a.den->KV U
 | .ty T,v=>F6 K T v
 | .bY f cs,v=> .bY f (Au cs v)
 | .ref a,v=> .ref (Fs a v)
 | .agg cs,v=> .agg (Au cs v)
def Fs:(a:dI U)->a.den->List (KV U)
 | .ty T,v=>K.eI T v
 | .bY f cs,v=>[.bY f (Au cs v)]
 | .ref a,v=>[.ref (Fs a v)]
 | .agg cs,v=>Au cs v
def Au:(A_s:List (dI U))->fq A_s->List (KV U)
 |[],_=>[]
 |a::l,v=>KL a v.1::Au l v.2
end
def Ru:(r:pW U)->r.den->KV U
 | .one T,v=>F6 K T v
 | .many Ts,v=> .dg (tsK K Ts v)
 | .fn a,v=>KL K a v
theorem Ye:∀(Ts:List U.Ty) (v:Fw U Ts),(tsK K Ts v).map KV.pv=C9 Ts v
 |[],_=>rfl
 |T::l,v=>by rw[tsK,C9,QD,DD,Ye l v.2]
mutual
theorem VV:∀(a:dI U) (v:a.den),(KL K a v).pv=mn a v
 | .ty T,v=>by rw[KL,mn];exact DD K T v
 | .bY f cs,v=>by rw[KL,mn,KV.pv,KV.cx,B7 cs v]
 | .ref a,v=>by rw[KL,mn,KV.pv,KV.cx,TV a v]
 | .agg cs,v=>by rw[KL,mn,KV.pv,KV.cx,B7 cs v]
theorem TV:∀(a:dI U) (v:a.den),(Fs K a v).map KV.pv=o8 a v
 | .ty T,v=>by rw[Fs,o8];exact K.oX T v
 | .bY f cs,v=>by rw[Fs,o8,QD,QO,KV.pv,KV.cx,B7 cs v]
 | .ref a,v=>by rw[Fs,o8,QD,QO,KV.pv,KV.cx,TV a v]
 | .agg cs,v=>by rw[Fs,o8,B7 cs v]
theorem B7:∀(A_s:List (dI U)) (v:fq A_s),(Au K A_s v).map KV.pv=fZ A_s v
 |[],_=>by rw[Au,fZ];rfl
 |a::l,v=>by rw[Au,fZ,QD,VV a v.1,B7 l v.2]
end
theorem Lb:∀(r:pW U) (v:r.den),(Ru K r v).pv=vq r v
 | .one T,v=>DD K T v
 | .many Ts,v=>by rw[Ru,vq,KV.pv,KV.cx,Ye]
 | .fn a,v=>VV K a v
def P7(lk:Lk U):(Ts:List U.Ty)->List (KV U)->Option (Fw U Ts)
 |[],xs=>match xs with|[]=>some ()|_=>none
 |T::l,xs=>match xs with
  |x::xs=>(match Cv K lk T x with
   |some v=>(match P7 lk l xs with|some vs=>some (v,vs)|none=>none)
   |none=>none)
  |[]=>none
def KV.PZ:KV U->Bool
 | .dW=>false
 |_=>true
def Xj:Option Nat->Nat->Bool
 |none,_=>true
 |some i,id=> !Nat.beq i id
def zL:List (KV U)->KV U
 |[x]=>x
 |_=> .any
def Fg(T:U.Ty)(cs:List (KV U)):Option (U.den T):=
 match cs.all KV.PZ with
 |true=>K.dec T nL cs
 |false=>none
def H7{α:Type}(f:FuncId)(x:KV U)(k:List (KV U)->Option α):Option α:=
 match x with
 | .bY g caps=>(match Nat.beq g f with|true=>k caps|false=>none)
 |_=>none
def LC{α:Type}(x:KV U)(k:List (KV U)->Option α):Option α:=
 match x with
 | .agg cs=>k cs
 |_=>none
def PW{α:Type}(x:KV U)(k:List (KV U)->Option α):Option α:=
 match x with
 | .ref cs=>k cs
 |_=>none
def PY(xs:List (KV U)):Option Unit:=
 match xs with
 |[]=>some ()
 |_=>none
def LB{α β:Type}(xs:List (KV U))(k:KV U->Option α)(m:List (KV U)->Option β):Option (α×β):=
 match xs with
 |x::l=>(match k x with
  |some v=>(match m l with|some vs=>some (v,vs)|none=>none)
  |none=>none)
 |[]=>none
def PX{α:Type}(S:aZ U)(ex:Option Nat)(x:KV U)(k0 k1:List (KV U)->Option α):Option α:=
 match x with
 | .ref cells=>k0 cells
 | .ptr id ak off=>(match Nat.beq off 0&&Xj ex id with
  |true=>(match Nat.beq (S.H id).ak ak with
   |true=>(match(S.H id).c with
    | .box cells=>k1 cells
    |_=>none)
   |false=>none)
  |false=>none)
 |_=>none
theorem A8{α:Type}{f:FuncId}{x:KV U}{k:List (KV U)->Option α}{r:α}(h:H7 f x k=some r):∃caps,x= .bY f caps/\k caps=some r:=by
 unfold H7 at h;split at h
 ·split at h
  ·rename_i hg;exact⟨_,by rw[QF hg],h⟩
  ·cases h
 ·cases h
theorem EN{α:Type}{x:KV U}{k:List (KV U)->Option α}{r:α}(h:LC x k=some r):∃cs,x= .agg cs/\k cs=some r:=by
 unfold LC at h;split at h
 ·exact⟨_,rfl,h⟩
 ·cases h
theorem Lx{α:Type}{x:KV U}{k:List (KV U)->Option α}{r:α}(h:PW x k=some r):∃cs,x= .ref cs/\k cs=some r:=by
 unfold PW at h;split at h
 ·exact⟨_,rfl,h⟩
 ·cases h
theorem LA{xs:List (KV U)}{r:Unit}(h:PY xs=some r):xs=[]:=by
 unfold PY at h;split at h
 ·rfl
 ·cases h
theorem Jf{α β:Type}{xs:List (KV U)}{k:KV U->Option α}{m:List (KV U)->Option β}{r:α×β}(h:LB xs k m=some r):∃x l,xs=x::l/\k x=some r.1/\m l=some r.2:=by
 unfold LB at h;split at h
 ·split at h
  ·rename_i h1;split at h
   ·rename_i h2;injection h with h
    subst h;exact⟨_,_,rfl,h1,h2⟩
   ·cases h
  ·cases h
 ·cases h
theorem Ly{α:Type}{S:aZ U}{ex:Option Nat}{x:KV U}{k0 k1:List (KV U)->Option α}{r:α}(h:PX S ex x k0 k1=some r):
  (∃cs,x= .ref cs/\k0 cs=some r)\/∃id ak cells,x= .ptr id ak 0/\Xj ex id=true/\(S.H id).ak=ak/\(S.H id).c= .box cells/\k1 cells=some r:=by
 unfold PX at h;split at h
 ·exact .inl ⟨_,rfl,h⟩
 ·split at h
  ·rename_i hoff;rw[Qm]at hoff;split at h
   ·rename_i hver;split at h
    ·rename_i hc;exact .inr ⟨_,_,_,by rw[QF hoff.1],hoff.2,QF hver,hc,h⟩
    ·cases h
   ·cases h
  ·cases h
 ·cases h
mutual
def Il:(a:dI U)->KV U->Option a.den
 | .ty T,x=>(match U.agg T with
  |true=>LC x fun cs=>Fg K T cs
  |false=>Fg K T [x])
 | .bY f cs,x=>H7 f x fun caps=>Ap cs caps
 | .ref a,x=>PW x fun cells=>Bi a cells
 | .agg cs,x=>LC x fun cells=>Ap cs cells
def Bi:(a:dI U)->List (KV U)->Option a.den
 | .ty T,cells=>Fg K T cells
 | .bY f cs,cells=>H7 f (zL cells) fun caps=>Ap cs caps
 | .ref a,cells=>PW (zL cells) fun cells=>Bi a cells
 | .agg cs,cells=>Ap cs cells
def Ap:(A_s:List (dI U))->List (KV U)->Option (fq A_s)
 |[],xs=>PY xs
 |a::l,xs=>LB xs (fun x=>Il a x) fun xs=>Ap l xs
end
mutual
def KD(S:aZ U)(ex:Option Nat):(a:dI U)->KV U->Option a.den
 | .ty T,x=>Cv K S.lk T x
 | .bY f cs,x=>H7 f x fun caps=>p8 S ex cs caps
 | .ref a,x=>PX S ex x (fun cells=>Bi K a cells) fun cells=>KC S ex a cells
 | .agg cs,x=>LC x fun cells=>p8 S ex cs cells
def KC(S:aZ U)(ex:Option Nat):(a:dI U)->List (KV U)->Option a.den
 | .ty T,cells=>K.dec T S.lk cells
 | .bY f cs,cells=>H7 f (zL cells) fun caps=>p8 S ex cs caps
 | .ref a,cells=>PX S ex (zL cells) (fun cells=>Bi K a cells) fun cells=>KC S ex a cells
 | .agg cs,cells=>p8 S ex cs cells
def p8(S:aZ U)(ex:Option Nat):(A_s:List (dI U))->List (KV U)->Option (fq A_s)
 |[],xs=>PY xs
 |a::l,xs=>LB xs (fun x=>KD S ex a x) fun xs=>p8 S ex l xs
end
mutual
def dI.depth:dI U->Nat
 | .ty _=>2
 | .bY _ cs=>ny cs+1
 | .ref a=>a.depth+1
 | .agg cs=>ny cs+1
def ny:List (dI U)->Nat
 |[]=>2
 |a::l=>max a.depth (ny l)
end
def pW.plain:pW U->Bool
 | .one T=>U.plain T
 | .many Ts=>Ts.all U.plain
 | .fn _=>false
def dI.ab1:dI U->Bool
 | .ref _=>true
 |_=>false
def pW.ok:pW U->Bool
 | .fn (.bY _ cs)=>cs.all dI.ab1
 | .fn _=>false
 |_=>true
theorem adQ{H:Nat->fE}{ex:Option Nat}:∀(n:Nat) {y:PV},y.eH=true->fz H ex n y=y
 |0,y,h=>by cases y<;>simp[PV.eH]at h<;>simp[fz,PV.closed]
 |n+1,y,h=>by cases y<;>simp[PV.eH]at h<;>simp[fz,PV.closed]
theorem aa3{H:Nat->fE}{ex:Option Nat}(n:Nat){l:List PV}(h:∀y∈l,y.eH=true):l.map (fz H ex n)=l:=by
 induction l with
 |nil=>rfl
 |cons x l ih=>rw[QD,adQ n (h x (by simp)),ih fun y hy=>h y (by simp[hy])]
theorem Vr{S:aZ U}{id ak:Nat}{T:U.Ty}{xs:List (U.den T)}(h:S.lk id ak T=some xs):(S.H id).ak=ak/\∃e k,(S.H id).c= .row e k T xs:=by
 unfold aZ.lk at h;split at h
 ·rename_i hv;split at h
  ·rename_i e k T' ys hc;obtain⟨eq,rfl⟩:=o5 h;subst eq;exact⟨QF hv,e,k,hc⟩
  ·cases h
 ·cases h
variable {K}
variable {S : aZ U} {ex : Option Nat}
theorem aee(hex:∀id,ex=some id->∀e k T xs,(S.H id).c≠ .row e k T xs)(n:Nat){x:KV U}{y:PV}(h:jT S.lk x y)(K:TK U):fz S.st.H ex (n+1) x.pv=y:=by
 cases h with
 |int=>simp[KV.pv,fz,PV.closed]
 |bool=>simp[KV.pv,fz,PV.closed]
 |str=>simp[KV.pv,fz,PV.closed]
 |dW=>simp[KV.pv,fz]
 |sl T xs=>simp[KV.pv,fz,PV.closed]
 |jg A B xs=>simp[KV.pv,fz,PV.closed]
 |mX=>simp[KV.pv,fz,PV.closed]
 |jw T x=>simp[KV.pv,fz,PV.closed]
 |Tr=>simp[KV.pv,fz,PV.closed]
 |own id ak T xs h=>
  obtain⟨hv,e,k,hc⟩:=Vr h
  have hne:¬(some id=ex\/(S.st.H id).ak≠ak):=by
   rintro(h1|h1)
   ·exact hex id h1.symm _ _ _ _ hc
   ·exact h1 hv
  have hcp:(S.st.H id).c= .row e k (xs.map (U.pv T)):=by simp[aZ.st,dp.pv,hc,ea.pv]
  simp only[KV.pv,fz];rw[Qs hne,hcp];simp only[List.map_map];congr 1;refine Qq70 fun v _=> ?_
  exact aa3 n fun y hy=>K.eH T v y hy
theorem KH(hex:∀id,ex=some id->∀e k T xs,(S.H id).c≠ .row e k T xs)(n:Nat){xs:List (KV U)}{ys:List PV}(h:gM S.lk xs ys)(K:TK U):(xs.map KV.pv).map (fz S.st.H ex (n+1))=ys:=by
 induction h with
 |nil=>rfl
 |cons h _ ih=>rw[QD,QD,aee hex n h K,ih]
theorem JG(hex:∀id,ex=some id->∀e k T xs,(S.H id).c≠ .row e k T xs)(n:Nat){T:U.Ty}{x:KV U}{v:U.den T}(h:Cv K S.lk T x=some v):fz S.st.H ex (n+2) x.pv=fF T v:=by
 unfold Cv at h;unfold fF;split at h
 ·rename_i ha;split at h
  ·rename_i cs;simp only[KV.pv,KV.cx,fz,KH hex n (K.l9 _ _ _ _ h) K]
  ·cases h
 ·rename_i ha;have h1:=KH hex (n+1) (K.l9 _ _ _ _ h) K;simp only[QD,QO]at h1;simp only[<-h1,List.headD_cons]
theorem TA(hex:∀id,ex=some id->∀e k T xs,(S.H id).c≠ .row e k T xs)(n:Nat):∀(Ts:List U.Ty) (xs:List (KV U)) (v:Fw U Ts),P7 K S.lk Ts xs=some v->(xs.map KV.pv).map (fz S.st.H ex (n+2))=C9 Ts v
 |[],[],_,_=>rfl
 |[],_::_,_,h=>by cases h
 |T::l,[],_,h=>by cases h
 |T::l,x::xs,v,h=>by
  rw[P7]at h;split at h
  ·rename_i v1 h1;split at h
   ·rename_i vs h2;injection h with h
    subst h;rw[QD,QD,C9,JG hex n h1,TA hex n l xs vs h2]
   ·cases h
  ·cases h
theorem Yg{xs:List (KV U)}{ys:List PV}(h:gM nL xs ys):xs.all KV.PZ=true->xs.map KV.pv=ys:=by
 induction h with
 |nil=>intro _;rfl
 |cons hc _ ih=>
  intro hn;rw[Qq69,Qm]at hn;rw[QD,ih hn.2];congr 1
  cases hc with
  |dW=>cases hn.1
  |own _ _ _ _ h=>cases h
  |_=>rfl
theorem KA{T:U.Ty}{cs:List (KV U)}{v:U.den T}(h:Fg K T cs=some v):cs.map KV.pv=U.pv T v:=by
 unfold Fg at h;split at h
 ·rename_i hn;exact Yg (K.l9 _ _ _ _ h) hn
 ·cases h
theorem MB{cs:List (KV U)}{f:FuncId}{caps:List (KV U)}(h:zL cs= .bY f caps):cs=[.bY f caps]:=by
 unfold zL at h;split at h
 ·rw[h]
 ·cases h
theorem ON{cs cells:List (KV U)}(h:zL cs= .ref cells):cs=[.ref cells]:=by
 unfold zL at h;split at h
 ·rw[h]
 ·cases h
theorem Zm{cs:List (KV U)}{id ak off:Nat}(h:zL cs= .ptr id ak off):cs=[.ptr id ak off]:=by
 unfold zL at h;split at h
 ·rw[h]
 ·cases h
mutual
theorem abc:∀(a:dI U) (x:KV U) (v:a.den),Il K a x=some v->x.pv=mn a v
 | .ty T,x,v,h=>by
  rw[Il]at h;rw[mn];split at h
  ·rename_i ha;obtain⟨cs,rfl,h⟩:=EN h;rw[KV.pv,KV.cx,KA h,fF,ha]
  ·rename_i ha;have:=KA h;rw[fF,ha,<-this];rfl
 | .bY f cs,x,v,h=>by
  rw[Il]at h;rw[mn];obtain⟨caps,rfl,h'⟩:=A8 h;rw[KV.pv,KV.cx,Ao cs caps v h']
 | .ref a,x,v,h=>by
  rw[Il]at h;rw[mn];obtain⟨cells,rfl,h⟩:=Lx h;rw[KV.pv,KV.cx,Fh a cells v h]
 | .agg cs,x,v,h=>by
  rw[Il]at h;rw[mn];obtain⟨cells,rfl,h⟩:=EN h;rw[KV.pv,KV.cx,Ao cs cells v h]
theorem Fh:∀(a:dI U) (cs:List (KV U)) (v:a.den),Bi K a cs=some v->cs.map KV.pv=o8 a v
 | .ty T,cs,v,h=>by rw[Bi]at h;rw[o8];exact KA h
 | .bY f cs,cells,v,h=>by
  rw[Bi]at h;rw[o8];obtain⟨caps,hh,h⟩:=A8 h;rw[MB hh,QD,QO,KV.pv,KV.cx,Ao cs caps v h]
 | .ref a,cells,v,h=>by
  rw[Bi]at h;rw[o8];obtain⟨cells',hh,h⟩:=Lx h;rw[ON hh,QD,QO,KV.pv,KV.cx,Fh a cells' v h]
 | .agg cs,cells,v,h=>by
  rw[Bi]at h;rw[o8];exact Ao cs cells v h
theorem Ao:∀(A_s:List (dI U)) (xs:List (KV U)) (v:fq A_s),Ap K A_s xs=some v->xs.map KV.pv=fZ A_s v
 |[],xs,v,h=>by
  rw[Ap]at h;rw[fZ,LA h];rfl
 |a::l,xs,v,h=>by
  rw[Ap]at h;rw[fZ];obtain⟨x,xs,rfl,h1,h2⟩:=Jf h;rw[QD,abc a x v.1 h1,Ao l xs v.2 h2]
end
mutual
theorem VJ(hex:∀id,ex=some id->∀e k T xs,(S.H id).c≠ .row e k T xs):∀(a:dI U) (n:Nat) (x:KV U) (v:a.den),a.depth<=n->KD K S ex a x=some v->fz S.st.H ex n x.pv=mn a v
 | .ty T,n,x,v,hd,h=>by
  rw[KD]at h;rw[mn];rw[dI.depth]at hd;obtain⟨m,rfl⟩:∃m,n=m+2:=⟨n - 2,by omega⟩
  exact JG hex m h
 | .bY f cs,n,x,v,hd,h=>by
  rw[KD]at h;rw[mn];rw[dI.depth]at hd;obtain⟨m,rfl⟩:∃m,n=m+1:=⟨n - 1,by omega⟩
  obtain⟨caps,rfl,h'⟩:=A8 h;rw[KV.pv,KV.cx,fz,lp hex cs m caps v (by omega) h']
 | .ref a,n,x,v,hd,h=>by
  rw[KD]at h;rw[mn];rw[dI.depth]at hd;obtain⟨m,rfl⟩:∃m,n=m+1:=⟨n - 1,by omega⟩
  rcases Ly h with⟨cells,rfl,h⟩|⟨id,ak,cells,rfl,hex2,hver,hc,h⟩
  ·rw[KV.pv,KV.cx,Fh a cells v h];simp[fz,PV.closed]
  ·have hne:¬(some id=ex\/(S.st.H id).ak≠ak):=by
    rintro(h1|h1)
    ·rw[<-h1]at hex2;simp[Xj]at hex2
    ·exact h1 hver
   have hcp:(S.st.H id).c= .box (cells.map KV.pv):=by simp[aZ.st,dp.pv,hc,ea.pv]
   simp only[KV.pv,fz];rw[Qs hne,hcp];simp only[List.drop_zero];rw[VI hex a m cells v (by omega) h]
 | .agg cs,n,x,v,hd,h=>by
  rw[KD]at h;rw[mn];rw[dI.depth]at hd;obtain⟨m,rfl⟩:∃m,n=m+1:=⟨n - 1,by omega⟩
  obtain⟨caps,rfl,h'⟩:=EN h;rw[KV.pv,KV.cx,fz,lp hex cs m caps v (by omega) h']
theorem VI(hex:∀id,ex=some id->∀e k T xs,(S.H id).c≠ .row e k T xs):∀(a:dI U) (n:Nat) (cs:List (KV U)) (v:a.den),a.depth<=n->KC K S ex a cs=some v->(cs.map KV.pv).map (fz S.st.H ex n)=o8 a v
 | .ty T,n,cs,v,hd,h=>by
  rw[KC]at h;rw[o8];rw[dI.depth]at hd;obtain⟨m,rfl⟩:∃m,n=m+1:=⟨n - 1,by omega⟩
  exact KH hex m (K.l9 _ _ _ _ h) K
 | .bY f cs,n,cells,v,hd,h=>by
  rw[KC]at h;rw[o8];rw[dI.depth]at hd;obtain⟨m,rfl⟩:∃m,n=m+1:=⟨n - 1,by omega⟩
  obtain⟨caps,hh,h⟩:=A8 h;rw[MB hh,QD,QO,QD,QO,KV.pv,KV.cx,fz,lp hex cs m caps v (by omega) h]
 | .ref a,n,cells,v,hd,h=>by
  rw[KC]at h;rw[o8];rw[dI.depth]at hd;obtain⟨m,rfl⟩:∃m,n=m+1:=⟨n - 1,by omega⟩
  rcases Ly h with⟨cells',hh,h⟩|⟨id,ak,cells',hh,hex2,hver,hc,h⟩
  ·rw[ON hh,QD,QO,KV.pv,KV.cx,Fh a cells' v h];simp[fz,PV.closed]
  ·have hne:¬(some id=ex\/(S.st.H id).ak≠ak):=by
    rintro(h1|h1)
    ·rw[<-h1]at hex2;simp[Xj]at hex2
    ·exact h1 hver
   have hcp:(S.st.H id).c= .box (cells'.map KV.pv):=by simp[aZ.st,dp.pv,hc,ea.pv]
   rw[Zm hh];simp only[QD,QO,KV.pv,fz];rw[Qs hne,hcp];simp only[List.drop_zero];rw[VI hex a m cells' v (by omega) h]
 | .agg cs,n,cells,v,hd,h=>by
  rw[KC]at h;rw[o8];rw[dI.depth]at hd;exact lp hex cs n cells v (by omega) h
theorem lp(hex:∀id,ex=some id->∀e k T xs,(S.H id).c≠ .row e k T xs):∀(A_s:List (dI U)) (n:Nat) (xs:List (KV U)) (v:fq A_s),ny A_s<=n->p8 K S ex A_s xs=some v->(xs.map KV.pv).map (fz S.st.H ex n)=fZ A_s v
 |[],n,xs,v,hd,h=>by
  rw[p8]at h;rw[fZ,LA h];rfl
 |a::l,n,xs,v,hd,h=>by
  rw[p8]at h;rw[fZ];rw[ny]at hd;obtain⟨x,xs,rfl,h1,h2⟩:=Jf h;rw[QD,QD,VJ hex a n x v.1 (by omega) h1,lp hex l n xs v.2 (by omega) h2]
end
theorem rN{xs:List (KV U)}{ys:List PV}(h:gM nL xs ys):(xs.map KV.pv).map nz=ys/\xs.all KV.closed=true:=by
 induction h with
 |nil=>exact⟨rfl,rfl⟩
 |cons h _ ih=>
  obtain⟨h1,h2⟩:=ih;simp only[QD,Qq69,h1,h2,Bool.and_true]
  cases h with
  |own _ _ _ _ h=>cases h
  |_=>simp[KV.pv,nz,KV.closed]
def aZ.NU(S:aZ U)(id ak:Nat):aZ U:={env:=S.env,H:=fu S.H id ⟨ak,.dead⟩,N:=S.N}
theorem acd{H H':Nat->fE}{ex:Option Nat}(h:∀j,some j≠ex->H' j=H j):∀(n:Nat) (y:PV),fz H' ex n y=fz H ex n y
 |0,y=>by simp only[fz]
 |n+1,y=>by
  have hm:fz H' ex n=fz H ex n:=funext (acd h n)
  cases y with
  |own id ak=>
   simp only[fz,hm]
   by_cases h0:some id=ex
   ·rw[Qr (.inl h0),Qr (.inl h0)]
   ·rw[h id h0]
  |ptr id ak off=>
   simp only[fz,hm]
   by_cases h0:some id=ex
   ·rw[Qr (.inl h0),Qr (.inl h0)]
   ·rw[h id h0]
  |agg cs=>simp only[fz,hm]
  |dg cs=>simp only[fz,hm]
  |bY f cs=>simp only[fz,hm]
  |_=>simp only[fz]
theorem Vx(S:aZ U)(id ak n:Nat)(y:PV):fz (S.NU id ak).st.H (some id) n y=fz S.st.H (some id) n y:=by
 refine acd (fun j hj=> ?_) n y
 have:j≠id:=fun e=>hj (by rw[e])
 simp only[aZ.NU,aZ.st,cP,cu _ _ this]
theorem S8(S:aZ U)(id ak:Nat):∀j,some id=some j->∀e k T xs,((S.NU id ak).H j).c≠ .row e k T xs:=by
 intro j hj e k T xs;injection hj with hj
 subst hj;simp only[aZ.NU,cP,bZ];intro h;cases h
inductive eJ (U:TU) where
 |rw(f:FuncId) (e k:Nat) (T:U.Ty) (A_s:List (dI U)) (rs:pW U) (F:List (U.den T)->fq A_s->Option (rs.den×List (U.den T)))
 |cw (f:FuncId) (e k:Nat) (T:U.Ty) (A_s:List (dI U)) (F:List (U.den T)->fq A_s->Option (List (U.den T)))
 |fw (f:FuncId) (A_s:List (dI U)) (e k:Nat) (T:U.Ty) (F:fq A_s->Option (List (U.den T)))
 |fn (f:FuncId) (A_s:List (dI U)) (rs:pW U) (F:fq A_s->Option rs.den)
 |rc (f:FuncId) (pos:Nat) (R:U.Ty) (A_s:List (dI U)) (rs:pW U) (F:U.den R->fq A_s->Option (rs.den×U.den R))
 |nw (f:FuncId) (A_s:List (dI U)) (R:U.Ty) (F:fq A_s->Option (U.den R))
 |ro (f:FuncId) (pos:Nat) (R:U.Ty) (A_s:List (dI U)) (rs:pW U) (F:U.den R->fq A_s->Option (rs.den×U.den R))
 |r2 (f:FuncId) (R1 R2:U.Ty) (F:U.den R1->U.den R2->Option (U.den R1×U.den R2))
 |pr (f g:FuncId) (A_s:List (dI U)) (e k:Nat) (T:U.Ty) (F:fq A_s->Option (List (U.den T)))
 |it (f fN:Nat) (c:Int) (F:Int->Option (Int×Bool×Unit))
def eJ.Sound(P:Program):eJ U->Prop
 | .rw f e k T A_s rs F=>Enters P f/\∀xs a r ys,F xs a=some (r,ys)->XY P f e k (xs.map (U.pv T)) (fZ A_s a) (vq rs r) (ys.map (U.pv T))
 | .cw f e k T A_s F=>Enters P f/\∀xs a ys,F xs a=some ys->Uc P f e k (xs.map (U.pv T)) (fZ A_s a) (ys.map (U.pv T))
 | .fw f A_s e k T F=>Enters P f/\∀a ys,F a=some ys->abE P f (fZ A_s a) e k (ys.map (U.pv T))
 | .fn f A_s rs F=>Enters P f/\∀a r,F a=some r->M4 P f false [] (fZ A_s a) (vq rs r) []
 | .rc f pos R A_s rs F=>Enters P f/\∀s a r s',F s a=some (r,s')->Iw P f pos true (U.pv R s) (fZ A_s a) (vq rs r) (U.pv R s')
 | .ro f pos R A_s rs F=>Enters P f/\∀s a r s',F s a=some (r,s')->s'=s/\Iw P f pos true (U.pv R s) (fZ A_s a) (vq rs r) (U.pv R s')
 | .nw f A_s R F=>Enters P f/\∀a s,F a=some s->XZ P f (fZ A_s a) (U.pv R s)
 | .r2 f R1 R2 F=>Enters P f/\∀s t s' t',F s t=some (s',t')->abF P f (U.pv R1 s) (U.pv R2 t) (U.pv R1 s') (U.pv R2 t')
 | .pr f g A_s e k T F=>(Enters P f/\Enters P g)/\∀a ys,F a=some ys->abD P f g (fZ A_s a) e k (ys.map (U.pv T))
 | .it f fN c F=>nU P f 14 (EK fN c) []/\Enters P fN/\∀s q,F s=some q->M4 P fN false [] [.int .i64 s,.int .i64 c] (.dg [.int .i64 q.1,.bool q.2.1]) []
def vH(P:Program):List (eJ U)->Prop
 |[]=>True
 |f::l=>f.Sound P/\vH P l
def Hf(f:Nat):List (eJ U)->Option (Int->Option (Int×Bool×Unit))
 |[]=>none
 | .it f' _ _ F::Γ=>(match Nat.beq f f' with|true=>some F|false=>Hf f Γ)
 |_::Γ=>Hf f Γ
theorem He{P:Program}{f:Nat}{F:Int->Option (Int×Bool×Unit)}:∀{Γ:List (eJ U)},vH P Γ->Hf f Γ=some F->∃(fN:Nat) (c:Int),nU P f 14 (EK fN c) []/\Enters P fN/\∀s q,F s=some q->M4 P fN false [] [.int .i64 s,.int .i64 c] (.dg [.int .i64 q.1,.bool q.2.1]) []
 |[],_,h=>by cases h
 | .it f' fN c F'::Γ,hΓ,h=>by
  simp only[Hf]at h;split at h
  ·rename_i hf;have hf:=QF hf;injection h with h
   subst hf h;exact⟨fN,c,hΓ.1⟩
  ·exact He hΓ.2 h
 | .ro ..::Γ,hΓ,h| .rw ..::Γ,hΓ,h| .cw ..::Γ,hΓ,h| .fw ..::Γ,hΓ,h| .fn ..::Γ,hΓ,h| .rc ..::Γ,hΓ,h| .nw ..::Γ,hΓ,h| .r2 ..::Γ,hΓ,h| .pr ..::Γ,hΓ,h=>He (Γ:=Γ) hΓ.2 h
theorem Tc{y:PV}(h:y.eH=true):y.closed=true:=by
 cases y<;>first|rfl|cases h
open Classical in
 def mZ(recv:Bool)(pos:Nat)(fresh ro:Bool)(cs args:List PV)(r:PV)(cs':List PV):Model:=
 {recv:=recv,pos:=pos,fresh:=fresh,m:=fun c a=>if c=cs/\a=args then some (r,cs')else none,rk:= .no,ro:=ro,rm:=fun _ _=>none}
open Classical in
 def A7(rk:RK)(es:List (List PV))(args:List PV)(r:PV)(es':List (List PV)):Model:=
 {recv:=false,pos:=0,fresh:=false,m:=fun _ _=>none,rk:=rk,ro:=false,rm:=fun c a=>if c=es/\a=args then some (r,es')else none}
 def oT(f:FuncId)(m:Model):mR:=fun g=>if g=f then some m else none
theorem rp{P:Program}{f:FuncId}{m:Model}(h:ZW P f m):lR P (oT f m):=by
 intro g m' hg;unfold oT at hg;split at hg
 ·rename_i e;subst e;injection hg with hg;subst hg;exact h
 ·cases hg
theorem rq(f:FuncId)(m:Model):oT f m f=some m:=Qr rfl
def aZ.oE(S:aZ U)(id ak:Nat):Option (List (KV U)):=
 match Nat.beq (S.H id).ak ak with
 |true=>match(S.H id).c with
  | .box cs=>some cs
  |_=>none
 |false=>none
theorem Ar{id ak:Nat}{cs:List (KV U)}(h:S.oE id ak=some cs):(S.H id).ak=ak/\(S.H id).c= .box cs:=by
 unfold aZ.oE at h;split at h
 ·rename_i hv;split at h
  ·rename_i hc;injection h with h;subst h;exact⟨QF hv,hc⟩
  ·cases h
 ·cases h
structure aby (U:TU) where
 e:Nat
 k:Nat
 T:U.Ty
 xs:List (U.den T)
def aZ.row?(S:aZ U)(id ak:Nat):Option (aby U):=
 match Nat.beq (S.H id).ak ak with
 |true=>match(S.H id).c with
  | .row e k T xs=>some ⟨e,k,T,xs⟩
  |_=>none
 |false=>none
theorem Gr{id ak:Nat}{r:aby U}(h:S.row? id ak=some r):(S.H id).ak=ak/\(S.H id).c= .row r.e r.k r.T r.xs:=by
 unfold aZ.row? at h;split at h
 ·rename_i hv;split at h
  ·rename_i hc;injection h with h;subst h;exact⟨QF hv,hc⟩
  ·cases h
 ·cases h
theorem mO{id ak:Nat}{r:aby U}(h:S.row? id ak=some r):(S.st.H id).ak=ak/\(S.st.H id).c= .row r.e r.k (r.xs.map (U.pv r.T)):=by
 obtain⟨h1,h2⟩:=Gr h;exact⟨h1,by simp[aZ.st,dp.pv,h2,ea.pv]⟩
structure af3 (U:TU) where
 e:Nat
 k:Nat
 es:List (List (KV U))
def aZ.RD(S:aZ U)(id ak:Nat):Option (af3 U):=
 match Nat.beq (S.H id).ak ak with
 |true=>match(S.H id).c with
  | .raw e k es=>some ⟨e,k,es⟩
  |_=>none
 |false=>none
theorem RC{id ak:Nat}{r:af3 U}(h:S.RD id ak=some r):(S.st.H id).ak=ak/\(S.st.H id).c= .row r.e r.k (r.es.map fun c=>c.map KV.pv):=by
 unfold aZ.RD at h;split at h
 ·rename_i hv;split at h
  ·rename_i hc;injection h with h
   subst h;exact⟨QF hv,by simp[aZ.st,dp.pv,hc,ea.pv]⟩
  ·cases h
 ·cases h
def PU{α:Type}(S:aZ U)(e k:Nat)(T:U.Ty)(args:List (KV U))(j:Nat->Nat->List (U.den T)->List (KV U)->Option α):Option α:=
 match args with
 | .own id ak::rest=>(match S.row? id ak with
  |some r=>(match Nat.beq r.e e&&Nat.beq r.k k with
   |true=>(match wm r.T T r.xs with|some xs=>j id ak xs rest|none=>none)
   |false=>none)
  |none=>none)
 |_=>none
theorem Lw{α:Type}{e k:Nat}{T:U.Ty}{args:List (KV U)}{j:Nat->Nat->List (U.den T)->List (KV U)->Option α}{r:α}(h:PU S e k T args j=some r):
  ∃id ak xs rest,args= .own id ak::rest/\(S.H id).ak=ak/\(S.H id).c= .row e k T xs/\j id ak xs rest=some r:=by
 unfold PU at h;split at h
 ·rename_i id ak rest;split at h
  ·rename_i rr hr;obtain⟨h1,h2⟩:=Gr hr;split at h
   ·rename_i hek;rw[Qm]at hek;split at h
    ·rename_i xs hxs;obtain⟨eT,rfl⟩:=o5 hxs;obtain⟨re,rk,rT,rxs⟩:=rr;simp only at eT h2 hek;subst eT;exact⟨id,ak,_,rest,rfl,h1,by rw[h2,QF hek.1,QF hek.2],h⟩
    ·cases h
   ·cases h
  ·cases h
 ·cases h
theorem BJ(K:TK U)(T:U.Ty)(xs:List (U.den T)):BK (xs.map (U.pv T))=true:=by
 refine QH.2 fun u hu=> ?_
 obtain⟨x,_,rfl⟩:=QP.1 hu;exact QH.2 fun y hy=>Tc (K.eH T x y hy)
theorem EH(K:TK U){T:U.Ty}(hp:U.plain T=true)(xs:List (U.den T)):BI (xs.map (U.pv T))=true:=by
 refine QH.2 fun u hu=> ?_
 obtain⟨x,_,rfl⟩:=QP.1 hu;exact QH.2 fun y hy=>K.plain T hp x y hy
variable (K)
def ja{ρ:Type}(nid:Nat)(S:aZ U)(f:FuncId)(args:List (KV U))(k:KV U->Option (Nat×dp U)->Option ρ):List (eJ U)->Option ρ
 |[]=>none
 | .it ..::Γ=>ja nid S f args k Γ
 | .r2 ..::Γ| .pr ..::Γ=>ja nid S f args k Γ
 | .rw g e kk T A_s rs F::Γ=>match Nat.beq f g with
  |true=>PU S e kk T args fun id ak xs rest=>(match p8 K (S.NU id ak) (some id) A_s rest with
   |some a=>(match(rs.plain||rest.all KV.bw)&&(U.plain T||rest.all KV.bw)&&(rs.ok&&Nat.ble (ny A_s) 9)with
    |true=>(F xs a).bind fun p=>k (Ru K rs p.1) (some (id,⟨ak,.row e kk T p.2⟩))
    |false=>none)
   |none=>ja nid S f args k Γ)
  |false=>ja nid S f args k Γ
 | .cw g e kk T A_s F::Γ=>match Nat.beq f g with
  |true=>PU S e kk T args fun id ak xs rest=>(match p8 K (S.NU id ak) (some id) A_s rest with
   |some a=>(match(U.plain T||rest.all KV.bw)&&Nat.ble (ny A_s) 9 with
    |true=>(F xs a).bind fun ys=>k (.own id (ak+1)) (some (id,⟨ak+1,.row e kk T ys⟩))
    |false=>none)
   |none=>ja nid S f args k Γ)
  |false=>ja nid S f args k Γ
 | .fw g A_s e kk T F::Γ=>match Nat.beq f g with
  |true=>(match p8 K S none A_s args with
   |some a=>(match(U.plain T||args.all KV.bw)&&Nat.ble (ny A_s) 9 with
    |true=>(F a).bind fun ys=>k (.own nid ((S.H nid).ak+1)) (some (nid,⟨(S.H nid).ak+1,.row e kk T ys⟩))
    |false=>none)
   |none=>ja nid S f args k Γ)
  |false=>ja nid S f args k Γ
 | .fn g A_s rs F::Γ=>match Nat.beq f g with
  |true=>(match p8 K S none A_s args with
   |some a=>(match(rs.plain||args.all KV.bw)&&(rs.ok&&Nat.ble (ny A_s) 9)with
    |true=>(F a).bind fun r=>k (Ru K rs r) none
    |false=>none)
   |none=>ja nid S f args k Γ)
  |false=>ja nid S f args k Γ
 | .rc g pos R A_s rs F::Γ=>match Nat.beq f g with
  |true=>(match args[pos]? with
   |some (.ptr id ak 0)=>(match S.oE id ak with
    |some cs=>(match K.dec R nL cs with
     |some s=>(match p8 K S (some id) A_s (cutAt pos args)with
      |some a=>(match((rs.plain&&U.plain R)||(cutAt pos args).all KV.bw)&&(rs.ok&&Nat.ble (ny A_s) 9)with
       |true=>(F s a).bind fun p=>k (Ru K rs p.1) (some (id,⟨ak,.box (K.eI R p.2)⟩))
       |false=>none)
      |none=>ja nid S f args k Γ)
     |none=>none)
    |none=>none)
   |_=>none)
  |false=>ja nid S f args k Γ
 | .ro g pos R A_s rs F::Γ=>match Nat.beq f g with
  |true=>(match args[pos]? with
   |some (.ptr id ak 0)=>(match S.oE id ak with
    |some cs=>(match Fg K R cs with
     |some s=>(match p8 K S (some id) A_s (cutAt pos args)with
      |some a=>(match((rs.plain&&U.plain R)||(cutAt pos args).all KV.bw)&&(rs.ok&&Nat.ble (ny A_s) 9)with
       |true=>(F s a).bind fun p=>k (Ru K rs p.1) none
       |false=>none)
      |none=>ja nid S f args k Γ)
     |none=>none)
    |none=>none)
   |_=>none)
  |false=>ja nid S f args k Γ
 | .nw g A_s R F::Γ=>match Nat.beq f g with
  |true=>(match p8 K S none A_s args with
   |some a=>(match(U.plain R||args.all KV.bw)&&Nat.ble (ny A_s) 9 with
    |true=>(F a).bind fun s=>k (.ptr nid ((S.H nid).ak+1) 0) (some (nid,⟨(S.H nid).ak+1,.box (K.eI R s)⟩))
    |false=>none)
   |none=>ja nid S f args k Γ)
  |false=>ja nid S f args k Γ
variable {K}
theorem uJ{T:U.Ty}(K:TK U)(v:U.den T)(ha:U.agg T=false):∃y,fF T v=y/\y∈U.pv T v:=by
 have h1:=K.len T v;rw[K.one T ha]at h1
 cases hq:U.pv T v with
 |nil=>rw[hq]at h1;cases h1
 |cons y l=>exact⟨y,by rw[fF,ha,hq];rfl,Qx⟩
theorem w6{T:U.Ty}(v:U.den T)(ha:U.agg T=true):fF T v= .agg (U.pv T v):=by rw[fF,ha]
theorem RU{y:PV}(h:y.plain=true):y.oS=true:=by
 cases y<;>first|exact h|cases h
theorem iP{y:PV}(h:y.eH=true):y.closed=true:=by
 cases y<;>first|rfl|cases h
theorem Tb{y:PV}(h:y.eH=true):y.bw=true:=by
 cases y<;>first|rfl|cases h
theorem I8(K:TK U){T:U.Ty}(hp:U.plain T=true)(v:U.den T):(fF T v).oS=true:=by
 cases ha:U.agg T with
 |true=>rw[w6 v ha];exact QH.2 fun y hy=>K.plain T hp v y hy
 |false=>obtain⟨y,h1,h2⟩:=uJ K v ha;rw[h1];exact RU (K.plain T hp v y h2)
theorem AA{T:U.Ty}(K:TK U)(v:U.den T):(fF T v).bw=true:=by
 cases ha:U.agg T with
 |true=>rw[w6 v ha];exact QH.2 fun y hy=>iP (K.eH T v y hy)
 |false=>obtain⟨y,h1,h2⟩:=uJ K v ha;rw[h1];exact Tb (K.eH T v y h2)
theorem KW(K:TK U):∀(Ts:List U.Ty) (v:Fw U Ts),Ts.all U.plain=true->(C9 Ts v).all PV.oS=true
 |[],v,_=>rfl
 |T::l,v,h=>by
  rw[Qq69,Qm]at h;rw[C9,Qq69,I8 K h.1 v.1,KW K l v.2 h.2];rfl
theorem F7(K:TK U):∀(Ts:List U.Ty) (v:Fw U Ts),(C9 Ts v).all PV.bw=true
 |[],v=>rfl
 |T::l,v=>by rw[C9,Qq69,AA K v.1,F7 K l v.2];rfl
theorem Yz{y:PV}(h:y.oS=true):y.tT=true:=by
 cases y<;>first|exact h|cases h
theorem FA{T:U.Ty}(K:TK U)(v:U.den T)(cs:List PV):fF T v≠ .dg cs:=by
 intro h
 cases ha:U.agg T with
 |true=>rw[w6 v ha]at h;cases h
 |false=>obtain⟨y,h1,h2⟩:=uJ K v ha;have h3:=K.eH T v y h2;rw[<-h1,h]at h3;cases h3
theorem zA(K:TK U):∀(r:pW U) (v:r.den),r.plain=true->(vq r v).tT=true
 | .one T,v,h=>Yz (I8 K h v)
 | .many Ts,v,h=>KW K Ts v h
 | .fn _,_,h=>by cases h
theorem O6:∀(A_s:List (dI U)) (v:fq A_s),A_s.all dI.ab1=true->(fZ A_s v).all PV.closed=true
 |[],_,_=>by rw[fZ];rfl
 |a::l,v,h=>by
  rw[Qq69,Qm]at h;rw[fZ,Qq69,O6 l v.2 h.2,Bool.and_true]
  cases a with
  |ref a=>rw[mn];rfl
  |ty T=>cases h.1
  |bY f cs=>cases h.1
  |agg cs=>cases h.1
theorem xr(K:TK U):∀(r:pW U) (v:r.den),r.ok=true->(vq r v).u7=true
 | .fn (.bY f cs),v,h=>by
  show(mn (.bY f cs) v).u7=true;rw[mn];exact O6 cs v h
 | .fn (.ty _),v,h=>by cases h
 | .fn (.ref _),v,h=>by cases h
 | .fn (.agg _),v,h=>by cases h
 | .one T,v,_=>by
  show(fF T v).u7=true;have h1:=AA K v;have h2:=FA K v;generalize fF T v=y at h1 h2;cases y<;>first|exact h1|exact absurd rfl (h2 _)
 | .many Ts,v,_=>F7 K Ts v
theorem lq(l:List (KV U)):(l.map KV.pv).all PV.bw=l.all KV.bw:=by
 induction l with
 |nil=>rfl
 |cons x l ih=>simp only[QD,Qq69,MP,ih]
theorem dR{P:Program}{ρ:Type}{nid:Nat}{f:FuncId}{args:List (KV U)}{k:KV U->Option (Nat×dp U)->Option ρ}{r:ρ}:∀{Γ:List (eJ U)},vH P Γ->ja K nid S f args k Γ=some r->
  ∃Γ' x wr,lR P Γ'/\kq Γ' nid S.st f (args.map KV.pv)=some (x.pv,wr.map jm)/\k x wr=some r
 |[],_,h=>by cases h
 | .it ..::Γ,hΓ,h=>dR (Γ:=Γ) hΓ.2 h
 | .r2 ..::Γ,hΓ,h=>dR (Γ:=Γ) hΓ.2 h
 | .pr ..::Γ,hΓ,h=>dR (Γ:=Γ) hΓ.2 h
 | .rw g e kk T A_s rs F::Γ,hΓ,h=>by
  simp only[ja]at h;split at h
  ·rename_i hg;have hg:=QF hg;subst hg;obtain⟨id,ak,xs,rest,rfl,hver,hc,h'⟩:=Lw h;split at h'
   ·rename_i a ha;split at h'
    ·rename_i hcl;simp only[Qc]at h';obtain⟨⟨v,ys⟩,hv,hk⟩:=h';rw[Qm,Qm,Qm]at hcl;obtain⟨⟨hcl1,hcl2⟩,hrok,hdep⟩:=hcl;have hfz:=lp (ex:=some id) (S8 S id ak) A_s 9 rest a (QG hdep) ha
     have hfz':(rest.map KV.pv).map (fz S.st.H (some id) 9)=fZ A_s a:=by
      rw[<-hfz];exact Qq70 fun y _=>(Vx S id ak 9 y).symm
     obtain⟨hen,hcon⟩:=hΓ.1;refine⟨oT f (A7 (.ZK e kk) (xs.map (U.pv T)) (fZ A_s a) (vq rs v) (ys.map (U.pv T))),Ru K rs v,some (id,⟨ak,.row e kk T ys⟩),rp ⟨hen,(fun _ cs as' r' cs' hm=>by cases hm),(fun hq=>by cases hq),fun es as' r' es' hm=> ?_,(fun hq=>by cases hq)⟩,?_,hk⟩
     ·simp only[A7]at hm;split at hm
      ·rename_i he;injection hm with hm
       injection hm with h1 h2
       subst h1 h2;obtain⟨rfl,rfl⟩:=he;exact hcon xs a v ys hv
      ·cases hm
     ·have hv1:(S.st.H id).ak=ak:=hver;have hc1:(S.st.H id).c= .row e kk (xs.map (U.pv T)):=by simp[aZ.st,dp.pv,hc,ea.pv]
      simp only[QD,KV.pv,kq,rq,A7,zj,hv1,hc1,Qt,BJ K T xs,and_self,hfz',Lb,Qe,jm,dp.pv,ea.pv];rw[Qr];rw[lq,xr K rs v hrok,BJ K T ys];simp only[Qn]at hcl1 hcl2;rcases hcl1 with hcl1|hcl1
      ·rw[zA K rs v hcl1];rcases hcl2 with hcl2|hcl2
       ·rw[EH K hcl2 ys];rfl
       ·rw[hcl2];simp
      ·rw[hcl1];simp
    ·cases h'
   ·exact dR hΓ.2 h'
  ·exact dR hΓ.2 h
 | .cw g e kk T A_s F::Γ,hΓ,h=>by
  simp only[ja]at h;split at h
  ·rename_i hg;have hg:=QF hg;subst hg;obtain⟨id,ak,xs,rest,rfl,hver,hc,h'⟩:=Lw h;split at h'
   ·rename_i a ha;split at h'
    ·rename_i hcl;simp only[Qc]at h';obtain⟨ys,hv,hk⟩:=h';rw[Qm]at hcl;obtain⟨hcl2,hdep⟩:=hcl;have hfz:=lp (ex:=some id) (S8 S id ak) A_s 9 rest a (QG hdep) ha
     have hfz':(rest.map KV.pv).map (fz S.st.H (some id) 9)=fZ A_s a:=by
      rw[<-hfz];exact Qq70 fun y _=>(Vx S id ak 9 y).symm
     obtain⟨hen,hcon⟩:=hΓ.1;refine⟨oT f (A7 (.O1 e kk) (xs.map (U.pv T)) (fZ A_s a) .any (ys.map (U.pv T))),.own id (ak+1),some (id,⟨ak+1,.row e kk T ys⟩),rp ⟨hen,(fun _ cs as' r' cs' hm=>by cases hm),(fun hq=>by cases hq),fun es as' r' es' hm=> ?_,(fun hq=>by cases hq)⟩,?_,hk⟩
     ·simp only[A7]at hm;split at hm
      ·rename_i he;injection hm with hm
       injection hm with h1 h2
       subst h1 h2;obtain⟨rfl,rfl⟩:=he;exact hcon xs a ys hv
      ·cases hm
     ·have hv1:(S.st.H id).ak=ak:=hver;have hc1:(S.st.H id).c= .row e kk (xs.map (U.pv T)):=by simp[aZ.st,dp.pv,hc,ea.pv]
      simp only[QD,KV.pv,kq,rq,A7,zi,hv1,hc1,Qt,BJ K T xs,and_self,hfz',Qe,jm,dp.pv,ea.pv];rw[Qr];rw[lq,BJ K T ys];simp only[Qn]at hcl2;rcases hcl2 with hcl2|hcl2
      ·rw[EH K hcl2 ys];rfl
      ·rw[hcl2];simp
    ·cases h'
   ·exact dR hΓ.2 h'
  ·exact dR hΓ.2 h
 | .fw g A_s e kk T F::Γ,hΓ,h=>by
  simp only[ja]at h;split at h
  ·rename_i hg;have hg:=QF hg;subst hg;split at h
   ·rename_i a ha;split at h
    ·rename_i hcl;simp only[Qc]at h;obtain⟨ys,hv,hk⟩:=h;rw[Qm]at hcl;obtain⟨hcl2,hdep⟩:=hcl;have hfz:=lp (ex:=none) (fun id h=>by cases h) A_s 9 args a (QG hdep) ha
     obtain⟨hen,hcon⟩:=hΓ.1;refine⟨oT f (A7 (.fre e kk) [] (fZ A_s a) .any (ys.map (U.pv T))),.own nid ((S.H nid).ak+1),some (nid,⟨(S.H nid).ak+1,.row e kk T ys⟩),rp ⟨hen,(fun _ cs as' r' cs' hm=>by cases hm),(fun hq=>by cases hq),fun as' r' es' hm=> ?_,(fun hq=>by cases hq)⟩,?_,hk⟩
     ·simp only[A7]at hm;split at hm
      ·rename_i he;injection hm with hm
       injection hm with h1 h2
       subst h1 h2;obtain⟨_,rfl⟩:=he;exact hcon a ys hv
      ·cases hm
     ·simp only[kq,rq,A7,Ed,hfz,and_self,Qt,Qe,jm,dp.pv,ea.pv,KV.pv];rw[Qr]
      ·rfl
      rw[lq,BJ K T ys];simp only[Qn]at hcl2;rcases hcl2 with hcl2|hcl2
      ·rw[EH K hcl2 ys];rfl
      ·rw[hcl2];simp
    ·cases h
   ·exact dR hΓ.2 h
  ·exact dR hΓ.2 h
 | .fn g A_s rs F::Γ,hΓ,h=>by
  simp only[ja]at h;split at h
  ·rename_i hg;have hg:=QF hg;subst hg;split at h
   ·rename_i a ha;split at h
    ·rename_i hcl;simp only[Qc]at h;obtain⟨v,hv,hk⟩:=h;rw[Qm,Qm]at hcl;obtain⟨hcl,hrok,hdep⟩:=hcl;have hfz:=lp (ex:=none) (fun id h=>by cases h) A_s 9 args a (QG hdep) ha
     obtain⟨hen,hcon⟩:=hΓ.1;refine⟨oT f (mZ false 0 false false [] (fZ A_s a) (vq rs v) []),_,none,rp ⟨hen,fun _ cs as' r' cs' hm=> ?_,(fun hq=>by cases hq),trivial,(fun hq=>by cases hq)⟩,?_,hk⟩
     ·simp only[mZ]at hm;split at hm
      ·rename_i he;injection hm with hm
       injection hm with h1 h2
       subst h1 h2;obtain⟨rfl,rfl⟩:=he;exact hcon a v hv
      ·cases hm
     ·simp only[kq,rq,mZ,Qq,Qu,hfz,and_self,Qt,Lb,Qq64];rw[Qr];rw[lq,xr K rs v hrok];simp only[Qn]at hcl;rcases hcl with hcl|hcl
      ·rw[zA K rs v hcl];rfl
      ·rw[hcl];simp
    ·cases h
   ·obtain⟨Γ',x,wr,h1,h2,h3⟩:=dR hΓ.2 h;exact⟨Γ',x,wr,h1,h2,h3⟩
  ·exact dR hΓ.2 h
 | .rc g pos R A_s rs F::Γ,hΓ,h=>by
  simp only[ja]at h;split at h
  ·rename_i hg;have hg:=QF hg;subst hg;split at h
   ·rename_i id ak hpos;have hpos:args[pos]?=some (.ptr id ak 0):=hpos;generalize hrest:cutAt pos args=rest at h;split at h
    ·rename_i cs hbox;split at h
     ·rename_i s hs;split at h
      ·rename_i a ha;split at h
       ·rename_i hcl;simp only[Qc]at h;obtain⟨⟨v,s'⟩,hv,hk⟩:=h;obtain⟨hver,hc⟩:=Ar hbox;rw[Qm,Qm]at hcl;obtain⟨hcl,hrok,hdep⟩:=hcl;have hfz:=lp (ex:=some id) (fun id' h=>by injection h with h;subst h;intro e k T xs hq;rw[hc]at hq;cases hq) A_s 9 rest a (QG hdep) ha
        obtain⟨hnz,hclo⟩:=rN (K.l9 _ _ _ _ hs);obtain⟨hen,hcon⟩:=hΓ.1;refine⟨oT f (mZ true pos false false (U.pv R s) (fZ A_s a) (vq rs v) (U.pv R s')),_,_,rp ⟨hen,fun _ cs as' r' cs' hm=> ?_,(fun hq=>by cases hq),trivial,(fun hq=>by cases hq)⟩,?_,hk⟩
        ·simp only[mZ]at hm;split at hm
         ·rename_i he;injection hm with hm
          injection hm with h1 h2
          subst h1 h2;obtain⟨rfl,rfl⟩:=he;exact hcon s a v s' hv
         ·cases hm
        ·have hv1:(S.st.H id).ak=ak:=hver;have hc1:(S.st.H id).c= .box (cs.map KV.pv):=by simp[aZ.st,dp.pv,hc,ea.pv]
         have hpos':(args.map KV.pv)[pos]?=some (.ptr id ak 0):=by rw[QT,hpos];rfl
         have hrest':cutAt pos (args.map KV.pv)=rest.map KV.pv:=by rw[<-hrest];simp[cutAt]
         simp only[kq,rq,mZ,Bool.false_and,Qq,Qu,Qt,hpos',hrest',hv1,hc1,jE,hclo,hnz,hfz,and_self,Lb,Qe,jm,dp.pv,ea.pv,K.oX];rw[Qr];have hgs:(U.pv R s').all PV.closed=true:=QH.2 fun y hy=>iP (K.eH R s' y hy)
         rw[lq,xr K rs v hrok,hgs];simp only[Qn,Qm]at hcl;rcases hcl with⟨hcl1,hcl2⟩|hcl
         ·rw[zA K rs v hcl1,QH.2 fun y hy=>K.plain R hcl2 s' y hy];rfl
         ·rw[hcl];simp
       ·cases h
      ·exact dR hΓ.2 h
     ·cases h
    ·cases h
   ·cases h
  ·exact dR hΓ.2 h
 | .ro g pos R A_s rs F::Γ,hΓ,h=>by
  simp only[ja]at h;split at h
  ·rename_i hg;have hg:=QF hg;subst hg;split at h
   ·rename_i id ak hpos;have hpos:args[pos]?=some (.ptr id ak 0):=hpos;generalize hrest:cutAt pos args=rest at h;split at h
    ·rename_i cs hbox;split at h
     ·rename_i s hs;split at h
      ·rename_i a ha;split at h
       ·rename_i hcl;simp only[Qc]at h;obtain⟨⟨v,s'⟩,hv,hk⟩:=h;obtain⟨hver,hc⟩:=Ar hbox;rw[Qm,Qm]at hcl;obtain⟨hcl,hrok,hdep⟩:=hcl;have hfz:=lp (ex:=some id) (fun id' h=>by injection h with h;subst h;intro e k T xs hq;rw[hc]at hq;cases hq) A_s 9 rest a (QG hdep) ha
        obtain⟨hnn,hs⟩:cs.all KV.PZ=true/\K.dec R nL cs=some s:=by
         unfold Fg at hs;split at hs
         ·rename_i hn;exact⟨hn,hs⟩
         ·cases hs
        obtain⟨hnz,hclo⟩:=rN (K.l9 _ _ _ _ hs)
        have hnnp:(cs.map KV.pv).all PV.R7=true:=by
         rw[QH];intro y hy;obtain⟨x,hx,rfl⟩:=QP.1 hy;have:=QH.1 hnn x hx;cases x<;>first|rfl|cases this
        obtain⟨hen,hcon⟩:=hΓ.1;refine⟨oT f (mZ true pos false true (U.pv R s) (fZ A_s a) (vq rs v) (U.pv R s')),_,none,rp ⟨hen,fun _ cs as' r' cs' hm=> ?_,(fun hq=>by cases hq),trivial,fun _ cs as' r' cs' hm=> ?_⟩,?_,hk⟩
        ·simp only[mZ]at hm;split at hm
         ·rename_i he;injection hm with hm
          injection hm with h1 h2
          subst h1 h2;obtain⟨rfl,rfl⟩:=he;exact(hcon s a v s' hv).2
         ·cases hm
        ·simp only[mZ]at hm;split at hm
         ·rename_i he;injection hm with hm
          injection hm with h1 h2
          subst h1 h2;rw[(hcon s a v s' hv).1,he.1]
         ·cases hm
        ·have hv1:(S.st.H id).ak=ak:=hver;have hc1:(S.st.H id).c= .box (cs.map KV.pv):=by simp[aZ.st,dp.pv,hc,ea.pv]
         have hpos':(args.map KV.pv)[pos]?=some (.ptr id ak 0):=by rw[QT,hpos];rfl
         have hrest':cutAt pos (args.map KV.pv)=rest.map KV.pv:=by rw[<-hrest];simp[cutAt]
         simp only[kq,rq,mZ,Qq,Qu,Qt,hpos',hrest',hv1,hc1,jE,hclo,hnz,hfz,and_self,Lb,Qq64,hnnp,Bool.and_self];rw[Qr];have hgs:(U.pv R s').all PV.closed=true:=QH.2 fun y hy=>iP (K.eH R s' y hy)
         rw[lq,xr K rs v hrok,hgs];simp only[Qn,Qm]at hcl;rcases hcl with⟨hcl1,hcl2⟩|hcl
         ·rw[zA K rs v hcl1,QH.2 fun y hy=>K.plain R hcl2 s' y hy];rfl
         ·rw[hcl];simp
       ·cases h
      ·exact dR hΓ.2 h
     ·cases h
    ·cases h
   ·cases h
  ·exact dR hΓ.2 h
 | .nw g A_s R F::Γ,hΓ,h=>by
  simp only[ja]at h;split at h
  ·rename_i hg;have hg:=QF hg;subst hg;split at h
   ·rename_i a ha;split at h
    ·rename_i hcl;simp only[Qc]at h;obtain⟨s,hs,hk⟩:=h;rw[Qm]at hcl;obtain⟨hcl,hdep⟩:=hcl;have hfz:=lp (ex:=none) (fun id h=>by cases h) A_s 9 args a (QG hdep) ha
     obtain⟨hen,hcon⟩:=hΓ.1;refine⟨oT f (mZ false 0 true false [] (fZ A_s a) .any (U.pv R s)),_,_,rp ⟨hen,(fun hq=>by cases hq),fun _ as' r' cs' hm=> ?_,trivial,(fun hq=>by cases hq)⟩,?_,hk⟩
     ·simp only[mZ]at hm;split at hm
      ·rename_i he;injection hm with hm
       injection hm with h1 h2
       subst h1 h2;obtain⟨_,rfl⟩:=he;exact hcon a s hs
      ·cases hm
     ·simp only[kq,rq,mZ,Qt,hfz,and_self,Qe,jm,dp.pv,ea.pv,K.oX];have hgs:(U.pv R s).all PV.closed=true:=QH.2 fun y hy=>iP (K.eH R s y hy)
      rw[Qr]
      ·rfl
      rw[lq,hgs];simp only[Qn]at hcl;rcases hcl with hcl|hcl
      ·rw[QH.2 fun y hy=>K.plain R hcl s y hy];rfl
      ·rw[hcl];simp
    ·cases h
   ·exact dR hΓ.2 h
  ·exact dR hΓ.2 h
end
end
section
def idx{α:Type}(xs:List α)(n:Int):Option α:=if 0<=n then xs[n.toNat]? else none
def aX(bytes n:Nat):Bool:=decide (n*bytes<=140737488355328)&&decide (n<=maxLen)
theorem Bd{bytes n:Nat}(h:aX bytes n=true):n*bytes<=140737488355328/\n<=maxLen:=by
 simpa[aX]using h
theorem Ks{α:Type}{xs:List α}{n:Int}{v:α}(h:idx xs n=some v):0<=n/\n.toNat<xs.length/\xs[n.toNat]?=some v:=by
 unfold idx at h;split at h
 ·rename_i h0;exact⟨h0,(Qw.1 h).1,h⟩
 ·cases h
section
variable {U : TU}
def GP:Option Nat->List (KV U)->Option (KV U)
 |none,cs=>(match cs with|x::_=>some x|[]=>none)
 |some n,cs=>(match Nat.ble n cs.length with|true=>some (.agg (cs.take n))|false=>none)
def DH(cs:List (KV U))(off:Nat)(xs:List (KV U)):List (KV U):=cs.take off++xs++cs.drop (off+xs.length)
def P6(S:aZ U):List (KV U)->List (Nat×Nat×bn)->Option (List (KV U))
 |cs,[]=>some cs
 |cs,(off,n,x)::rest=>
  match Nat.beq (x.cF S).cells.length n&&Nat.ble (off+n) cs.length&&(x.cF S).cells.all KV.one with
  |true=>P6 S (DH cs off (x.cF S).cells) rest
  |false=>none
def Hk(S:aZ U)(k:Nat):List (List (KV U))->List (Nat×bn)->Option (List (List (KV U)))
 |es,[]=>some es
 |es,(i,x)::rest=>
  match Nat.beq (x.cF S).cells.length k&&Nat.blt i es.length&&(x.cF S).cells.all KV.one with
  |true=>Hk S k (es.set i (x.cF S).cells) rest
  |false=>none
def P8(K:TK U)(T:U.Ty):List (List (KV U))->Option (List (U.den T))
 |[]=>some []
 |e::es=>match K.dec T nL e with
  |some v=>(match P8 K T es with|some vs=>some (v::vs)|none=>none)
  |none=>none
def abn{ρ:Type}(op:BinOp)(x y:KV U)(k:KV U->Option ρ):Option ρ:=
 match x,y with
 | .int kd a,.int kd' b=>
  match op with
  | .shl=>if b<0 then none else k (.int kd (kd.wrap (a*2 ^ (min b.toNat kd.bits))))
  | .shr=>if b<0 then none else k (.int kd (a.fdiv (2 ^ (min b.toNat kd.bits))))
  |_=>if kd=kd' then(match op with
   | .add=>k (.int kd (kd.wrap (a+b)))
   | .sub=>k (.int kd (kd.wrap (a - b)))
   | .mul=>k (.int kd (kd.wrap (a*b)))
   | .quo=>if b=0 then none else k (.int kd (kd.wrap (a.tdiv b)))
   | .rem=>if b=0 then none else k (.int kd (a.tmod b))
   | .and=>k (.int kd (kd.wrap ((BitVec.ofInt kd.bits a&&&BitVec.ofInt kd.bits b).toNat)))
   | .or=>k (.int kd (kd.wrap ((BitVec.ofInt kd.bits a|||BitVec.ofInt kd.bits b).toNat)))
   | .xor=>k (.int kd (kd.wrap ((BitVec.ofInt kd.bits a^^^BitVec.ofInt kd.bits b).toNat)))
   | .andNot=>k (.int kd (kd.wrap ((BitVec.ofInt kd.bits a&&& ~~~ BitVec.ofInt kd.bits b).toNat)))
   | .eql=>k (.bool (decide (a=b)))
   | .neq=>k (.bool (!decide (a=b)))
   | .lss=>k (.bool (decide (a<b)))
   | .leq=>k (.bool (decide (a<=b)))
   | .gtr=>k (.bool (decide (b<a)))
   | .geq=>k (.bool (decide (b<=a)))
   |_=>none)else none
 | .str a,.str b=>
  match op with
  | .eql=>k (.bool (decide (a=b)))
  | .neq=>k (.bool (!decide (a=b)))
  | .lss=>k (.bool (jV a b))
  | .leq=>k (.bool (jV a b||decide (a=b)))
  | .gtr=>k (.bool (!(jV a b||decide (a=b))))
  | .geq=>k (.bool (!jV a b))
  |_=>none
 |_,_=>none
def Fb:List LK->List (KV U)->List (KV U)->Option Bool
 |[],cs,ds=>(match cs,ds with|[],[]=>some true|_,_=>none)
 |q::ks,cs,ds=>(match q,cs,ds with
  | .i,.int k a::cs,.int l b::ds=>if k=l then(match Fb ks cs ds with|some r=>some (decide (a=b)&&r)|none=>none)else none
  | .s,.str a::cs,.str b::ds=>(match Fb ks cs ds with|some r=>some (decide (a=b)&&r)|none=>none)
  | .b,.bool a::cs,.bool b::ds=>(match Fb ks cs ds with|some r=>some (decide (a=b)&&r)|none=>none)
  |_,_,_=>none)
theorem Fa:∀{ks:List LK} {cs ds:List (KV U)} {b:Bool},Fb ks cs ds=some b->ln ks (cs.map KV.pv) (ds.map KV.pv)=some b
 |[],cs,ds,b,h=>by
  simp only[Fb]at h;split at h
  ·injection h with h;subst h;rfl
  ·cases h
 |q::ks,cs,ds,b,h=>by
  simp only[Fb]at h;split at h
  ·split at h
   ·rename_i hk;split at h
    ·rename_i r hr;injection h with h
     subst h;simp only[QD,KV.pv,ln,Qr hk,Fa hr,Qe]
    ·cases h
   ·cases h
  ·split at h
   ·rename_i r hr;injection h with h
    subst h;simp only[QD,KV.pv,ln,Fa hr,Qe]
   ·cases h
  ·split at h
   ·rename_i r hr;injection h with h
    subst h;simp only[QD,KV.pv,ln,Fa hr,Qe]
   ·cases h
  ·cases h
def aZ.els(S:aZ U)(T:U.Ty)(x:KV U):Option (List (U.den T)):=TC S.lk T x
def aZ.elv(S:aZ U)(T:U.Ty)(x:KV U):Option (List (U.den T)):=
 match x with
 | .view id ak kk lo n=>(match S.row? id ak with
  |some r=>(match Nat.beq r.k kk with
   |true=>(match wm r.T T r.xs with|some xs=>some ((xs.drop lo).take n)|none=>none)
   |false=>none)
  |none=>none)
 |x=>S.els T x
def aZ.aaQ(S:aZ U):KV U->Option Nat
 | .dW=>some 0
 | .sl _ xs=>some xs.length
 | .own id ak=>(match S.row? id ak with
  |some r=>some r.xs.length
  |none=>(match S.RD id ak with|some r=>some r.es.length|none=>none))
 | .view id ak kk lo n=>(match S.row? id ak with
  |some r=>(match Nat.beq r.k kk with|true=>some ((r.xs.drop lo).take n).length|false=>none)
  |none=>none)
 |_=>none
def Dp(S:aZ U):Option bn->Int->Option Int
 |none,d=>some d
 |some x,_=>(match x.cF S with| .int _ n=>some n|_=>none)
def eA(l h:Int)(n:Nat):Bool:=decide (0<=l)&&decide (l<=h)&&decide (h<=n)
def bS.dj:bS->List bn
 | .lI x| .box x| .Du x| .load _ x| .zN _ x| .not x| .conv _ x| .len _ x| .zG x| .vy _ x| .xS _ x
 | .Jv _ _ x=>[x]
 | .pick c x y=>[c,x,y]
 | .alloc _=>[]
 | .store _ p x=>[p,x]
 | .build _ ps=>ps.map (·.2.2)
 | .MT _ _ _ _ ps=>ps.map (·.2)
 | .zK _ x i=>[x,i]
 | .zQ _ _ x i=>[x,i]
 | .bin _ x y| .nR _ x y| .D8 _ _ x y| .Hl _ x y| .tY _ x y| .xp x y| .Dw _ _ _ _ x y
 =>[x,y]
 | .call _ xs=>xs
 | .vb f xs=>f::xs
 | .cY _ _ _ _ s x=>[s,x]
 | .Jj _ xs=>xs
 | .Jk _ xs=>xs
 | .ow _ xs=>xs
 | .JA _ _ x y=>[x,y]
 | .LJ _ _ _ _ l c=>[l,c]
 | .Gc _ x lo hi=>x::(lo.toList++hi.toList)
def bS.dO(op:bS):Bool:=op.dj.all bn.dO
variable (K : TK U)
def Eb(T:U.Ty)(kk:Nat):Nat->List (KV U)->Option (List (U.den T))
 |0,_=>some []
 |n+1,cs=>(match K.dec T nL (cs.take kk)with
  |some v=>(match Eb T kk n (cs.drop kk)with|some vs=>some (v::vs)|none=>none)
  |none=>none)
def XL(n:Option Nat)(ag:Bool)(kk:Nat):Bool:=
 match n with
 |none=> !ag&&Nat.beq kk 1
 |some m=>ag&&Nat.beq m kk
theorem JC{T:U.Ty}{kk:Nat}:∀{n:Nat} {cs:List (KV U)} {vs:List (U.den T)},Eb K T kk n cs=some vs->vs.length=n/\∀(i:Nat) (v:U.den T),vs[i]?=some v->K.dec T nL ((cs.drop (i*kk)).take kk)=some v
 |0,cs,vs,h=>by
  rw[Eb]at h;injection h with h
  subst h;exact⟨rfl,fun i v hv=>by simp at hv⟩
 |n+1,cs,vs,h=>by
  rw[Eb]at h;split at h
  ·rename_i v0 h0;split at h
   ·rename_i vs0 h1;injection h with h
    subst h;obtain⟨h2,h3⟩:=JC h1;refine⟨by rw[QE,h2],fun i v hv=> ?_⟩
    cases i with
    |zero=>
     simp only[List.getElem?_cons_zero,Qf]at hv;subst hv;simpa using h0
    |succ i=>
     have:=h3 i v (by simpa using hv)
     rw[List.drop_drop]at this
     rwa [Nat.succ_mul,Nat.add_comm]
   ·cases h
  ·cases h
def XG{ρ:Type}(z:Bool)(id ak e kk:Nat)(T:U.Ty)(xs:List (U.den T))(k:KV U->Option (Nat×dp U)->Option ρ):Option ρ:=
 match z with
 |false=>k (.own id ak) (some (id,⟨ak,.row e kk T xs⟩))
 |true=>k (.sl T xs) (some (id,⟨ak,.dead⟩))
def MS{α:Type}(f:α->Option UInt8):List α->Option (List UInt8)
 |[]=>some []
 |x::l=>(match f x,MS f l with
  |some b,some bs=>some (b::bs)
  |_,_=>none)
def XA:List (KV U)->Option UInt8
 |[.int .u8 n]=>byteOf n
 |_=>none
def aaW:PV->Bool
 | .int .i64 (.ofNat 0)=>true
 |_=>false
def aaV:PV->Bool
 | .str s=>Nat.beq s.size 0
 |_=>false
def aay{ρ:Type}(q:PQ)(xs:List (KV U))(k:KV U->Option ρ):Option ρ:=
 match q,xs with
 | .Gf,[.str a,.str b]=>(Gf a b).bind fun v=>k (.str v)
 | .mV true false,[.str s,.int _ l]=>(mV s l s.size).bind fun v=>k (.str v)
 | .mV false true,[.str s,.int _ h]=>(mV s 0 h).bind fun v=>k (.str v)
 | .mV true true,[.str s,.int _ l,.int _ h]=>(mV s l h).bind fun v=>k (.str v)
 | .b2s,[.sl T xs]=>(MS (fun v=>XA (K.eI T v)) xs).bind fun l=>k (.str ⟨l.toArray⟩)
 | .Y1 T,[.int kd n]=>k (.jw T (.int kd n))
 | .Y1 T,[.str s]=>k (.jw T (.str s))
 | .UU T z,[.Tr Ti Ts b n s]=>(match Nat.beq T Ti&&aaW z,Nat.beq T Ts&&aaV z,Nat.beq Ti Ts with
  |true,_,false=>k (.dg [.int .i64 (cond b 0 n),.bool (!b)])
  |false,true,false=>k (.dg [.str (cond b s ⟨#[]⟩),.bool b])
  |_,_,_=>none)
 | .Ha neg,[.mX b]=>k (.bool (xor neg b))
 | .Ha neg,[.jw ..]=>k (.bool neg)
 | .neg,[.int kd n]=>k (.int kd (kd.wrap (0 - n)))
 | .mkm,[]=>k .any
 |_,_=>none
def fe{ρ:Type}(Γ:List (eJ U))(nid:Nat)(S:aZ U)(op:bS)(k:KV U->Option (Nat×dp U)->Option ρ):Option ρ:=
 match op with
 | .lI x=>k (x.cF S) none
 | .pick c x y=>(match c.cF S with
  | .bool b=>(match b with|true=>k (x.cF S) none|false=>k (y.cF S) none)
  |_=>none)
 | .box x=>(match(x.cF S).cells.all KV.one with
  |true=>k (.ptr nid ((S.H nid).ak+1) 0) (some (nid,⟨(S.H nid).ak+1,.box (x.cF S).cells⟩))
  |false=>none)
 | .Du x=>(match(x.cF S).cells.all KV.one&&(x.cF S).cells.all KV.closed with
  |true=>k (.ref (x.cF S).cells) none
  |false=>none)
 | .alloc z=>(match z.all PV.dO with
  |true=>k (.ptr nid ((S.H nid).ak+1) 0) (some (nid,⟨(S.H nid).ak+1,.box (z.map KV.Jh)⟩))
  |false=>none)
 | .load n p=>(match p.cF S with
  | .ptr id ak off=>(match S.oE id ak with
   |some cs=>(match GP n (cs.drop off)with|some x=>k x none|none=>none)
   |none=>none)
  | .eN id ak kk i off=>(match S.row? id ak with
   |some r=>(match Nat.beq kk r.k with
    |true=>(r.xs[i]?).bind fun v=>(match GP n ((K.eI r.T v).drop off)with|some x=>k x none|none=>none)
    |false=>none)
   |none=>(match S.RD id ak with
    |some r=>(match Nat.beq kk r.k with
     |true=>(match r.es[i]? with
      |some c=>(match GP n (c.drop off)with|some x=>k x none|none=>none)
      |none=>none)
     |false=>none)
    |none=>none))
  | .ref cs=>(match GP n cs with|some x=>k x none|none=>none)
  |_=>none)
 | .store n p x=>(match Nat.beq (x.cF S).cells.length n&&(x.cF S).cells.all KV.one with
  |true=>(match p.cF S with
   | .ptr id ak off=>(match S.oE id ak with
    |some cs=>(match Nat.ble (off+n) cs.length with
     |true=>k .undef (some (id,⟨ak,.box (DH cs off (x.cF S).cells)⟩))
     |false=>none)
    |none=>none)
   | .eN id ak kk i off=>(match S.row? id ak with
    |some r=>(match Nat.beq kk r.k&&Nat.beq (U.size r.T) r.k&&Nat.ble (off+n) (U.size r.T)with
     |true=>(r.xs[i]?).bind fun v=>(match K.dec r.T nL (DH (K.eI r.T v) off (x.cF S).cells)with
      |some v'=>k .undef (some (id,⟨ak,.row r.e r.k r.T (r.xs.set i v')⟩))
      |none=>none)
     |false=>none)
    |none=>none)
   |_=>none)
  |false=>none)
 | .build z ps=>(match z.all PV.dO with
  |true=>(match P6 S (z.map KV.Jh) ps with|some cs=>k (.agg cs) none|none=>none)
  |false=>none)
 | .MT m e kk z ps=>(match K.Nb e with
  |some T=>(match Nat.beq (U.size T) kk&&z.all (fun u=>u.all PV.dO)with
   |true=>(match Hk S kk (z.map fun u=>u.map KV.Jh) ps with
    |some es=>(match P8 K T es with
     |some vs=>(match m with
      |false=>k (.sl T vs) none
      |true=>k (.own nid ((S.H nid).ak+1)) (some (nid,⟨(S.H nid).ak+1,.row e kk T vs⟩)))
     |none=>none)
    |none=>none)
   |false=>none)
  |none=>(match m&&z.all (fun u=>u.all PV.dO)with
   |true=>(match Hk S kk (z.map fun u=>u.map KV.Jh) ps with
    |some es=>(match es.all (fun c=>c.all KV.PZ)with
     |true=>k (.own nid ((S.H nid).ak+1)) (some (nid,⟨(S.H nid).ak+1,.raw e kk es⟩))
     |false=>none)
    |none=>none)
   |false=>none))
 | .zN off p=>(match p.cF S with
  | .ptr id ak o=>(match S.oE id ak with|some _=>k (.ptr id ak (o+off)) none|none=>none)
  | .eN id ak kk i o=>(match S.row? id ak with|some r=>(r.xs[i]?).bind fun _=>k (.eN id ak kk i (o+off)) none|none=>none)
  | .ref cs=>k (.ref (cs.drop off)) none
  |_=>none)
 | .zK kk x i=>(match i.cF S with
  | .int _ n=>(match x.cF S with
   | .sl T xs=>(match Nat.beq (U.size T) kk with
    |true=>(idx xs n).bind fun v=>k (.ref (K.eI T v)) none
    |false=>none)
   | .own id ak=>(match S.row? id ak with
    |some r=>(match Nat.beq kk r.k with
     |true=>(idx r.xs n).bind fun _=>k (.eN id ak kk n.toNat 0) none
     |false=>none)
    |none=>(match S.RD id ak with
     |some r=>(match n with
      | .ofNat j=>(match Nat.beq kk r.k&&Nat.blt j r.es.length with
       |true=>k (.eN id ak kk j 0) none
       |false=>none)
      |_=>none)
     |none=>none))
   | .view id ak kk' lo m=>(match S.row? id ak with
    |some r=>(match Nat.beq kk r.k&&Nat.beq kk' kk with
     |true=>(idx ((r.xs.drop lo).take m) n).bind fun _=>k (.eN id ak kk (lo+n.toNat) 0) none
     |false=>none)
    |none=>none)
   |_=>none)
  |_=>none)
 | .bin op x y=>abn op (x.cF S) (y.cF S) fun v=>k v none
 | .nR neg x y=>(match x.cF S,y.cF S with
  | .agg [.int kd a,.str s],.agg [.int kd' b,.str t]=>if kd=kd' then k (.bool (xor neg (decide (a=b)&&decide (s=t)))) none else none
  |_,_=>none)
 | .D8 neg ks x y=>(match x.cF S,y.cF S with
  | .agg cs,.agg ds=>(match Fb ks cs ds with|some b=>k (.bool (xor neg b)) none|none=>none)
  |_,_=>none)
 | .Jv n off x=>(match x.cF S with
  | .agg cs=>(match GP n (cs.drop off)with|some v=>k v none|none=>none)
  |_=>none)
 | .ow q xs=>aay K q (xs.map (·.cF S)) fun v=>k v none
 | .JA e kk x y=>(match K.Nb e with
  |some T=>(match Nat.beq (U.size T) kk with
   |true=>(match S.elv T (y.cF S)with
    |some ys=>(match x.cF S with
     | .own id ak=>(match S.row? id ak with
      |some r=>(match Nat.beq r.e e&&Nat.beq r.k kk with
       |true=>(match wm r.T T r.xs with
        |some xs=>k (.int .i64 (min xs.length ys.length:Nat)) (some (id,⟨ak,.row e kk T (jL xs 0 xs.length ys)⟩))
        |none=>none)
       |false=>none)
      |none=>none)
     | .view id ak kk' lo n=>(match S.row? id ak with
      |some r=>(match Nat.beq r.e e&&Nat.beq r.k kk&&Nat.beq kk' kk with
       |true=>(match wm r.T T r.xs with
        |some xs=>k (.int .i64 (min n ys.length:Nat)) (some (id,⟨ak,.row e kk T (jL xs lo n ys)⟩))
        |none=>none)
       |false=>none)
      |none=>none)
     |_=>none)
    |none=>none)
   |false=>none)
  |none=>none)
 | .Hl neg x y=>(match x.cF S,y.cF S with
  | .bool a,.bool b=>k (.bool (xor neg (decide (a=b)))) none
  |_,_=>none)
 | .not x=>(match x.cF S with| .bool b=>k (.bool !b) none|_=>none)
 | .conv kd x=>(match x.cF S with| .int _ n=>k (.int kd (kd.wrap n)) none|_=>none)
 | .len true x=>(match x.cF S with| .str s=>k (.int .i64 s.size) none|_=>none)
 | .len false x=>(match S.aaQ (x.cF S)with|some n=>k (.int .i64 n) none|none=>none)
 | .call f xs=>ja K nid S f (xs.map (·.cF S)) k Γ
 | .vb fv xs=>(match fv.cF S with
  | .bY f caps=>ja K nid S f (xs.map (·.cF S)++caps) k Γ
  | .jx f first=>ja K nid S f (first++xs.map (·.cF S)) k Γ
  |_=>none)
 | .cY z e kk bytes s x=>(match K.Nb e with
  |some T=>(match Nat.beq (U.size T) kk with
   |true=>(match S.els T (x.cF S)with
    |some news=>(match s.cF S with
     | .dW=>bif aX bytes news.length then XG z nid ((S.H nid).ak+1) e kk T news k else none
     | .own id ak=>(match S.row? id ak with
      |some r=>(match Nat.beq r.e e&&Nat.beq r.k kk with
       |true=>(match wm r.T T r.xs with
        |some xs=>bif aX bytes (xs.length+news.length)then XG z id (ak+1) e kk T (xs++news) k else none
        |none=>none)
       |false=>none)
      |none=>none)
     |_=>none)
    |none=>none)
   |false=>none)
  |none=>none)
 | .zG x=>(match x.cF S with
  | .ptr id ak off=>(match S.oE id ak with|some _=>k (.ptr id ak off) none|none=>none)
  | .ref cs=>k (.ref cs) none
  | .bY f cs=>k (.bY f cs) none
  |_=>none)
 | .vy i x=>(match x.cF S with
  | .dg cs=>(match cs[i]? with|some y=>k y none|none=>none)
  |_=>none)
 | .Jj f caps=>k (.bY f (caps.map (·.cF S))) none
 | .Jk f first=>k (.jx f (first.map (·.cF S))) none
 | .LJ e kk bytes z l c=>(match K.Nb e with
  |some T=>(match Nat.beq (U.size T) kk&&z.all PV.dO with
   |true=>(match K.dec T nL (z.map KV.Jh)with
    |some d=>(match l.cF S,c.cF S with
     | .int _ n,.int _ m=>bif decide (n<=m)&&decide (0<=n)&&aX bytes m.toNat then k (.own nid ((S.H nid).ak+1)) (some (nid,⟨(S.H nid).ak+1,.row e kk T (List.replicate n.toNat d)⟩))else none
     |_,_=>none)
    |none=>none)
   |false=>none)
  |none=>none)
 | .Gc kk x lo hi=>(match x.cF S with
  | .sl T xs=>(match Nat.beq (U.size T) kk with
   |true=>(match Dp S lo 0,Dp S hi xs.length with
    |some l,some h=>bif eA l h xs.length then k (.sl T ((xs.take h.toNat).drop l.toNat)) none else none
    |_,_=>none)
   |false=>none)
  | .own id ak=>(match S.row? id ak with
   |some r=>(match Nat.beq kk r.k with
    |true=>(match Dp S lo 0,Dp S hi r.xs.length with
     |some l,some h=>bif eA l h r.xs.length then k (.view id ak kk l.toNat (h.toNat - l.toNat)) none else none
     |_,_=>none)
    |false=>none)
   |none=>none)
  | .view id ak kk' lo0 n0=>(match S.row? id ak with
   |some r=>(match Nat.beq kk r.k&&Nat.beq kk' kk with
    |true=>(match Dp S lo 0,Dp S hi n0 with
     |some l,some h=>bif eA l h n0 then k (.view id ak kk (lo0+l.toNat) (h.toNat - l.toNat)) none else none
     |_,_=>none)
    |false=>none)
   |none=>none)
  |_=>none)
 | .xp x i=>(match x.cF S,i.cF S with
  | .str s,.int _ n=>(xp s n).bind fun b=>k (.int .u8 b) none
  |_,_=>none)
 | .Dw e n len kk x i=>(match x.cF S,i.cF S with
  | .agg cs,.int _ j=>(match K.Nb e with
   |some T=>(match Nat.beq (U.size T) kk&&XL n (U.agg T) kk with
    |true=>(match Eb K T kk len cs with
     |some vs=>(idx vs j).bind fun v=>k (F6 K T v) none
     |none=>none)
    |false=>none)
   |none=>none)
  |_,_=>none)
 | .tY mx x y=>(match x.cF S,y.cF S with
  | .int kd a,.int kd' b=>if kd=kd' then k (.int kd (if mx then(if b>a then b else a)else(if b<a then b else a))) none else none
  |_,_=>none)
 | .xS neg x=>(match x.cF S with
  | .dW=>k (.bool !neg) none
  | .sl _ xs=>bif xs.isEmpty then k .fW none else k (.bool neg) none
  |_=>none)
 | .zQ kk len x i=>(match i.cF S with
  | .int _ (.ofNat n)=>(match Nat.blt n len with
   |true=>(match x.cF S with
    | .ptr id ak o=>(match S.oE id ak with|some _=>k (.ptr id ak (o+n*kk)) none|none=>none)
    | .ref cs=>k (.ref (cs.drop (n*kk))) none
    |_=>none)
   |false=>none)
  |_=>none)
variable {K}
variable {S : aZ U}
theorem sv{id ak:Nat}{cs:List (KV U)}(h:S.oE id ak=some cs):(S.st.H id).ak=ak/\(S.st.H id).c= .box (cs.map KV.pv):=by
 obtain⟨h1,h2⟩:=Ar h;exact⟨h1,by simp[aZ.st,dp.pv,h2,ea.pv]⟩
theorem Bs:∀{n:Option Nat} {cs:List (KV U)} {x:KV U},GP n cs=some x->xb n (cs.map KV.pv)=some x.pv
 |none,[],x,h=>by cases h
 |none,y::l,x,h=>by injection h with h;subst h;rfl
 |some n,cs,x,h=>by
  simp only[GP]at h;split at h
  ·rename_i hn;injection h with h
   subst h;rw[xb,Qr (by simpa using QG hn),KV.pv,KV.cx,List.map_take]
  ·cases h
theorem Gb(cs xs:List (KV U))(off:Nat):(DH cs off xs).map KV.pv=gW (cs.map KV.pv) off (xs.map KV.pv):=by
 simp[DH,gW,List.map_append,List.map_take,List.map_drop]
theorem afd(S:aZ U){x:PV}(h:x.dO=true):(KV.Jh x:KV U).pv=x:=(qJ (S:=S) (x:= .oY x) h).symm
theorem DU{z:List PV}(S:aZ U)(h:z.all PV.dO=true):(z.map (KV.Jh:PV->KV U)).map KV.pv=z:=by
 induction z with
 |nil=>rfl
 |cons x l ih=>
  rw[Qq69,Qm]at h;rw[QD,QD,afd S h.1,ih h.2]
theorem Tl:∀{ps:List (Nat×Nat×bn)} {cs cs':List (KV U)},(∀p∈ps,p.2.2.dO=true)->P6 S cs ps=some cs'->qO S.st (cs.map KV.pv) ps=some (cs'.map KV.pv)
 |[],cs,cs',_,h=>by injection h with h;subst h;rfl
 |(off,n,x)::ps,cs,cs',ho,h=>by
  simp only[P6]at h;split at h
  ·rename_i hc;simp only[Qm]at hc;obtain⟨⟨h1,h2⟩,h3⟩:=hc;have h1:=QF h1;have h2:=QG h2;rw[qO,qJ (ho _ Qx),wQ,yc,Qr ⟨by simpa using h1,by simpa using h2,h3⟩,<-Gb]
   exact Tl (fun p hp=>ho p (Qy _ hp)) h
  ·cases h
theorem Hj{kk:Nat}:∀{ps:List (Nat×bn)} {es es':List (List (KV U))},(∀p∈ps,p.2.dO=true)->Hk S kk es ps=some es'->uf S.st kk (es.map fun e=>e.map KV.pv) ps=some (es'.map fun e=>e.map KV.pv)
 |[],es,es',_,h=>by injection h with h;subst h;rfl
 |(i,x)::ps,es,es',ho,h=>by
  simp only[Hk]at h;split at h
  ·rename_i hc;simp only[Qm]at hc;obtain⟨⟨h1,h2⟩,h3⟩:=hc;have h1:=QF h1;have h2:i<es.length:=QG h2;rw[uf,qJ (ho _ Qx),wQ,yc,Qr ⟨by simpa using h1,by simpa using h2,h3⟩,<-List.map_set]
   exact Hj (fun p hp=>ho p (Qy _ hp)) h
  ·cases h
theorem TD{T:U.Ty}:∀{es:List (List (KV U))} {vs:List (U.den T)},P8 K T es=some vs->BL (es.map fun e=>e.map KV.pv)=vs.map (U.pv T)/\(es.map fun e=>e.map KV.pv).all (fun u=>u.all PV.closed)=true
 |[],vs,h=>by injection h with h;subst h;exact⟨rfl,rfl⟩
 |e::es,vs,h=>by
  rw[P8]at h;split at h
  ·rename_i v hv;split at h
   ·rename_i vs' hvs;injection h with h
    subst h;obtain⟨h1,h2⟩:=TD hvs;obtain⟨h3,h4⟩:=rN (K.l9 _ _ _ _ hv);refine⟨?_,?_⟩
    ·rw[QD,QD,<-h1,<-h3];rfl
    ·rw[QD,Qq69,jE,h4,h2];rfl
   ·cases h
  ·cases h
theorem Ta{y:PV}(h:y.eH=true):y.one=true:=by
 cases y<;>first|rfl|cases h
theorem H9(T:U.Ty)(vs:List (U.den T)){kk:Nat}(hk:U.size T=kk)(K:TK U):(vs.map (U.pv T)).all (fun u=>u.length==kk&&u.all PV.one)=true:=by
 refine QH.2 fun u hu=> ?_
 obtain⟨v,_,rfl⟩:=QP.1 hu;rw[K.len,hk,QH.2 fun y hy=>Ta (K.eH T v y hy)]
 simp
theorem Zs{T:U.Ty}{x:KV U}{vs:List (U.den T)}(h:S.els T x=some vs):iY S.st x.pv=some (vs.map (U.pv T)):=by
 unfold aZ.els TC at h;split at h
 ·injection h with h;subst h;rfl
 ·obtain⟨e,rfl⟩:=o5 h;subst e;rfl
 ·rename_i id ak;obtain⟨hv,e,k,hc⟩:=Vr h;have hc1:(S.st.H id).c= .row e k (vs.map (U.pv T)):=by simp[aZ.st,dp.pv,hc,ea.pv]
  have hv1:(S.st.H id).ak=ak:=hv;rw[KV.pv,iY,Qr hv1,hc1]
 ·cases h
theorem KI{T' T:U.Ty}{xs:List (U.den T')}{ys:List (U.den T)}(h:wm T' T xs=some ys):xs.map (U.pv T')=ys.map (U.pv T):=by
 obtain⟨e,rfl⟩:=o5 h;subst e;rfl
theorem TE{α β:Type}(f:α->β)(xs:List α)(lo n:Nat)(ys:List α):(jL xs lo n ys).map f=jL (xs.map f) lo n (ys.map f):=by simp[jL,List.map_take,List.map_drop]
theorem afD{T:U.Ty}{x:KV U}{vs:List (U.den T)}(h:S.elv T x=some vs):iY S.st x.pv=some (vs.map (U.pv T)):=by
 unfold aZ.elv at h;split at h
 ·rename_i id ak kk lo n;split at h
  ·rename_i r hr;obtain⟨h4,h5⟩:=mO hr;split at h
   ·rename_i hk;split at h
    ·rename_i xs hc;injection h with h
     subst h;simp only[KV.pv,iY];rw[Qr h4,h5];simp only;rw[Qr (QF hk),KI hc,<-List.map_drop,<-List.map_take]
    ·cases h
   ·cases h
  ·cases h
 ·exact Zs h
theorem O4{T:U.Ty}:∀{xs:List (U.den T)} {l:List UInt8},MS (fun v=>XA (K.eI T v)) xs=some l->bytesOf (xs.map (U.pv T))=some l
 |[],l,h=>h
 |x::xs,l,h=>by
  simp only[MS]at h;split at h
  ·rename_i b bs hb hbs;injection h with h
   subst h;unfold XA at hb;split at hb
   ·rename_i n he;have:=K.oX T x;rw[he]at this;simp only[QD,QO,KV.pv]at this;simp only[QD,<-this,bytesOf,hb,O4 hbs]
   ·cases hb
  ·cases h
theorem ady{z:PV}(h:aaW z=true):z= .int .i64 0:=by
 unfold aaW at h;split at h
 ·rfl
 ·cases h
theorem adx{z:PV}(h:aaV z=true):z= .str ⟨#[]⟩:=by
 unfold aaV at h;split at h
 ·rename_i s;have h:=QF h;congr 1;exact ByteArray.ext (Array.eq_empty_of_size_eq_zero h)
 ·cases h
theorem ac1{ρ:Type}{q:PQ}{xs:List (KV U)}{k:KV U->Option ρ}{r:ρ}(h:aay K q xs k=some r):∃v,na q (xs.map KV.pv)=some v.pv/\k v=some r:=by
 unfold aay at h;split at h
 ·simp only[Qc]at h;obtain⟨v,hv,h⟩:=h;exact⟨_,by simp only[QD,QO,KV.pv,na,hv,Qe],h⟩
 ·simp only[Qc]at h;obtain⟨v,hv,h⟩:=h;exact⟨_,by simp only[QD,QO,KV.pv,na,hv,Qe],h⟩
 ·simp only[Qc]at h;obtain⟨v,hv,h⟩:=h;exact⟨_,by simp only[QD,QO,KV.pv,na,hv,Qe],h⟩
 ·simp only[Qc]at h;obtain⟨v,hv,h⟩:=h;exact⟨_,by simp only[QD,QO,KV.pv,na,hv,Qe],h⟩
 ·simp only[Qc]at h;obtain⟨v,hv,h⟩:=h;exact⟨_,by simp only[QD,QO,KV.pv,na,O4 hv,Qe],h⟩
 ·exact⟨_,by simp[KV.pv,na,PV.plain,PV.one],h⟩
 ·exact⟨_,by simp[KV.pv,na,PV.plain,PV.one],h⟩
 ·rename_i T z Ti Ts b n s;split at h
  ·rename_i h1 h3;rw[Qm]at h1;have e1:=QF h1.1;have e2:=ady h1.2;have e3:=Nat.ne_of_beq_eq_false h3;subst e1 e2;refine⟨_,?_,h⟩;cases b<;>simp[KV.pv,KV.DM,na,Ne.symm e3]
  ·rename_i _ h1 h3;rw[Qm]at h1;have e1:=QF h1.1;have e2:=adx h1.2;have e3:=Nat.ne_of_beq_eq_false h3;subst e1 e2;refine⟨_,?_,h⟩;cases b<;>simp[KV.pv,KV.DM,na,e3]
  ·cases h
 ·exact⟨_,rfl,h⟩
 ·exact⟨_,rfl,h⟩
 ·exact⟨_,rfl,h⟩
 ·exact⟨_,rfl,h⟩
 ·cases h
theorem adr{x:KV U}{n:Nat}(h:S.aaQ x=some n):∃es,iY S.st x.pv=some es/\es.length=n:=by
 unfold aZ.aaQ at h;split at h
 ·injection h with h;exact⟨[],rfl,h⟩
 ·rename_i T xs;injection h with h;exact⟨xs.map (U.pv T),rfl,by simpa using h⟩
 ·rename_i id ak;split at h
  ·rename_i r hr;obtain⟨hv,hc⟩:=mO hr;injection h with h
   refine⟨r.xs.map (U.pv r.T),?_,by simpa using h⟩
   rw[KV.pv,iY,Qr hv,hc]
  ·split at h
   ·rename_i r hr;obtain⟨hv,hc⟩:=RC hr;injection h with h
    refine⟨r.es.map fun c=>c.map KV.pv,?_,by simpa using h⟩
    rw[KV.pv,iY,Qr hv,hc]
   ·cases h
 ·rename_i id ak kk lo m;split at h
  ·rename_i r hr;obtain⟨hv,hc⟩:=mO hr;split at h
   ·rename_i hk;injection h with h
    refine⟨((r.xs.drop lo).take m).map (U.pv r.T),?_,by rw[QC];exact h⟩
    rw[KV.pv,iY,Qr hv,hc];simp only;rw[Qr (QF hk),List.map_take,List.map_drop]
   ·cases h
  ·cases h
 ·cases h
theorem Lv{l:List bn}{y:Option bn}{d n:Int}(hi1:∀(y:bn) (d n:Int),y∈l->Dp S (some y) d=some n->∃kd,y.val S.st= .int kd n)(hy:∀z,y=some z->z∈l)(h:Dp S y d=some n):sV S.st y d=some n:=by
 cases y with
 |none=>exact h
 |some z=>
  obtain⟨kd,hz⟩:=hi1 z d n (hy z rfl) h;simp only[sV,hz]
theorem BQ{xs:List bn}(h:∀x∈xs,x.dO=true):xs.map (·.val S.st)=(xs.map (·.cF S)).map KV.pv:=by
 rw[List.map_map];exact Qq70 fun x hx=>qJ (h x hx)
theorem aei{ρ:Type}{op:BinOp}{x y:KV U}{k:KV U->Option ρ}{r:ρ}(h:abn op x y k=some r):∃v:KV U,Io op x.pv y.pv=some v.pv/\k v=some r:=by
 unfold abn at h;split at h
 ·rename_i kd a kd' b;cases op<;>simp only at h<;>simp only[KV.pv,Io,HC]<;>
  first
  |(
    split at h
    ·cases h
    ·rename_i h1;exact⟨_,by rw[Qs h1];rfl,h⟩)
  |(
    split at h
    ·rename_i h1;rw[Qr h1]
     first
     |exact⟨_,rfl,h⟩
     |(
       split at h
       ·cases h
       ·rename_i h2;exact⟨_,by rw[Qs h2];rfl,h⟩)
     |cases h
    ·cases h)
 ·rename_i a b;cases op<;>simp only at h<;>simp only[KV.pv,Io,MU]<;>first|exact⟨_,rfl,h⟩|cases h
 ·cases h
theorem TW(K:TK U){ρ:Type}{z:Bool}{id ak e kk:Nat}{T:U.Ty}{xs:List (U.den T)}{k:KV U->Option (Nat×dp U)->Option ρ}{r:ρ}(h:XG z id ak e kk T xs k=some r):
  ∃x wr,HD z id ak e kk (xs.map (U.pv T))=some (x.pv,wr.map jm)/\k x wr=some r:=by
 cases z with
 |false=>exact⟨_,_,rfl,h⟩
 |true=>
  refine⟨_,_,?_,h⟩;simp only[HD];rw[Qr]
  ·rfl
  ·refine QH.2 fun u hu=> ?_
   obtain⟨x,_,rfl⟩:=QP.1 hu;exact QH.2 fun y hy=>iP (K.eH _ _ _ hy)
theorem UI{P:Program}{ρ:Type}{Γ:List (eJ U)}{nid:Nat}{op:bS}{k:KV U->Option (Nat×dp U)->Option ρ}{r:ρ}(hΓ:vH P Γ)(ho:op.dO=true)(h:fe K Γ nid S op k=some r):
  ∃Γ' x wr,lR P Γ'/\exec Γ' nid S.st op=some (x.pv,wr.map jm)/\k x wr=some r:=by
 have hov:∀x∈op.dj,x.val S.st=(x.cF S).pv:=fun x hx=>qJ (QH.1 ho x hx)
 have hoc:∀x∈op.dj,x.dO=true:=fun x hx=>QH.1 ho x hx
 have pure:∀{x:KV U} {wr:Option (Nat×dp U)},exec (fun _=>none) nid S.st op=some (x.pv,wr.map jm)->k x wr=some r->∃Γ' x wr,lR P Γ'/\exec Γ' nid S.st op=some (x.pv,wr.map jm)/\k x wr=some r:=
  fun{x wr} h1 h2=>⟨fun _=>none,x,wr,fun f m hm=>(by cases hm),h1,h2⟩
 cases op with
 |lI x=>
  have h1:=hov x (by simp[bS.dj])
  exact pure (by rw[exec,h1];rfl) h
 |pick c x y=>
  have h1:=hov c (by simp[bS.dj])
  have h2:=hov x (by simp[bS.dj])
  have h3:=hov y (by simp[bS.dj])
  simp only[fe]at h;split at h
  ·rename_i b hb;rw[hb]at h1;split at h
   ·exact pure (by rw[exec,h1];simp only[KV.pv];rw[h2];rfl) h
   ·exact pure (by rw[exec,h1];simp only[KV.pv];rw[h3];rfl) h
  ·cases h
 |box x=>
  have h1:=hov x (by simp[bS.dj])
  simp only[fe]at h;split at h
  ·rename_i hb;refine pure ?_ h;rw[exec,h1,wQ,yc,Qr hb];rfl
  ·cases h
 |Du x=>
  have h1:=hov x (by simp[bS.dj])
  simp only[fe]at h;split at h
  ·rename_i hb;refine pure ?_ h;rw[exec,h1,wQ,yc,jE,Qr hb];simp only[KV.pv,KV.cx,Qq64]
  ·cases h
 |alloc z=>
  simp only[fe]at h;split at h
  ·rename_i hb;refine pure ?_ h;simp only[exec,Qe,jm,dp.pv,ea.pv,DU S hb];rfl
  ·cases h
 |load n p=>
  have h1:=hov p (by simp[bS.dj])
  simp only[fe]at h;split at h
  ·rename_i id ak off hp;rw[hp]at h1;split at h
   ·rename_i cs hb;obtain⟨h2,h3⟩:=sv hb;split at h
    ·rename_i x hx;refine pure ?_ h;have:=Bs hx;rw[List.map_drop]at this;rw[exec,h1];simp only[KV.pv];rw[Qr h2,h3];simp only[this,Qe,Qq64]
    ·cases h
   ·cases h
  ·rename_i id ak kk i off hp;rw[hp]at h1;split at h
   ·rename_i rr hb;obtain⟨h2,h3⟩:=mO hb;split at h
    ·rename_i hk;simp only[Qc]at h;obtain⟨v,hv,h⟩:=h;split at h
     ·rename_i x hx;refine pure ?_ h;have:=Bs hx;rw[List.map_drop,K.oX]at this;rw[exec,h1];simp only[KV.pv];rw[Qr h2,h3];simp only[QF hk,Qt,QT,hv,Qe,this,Qq64]
     ·cases h
    ·cases h
   ·split at h
    ·rename_i rr hb;obtain⟨h2,h3⟩:=RC hb;split at h
     ·rename_i hk;split at h
      ·rename_i c hc;split at h
       ·rename_i x hx;refine pure ?_ h;have:=Bs hx;rw[List.map_drop]at this;rw[exec,h1];simp only[KV.pv];rw[Qr h2,h3];simp only[QF hk,Qt,QT,hc,Qe,this,Qq64]
       ·cases h
      ·cases h
     ·cases h
    ·cases h
  ·rename_i cs hp;rw[hp]at h1;split at h
   ·rename_i x hx;refine pure ?_ h;rw[exec,h1];simp only[KV.pv,KV.cx,Bs hx,Qe,Qq64]
   ·cases h
  ·cases h
 |store n p x=>
  have h1:=hov p (by simp[bS.dj])
  have h2:=hov x (by simp[bS.dj])
  simp only[fe]at h;split at h
  ·rename_i hc;rw[Qm]at hc;have hl:=QF hc.1
   have hc1:(x.val S.st).cells.length=n/\(x.val S.st).cells.all PV.one=true:=by
    rw[h2,wQ,yc];exact⟨by simpa using hl,hc.2⟩
   split at h
   ·rename_i id ak off hp;rw[hp]at h1;split at h
    ·rename_i cs hb;obtain⟨h3,h4⟩:=sv hb;split at h
     ·rename_i hle;refine pure ?_ h;rw[exec,Qr hc1,h1];simp only[KV.pv];rw[Qr h3,h4];simp only[QC];rw[Qr (QG hle),h2,wQ];simp only[Qe,jm,dp.pv,ea.pv,Gb]
     ·cases h
    ·cases h
   ·rename_i id ak kk i off hp;rw[hp]at h1;split at h
    ·rename_i rr hb;obtain⟨h3,h4⟩:=mO hb;split at h
     ·rename_i hk;simp only[Qm]at hk;obtain⟨⟨hk1,hk2⟩,hk3⟩:=hk;have hk1:=QF hk1;have hk2:=QF hk2;have hk3:=QG hk3;simp only[Qc]at h;obtain⟨v,hv,h⟩:=h;split at h
      ·rename_i v' hd;refine pure ?_ h;obtain⟨h5,_⟩:=rN (K.l9 _ _ _ _ hd);rw[Gb,K.oX]at h5
       have h6:gW (U.pv rr.T v) off (((x.cF S).cells.map KV.pv).map nz)=U.pv rr.T v':=by
        rw[<-h5]
        have hnz:(U.pv rr.T v).map nz=U.pv rr.T v:=by
         refine(Qq70 fun y hy=> ?_).trans (List.map_id _)
         have:=K.eH _ _ _ hy;cases y<;>first|rfl|cases this
        simp only[gW,List.map_append,List.map_take,List.map_drop,hnz,QC]
       rw[exec,Qr hc1,h1];simp only[KV.pv];rw[Qr h3,h4];simp only[hk1,Qt,QT,hv,Qe,K.len];rw[Qr hk3,h2,wQ,h6];simp only[jm,dp.pv,ea.pv,List.map_set]
      ·cases h
     ·cases h
    ·cases h
   ·cases h
  ·cases h
 |build z ps=>
  simp only[fe]at h;split at h
  ·rename_i hz;split at h
   ·rename_i cs hf;refine pure ?_ h;have:=Tl (fun p hp=>hoc _ (by simp only[bS.dj,QP];exact⟨p,hp,rfl⟩)) hf
    rw[DU S hz]at this;rw[exec,this];simp only[Qe,Qq64,KV.pv,KV.cx]
   ·cases h
  ·cases h
 |MT m e kk z ps=>
  simp only[fe]at h;split at h
  ·rename_i T hT;split at h
   ·rename_i hz;rw[Qm]at hz;split at h
    ·rename_i es hf;split at h
     ·rename_i vs hd;have h1:=Hj (fun p hp=>hoc _ (by simp only[bS.dj,QP];exact⟨p,hp,rfl⟩)) hf
      have h2:(z.map fun u=>u.map (KV.Jh:PV->KV U)).map (fun e=>e.map KV.pv)=z:=by
       rw[List.map_map];refine(Qq70 fun u hu=> ?_).trans (List.map_id _)
       exact DU S (QH.1 hz.2 u hu)
      rw[h2]at h1;obtain⟨h3,h4⟩:=TD hd;split at h
      ·refine pure ?_ h;rw[exec,h1];simp only[h4,and_self,Qt,h3,KV.pv,Qq64]
      ·refine pure ?_ h;rw[exec,h1];simp only[Bool.true_eq_false,false_and,Qu,h3,KV.pv,Qe,jm,dp.pv,ea.pv];rfl
     ·cases h
    ·cases h
   ·cases h
  ·split at h
   ·rename_i hz;rw[Qm]at hz;split at h
    ·rename_i es hf;split at h
     ·rename_i hnn;have h1:=Hj (fun p hp=>hoc _ (by simp only[bS.dj,QP];exact⟨p,hp,rfl⟩)) hf
      have h2:(z.map fun u=>u.map (KV.Jh:PV->KV U)).map (fun e=>e.map KV.pv)=z:=by
       rw[List.map_map];refine(Qq70 fun u hu=> ?_).trans (List.map_id _)
       exact DU S (QH.1 hz.2 u hu)
      rw[h2]at h1
      have h3:BL (es.map fun e=>e.map KV.pv)=es.map fun e=>e.map KV.pv:=by
       unfold BL;rw[List.map_map];refine Qq70 fun c hc=> ?_
       simp only[Function.comp,List.map_map];refine Qq70 fun y hy=> ?_
       have:=QH.1 (QH.1 hnn c hc) y hy;cases y<;>first|rfl|cases this|simp[KV.pv,nz]
      have hm:m=true:=hz.1;subst hm;refine pure ?_ h;rw[exec,h1];simp only[Bool.true_eq_false,false_and,Qu,h3,KV.pv,Qe,jm,dp.pv,ea.pv];rfl
     ·cases h
    ·cases h
   ·cases h
 |zN off p=>
  have h1:=hov p (by simp[bS.dj])
  simp only[fe]at h;split at h
  ·rename_i id ak o hp;rw[hp]at h1;split at h
   ·rename_i cs hb;obtain⟨h2,h3⟩:=sv hb;refine pure ?_ h;rw[exec,h1];simp only[KV.pv];rw[Qr h2,h3];rfl
   ·cases h
  ·rename_i id ak kk i o hp;rw[hp]at h1;split at h
   ·rename_i rr hb;obtain⟨h2,h3⟩:=mO hb;simp only[Qc]at h;obtain⟨v,hv,h⟩:=h;refine pure ?_ h;have hi:=(Qw.1 hv).1;rw[exec,h1];simp only[KV.pv];rw[Qr h2,h3];simp only[QC,hi,Qt,Qq64]
   ·cases h
  ·rename_i cs hp;rw[hp]at h1;refine pure ?_ h;rw[exec,h1];simp only[KV.pv,KV.cx,List.map_drop,Qq64]
  ·cases h
 |zK kk x i=>
  have h1:=hov x (by simp[bS.dj])
  have h2:=hov i (by simp[bS.dj])
  simp only[fe]at h;split at h
  ·rename_i kd n hn;rw[hn]at h2;split at h
   ·rename_i T xs hx;rw[hx]at h1;split at h
    ·rename_i hk;simp only[Qc]at h;obtain⟨v,hv,h⟩:=h;obtain⟨hi0,hi1,hi2⟩:=Ks hv;refine pure ?_ h;rw[exec,h2];simp only[KV.pv];rw[h1];simp only[KV.pv,QC];rw[Qr ⟨hi0,by omega⟩]
     simp only[QT,hi2,Qe,K.len,QF hk,Qt,KV.cx,K.oX,Qq64]
    ·cases h
   ·rename_i id ak hx;rw[hx]at h1;split at h
    ·rename_i rr hb;obtain⟨h3,h4⟩:=mO hb;split at h
     ·rename_i hk;simp only[Qc]at h;obtain⟨v,hv,h⟩:=h;obtain⟨hi0,hi1,hi2⟩:=Ks hv;refine pure ?_ h;rw[exec,h2];simp only[KV.pv];rw[h1];simp only[KV.pv];rw[Qr h3,h4];simp only[QC];rw[Qr ⟨QF hk,hi0,by omega⟩]
      rfl
     ·cases h
    ·split at h
     ·rename_i rr hb;obtain⟨h3,h4⟩:=RC hb;split at h
      ·rename_i j;split at h
       ·rename_i hk;rw[Qm]at hk;have hlt:j<rr.es.length:=QG hk.2;refine pure ?_ h;rw[exec,h2];simp only[KV.pv];rw[h1];simp only[KV.pv];rw[Qr h3,h4];simp only[QC];rw[Qr ⟨QF hk.1,Int.natCast_nonneg j,Int.ofNat_lt.2 hlt⟩];rfl
       ·cases h
      ·cases h
     ·cases h
   ·rename_i id ak kk' lo m hx;rw[hx]at h1;split at h
    ·rename_i rr hb;obtain⟨h3,h4⟩:=mO hb;split at h
     ·rename_i hk;rw[Qm]at hk;simp only[Qc]at h;obtain⟨v,hv,h⟩:=h;obtain⟨hi0,hi1,hi2⟩:=Ks hv;refine pure ?_ h;rw[exec,h2];simp only[KV.pv];rw[h1];simp only[KV.pv];rw[Qr h3,h4];simp only[QC];simp only[List.length_take,List.length_drop]at hi1;rw[Qr ⟨QF hk.1,QF hk.2,hi0,by omega,by omega⟩]
      rfl
     ·cases h
    ·cases h
   ·cases h
  ·cases h
 |xp x i=>
  have h1:=hov x (by simp[bS.dj])
  have h2:=hov i (by simp[bS.dj])
  simp only[fe]at h;split at h
  ·rename_i s _ n hx hi;rw[hx]at h1;rw[hi]at h2;simp only[Qc]at h;obtain⟨b,hb,h⟩:=h;refine pure ?_ h;rw[exec,h1,h2];simp only[KV.pv,hb,Qe,Qq64]
  ·cases h
 |Dw e n len kk x i=>
  have h1:=hov x (by simp[bS.dj])
  have h2:=hov i (by simp[bS.dj])
  simp only[fe]at h;split at h
  ·rename_i cs _ j hx hi;rw[hx]at h1;rw[hi]at h2;split at h
   ·rename_i T hT;split at h
    ·rename_i hk;split at h
     ·rename_i vs hvs;simp only[Qc]at h;obtain⟨v,hv,h⟩:=h;obtain⟨hlen,hget⟩:=JC K hvs
      have hv0:0<=j/\vs[j.toNat]?=some v:=by
       unfold idx at hv;split at hv
       ·rename_i h0;exact⟨h0,hv⟩
       ·cases hv
      have hjl:j.toNat<vs.length:=(Qw.1 hv0.2).1;obtain⟨hnz,_⟩:=rN (K.l9 _ _ _ _ (hget _ _ hv0.2));rw[Qm]at hk;have hkk:=QF hk.1;have hpl:=K.len T v
      have hcl:((cs.drop (j.toNat*kk)).take kk).length=kk:=by
       have:=congrArg List.length hnz;simp only[QC]at this;omega
      refine pure ?_ h;rw[exec,h1,h2];simp only[KV.pv,KV.cx];rw[Qr ⟨hv0.1,by omega⟩,DD]
      have hsplit:((cs.map KV.pv).drop (j.toNat*kk)).map nz=U.pv T v++(((cs.drop (j.toNat*kk)).drop kk).map KV.pv).map nz:=by
       rw[<-hnz,<-List.map_append,<-List.map_append,List.take_append_drop,List.map_drop,List.map_drop,List.map_drop]
      rw[hsplit]
      cases n with
      |none=>
       simp only[XL,Qm,Bool.not_eq_true']at hk;have h1k:=QF hk.2.2;obtain⟨y,hy1,hy2⟩:=uJ K v hk.2.1
       cases hp:U.pv T v with
       |nil=>rw[hp]at hy2;cases hy2
       |cons y0 l=>
        have hl0:l=[]:=by
         rw[hp,QE]at hpl;exact Qq66 (by omega)
        rw[hp,hl0,Q4]at hy2;rw[hl0];simp only[List.singleton_append,xb,Qe,Qq64];rw[hy1,hy2]
      |some m=>
       simp only[XL,Qm]at hk;have hm:=QF hk.2.2;subst hm;simp only[xb];rw[Qr (by rw[QB];omega),List.take_append_of_le_length (by omega),List.take_of_length_le (by omega),w6 v hk.2.1]
       rfl
     ·cases h
    ·cases h
   ·cases h
  ·cases h
 |zQ kk len x i=>
  have h1:=hov x (by simp[bS.dj])
  have h2:=hov i (by simp[bS.dj])
  simp only[fe]at h;split at h
  ·rename_i kd n hi;rw[hi]at h2;split at h
   ·rename_i hb;have hlt:n<len:=by simpa using hb
    have hc:(0:Int)<=Int.ofNat n/\Int.ofNat n<(len:Int):=⟨Int.natCast_nonneg n,Int.ofNat_lt.2 hlt⟩;split at h
    ·rename_i id ak o hx;rw[hx]at h1;split at h
     ·rename_i cs hbx;obtain⟨h3,h4⟩:=sv hbx;refine pure ?_ h;rw[exec,h2];simp only[KV.pv];rw[Qr hc,h1];simp only[KV.pv];rw[Qr h3,h4];rfl
     ·cases h
    ·rename_i cs hx;rw[hx]at h1;refine pure ?_ h;rw[exec,h2];simp only[KV.pv];rw[Qr hc,h1];simp only[KV.pv,KV.cx,List.map_drop,Qq64];rfl
    ·cases h
   ·cases h
  ·cases h
 |bin op x y=>
  have h1:=hov x (by simp[bS.dj])
  have h2:=hov y (by simp[bS.dj])
  simp only[fe]at h;obtain⟨v,h3,h4⟩:=aei h;refine pure ?_ h4;rw[exec,h1,h2,h3];rfl
 |nR neg x y=>
  have h1:=hov x (by simp[bS.dj])
  have h2:=hov y (by simp[bS.dj])
  simp only[fe]at h;split at h
  ·rename_i hx hy;rw[hx]at h1;rw[hy]at h2;split at h
   ·rename_i hk;refine pure ?_ h;rw[exec,h1,h2];simp only[KV.pv,KV.DM,hk,Qt,Qq64]
   ·cases h
  ·cases h
 |ow q xs=>
  simp only[fe]at h;have hx:xs.map (·.val S.st)=(xs.map (·.cF S)).map KV.pv:=by rw[List.map_map];exact Qq70 fun y hy=>hov y (by simpa[bS.dj]using hy)
  obtain⟨v,hv,h⟩:=ac1 h;refine pure ?_ h;rw[exec,hx,hv];rfl
 |JA e kk x y=>
  have h1:=hov x (by simp[bS.dj])
  have h2:=hov y (by simp[bS.dj])
  simp only[fe]at h;split at h
  ·rename_i T hT;split at h
   ·rename_i hk;have hk:=QF hk;split at h
    ·rename_i ys hn;have h3:=afD hn;split at h
     ·rename_i id ak hs;rw[hs]at h1;split at h
      ·rename_i rr hb;obtain⟨h4,h5⟩:=mO hb;split at h
       ·rename_i he;rw[Qm]at he;have he1:=QF he.1;have he2:=QF he.2;split at h
        ·rename_i xs hc;have hpv:rr.xs.map (U.pv rr.T)=xs.map (U.pv T):=KI hc;refine pure ?_ h;rw[exec,h2,h3];simp only[h1,KV.pv];rw[Qr h4,h5];simp only[hpv,QC];rw[Qr ⟨he1.symm,he2.symm,H9 T ys hk K⟩];simp only[Qe,jm,dp.pv,ea.pv,TE]
        ·cases h
       ·cases h
      ·cases h
     ·rename_i id ak kk' lo n hs;rw[hs]at h1;split at h
      ·rename_i rr hb;obtain⟨h4,h5⟩:=mO hb;split at h
       ·rename_i he;rw[Qm,Qm]at he;have he1:=QF he.1.1;have he2:=QF he.1.2;have he3:=QF he.2;split at h
        ·rename_i xs hc;have hpv:rr.xs.map (U.pv rr.T)=xs.map (U.pv T):=KI hc;refine pure ?_ h;rw[exec,h2,h3];simp only[h1,KV.pv];rw[Qr h4,h5];simp only[hpv,QC];rw[Qr ⟨he1.symm,he2.symm,he3,H9 T ys hk K⟩];simp only[Qe,jm,dp.pv,ea.pv,TE]
        ·cases h
       ·cases h
      ·cases h
     ·cases h
    ·cases h
   ·cases h
  ·cases h
 |Jv n off x=>
  have h1:=hov x (by simp[bS.dj])
  simp only[fe]at h;split at h
  ·rename_i cs hp;rw[hp]at h1;split at h
   ·rename_i v hx;refine pure ?_ h;have:=Bs hx;rw[List.map_drop]at this;rw[exec,h1];simp only[KV.pv,KV.cx,this,Qe,Qq64]
   ·cases h
  ·cases h
 |Hl neg x y=>
  have h1:=hov x (by simp[bS.dj])
  have h2:=hov y (by simp[bS.dj])
  simp only[fe]at h;split at h
  ·rename_i hx hy;rw[hx]at h1;rw[hy]at h2;refine pure ?_ h;rw[exec,h1,h2];rfl
  ·cases h
 |not x=>
  have h1:=hov x (by simp[bS.dj])
  simp only[fe]at h;split at h
  ·rename_i hx;rw[hx]at h1;exact pure (by rw[exec,h1];rfl) h
  ·cases h
 |conv kd x=>
  have h1:=hov x (by simp[bS.dj])
  simp only[fe]at h;split at h
  ·rename_i hx;rw[hx]at h1;exact pure (by rw[exec,h1];rfl) h
  ·cases h
 |len b x=>
  have h1:=hov x (by simp[bS.dj])
  cases b with
  |true=>
   simp only[fe]at h;split at h
   ·rename_i hx;rw[hx]at h1;exact pure (by rw[exec,h1];rfl) h
   ·cases h
  |false=>
   simp only[fe]at h;split at h
   ·rename_i n hx;obtain⟨es,h2,h3⟩:=adr hx;exact pure (by rw[exec,h1,h2];simp only[Qe,Qq64,KV.pv,h3]) h
   ·cases h
 |call f xs=>
  simp only[fe]at h;obtain⟨Γ',x,wr,h1,h2,h3⟩:=dR hΓ h;refine⟨Γ',x,wr,h1,?_,h3⟩;rw[exec,BQ (xs:=xs) hoc];exact h2
 |vb fv xs=>
  have h0:=hov fv (by simp[bS.dj])
  simp only[fe]at h;split at h
  ·rename_i f caps hf;rw[hf]at h0;obtain⟨Γ',x,wr,h1,h2,h3⟩:=dR hΓ h;refine⟨Γ',x,wr,h1,?_,h3⟩;rw[exec,h0];simp only[KV.pv];rw[BQ (fun x hx=>hoc x (by simp[bS.dj,hx])),KV.cx,<-List.map_append]
   exact h2
  ·rename_i f caps hf;rw[hf]at h0;obtain⟨Γ',x,wr,h1,h2,h3⟩:=dR hΓ h;refine⟨Γ',x,wr,h1,?_,h3⟩;rw[exec,h0];simp only[KV.pv];rw[BQ (fun x hx=>hoc x (by simp[bS.dj,hx])),KV.cx,<-List.map_append]
   exact h2
  ·cases h
 |cY z e kk bytes s x=>
  have h1:=hov s (by simp[bS.dj])
  have h2:=hov x (by simp[bS.dj])
  simp only[fe]at h;split at h
  ·rename_i T hT;split at h
   ·rename_i hk;have hk:=QF hk;split at h
    ·rename_i news hn;have h3:=Zs hn;split at h
     ·rename_i hs;rw[hs]at h1
      cases hl:aX bytes news.length with
      |false=>rw[hl]at h;cases h
      |true=>
       rw[hl]at h;obtain⟨hl1,hl2⟩:=Bd hl;obtain⟨x0,wr0,g1,g2⟩:=TW K h;refine pure ?_ g2;rw[exec,h2,h3];simp only[H9 T news hk K,Qt,h1,KV.pv,QC];rw[Qr ⟨hl1,hl2⟩];exact g1
     ·rename_i id ak hs;rw[hs]at h1;split at h
      ·rename_i rr hb;obtain⟨h4,h5⟩:=mO hb;split at h
       ·rename_i he;rw[Qm]at he;have he1:=QF he.1;have he2:=QF he.2;split at h
        ·rename_i xs hc
         have hpv:rr.xs.map (U.pv rr.T)=xs.map (U.pv T):=by
          obtain⟨eT,hxs⟩:=o5 hc;obtain⟨re,rk,rT,rxs⟩:=rr;simp only at eT hxs ⊢;subst eT;rw[hxs]
         cases hl:aX bytes (xs.length+news.length)with
         |false=>rw[hl]at h;cases h
         |true=>
          rw[hl]at h;obtain⟨hl1,hl2⟩:=Bd hl;obtain⟨x0,wr0,g1,g2⟩:=TW K h;refine pure ?_ g2;rw[exec,h2,h3];simp only[H9 T news hk K,Qt,h1,KV.pv];rw[Qr h4,h5];simp only[hpv,QC];rw[Qr ⟨he1.symm,he2.symm,hl1,hl2⟩];rw[List.map_append]at g1;exact g1
        ·cases h
       ·cases h
      ·cases h
     ·cases h
    ·cases h
   ·cases h
  ·cases h
 |zG x=>
  have h1:=hov x (by simp[bS.dj])
  simp only[fe]at h;split at h
  ·rename_i id ak o hp;rw[hp]at h1;split at h
   ·rename_i cs hb;obtain⟨h2,h3⟩:=sv hb;refine pure ?_ h;rw[exec,h1];simp only[KV.pv];rw[Qr h2,h3];rfl
   ·cases h
  ·rename_i cs hp;rw[hp]at h1;exact pure (by rw[exec,h1];rfl) h
  ·rename_i cs hp;rw[hp]at h1;exact pure (by rw[exec,h1];rfl) h
  ·cases h
 |vy i x=>
  have h1:=hov x (by simp[bS.dj])
  simp only[fe]at h;split at h
  ·rename_i cs hx;rw[hx]at h1;split at h
   ·rename_i y hy;refine pure ?_ h;rw[exec,h1];simp only[KV.pv,KV.cx,QT,hy,Qe,Qq64]
   ·cases h
  ·cases h
 |Jj f caps=>
  refine pure ?_ h;rw[exec,BQ (xs:=caps) hoc];simp only[KV.pv,KV.cx,Qq64]
 |Jk f caps=>
  refine pure ?_ h;rw[exec,BQ (xs:=caps) hoc];simp only[KV.pv,KV.cx,Qq64]
 |D8 neg ks x y=>
  have h1:=hov x (by simp[bS.dj])
  have h2:=hov y (by simp[bS.dj])
  simp only[fe]at h;split at h
  ·rename_i cs ds hx hy;rw[hx]at h1;rw[hy]at h2;split at h
   ·rename_i b hb;refine pure ?_ h;rw[exec,h1,h2];simp only[KV.pv,KV.cx,Fa hb,Qe,Qq64]
   ·cases h
  ·cases h
 |LJ e kk bytes z l c=>
  have h1:=hov l (by simp[bS.dj])
  have h2:=hov c (by simp[bS.dj])
  simp only[fe]at h;split at h
  ·rename_i T hT;split at h
   ·rename_i hz;rw[Qm]at hz;split at h
    ·rename_i d hd;split at h
     ·rename_i _ n _ m hl hc;rw[hl]at h1;rw[hc]at h2
      cases hb:(decide (n<=m)&&decide (0<=n)&&aX bytes m.toNat)with
      |false=>rw[hb]at h;cases h
      |true=>
       rw[hb]at h;simp only[Qm,Qi]at hb;obtain⟨⟨h3,h4⟩,h5⟩:=hb;obtain⟨h5,h6⟩:=Bd h5;refine pure ?_ h;have h7:=(rN (K.l9 _ _ _ _ hd)).1;rw[DU S hz.2]at h7;rw[exec,h1,h2];simp only[KV.pv];rw[Qr ⟨h3,h4,h5,h6⟩,h7];simp only[Qe,jm,dp.pv,ea.pv,List.map_replicate];rfl
     ·cases h
    ·cases h
   ·cases h
  ·cases h
 |Gc kk x lo hi=>
  have h1:=hov x (by simp[bS.dj])
  have hi1:∀(y:bn) (d n:Int),y∈(bS.Gc kk x lo hi).dj->Dp S (some y) d=some n->∃kd,y.val S.st= .int kd n:=by
   intro y d n ho hn;have:=hov y ho;simp only[Dp]at hn;split at hn
   ·rename_i kd _ hy;rw[hy]at this;injection hn with hn;subst hn;exact⟨kd,this⟩
   ·cases hn
  simp only[fe]at h;split at h
  ·rename_i T xs hx;rw[hx]at h1;split at h
   ·rename_i hk;have hk:=QF hk;split at h
    ·rename_i l hh hl hhi
     cases hs:eA l hh xs.length with
     |false=>rw[hs]at h;cases h
     |true=>
      rw[hs]at h;refine pure ?_ h;simp only[eA,Qm,Qi]at hs;obtain⟨⟨h4,h5⟩,h6⟩:=hs
      have h7:(xs.map (U.pv T)).all (fun e=>e.length==kk)=true:=QH.2 fun u hu=>by
       obtain⟨v,_,rfl⟩:=QP.1 hu;rw[K.len,hk];simp
      unfold exec;simp only[h1,KV.pv,QC,h7,Qt]
      have fin:∀(l hh:Int),0<=l/\l<=hh/\hh<=(xs.length:Int)->(if 0<=l/\l<=hh/\hh<=(xs.length:Int)then some (PV.sl (((xs.map (U.pv T)).take hh.toNat).drop l.toNat),(none:Option (Nat×fE)))else none)=some (PV.sl (((xs.take hh.toNat).drop l.toNat).map (U.pv T)),Option.map jm (none:Option (Nat×dp U))):=fun l hh hc=>by
       rw[Qr hc];simp only[List.map_take,List.map_drop,Qq64]
      cases lo with
      |none=>
       injection hl with hl
       subst hl
       cases hi with
       |none=>injection hhi with hhi;subst hhi;exact fin _ _ ⟨h4,h5,h6⟩
       |some y=>obtain⟨kd,hy⟩:=hi1 y _ _ (by simp[bS.dj]) hhi;simp only[hy];exact fin _ _ ⟨h4,h5,h6⟩
      |some z=>
       obtain⟨kz,hz⟩:=hi1 z _ _ (by simp[bS.dj]) hl
       cases hi with
       |none=>injection hhi with hhi;subst hhi;simp only[hz];exact fin _ _ ⟨h4,h5,h6⟩
       |some y=>obtain⟨kd,hy⟩:=hi1 y _ _ (by simp[bS.dj]) hhi;simp only[hz,hy];exact fin _ _ ⟨h4,h5,h6⟩
    ·cases h
   ·cases h
  ·rename_i id ak hx;rw[hx]at h1;split at h
   ·rename_i rr hb;obtain⟨h3,h4⟩:=mO hb;split at h
    ·rename_i hk;have hk:=QF hk;split at h
     ·rename_i l hh hl hhi;have e1:=Lv (hi1:=hi1) (y:=lo) (fun y hy=>by simp[bS.dj,hy]) hl
      have e2:=Lv (hi1:=hi1) (y:=hi) (fun y hy=>by simp[bS.dj,hy]) hhi
      cases hs:eA l hh rr.xs.length with
      |false=>rw[hs]at h;cases h
      |true=>
       rw[hs]at h;refine pure ?_ h;simp only[eA,Qm,Qi]at hs;unfold exec;simp only[h1,KV.pv];rw[Qr h3,h4];simp only[QC];rw[Qr hk,e1,e2];simp only;rw[Qr ⟨hs.1.1,hs.1.2,hs.2⟩];rfl
     ·cases h
    ·cases h
   ·cases h
  ·rename_i id ak kk' lo0 n0 hx;rw[hx]at h1;split at h
   ·rename_i rr hb;obtain⟨h3,h4⟩:=mO hb;split at h
    ·rename_i hk;rw[Qm]at hk;split at h
     ·rename_i l hh hl hhi;have e1:=Lv (hi1:=hi1) (y:=lo) (fun y hy=>by simp[bS.dj,hy]) hl
      have e2:=Lv (hi1:=hi1) (y:=hi) (fun y hy=>by simp[bS.dj,hy]) hhi
      cases hs:eA l hh n0 with
      |false=>rw[hs]at h;cases h
      |true=>
       rw[hs]at h;refine pure ?_ h;simp only[eA,Qm,Qi]at hs;unfold exec;simp only[h1,KV.pv];rw[Qr h3,h4];simp only;rw[Qr ⟨QF hk.1,QF hk.2⟩,e1,e2];simp only;rw[Qr ⟨hs.1.1,hs.1.2,hs.2⟩];rfl
     ·cases h
    ·cases h
   ·cases h
  ·cases h
 |tY mx x y=>
  have h1:=hov x (by simp[bS.dj])
  have h2:=hov y (by simp[bS.dj])
  simp only[fe]at h;split at h
  ·rename_i hx hy;rw[hx]at h1;rw[hy]at h2;split at h
   ·rename_i hk;refine pure ?_ h;rw[exec,h1,h2];simp only[KV.pv,hk,Qt,Qq64]
   ·cases h
  ·cases h
 |xS neg x=>
  have h1:=hov x (by simp[bS.dj])
  simp only[fe]at h;split at h
  ·rename_i hx;rw[hx]at h1;exact pure (by unfold exec;simp only[h1,KV.pv,Qq64]) h
  ·rename_i T xs hx;rw[hx]at h1
   cases xs with
   |nil=>exact pure (x:= .fW) (by unfold exec;simp only[h1,KV.pv,iY,QO,Qq64]) h
   |cons y l=>exact pure (x:= .bool neg) (by unfold exec;simp only[h1,KV.pv,iY,QD,Qq64]) h
  ·cases h
end
end
section
open Go.RowKit
section
variable {P : Program} {S : St} {nt : Nat} {Q : Exit -> St -> Prop} {E : En} {a : Act} {w : World} {L : Nat -> Value}
theorem Rel.aeQ(h:Rel E S a w L){id:Nat}(hid:id<S.N)(e k:Nat):
  Rel E {S with H:=bJ S.H id ⟨(S.H id).ak+1,.row e k []⟩} a w (bJ L id (.slice none 0 0)):=
 (h.qA (w':=w) hid ⟨(S.H id).ak+1,.row e k []⟩ (.slice none 0 0) (.inr (Nat.lt_succ_self _)) rfl rfl rfl (QI _) (fun _ _ _=>rfl)
  (fun b _ hb=>by simp[cW]at hb) (fun _ _=>⟨[],⟨by simp,.inl ⟨rfl,rfl⟩⟩,by simp,by exact⟨rfl,fun i y v hy=>by simp at hy⟩⟩)).1
theorem ae6{S:St}{id:Nat}(hid:id<S.N)(e k:Nat){w:World}{M:Nat->Prop}{v:Value}(h:v= .slice none 0 0):
  bm w M (St.gh {S with H:=bJ S.H id ⟨(S.H id).ak+1,.row e k []⟩} (bJ L id (.slice none 0 0))) (.own id ((S.H id).ak+1)) v:=by
 subst h;exact .own _ _ _ _ _ hid (by simp[St.gh]) (fun _=>by simp[St.gh])
end
end
section
open Go.RowKit
section
variable {P : Program} {E : En} {S : St} {a : Act} {w : World} {L : Nat -> Value}
theorem Rel.ah9(h:Rel E S a w L){id ak k n e0 k':Nat}{es:List (List PV)}{v:Value}(r:bm w (br E S L) (S.gh L) (.view id ak k 0 n) v)(hver:(S.H id).ak=ak)(hc:(S.H id).c= .row e0 k' es):
  Rel E {S with H:=bJ S.H id ⟨ak+1,.row e0 k' (es.take n)⟩} a w (bJ L id v)/\bm w (br E {S with H:=bJ S.H id ⟨ak+1,.row e0 k' (es.take n)⟩} (bJ L id v)) (St.gh {S with H:=bJ S.H id ⟨ak+1,.row e0 k' (es.take n)⟩} (bJ L id v)) (.own id (ak+1)) v:=by
 obtain⟨hN,ad,c,hv,hat⟩:=r.yJ (show(S.gh L).V id=ak from hver)
 have hle:=h.HO hN hc hat;obtain⟨a0,m0,c0,hl,q1,q2,q3,q4⟩:=hat;have hl:L id= .slice a0 m0 c0:=hl;have hlive:(S.H id).c.live=true:=by rw[hc];rfl
 obtain⟨vs,hown,hk,hr⟩:=h.jt hN hc
 have had:ad=a0:=by
  rcases q4 with q4|q4
  ·exact absurd rfl q4.2.1
  ·rw[q4];cases a0<;>simp[Addr.add]
 have hc0:c=c0:=by omega
 subst had hc0;have hbv:cW v=cW (L id):=by rw[hv,hl];cases ad<;>rfl
 have hlen:(es.take n).length=n:=by simp;omega
 have hnew:w.ownsRow (gI E v) e0 k' v (es.take n).length (vs.take (n*k')):=by
  rw[AD hbv,hlen];have hvl:vs.length=es.length*k':=hown.1;have hnk:n*k'<=es.length*k':=Qq62 _ (by omega)
  refine⟨by rw[List.length_take,hvl];omega,?_⟩
  rcases hown.2 with⟨hL,h0⟩|⟨g,cap,cur,hL,hb1,hh,hnc,hcm,hcs,htake⟩
  ·left;rw[hl]at hL;injection hL with e1 e2 e3
   subst e1 e2 e3;have hn0:n=0:=by omega
   subst hn0;exact⟨hv,rfl⟩
  ·right;rw[hl]at hL;injection hL with e1 e2 e3
   subst e1 e2 e3;refine⟨g,c,cur,hv,hb1,hh,by omega,hcm,hcs,?_⟩
   rw[<-htake,List.take_take,Nat.min_eq_left hnk]
 obtain⟨h1,hs,hg⟩:=h.qA (w':=w) hN ⟨ak+1,.row e0 k' (es.take n)⟩ v (.inr (by show(S.H id).ak<ak+1;omega)) rfl rfl rfl (QI _) (fun _ _ _=>rfl)
  (fun b _ hb=> .inl ⟨hlive,by rw[<-hbv];exact hb⟩)
  (fun hs hg=>⟨_,hnew,fun u hu=>hk u (Q0 hu),by rw[qN k' n es hk];exact(hr.take _).mono hs hg⟩)
 refine⟨h1,?_⟩;subst hv;exact .own _ _ _ _ _ hN (by simp[St.gh]) (fun _=>by simp[St.gh])
theorem Rel.abR(h:Rel E S a w L){id:Nat}{cs cs':List PV}(hid:id<S.N)(hc:(S.H id).c= .box cs)(hr:∀vs,bg w (br E S L) (S.gh L) cs vs->bg w (br E S L) (S.gh L) cs' vs):
  Rel E {S with H:=bJ S.H id ⟨(S.H id).ak,.box cs'⟩} a w L:=by
 have:=(h.qA (w':=w) hid ⟨(S.H id).ak,.box cs'⟩ (L id) (.inl ⟨rfl,rfl,by rw[hc];rfl⟩) rfl rfl rfl (QI _) (fun _ _ _=>rfl) (fun b _ hb=> .inl ⟨by rw[hc];rfl,hb⟩) (fun hs hg=>by
  obtain⟨b,cur,T,h1,h2,h3,h4⟩:=h.o6 hid hc
  exact⟨b,cur,T,h1,h2,h4,(hr _ h3).mono hs hg⟩)).1
 rwa [Eo]at this
theorem bg.set{M:Nat->Prop}{G:Gh}{cs:List PV}{vs:List Value}(h:bg w M G cs vs)(i:Nat)(y:PV)(hy:∀v,vs[i]?=some v->bm w M G y v):bg w M G (cs.set i y) vs:=by
 refine⟨by rw[QX];exact h.1,fun j x v hx hv=> ?_⟩
 rw[List.getElem?_set]at hx;split at hx
 ·rename_i hij;subst hij;split at hx
  ·injection hx with hx;subst hx;exact hy v hv
  ·cases hx
 ·exact h.2 j x v hx hv
theorem Rel.acu(h:Rel E S a w L){S':St}(hH:S'.H=S.H)(hN:S'.N=S.N)(he:∀t,S'.env t=S.env t\/S'.env t= .any):Rel E S' a w L:=by
 obtain⟨env,H,N⟩:=S;obtain⟨env',H',N'⟩:=S';simp only at hH hN he;subst hH hN;refine⟨h.defers,h.size,fun t=> ?_,h.obj,h.apart,h.fresh,h.fr,h.BE⟩
 rcases he t with e|e
 ·show bm _ _ _ (env' t) _;rw[e];exact h.env t
 ·show bm _ _ _ (env' t) _;rw[e];exact .any _
end
section
variable {U : TU}
inductive Ps (U:TU) where
 |own (t e k:Nat) (T:U.Ty)
 |CT (t:Nat)
 |nK (t off e k:Nat) (T:U.Ty)
 |Hb (t off:Nat)
 |cut (t:Nat)
def Ps.run(S:aZ U):Ps U->Option (aZ U)
 | .own t e k T=>(match S.env t with
  | .dW=>some {env:=fu S.env t (.own S.N 1),H:=fu S.H S.N ⟨1,.row e k T []⟩,N:=S.N+1}
  |_=>none)
 | .CT t=>(match S.env t with
  | .own id ak=>(match S.row? id ak with
   |some r=>some {env:=fu S.env t (.sl r.T r.xs),H:=fu S.H id ⟨ak,.dead⟩,N:=S.N}
   |none=>none)
  |_=>none)
 | .nK t off e k T=>(match S.env t with
  | .ptr id ak _=>(match S.oE id ak with
   |some cs=>(match cs[off]? with
    |some .dW=>some {env:=S.env,H:=fu (fu S.H S.N ⟨1,.row e k T []⟩) id ⟨ak,.box (cs.set off (.own S.N 1))⟩,N:=S.N+1}
    |_=>none)
   |none=>none)
  |_=>none)
 | .Hb t off=>(match S.env t with
  | .ptr id ak _=>(match S.oE id ak with
   |some cs=>(match cs[off]? with
    |some (.own i v)=>(match S.row? i v with
     |some r=>some {env:=S.env,H:=fu (fu S.H i ⟨v,.dead⟩) id ⟨ak,.box (cs.set off (.sl r.T r.xs))⟩,N:=S.N}
     |none=>none)
    |_=>none)
   |none=>none)
  |_=>none)
 | .cut t=>(match S.env t with
  | .view id ak _ lo n=>(match S.row? id ak with
   |some r=>(match Nat.beq lo 0 with
    |true=>some {env:=fu S.env t (.own id (ak+1)),H:=fu S.H id ⟨ak+1,.row r.e r.k r.T (r.xs.take n)⟩,N:=S.N}
    |false=>none)
   |none=>none)
  |_=>none)
def Ps.tmps:Ps U->List Nat
 | .own t _ _ _| .CT t| .cut t=>[t]
 | .nK _ _ _ _ _| .Hb _ _=>[]
def Ps.EP(S:aZ U):Ps U->List Nat
 | .own _ _ _ _=>[S.N]
 | .CT t=>(match S.env t with| .own id _=>[id]|_=>[])
 | .cut t=>(match S.env t with| .view id _ _ _ _=>[id]|_=>[])
 | .nK t _ _ _ _=>S.N::(match S.env t with| .ptr id _ _=>[id]|_=>[])
 | .Hb t off=>(match S.env t with
  | .ptr id ak _=>id::(match S.oE id ak with
   |some cs=>(match cs[off]? with|some (.own i _)=>[i]|_=>[])
   |none=>[])
  |_=>[])
theorem Ps.sound(K:TK U){S S':aZ U}{p:Ps U}(hp:p.run S=some S'){E:En}{a:Act}{w:World}{L:Nat->Value}(h:Rel E S.st a w L):∃L',Rel E S'.st a w L':=by
 cases p with
 |own t e k T=>
  simp only[Ps.run]at hp;split at hp
  ·rename_i ht;injection hp with hp
   subst hp;have h0:=h.room 1;have hf:(S.st.H S.N)=⟨0,.dead⟩:=h.fresh S.N (QI _);have hid:S.N<({S.st with N:=S.st.N+1}:St).N:=Nat.lt_succ_self S.N
   have h1:=h0.aeQ hid e k;refine⟨bJ L S.N (.slice none 0 0),?_⟩
   have heq:(aZ.st {env:=fu S.env t (.own S.N 1),H:=fu S.H S.N ⟨1,.row e k T []⟩,N:=S.N+1}:St)={env:=bJ S.st.env t (.own S.N 1),H:=bJ S.st.H S.N ⟨(S.st.H S.N).ak+1,.row e k []⟩,N:=S.st.N+1}:=by
    rw[hf];unfold aZ.st;congr 1
    ·simp only[cP];exact np _ _ _ _
    ·simp only[cP];exact np _ _ _ _
   rw[heq];refine⟨h1.defers,h1.size,fun j=> ?_,h1.obj,h1.apart,h1.fresh,h1.fr,h1.BE⟩
   show bm w _ _ (bJ S.st.env t _ j) _
   by_cases hj:j=t
   ·subst hj;have h2:=h.env j;have h3:S.st.env j= .dW:=by simp only[aZ.st,ht,KV.pv]
    rw[h3]at h2;rw[bZ];have:=ae6 (L:=L) (S:={S.st with N:=S.st.N+1}) hid e k (w:=w) (M:=br E {env:=S.st.env,H:=bJ S.st.H S.N ⟨(S.st.H S.N).ak+1,.row e k []⟩,N:=S.st.N+1} (bJ L S.N (.slice none 0 0))) h2.rD
    have hv:(S.st.H S.N).ak+1=1:=by rw[hf]
    simp only[hv]at this ⊢;exact this
   ·rw[cu _ _ hj];exact h1.env j
  ·cases hp
 |CT t=>
  simp only[Ps.run]at hp;split at hp
  ·rename_i id ak ht;split at hp
   ·rename_i r hr;injection hp with hp
    subst hp;obtain⟨hv,hc⟩:=mO hr;have h2:=h.env t;have h3:S.st.env t= .own id (S.st.H id).ak:=by rw[hv];simp only[aZ.st,ht,KV.pv]
    rw[h3]at h2
    obtain⟨h4,h5⟩:=h.CT h2 hc (fun u hu=>by
     obtain⟨x,_,rfl⟩:=QP.1 hu
     exact QH.2 fun y hy=>iP (K.eH _ _ _ hy))
    rw[hv]at h4 h5;refine⟨L,?_⟩
    have heq:(aZ.st {env:=fu S.env t (.sl r.T r.xs),H:=fu S.H id ⟨ak,.dead⟩,N:=S.N}:St)={env:=bJ S.st.env t (.sl (r.xs.map (U.pv r.T))),H:=bJ S.st.H id ⟨ak,.dead⟩,N:=S.st.N}:=by
     unfold aZ.st;congr 1
     ·simp only[cP];exact np _ _ _ _
     ·simp only[cP];exact np _ _ _ _
    rw[heq];refine⟨h4.defers,h4.size,fun j=> ?_,h4.obj,h4.apart,h4.fresh,h4.fr,h4.BE⟩
    show bm w _ _ (bJ S.st.env t _ j) _
    by_cases hj:j=t
    ·subst hj;rw[bZ];exact h5
    ·rw[cu _ _ hj];exact h4.env j
   ·cases hp
  ·cases hp
 |cut t=>
  simp only[Ps.run]at hp;split at hp
  ·rename_i id ak k lo n ht;split at hp
   ·rename_i r hr;split at hp
    ·rename_i hlo;injection hp with hp
     subst hp;have hlo:=QF hlo;subst hlo;obtain⟨hv,hc⟩:=mO hr;have h2:=h.env t;have h3:S.st.env t= .view id ak k 0 n:=by simp only[aZ.st,ht,KV.pv]
     rw[h3]at h2;obtain⟨h4,h5⟩:=h.ah9 h2 hv hc;refine⟨bJ L id (a.tmps.getD t undef),?_⟩
     have heq:(aZ.st {env:=fu S.env t (.own id (ak+1)),H:=fu S.H id ⟨ak+1,.row r.e r.k r.T (r.xs.take n)⟩,N:=S.N}:St)={env:=bJ S.st.env t (.own id (ak+1)),H:=bJ S.st.H id ⟨ak+1,.row r.e r.k ((r.xs.map (U.pv r.T)).take n)⟩,N:=S.st.N}:=by
      unfold aZ.st;congr 1
      ·simp only[cP];exact np _ _ _ _
      ·simp only[cP];rw[<-List.map_take];exact np _ _ _ _
     rw[heq];refine⟨h4.defers,h4.size,fun j=> ?_,h4.obj,h4.apart,h4.fresh,h4.fr,h4.BE⟩
     show bm w _ _ (bJ S.st.env t _ j) _
     by_cases hj:j=t
     ·subst hj;rw[bZ];exact h5
     ·rw[cu _ _ hj];exact h4.env j
    ·cases hp
   ·cases hp
  ·cases hp
 |nK t off e k T=>
  simp only[Ps.run]at hp;split at hp
  ·rename_i id ak o ht;split at hp
   ·rename_i cs hb;split at hp
    ·rename_i hcell;injection hp with hp
     subst hp;obtain⟨hv,hc⟩:=sv hb;have h3:S.st.env t= .ptr id ak o:=by simp only[aZ.st,ht,KV.pv]
     have hlt:id<S.N:=by
      have h2:=h.env t;rw[h3]at h2;exact(h2.oI (show(S.st.gh L).V id=ak from hv)).1
     have h0:=h.room 1;have hf:(S.st.H S.N)=⟨0,.dead⟩:=h.fresh S.N (QI _);have hid:S.N<({S.st with N:=S.st.N+1}:St).N:=Nat.lt_succ_self S.N
     have h1:=h0.aeQ hid e k;have hne:id≠S.N:=Nat.ne_of_lt hlt
     have h2:=h1.abR (id:=id) (cs:=cs.map KV.pv) (cs':=(cs.map KV.pv).set off (.own S.N ((S.st.H S.N).ak+1))) (Nat.lt_succ_of_lt hlt) (by show(bJ S.st.H S.N _ id).c=_;rw[cu _ _ hne];exact hc)
      (fun vs hr=>hr.set _ _ fun v hvv=>by
       have hn:(cs.map KV.pv)[off]?=some .dW:=by rw[QT,hcell];rfl
       exact ae6 (L:=L) (S:={S.st with N:=S.st.N+1}) hid e k (hr.2 off .dW v hn hvv).rD)
     refine⟨bJ L S.N (.slice none 0 0),?_⟩
     have heq:(aZ.st {env:=S.env,H:=fu (fu S.H S.N ⟨1,.row e k T []⟩) id ⟨ak,.box (cs.set off (.own S.N 1))⟩,N:=S.N+1}:St)
       ={env:=S.st.env,H:=bJ (bJ S.st.H S.N ⟨(S.st.H S.N).ak+1,.row e k []⟩) id ⟨(bJ S.st.H S.N ⟨(S.st.H S.N).ak+1,.row e k []⟩ id).ak,.box ((cs.map KV.pv).set off (.own S.N ((S.st.H S.N).ak+1)))⟩,N:=S.st.N+1}:=by
      rw[cu _ _ hne,hv,hf];unfold aZ.st;congr 1;simp only[cP];rw[np,np];simp only[dp.pv,ea.pv,List.map_set,KV.pv,QO]
     rw[heq];exact h2
    ·cases hp
   ·cases hp
  ·cases hp
 |Hb t off=>
  simp only[Ps.run]at hp;split at hp
  ·rename_i id ak o ht;split at hp
   ·rename_i cs hb;split at hp
    ·rename_i i v hcell;split at hp
     ·rename_i r hr;injection hp with hp
      subst hp;obtain⟨hv,hc⟩:=sv hb;obtain⟨hv2,hc2⟩:=mO hr;have h3:S.st.env t= .ptr id ak o:=by simp only[aZ.st,ht,KV.pv]
      have hlt:id<S.N:=by
       have h2:=h.env t;rw[h3]at h2;exact(h2.oI (show(S.st.gh L).V id=ak from hv)).1
      have hcell':(cs.map KV.pv)[off]?=some (.own i v):=by rw[QT,hcell];rfl
      have hili:i<S.N:=by
       obtain⟨b,cur,T,h5,h6,h7,h8⟩:=h.o6 hlt hc;obtain⟨u,hu,hru⟩:=h7.get hcell';exact(hru.mj (show(S.st.gh L).V i=v from hv2)).1
      have hne:id≠i:=by
       intro e;subst e;rw[hc]at hc2;cases hc2
      obtain⟨h4,h5⟩:=h.afw hili hc2 (fun u hu=>by
       obtain⟨x,_,rfl⟩:=QP.1 hu
       exact QH.2 fun y hy=>iP (K.eH _ _ _ hy))
      have h6:=h4.abR (id:=id) (cs:=cs.map KV.pv) (cs':=(cs.map KV.pv).set off (.sl (r.xs.map (U.pv r.T)))) hlt (by show(bJ S.st.H i _ id).c=_;rw[cu _ _ hne];exact hc)
       (fun vs hrr=>hrr.set _ _ fun u hu=>h5 u (by
        have:=hrr.2 off _ u hcell' hu
        exact(this.mj (show(bJ S.st.H i ⟨(S.st.H i).ak,.dead⟩ i).ak=v by rw[bZ];exact hv2)).2))
      refine⟨L,?_⟩
      have heq:(aZ.st {env:=S.env,H:=fu (fu S.H i ⟨v,.dead⟩) id ⟨ak,.box (cs.set off (.sl r.T r.xs))⟩,N:=S.N}:St)
        ={env:=S.st.env,H:=bJ (bJ S.st.H i ⟨(S.st.H i).ak,.dead⟩) id ⟨(bJ S.st.H i ⟨(S.st.H i).ak,.dead⟩ id).ak,.box ((cs.map KV.pv).set off (.sl (r.xs.map (U.pv r.T))))⟩,N:=S.st.N}:=by
       rw[cu _ _ hne,hv,hv2];unfold aZ.st;congr 1;simp only[cP];rw[np,np];simp only[dp.pv,ea.pv,List.map_set,KV.pv]
      rw[heq];exact h6
     ·cases hp
    ·cases hp
   ·cases hp
  ·cases hp
inductive RS (U:TU) where
 |nil
 |op (o:SG) (r:RS U)
 |ps (p:Ps U) (r:RS U)
 |AN (t:Nat) (r:RS U)
 |ite (t:Nat) (want:Bool) (body:RS U) (d:Nat) (g:Option (Nat×Bool)) (x y:bn) (r:RS U)
 |two (d:Option Nat) (f:FuncId) (x y:bn) (r:RS U)
 |pr (t1:Nat) (f g:FuncId) (x:bn) (t2:Nat) (r:RS U)
def RS.flat:RS U->List SG
 | .nil=>[]
 | .op o r=>o::r.flat
 | .ps _ r=>r.flat
 | .AN _ r=>r.flat
 | .ite t _ b d g x y r=>b.flat++⟨some d,g,.pick (.tmp t) x y⟩::r.flat
 | .two d f x y r=>⟨d,none,.call f [x,y]⟩::r.flat
 | .pr t1 f g x t2 r=>⟨some t1,none,.call f [x]⟩::⟨some t2,none,.call g [.tmp t1]⟩::r.flat
def RS.gu:RS U->List Nat
 | .nil=>[]
 | .op o r=>(match o.d with|some t=>t::r.gu|none=>r.gu)
 | .ps p r=>p.tmps++r.gu
 | .AN _ r=>r.gu
 | .ite _ _ b d _ _ _ r=>b.gu++d::r.gu
 | .two d _ _ _ r=>(match d with|some t=>t::r.gu|none=>r.gu)
 | .pr t1 _ _ _ t2 r=>t1::t2::r.gu
def tk:List SG->List Nat
 |[]=>[]
 |o::l=>(match o.d with|some t=>t::tk l|none=>tk l)
def RS.len:RS U->Nat
 | .nil=>0
 | .op _ r=>r.len+1
 | .ps _ r=>r.len
 | .AN _ r=>r.len
 | .ite _ _ b _ _ _ _ r=>b.len+(r.len+1)
 | .two _ _ _ _ r=>r.len+1
 | .pr _ _ _ _ _ r=>r.len+1+1
theorem RS.ua:∀(r:RS U),r.flat.length=r.len
 | .nil=>rfl
 | .op _ r=>by simp[RS.flat,RS.len,r.ua]
 | .ps _ r=>r.ua
 | .AN _ r=>r.ua
 | .ite _ _ b _ _ _ _ r=>by simp[RS.flat,RS.len,b.ua,r.ua]
 | .two _ _ _ _ r=>by simp[RS.flat,RS.len,r.ua]
 | .pr _ _ _ _ _ r=>by simp[RS.flat,RS.len,r.ua]
def ig(t:Nat):List Nat->Bool
 |[]=>false
 |x::l=>(match Nat.beq t x with|true=>true|false=>ig t l)
theorem fo{t:Nat}:∀{l:List Nat},ig t l=true↔t∈l
 |[]=>by simp[ig]
 |x::l=>by
  simp only[ig];split
  ·rename_i h;simp[QF h]
  ·rename_i h;rw[fo];simp[Nat.ne_of_beq_eq_false h]
theorem pJ{t:Nat}{l:List Nat}(h:ig t l=false):t∉l:=fun hm=>by rw[fo.2 hm]at h;cases h
def XC:Bool->Bool->Bool
 |true,b=>b
 |false,true=>false
 |false,false=>true
theorem Iq(x y:Bool):XC x y=(x==y):=by cases x<;>cases y<;>rfl
abbrev WS:=Option (Nat×List Nat)
def okW:WS->Nat->Bool
 |none,_=>false
 |some (n,l),id=>Nat.ble n id||ig id l
def EO(W:WS):Option (Nat×dp U)->Bool
 |none=>true
 |some (id,_)=>okW W id
def Gd(t:Nat)(want:Bool):List Nat->List SG->Bool
 |_,[]=>true
 |u,o::l=>(match o.g with
  |some (t',want')=>(Nat.beq t' t&&XC want' want)||ig t' u
  |none=>false)&&(match o.d with
   |some d=> !Nat.beq d t&&Gd t want (d::u) l
   |none=>Gd t want u l)
variable (K : TK U)
def Xn{ρ:Type}(Γ:List (eJ U))(W:WS)(nid:Nat)(S:aZ U)(o:SG)(k:KV U->Option (Nat×dp U)->Option ρ):Option ρ:=
 match o.g with
 |none=>fe K Γ nid S o.op fun x wr=>(match EO W wr with|true=>k x wr|false=>none)
 |some (t,want)=>match S.env t with
  | .bool b=>(match XC b want with
   |true=>fe K Γ nid S o.op fun x wr=>(match EO W wr with|true=>k x wr|false=>none)
   |false=>k .undef none)
  | .undef=>k .undef none
  |_=>none
def abP{ρ:Type}(Γ:List (eJ U))(W:WS)(nid:Nat)(S:aZ U)(o:SG)(k:aZ U->Option ρ):Option ρ:=
 Xn K Γ W nid S o fun x wr=>k (S.cY o.d x wr)
def abL(S:aZ U)(ds:List Nat):Option (Nat×Bool)->Bool
 |none=>true
 |some (t,want)=>(match S.env t with| .bool b=>XC b want&& !ig t ds|_=>false)
def aZ.forget(S:aZ U)(ds:List Nat):aZ U:={env:=fun t=>(match ig t ds with|true=> .any|false=>S.env t),H:=S.H,N:=S.N}
def Xo:bn->Option Bool
 | .oY (.bool b)=>some b
 |_=>none
def Rj{ρ:Type}(S:aZ U)(W:WS)(f:FuncId)(x y:KV U)(k:aZ U->Option ρ):List (eJ U)->Option ρ
 |[]=>none
 | .r2 g R1 R2 F::Γ=>(match Nat.beq f g with
  |true=>(match x,y with
   | .ptr i v 0,.ptr j u 0=>(match S.oE i v,S.oE j u,Nat.beq i j,okW W i&&okW W j with
    |some cs,some ds,false,true=>(match K.dec R1 nL cs,K.dec R2 nL ds with
     |some s,some t=>(F s t).bind fun p=>k {S with H:=fu (fu S.H i ⟨v,.box (K.eI R1 p.1)⟩) j ⟨u,.box (K.eI R2 p.2)⟩}
     |_,_=>none)
    |_,_,_,_=>none)
   |_,_=>none)
  |false=>Rj S W f x y k Γ)
 |_::Γ=>Rj S W f x y k Γ
def Yx{ρ:Type}(S:aZ U)(W:WS)(nid:Nat)(f g:FuncId)(x:KV U)(k:(Nat×dp U)->Option ρ):List (eJ U)->Option ρ
 |[]=>none
 | .pr f' g' A_s e kk T F::Γ=>(match Nat.beq f f'&&Nat.beq g g' with
  |true=>(match p8 K S none A_s [x]with
   |some a=>(match(U.plain T||x.bw)&&Nat.ble (ny A_s) 9&&okW W nid with
    |true=>(F a).bind fun ys=>k (nid,⟨(S.H nid).ak+1,.row e kk T ys⟩)
    |false=>none)
   |none=>none)
  |false=>Yx S W nid f g x k Γ)
 |_::Γ=>Yx S W nid f g x k Γ
def iU(Γ:List (eJ U)):RS U->{ρ:Type}->(W:WS)->(nid:Nat)->(S:aZ U)->(k:aZ U->Option ρ)->Option ρ
 | .nil,_,_,_,S,k=>k S
 | .op o r,_,W,nid,S,k=>abP K Γ W nid S o fun S'=>iU Γ r W (nid+1) S' k
 | .ps p r,_,W,nid,S,k=>(match(p.EP S).all (okW W)with
  |true=>(match p.run S with|some S'=>iU Γ r W nid S' k|none=>none)
  |false=>none)
 | .AN t r,_,W,nid,S,k=>(match S.env t with
  | .bool b=>bif b then iU Γ r W nid (S.cY (some t) (.bool true) none) k else iU Γ r W nid (S.cY (some t) (.bool false) none) k
  | .undef=>iU Γ r W nid S k
  |_=>none)
 | .ite t want body d g x y r,_,W,nid,S,k=>(match S.env t with
  | .bool b=>(match abL S body.gu g&&(Gd t want [] body.flat&& !ig t body.gu)with
   |true=>(match want with
    |true=>(match Xo y with
     |some c=>(bif b then iU Γ body none nid (S.cY (some t) (.bool true) none) (fun S1=>Hp (x.cF S1))else some c).bind fun v=>iU Γ r W (nid+(body.len+1)) ((S.forget body.gu).cY (some d) (.bool v) none) k
     |none=>none)
    |false=>(match Xo x with
     |some c=>(bif b then some c else iU Γ body none nid (S.cY (some t) (.bool false) none) (fun S1=>Hp (y.cF S1))).bind fun v=>iU Γ r W (nid+(body.len+1)) ((S.forget body.gu).cY (some d) (.bool v) none) k
     |none=>none))
   |false=>none)
  |_=>none)
 | .two d f x y r,_,W,nid,S,k=>Rj K S W f (x.cF S) (y.cF S) (fun S1=>iU Γ r W (nid+1) (S1.cY d (.dg []) none) k) Γ
 | .pr t1 f g x t2 r,_,W,nid,S,k=>(match Nat.beq t1 t2 with
  |true=>none
  |false=>Yx K S W (nid+1) f g (x.cF S) (fun o=>iU Γ r W (nid+1+1) ((S.cY (some t1) .any none).cY (some t2) (.own (nid+1) ((S.H (nid+1)).ak+1)) (some o)) k) Γ)
structure Ay (D:List Nat) (W:WS) (S S':aZ U):Prop where
 env:∀t,t∉D->S'.env t=S.env t
 H:∀id,okW W id=false->S'.H id=S.H id
 N:S.N<=S'.N
 Nn:W=none->S'.N=S.N
theorem Ay.refl(D:List Nat)(W:WS)(S:aZ U):Ay D W S S:=⟨fun _ _=>rfl,fun _ _=>rfl,QI _,fun _=>rfl⟩
theorem Ay.trans{D D' D'':List Nat}{W:WS}{S S' S'':aZ U}(h:Ay D W S S')(h':Ay D' W S' S'')(hd:∀t,t∉D''->t∉D/\t∉D'):Ay D'' W S S'':=
 ⟨fun t ht=>(h'.env t (hd t ht).2).trans (h.env t (hd t ht).1),fun id hid=>(h'.H id hid).trans (h.H id hid),QK h.N h'.N,fun e=>(h'.Nn e).trans (h.Nn e)⟩
theorem lQ(S:aZ U)(d:Option Nat)(x:KV U)(wr:Option (Nat×dp U)){t:Nat}(h:d≠some t):(S.cY d x wr).env t=S.env t:=by
 cases d with
 |none=>rfl
 |some d=>simp only[aZ.cY,cP];exact cu _ _ (fun e=>h (by rw[e]))
theorem Ft(S:aZ U)(d:Option Nat)(x:KV U)(wr:Option (Nat×dp U)){i:Nat}(h:wr.map (·.1)≠some i):(S.cY d x wr).H i=S.H i:=by
 cases wr with
 |none=>rfl
 |some p=>simp only[aZ.cY,cP];exact cu _ _ (fun e=>h (by rw[e];rfl))
theorem Eh(S:aZ U)(W:WS)(d:Option Nat)(x:KV U)(wr:Option (Nat×dp U))(h:EO W wr=true):Ay d.toList W S (S.cY d x wr):=by
 refine⟨fun t ht=>lQ _ _ _ _ (fun e=>ht (by simp[e])),fun id hid=>Ft _ _ _ _ (fun e=> ?_),QI _,fun _=>rfl⟩
 cases wr with
 |none=>cases e
 |some p=>simp only[Qe,Qf]at e;simp only[EO]at h;rw[e,hid]at h;cases h
variable {K}
variable {P : Program}
theorem MJ{ρ:Type}{Γ:List (eJ U)}{W:WS}{nid:Nat}{S:aZ U}{o:SG}{k:KV U->Option (Nat×dp U)->Option ρ}{r:ρ}(hΓ:vH P Γ)(ho:o.op.dO=true)(h:Xn K Γ W nid S o k=some r):
  ∃Γ' x wr,lR P Γ'/\Al Γ' nid S.st o=some (x.pv,wr.map jm)/\EO W wr=true/\k x wr=some r:=by
 have run:∀(hw:o.wanted S.st=some true),fe K Γ nid S o.op (fun x wr=>(match EO W wr with|true=>k x wr|false=>none))=some r->
   ∃Γ' x wr,lR P Γ'/\Al Γ' nid S.st o=some (x.pv,wr.map jm)/\EO W wr=true/\k x wr=some r:=by
  intro hw h;obtain⟨Γ',x,wr,h1,h2,h3⟩:=UI hΓ ho h;split at h3
  ·rename_i hok;refine⟨Γ',x,wr,h1,?_,hok,h3⟩;rw[Al,hw];exact h2
  ·cases h3
 have skip:∀(hw:o.wanted S.st=some false),k .undef none=some r->
   ∃Γ' x wr,lR P Γ'/\Al Γ' nid S.st o=some (x.pv,wr.map jm)/\EO W wr=true/\k x wr=some r:=by
  intro hw h;refine⟨fun _=>none,.undef,none,fun f m hm=>(by cases hm),?_,rfl,h⟩
  rw[Al,hw];rfl
 unfold Xn at h;split at h
 ·rename_i hg;exact run (by rw[SG.wanted,hg]) h
 ·rename_i t want hg;split at h
  ·rename_i b hb;have hb':S.st.env t= .bool b:=by simp only[aZ.st,hb,KV.pv]
   split at h
   ·rename_i hbw;exact run (by simp only[SG.wanted,hg,hb'];rw[Iq]at hbw;rw[hbw]) h
   ·rename_i hbw;refine skip ?_ h;simp only[SG.wanted,hg,hb'];rw[Iq]at hbw;rw[hbw]
  ·rename_i hb;have hb':S.st.env t= .undef:=by simp only[aZ.st,hb,KV.pv]
   exact skip (by simp only[SG.wanted,hg,hb']) h
  ·cases h
theorem Uf{ρ:Type}{Γ:List (eJ U)}{W:WS}{nid:Nat}{S:aZ U}{o:SG}{k:aZ U->Option ρ}{r:ρ}(hΓ:vH P Γ)(ho:o.op.dO=true)(h:abP K Γ W nid S o k=some r):
  ∃Γ' x wr,lR P Γ'/\Al Γ' nid S.st o=some (x.pv,wr.map jm)/\EO W wr=true/\k (S.cY o.d x wr)=some r:=MJ hΓ ho h
theorem WJ:lR P (fun _=>none):=fun f m hm=>by cases hm
theorem Et{E:En}{hs:List Nat}{ops:Array Oper}{t:Nat}{want:Bool}{Q:Exit->Act->World->Prop}{l2:List Oper}:∀(l1:List Oper) (gs:List SG) (u:List Nat) (S:St) (a:Act) (w:World) (L:Nat->Value),
  l1.mapM (uh P hs ops)=some gs->Rel E S a w L->0<S.N->(∀o∈l1,∀t,o.dst=some t->E.can t)->Gd t want u gs=true->S.env t= .bool (!want)->(∀x∈u,S.env x= .undef)->
  (∀S' a' w' L',(∀x,x∉tk gs->S'.env x=S.env x)->S'.H=S.H->S'.N=S.N->Rel E S' a' w' L'->wpListIn (WF E.rd) 0 P ops Q l2 a' w')->wpListIn (WF E.rd) 0 P ops Q (l1++l2) a w
 |[],gs,u,S,a,w,L,hm,h,hN,hd,hs,ht,hu,hk=>by
  simp at hm;subst hm;exact hk S a w L (fun _ _=>rfl) rfl rfl h
 |o::l1,gs,u,S,a,w,L,hm,h,hN,hd,hs,ht,hu,hk=>by
  simp only[Qq74,Qd,Qc,Option.pure_def,Qf]at hm;obtain⟨g,hg,gs',hgs,rfl⟩:=hm;simp only[Gd,Qm]at hs;obtain⟨h1,h2⟩:=hs
  have hw:g.wanted S=some false:=by
   split at h1
   ·rename_i t' want' hgg;rw[Qn,Qm]at h1;rw[SG.wanted,hgg];rcases h1 with⟨h3,h4⟩|h3
    ·rw[QF h3];rw[Iq]at h4;simp only[ht];have:=eq_of_beq h4;subst this;cases want'<;>rfl
    ·simp only[hu t' (fo.1 h3)]
   ·cases h1
  have hst:z8 (fun _=>none) 0 S g=some (S.cY g.d .undef none):=by rw[z8,hw]
  rw[List.cons_append];refine wpListIn_step fun K hK=> ?_
  refine w7 WJ hg h hN (hd o (by simp)) hst (fun a' w' L' h'=>hK _ _ ?_)
  split at h2
  ·rename_i d hdd;rw[Qm]at h2;have hdt:d≠t:=fun e=>by subst e;have:=h2.1;simp at this
   refine Et l1 gs' (d::u) _ a' w' L' hgs h' hN (fun o' ho'=>hd o' (by simp[ho'])) h2.2 ?_ ?_ ?_
   ·rw[hdd,St.lQ _ _ _ (by simp[hdt])];exact ht
   ·intro x hx;rw[hdd]
    by_cases hxd:x=d
    ·subst hxd;exact bZ _ _ _
    ·rw[St.lQ _ _ _ (by simpa using fun e=>hxd e.symm)]
     exact hu x ((QA.1 hx).resolve_left hxd)
   ·intro S' a' w' L' he hH hN h';refine hk S' a' w' L' (fun x hx=> ?_) hH hN h'
    simp only[tk,hdd,QA,not_or]at hx;rw[he x hx.2,hdd,St.lQ _ _ _ (by simpa using fun e=>hx.1 e.symm)]
  ·rename_i hdd;refine Et l1 gs' u _ a' w' L' hgs h' hN (fun o' ho'=>hd o' (by simp[ho'])) h2 ?_ ?_ ?_
   ·rw[hdd];exact ht
   ·intro x hx;rw[hdd];exact hu x hx
   ·intro S' a' w' L' he hH hN h';refine hk S' a' w' L' (fun x hx=> ?_) hH hN h'
    simp only[tk,hdd]at hx;rw[he x hx,hdd];rfl
def RS.dO:RS U->Bool
 | .nil=>true
 | .op o r=>o.op.dO&&r.dO
 | .ps _ r=>r.dO
 | .AN _ r=>r.dO
 | .ite _ _ b _ _ x y r=>b.dO&&(x.dO&&y.dO)&&r.dO
 | .two _ _ x y r=>(x.dO&&y.dO)&&r.dO
 | .pr _ _ _ x _ r=>x.dO&&r.dO
theorem lP:∀(r:RS U) (t:Nat),t∈tk r.flat->t∈r.gu
 | .nil,t,h=>h
 | .op o r,t,h=>by
  simp only[RS.flat,tk]at h;simp only[RS.gu];split at h
  ·rcases QA.1 h with h|h
   ·exact QA.2 (.inl h)
   ·exact QA.2 (.inr (lP r t h))
  ·exact lP r t h
 | .two d f x y r,t,h=>by
  simp only[RS.flat,tk]at h;simp only[RS.gu];split at h
  ·rcases QA.1 h with h|h
   ·exact QA.2 (.inl h)
   ·exact QA.2 (.inr (lP r t h))
  ·exact lP r t h
 | .pr t1 f g x t2 r,t,h=>by
  simp only[RS.flat,tk,QA]at h;simp only[RS.gu,QA];rcases h with h|h|h
  ·exact .inl h
  ·exact .inr (.inl h)
  ·exact .inr (.inr (lP r t h))
 | .ps p r,t,h=>Qz.2 (.inr (lP r t h))
 | .AN _ r,t,h=>lP r t h
 | .ite t0 want b d g x y r,t,h=>by
  have cY:∀(l1 l2:List SG),t∈tk (l1++l2)->t∈tk l1\/t∈tk l2:=by
   intro l1 l2
   induction l1 with
   |nil=>exact fun h=> .inr h
   |cons o l1 ih=>
    intro h;simp only[List.cons_append,tk]at h ⊢
    cases hd:o.d with
    |none=>rw[hd]at h;exact ih h
    |some e=>
     rw[hd]at h;simp only[QA]at h ⊢;rcases h with h|h
     ·exact .inl (.inl h)
     ·rcases ih h with h|h
      ·exact .inl (.inr h)
      ·exact .inr h
  simp only[RS.flat]at h;simp only[RS.gu,Qz,QA];rcases cY _ _ h with h|h
  ·exact .inl (lP b t h)
  ·simp only[tk,QA]at h;rcases h with h|h
   ·exact .inr (.inl h)
   ·exact .inr (.inr (lP r t h))
theorem ad6{x:KV U}{b:Bool}(h:Hp x=some b):x= .bool b:=by
 unfold Hp at h;split at h
 ·injection h with h;rw[h]
 ·cases h
theorem B9{S:aZ U}{t:Nat}{x:KV U}(h:S.env t=x):S.cY (some t) x none=S:=by
 unfold aZ.cY;obtain⟨env,H,N⟩:=S;simp only at h ⊢;congr 1;rw[cP,<-h];exact Eo _ _
theorem Ps.frm{S S':aZ U}{p:Ps U}(hp:p.run S=some S'){W:WS}(hW:(p.EP S).all (okW W)=true):Ay p.tmps W S S':=by
 have ne:∀{id id':Nat},okW W id=true->okW W id'=false->id'≠id:=fun h1 h2 e=>by subst e;rw[h1]at h2;cases h2
 have hN:∀{n:Nat},okW W n=true->W≠none:=fun h e=>by rw[e]at h;cases h
 cases p with
 |own t e k T=>
  simp only[Ps.run]at hp;split at hp
  ·injection hp with hp
   subst hp;simp only[Ps.EP,Qq69,List.all_nil,Bool.and_true]at hW;exact⟨fun x hx=>by simp only[cP];exact cu _ _ (by simpa[Ps.tmps]using hx),fun id hid=>by simp only[cP];exact cu _ _ (ne hW hid),Nat.le_succ _,fun e=>absurd e (hN hW)⟩
  ·cases hp
 |CT t=>
  simp only[Ps.run]at hp;split at hp
  ·rename_i id ak ht;split at hp
   ·injection hp with hp
    subst hp;simp only[Ps.EP,ht,Qq69,List.all_nil,Bool.and_true]at hW;exact⟨fun x hx=>by simp only[cP];exact cu _ _ (by simpa[Ps.tmps]using hx),fun id' hid=>by simp only[cP];exact cu _ _ (ne hW hid),QI _,fun _=>rfl⟩
   ·cases hp
  ·cases hp
 |cut t=>
  simp only[Ps.run]at hp;split at hp
  ·rename_i id ak k lo n ht;split at hp
   ·split at hp
    ·injection hp with hp
     subst hp;simp only[Ps.EP,ht,Qq69,List.all_nil,Bool.and_true]at hW;exact⟨fun x hx=>by simp only[cP];exact cu _ _ (by simpa[Ps.tmps]using hx),fun id' hid=>by simp only[cP];exact cu _ _ (ne hW hid),QI _,fun _=>rfl⟩
    ·cases hp
   ·cases hp
  ·cases hp
 |nK t off e k T=>
  simp only[Ps.run]at hp;split at hp
  ·rename_i id ak o ht;split at hp
   ·rename_i cs hb;split at hp
    ·injection hp with hp
     subst hp;simp only[Ps.EP,ht,Qq69,List.all_nil,Bool.and_true,Qm]at hW;exact⟨fun x hx=>rfl,fun id' hid=>by simp only[cP];rw[cu _ _ (ne hW.2 hid),cu _ _ (ne hW.1 hid)],Nat.le_succ _,fun e=>absurd e (hN hW.1)⟩
    ·cases hp
   ·cases hp
  ·cases hp
 |Hb t off=>
  simp only[Ps.run]at hp;split at hp
  ·rename_i id ak o ht;split at hp
   ·rename_i cs hb;split at hp
    ·rename_i i v hcell;split at hp
     ·injection hp with hp
      subst hp;simp only[Ps.EP,ht,hb,hcell,Qq69,List.all_nil,Bool.and_true,Qm]at hW;exact⟨fun x hx=>rfl,fun id' hid=>by simp only[cP];rw[cu _ _ (ne hW.1 hid),cu _ _ (ne hW.2 hid)],QI _,fun _=>rfl⟩
     ·cases hp
    ·cases hp
   ·cases hp
  ·cases hp
theorem CG{α β:Type}{f:α->Option β}:∀{l:List α} {r1 r2:List β},l.mapM f=some (r1++r2)->∃l1 l2,l=l1++l2/\l1.mapM f=some r1/\l2.mapM f=some r2
 |l,[],r2,h=>⟨[],l,rfl,rfl,h⟩
 |[],x::r1,r2,h=>by simp at h
 |y::l,x::r1,r2,h=>by
  simp only[Qq74,Qd,Qc,Option.pure_def,Qf,List.cons_append,List.cons.injEq]at h;obtain⟨z,hz,ys,hys,rfl,rfl⟩:=h;obtain⟨l1,l2,rfl,h1,h2⟩:=CG hys;exact⟨y::l1,l2,rfl,by simp[Qq74,hz,h1],h2⟩
theorem UY(S:aZ U)(i:Nat)(o:dp U):({S with H:=fu S.H i o}:aZ U).st={S.st with H:=bJ S.st.H i o.pv}:=by
 unfold aZ.st;congr 1;simp only[cP];exact np _ _ _ _
theorem KF{P:Program}{hs:List Nat}{ops:Array Oper}{o:Oper}{d:Option Nat}{s:bS}(h:uh P hs ops o=some ⟨d,none,s⟩):o.guard=none/\o.dst=d/\Ea P hs o=some s:=by
 unfold uh at h;split at h
 ·cases h
 ·rename_i s' hs';split at h
  ·rename_i hg;injection h with h
   injection h with h1 h2 h3
   exact⟨hg,h1,by rw[hs',h3]⟩
  ·repeat' split at h
   all_goals first|cases h|(simp only[Qf,SG.mk.injEq,reduceCtorEq,false_and,and_false]at h)|(simp at h)
theorem Cw{P:Program}{K:TK U}{ρ:Type}{S:aZ U}{W:WS}{f:FuncId}{x y:KV U}{k:aZ U->Option ρ}{r:ρ}:∀{Γ:List (eJ U)},vH P Γ->Rj K S W f x y k Γ=some r->
  ∃(i v j u:Nat) (cs ds:List (KV U)) (R1 R2:U.Ty) (s s':U.den R1) (t t':U.den R2),x= .ptr i v 0/\y= .ptr j u 0/\S.oE i v=some cs/\S.oE j u=some ds/\i≠j/\(okW W i=true/\okW W j=true)/\K.dec R1 nL cs=some s/\K.dec R2 nL ds=some t/\
   Enters P f/\abF P f (U.pv R1 s) (U.pv R2 t) (U.pv R1 s') (U.pv R2 t')/\k {S with H:=fu (fu S.H i ⟨v,.box (K.eI R1 s')⟩) j ⟨u,.box (K.eI R2 t')⟩}=some r
 |[],_,h=>by cases h
 | .r2 g R1 R2 F::Γ,hΓ,h=>by
  simp only[Rj]at h;split at h
  ·rename_i hg;have hg:=QF hg;subst hg;split at h
   ·rename_i i v j u;split at h
    ·rename_i cs ds h1 h2 h3 h4;split at h
     ·rename_i s t h5 h6;simp only[Qc]at h;obtain⟨⟨s',t'⟩,hF,hk⟩:=h;rw[Qm]at h4;exact⟨i,v,j,u,cs,ds,R1,R2,s,s',t,t',rfl,rfl,h1,h2,Nat.ne_of_beq_eq_false h3,h4,h5,h6,hΓ.1.1,hΓ.1.2 s t s' t' hF,hk⟩
     ·cases h
    ·cases h
   ·cases h
  ·exact Cw hΓ.2 h
 | .it ..::Γ,hΓ,h=>Cw (Γ:=Γ) hΓ.2 h
 | .pr ..::Γ,hΓ,h| .ro ..::Γ,hΓ,h| .rw ..::Γ,hΓ,h| .cw ..::Γ,hΓ,h| .fw ..::Γ,hΓ,h| .fn ..::Γ,hΓ,h| .rc ..::Γ,hΓ,h| .nw ..::Γ,hΓ,h=>Cw (Γ:=Γ) hΓ.2 h
theorem EG{P:Program}{K:TK U}{ρ:Type}{S:aZ U}{W:WS}{nid:Nat}{f g:FuncId}{x:KV U}{k:(Nat×dp U)->Option ρ}{r:ρ}:∀{Γ:List (eJ U)},vH P Γ->Yx K S W nid f g x k Γ=some r->
  ∃(e kk:Nat) (T:U.Ty) (ys:List (U.den T)),(Enters P f/\Enters P g)/\abD P f g ([x.pv].map (fz S.st.H none 9)) e kk (ys.map (U.pv T))/\(BI (ys.map (U.pv T))||[x.pv].all PV.bw)=true/\okW W nid=true/\k (nid,⟨(S.H nid).ak+1,.row e kk T ys⟩)=some r
 |[],_,h=>by cases h
 | .pr f' g' A_s e kk T F::Γ,hΓ,h=>by
  simp only[Yx]at h;split at h
  ·rename_i hg;rw[Qm]at hg;obtain rfl:=QF hg.1;obtain rfl:=QF hg.2;split at h
   ·rename_i a ha;split at h
    ·rename_i hc;rw[Qm,Qm]at hc;obtain⟨⟨h1,h2⟩,h3⟩:=hc;simp only[Qc]at h;obtain⟨ys,hF,hk⟩:=h;have hfz:=lp (ex:=none) (fun id' h=>by cases h) A_s 9 [x] a (QG h2) ha
     refine⟨e,kk,T,ys,hΓ.1.1,?_,?_,h3,hk⟩
     ·have:=hΓ.1.2 a ys hF;rw[<-hfz]at this;exact this
     ·rw[Qn]at h1 ⊢;rcases h1 with h1|h1
      ·exact .inl (EH K h1 ys)
      ·exact .inr (by simp only[Qq69,List.all_nil,Bool.and_true,MP];exact h1)
    ·cases h
   ·cases h
  ·exact EG hΓ.2 h
 | .it ..::Γ,hΓ,h=>EG (Γ:=Γ) hΓ.2 h
 | .r2 ..::Γ,hΓ,h| .ro ..::Γ,hΓ,h| .rw ..::Γ,hΓ,h| .cw ..::Γ,hΓ,h| .fw ..::Γ,hΓ,h| .fn ..::Γ,hΓ,h| .rc ..::Γ,hΓ,h| .nw ..::Γ,hΓ,h=>EG (Γ:=Γ) hΓ.2 h
theorem C6{o:Oper}{p:Nat->Option Bool}(h:o.guard=none):Region.wanted o p=true:=by simp[Region.wanted,h]
theorem Hn{P:Program}{a:Act}{w:World}{o:Oper}{f:FuncId}{args:Array Operand}{ats:Array TypeId}(hop:o.op= .call {callee:= .value (.func f),args:=args,argTypes:=ats})(hen:Enters P f):
  (execOp a.eval o).run P w= .ok (.enter f (args.toList.map a.eval).toArray) w:=by
 have ha:args.map a.eval=(args.toList.map a.eval).toArray:=by rw[<-Array.toList_map,Array.toArray_toList]
 simp[execOp,hop,resolve,Act.eval,Deferred.ofValue,invoke,ha,nH hen]
theorem lK{E:En}{Γ:List (eJ U)}(hΓ:vH P Γ){hs:List Nat}{ops:Array Oper}{Q:Exit->Act->World->Prop}:∀(rs:RS U) {ρ:Type} (W:WS) (nid:Nat) (S:aZ U) (k:aZ U->Option ρ) (r:ρ) (l1 l2:List Oper) (a:Act) (w:World) (L:Nat->Value),
  rs.dO=true->l1.mapM (uh P hs ops)=some rs.flat->Rel E S.st a w L->nid+rs.len<=S.N->(∀o∈l1,∀t,o.dst=some t->E.can t)->iU K Γ rs W nid S k=some r->
  (∀S' a' w' L',Ay rs.gu W S S'->Rel E S'.st a' w' L'->k S'=some r->wpListIn (WF E.rd) 0 P ops Q l2 a' w')->wpListIn (WF E.rd) 0 P ops Q (l1++l2) a w
 | .nil,ρ,W,nid,S,k,r,l1,l2,a,w,L,hok,hm,h,hN,hd,hr,hk=>by
  have:l1=[]:=by
   have:=pK hm;exact Qq66 (by simpa[RS.flat]using this.symm)
  subst this;exact hk S a w L (Ay.refl _ _ _) h hr
 | .op o rs,ρ,W,nid,S,k,r,l1,l2,a,w,L,hok,hm,h,hN,hd,hr,hk=>by
  simp only[RS.dO,Qm]at hok
  cases l1 with
  |nil=>simp[RS.flat]at hm
  |cons p l1=>
  simp only[RS.flat,Qq74,Qd,Qc,Option.pure_def,Qf,List.cons.injEq]at hm;obtain⟨g,hg,gs',hgs,rfl,rfl⟩:=hm;simp only[RS.len]at hN;obtain⟨Γ',x,wr,hΓ',he,hwr,hr'⟩:=Uf hΓ hok.1 hr;have hst:z8 Γ' nid S.st g=some (S.cY g.d x wr).st:=by rw[UW,he,Aa];rfl
  rw[List.cons_append];refine wpListIn_step fun K hK=> ?_
  refine w7 hΓ' hg h (show nid<S.N by omega) (hd p (by simp)) hst (fun a' w' L' h'=>hK _ _ ?_)
  refine lK hΓ rs W (nid+1) _ k r l1 l2 a' w' L' hok.2 hgs h' (by show _<=S.N;omega) (fun o' ho'=>hd o' (by simp[ho'])) hr' (fun S' a' w' L' hf h' hk'=>hk S' a' w' L' ?_ h' hk')
  refine(Eh S W g.d x wr hwr).trans hf fun t ht=> ?_
  simp only[RS.gu]at ht
  cases hdd:g.d with
  |none=>rw[hdd]at ht;exact⟨by simp,ht⟩
  |some d=>rw[hdd]at ht;simp only[QA,not_or]at ht;exact⟨by simpa using fun e=>ht.1 e,ht.2⟩
 | .two d f x y rs,ρ,W,nid,S,k,r,l1,l2,a,w,L,hok,hm,h,hN,hd,hr,hk=>by
  simp only[RS.dO,Qm]at hok
  cases l1 with
  |nil=>simp[RS.flat]at hm
  |cons p l1=>
  simp only[RS.flat,Qq74,Qd,Qc,Option.pure_def,Qf,List.cons.injEq]at hm;obtain⟨g,hg,gs',hgs,rfl,rfl⟩:=hm;simp only[RS.len]at hN;simp only[iU]at hr;obtain⟨i,v,j,u,cs,ds,R1,R2,s,s',t,t',hx,hy,hb1,hb2,hne,hW,hs,ht,hen,hcon,hr'⟩:=Cw hΓ hr;obtain⟨hgu,hds,hcop⟩:=KF hg;obtain⟨args,ats,hop,hxs⟩:=B3 hcop;have hv:=h.dj hxs;obtain⟨x1,vs1,e1,rx,hv⟩:=hv.cons_inv;obtain⟨y1,vs2,e2,ry,hv⟩:=hv.cons_inv;obtain rfl:=hv.qG;subst e2;simp only[qJ hok.1.1,hx,KV.pv]at rx;simp only[qJ hok.1.2,hy,KV.pv]at ry;obtain⟨k1,k2⟩:=sv hb1;obtain⟨k3,k4⟩:=sv hb2;obtain⟨n1,n2⟩:=rN (K.l9 _ _ _ _ hs);obtain⟨n3,n4⟩:=rN (K.l9 _ _ _ _ ht);rw[<-n1,<-n3]at hcon;have hcall:=aeD hcon h rx ry k1 k3 k2 k4 hne (by rw[jE];exact n2) (by rw[jE];exact n4)
  rw[List.cons_append];refine wpListIn_step fun KK hKK=> ?_
  rw[C6 hgu,Qr rfl];unfold Oper.wpIn;rw[Oper.semAt_eq _ _ _ (sO hcop),Hn hop hen,e1];refine⟨fun _ _=>trivial,(fun h=>by cases h),xY.2 (Calls.mono hcall ?_)⟩
  rintro e w' ⟨L',rfl,h2⟩;have h3:=h2.Wz (d:=p.dst) (hd p (by simp)) (x:= .dg []) (v:= .tuple #[]) (.dg [] [] rfl fun q z z' hz=>by simp at hz)
  have hst:({S with H:=fu (fu S.H i ⟨v,.box (K.eI R1 s')⟩) j ⟨u,.box (K.eI R2 t')⟩}:aZ U).st={S.st with H:=bJ (bJ S.st.H i ⟨v,.box (U.pv R1 s')⟩) j ⟨u,.box (U.pv R2 t')⟩}:=by
   have e1:=UY {S with H:=fu S.H i ⟨v,.box (K.eI R1 s')⟩} j ⟨u,.box (K.eI R2 t')⟩
   have e2:=UY S i ⟨v,.box (K.eI R1 s')⟩;simp only at e1;rw[e1,e2];simp only[dp.pv,ea.pv,K.oX]
  rw[<-hst]at h3;refine hKK _ _ ?_;refine lK hΓ rs W (nid+1) _ k r l1 l2 (a.put p.dst (.tuple #[])) w' L' hok.2 hgs (by rw[Aa,<-hds];exact h3) (by show _<=S.N;omega) (fun o' ho'=>hd o' (by simp[ho'])) hr' (fun S' a' w' L' hf h' hk'=>hk S' a' w' L' ?_ h' hk')
  have f1:Ay [] W S {S with H:=fu (fu S.H i ⟨v,.box (K.eI R1 s')⟩) j ⟨u,.box (K.eI R2 t')⟩}:=⟨fun _ _=>rfl,fun q hq=>by
   have n1:q≠i:=fun e=>by rw[e,hW.1]at hq;cases hq
   have n2:q≠j:=fun e=>by rw[e,hW.2]at hq;cases hq
   simp only[cP]
   rw[cu _ _ n2,cu _ _ n1],QI _,fun _=>rfl⟩
  refine(f1.trans (Eh _ W d (.dg []) none rfl) (D'':=d.toList) fun q hq=>⟨by simp,hq⟩).trans hf fun q hq=> ?_
  simp only[RS.gu]at hq
  cases hdd:d with
  |none=>rw[hdd]at hq;exact⟨by simp,hq⟩
  |some d=>rw[hdd]at hq;simp only[QA,not_or]at hq;exact⟨by simpa using fun e=>hq.1 e,hq.2⟩
 | .pr t1 f g x t2 rs,ρ,W,nid,S,k,r,l1,l2,a,w,L,hok,hm,h,hN,hd,hr,hk=>by
  simp only[RS.dO,Qm]at hok
  cases l1 with
  |nil=>simp[RS.flat]at hm
  |cons p l1=>
  cases l1 with
  |nil=>
   have:=pK hm;simp[RS.flat]at this
  |cons p2 l1=>
  simp only[RS.flat,Qq74,Qd,Qc,Option.pure_def,Qf,List.cons.injEq]at hm;obtain⟨g1,hg1,gs1,⟨g2,hg2,gs',hgs,rfl⟩,rfl,rfl,rfl⟩:=hm;simp only[RS.len]at hN;simp only[iU]at hr;split at hr
  ·cases hr
  rename_i hne;have hne:=Nat.ne_of_beq_eq_false hne;obtain⟨e,kk,T,ys,⟨hen1,hen2⟩,hcon,hpl,hW,hr'⟩:=EG hΓ hr;obtain⟨hgu1,hds1,hcop1⟩:=KF hg1;obtain⟨hgu2,hds2,hcop2⟩:=KF hg2;obtain⟨args,ats,hop,hxs⟩:=B3 hcop1;obtain⟨args2,ats2,hop2,hxs2⟩:=B3 hcop2;have hv:=h.dj hxs;rw[show[x].map (·.val S.st)=[(x.cF S).pv]by simp only[QD,QO,qJ hok.1]]at hv
  have hcall:=ac8 (nid:=nid+1) hcon h (show nid+1<S.N by omega) hv hpl
  rw[List.cons_append,List.cons_append];refine wpListIn_step fun KK hKK=> ?_
  rw[C6 hgu1,Qr rfl];unfold Oper.wpIn;rw[Oper.semAt_eq _ _ _ (sO hcop1),Hn hop hen1];refine⟨fun _ _=>trivial,(fun h=>by cases h),xY.2 (Calls.mono hcall ?_)⟩
  rintro e' w1 ⟨v,rfl,hcall2⟩;refine hKK _ _ ?_;refine wpListIn_step fun KK2 hKK2=> ?_
  rw[C6 hgu2,Qr rfl];have hct1:E.can t1:=hd p (by simp) t1 hds1
  have hct2:E.can t2:=hd p2 (by simp) t2 hds2
  have hev:(args2.toList.map (a.put p.dst v).eval).toArray=#[v]:=by
   cases hq:args2.toList with
   |nil=>rw[hq]at hxs2;simp at hxs2
   |cons q l=>
    rw[hq]at hxs2;simp only[Qq74,Qd,Qc,Option.pure_def,Qf,List.cons.injEq]at hxs2;obtain⟨z,hz,zs,hzs,rfl,rfl⟩:=hxs2
    have hl:l=[]:=by
     have:=pK hzs;exact Qq66 (by simpa using this.symm)
    subst hl
    cases q with
    |tmp t=>
     simp only[bd,Qf,bn.tmp.injEq]at hz;subst hz;rw[hds1];simp only[QD,QO,Act.eval,Act.put,QN];rw[Array.getElem?_setIfInBounds_self_of_lt (by rw[h.size.1];exact hct1.1)]
     rfl
    |const c=>simp only[bd,Qb,reduceCtorEq,and_false,exists_false]at hz
    |func c=>simp only[bd,Qf,reduceCtorEq]at hz
    |«global» c=>simp only[bd,reduceCtorEq]at hz
  unfold Oper.wpIn;rw[Oper.semAt_eq _ _ _ (sO hcop2),Hn hop2 hen2,hev];refine⟨fun _ _=>trivial,(fun h=>by cases h),xY.2 (Calls.mono hcall2 ?_)⟩
  rintro e' w' ⟨u,L',rfl,h2,hu⟩;refine hKK2 _ _ ?_;have h3:=h2.put (d:=t1) (x:= .any) (v:=v) hct1 (.any _);have h4:=h3.put (d:=t2) (x:= .own (nid+1) ((S.st.H (nid+1)).ak+1)) (v:=u) hct2 hu;refine lK hΓ rs W (nid+1+1) _ k r l1 l2 ((a.put p.dst v).put p2.dst u) w' L' hok.2 hgs ?_ (by show _<=S.N;omega) (fun o' ho'=>hd o' (by simp[ho'])) hr' (fun S' a' w' L' hf h' hk'=>hk S' a' w' L' ?_ h' hk')
  ·rw[hds1,hds2,Aa,Aa];exact h4
  ·refine((Eh S W (some t1) .any none rfl).trans (Eh _ W (some t2) (.own (nid+1) ((S.H (nid+1)).ak+1)) (some (nid+1,⟨(S.H (nid+1)).ak+1,.row e kk T ys⟩)) hW) (D'':=[t1,t2]) fun q hq=> ?_).trans hf fun q hq=> ?_
   ·simp only[QA,QR,or_false,not_or]at hq;simp only[Option.toList_some,QA,QR,or_false];exact⟨hq.1,hq.2⟩
   ·simp only[RS.gu,QA,not_or]at hq;simp only[QA,QR,or_false,not_or];exact⟨⟨hq.1,hq.2.1⟩,hq.2.2⟩
 | .ps p rs,ρ,W,nid,S,k,r,l1,l2,a,w,L,hok,hm,h,hN,hd,hr,hk=>by
  simp only[iU]at hr;split at hr
  ·rename_i hW;split at hr
   ·rename_i S1 hp;obtain⟨L1,h1⟩:=Ps.sound K hp h;have hf:=Ps.frm hp hW;refine lK hΓ rs W nid S1 k r l1 l2 a w L1 hok hm h1 (QK hN hf.N) hd hr (fun S' a' w' L' hf' h' hk'=>hk S' a' w' L' (hf.trans hf' fun t ht=> ?_) h' hk')
    simp only[RS.gu,Qz,not_or]at ht;exact ht
   ·cases hr
  ·cases hr
 | .AN t rs,ρ,W,nid,S,k,r,l1,l2,a,w,L,hok,hm,h,hN,hd,hr,hk=>by
  simp only[iU]at hr;split at hr
  ·rename_i b hb
   cases b with
   |true=>
    rw[Qk,B9 hb]at hr;exact lK hΓ rs W nid S k r l1 l2 a w L hok hm h hN hd hr hk
   |false=>
    rw[Ql,B9 hb]at hr;exact lK hΓ rs W nid S k r l1 l2 a w L hok hm h hN hd hr hk
  ·exact lK hΓ rs W nid S k r l1 l2 a w L hok hm h hN hd hr hk
  ·cases hr
 | .ite t want body d g x y rs,ρ,W,nid,S,k,r,l1,l2,a,w,L,hok,hm,h,hN,hd,hr,hk=>by
  simp only[RS.dO,Qm]at hok;obtain⟨⟨hokb,hokx,hoky⟩,hokr⟩:=hok;simp only[RS.flat]at hm;obtain⟨lb,lr,rfl,hmb,hmr⟩:=CG hm
  cases lr with
  |nil=>simp at hmr
  |cons p lr=>
  simp only[Qq74,Qd,Qc,Option.pure_def,Qf,List.cons.injEq]at hmr;obtain⟨pg,hpg,gs',hgs,rfl,rfl⟩:=hmr;simp only[RS.len]at hN;simp only[iU]at hr;split at hr
  ·rename_i b hb;split at hr
   ·rename_i hchk;simp only[Qm,Bool.not_eq_true']at hchk;obtain⟨hwant,hskip,htd⟩:=hchk;have htd:=pJ htd
    have fin:∀(v:Bool) (S1:St) (a1:Act) (w1:World) (L1:Nat->Value),(∀x,x∉body.gu->S1.env x=S.st.env x)->S1.H=S.st.H->S1.N=S.st.N->Rel E S1 a1 w1 L1->
      (if b then x else y).val S1= .bool v->iU K Γ rs W (nid+(body.len+1)) ((S.forget body.gu).cY (some d) (.bool v) none) k=some r->wpListIn (WF E.rd) 0 P ops Q (p::(lr++l2)) a1 w1:=by
     intro v S1 a1 w1 L1 he hH hN1 h1 hv hr1
     have hpw:(⟨some d,g,.pick (.tmp t) x y⟩:SG).wanted S1=some true:=by
      rw[SG.wanted]
      cases g with
      |none=>rfl
      |some q=>
       obtain⟨t',want'⟩:=q;simp only[abL]at hwant;split at hwant
       ·rename_i b' hb';simp only[Qm,Bool.not_eq_true']at hwant;have:S1.env t'= .bool b':=by rw[he t' (pJ hwant.2)];simp only[aZ.st,hb',KV.pv]
        simp only[this];rw[Iq]at hwant;rw[hwant.1]
       ·cases hwant
     have hbt:S1.env t= .bool b:=by rw[he t htd];simp only[aZ.st,hb,KV.pv]
     have hst:z8 (fun _=>none) nid S1 ⟨some d,g,.pick (.tmp t) x y⟩=some (S1.cY (some d) (.bool v) none):=by
      rw[z8,hpw];have hbt':(bn.tmp t).val S1= .bool b:=hbt;simp only[exec,hbt']
      cases b with
      |true=>simp only[Qt]at hv;simp only[hv];rfl
      |false=>simp only[Qq,Qu]at hv;simp only[hv];rfl
     refine wpListIn_step fun KK hKK=> ?_
     refine w7 WJ hpg h1 (show nid<S1.N by rw[hN1];show nid<S.N;omega) (hd p (by simp)) hst (fun a' w' L' h'=>hKK _ _ ?_)
     have h2:Rel E ((S.forget body.gu).cY (some d) (.bool v) none).st a' w' L':=by
      refine h'.acu (by rw[Aa];exact hH.symm) (by rw[Aa];exact hN1.symm) fun t'=> ?_
      rw[Aa]
      by_cases htd':t'=d
      ·subst htd';left;rw[show(S1.cY (some t') (.bool v) none).env t'= .bool v from bZ _ _ _]
       exact bZ _ _ _
      ·rw[St.lQ _ _ _ (by simpa using fun e=>htd' e.symm),St.lQ _ _ _ (by simpa using fun e=>htd' e.symm)]
       cases hmm:ig t' body.gu with
       |true=>right;simp only[aZ.st,aZ.forget,hmm,KV.pv]
       |false=>left;simp only[aZ.st,aZ.forget,hmm];exact(he t' (pJ hmm)).symm
     refine lK hΓ rs W (nid+(body.len+1)) _ k r lr l2 a' w' L' hokr hgs h2 (by show _<=S.N;omega) (fun o' ho'=>hd o' (by simp[ho'])) hr1 (fun S' a' w' L' hf h' hk'=>hk S' a' w' L' ?_ h' hk')
     refine Ay.trans (S':=(S.forget body.gu).cY (some d) (.bool v) none) (D:=body.gu++[d]) ⟨fun t' ht'=> ?_,fun id _=>rfl,QI _,fun _=>rfl⟩ hf fun t' ht'=> ?_
     ·simp only[Qz,Q4,not_or]at ht';rw[lQ _ _ _ _ (by simpa using fun e=>ht'.2 e.symm)]
      have:ig t' body.gu=false:=by
       cases hmm:ig t' body.gu with
       |true=>exact absurd (fo.1 hmm) ht'.1
       |false=>rfl
      simp only[aZ.forget,this]
     ·simp only[RS.gu,Qz,QA,not_or]at ht';exact⟨by simp[ht'.1,ht'.2.1],ht'.2.2⟩
    have body_run:∀(z:bn) (v:Bool),b=want->z.dO=true->z=(if b then x else y)->iU K Γ body none nid (S.cY (some t) (.bool b) none) (fun S1=>Hp (z.cF S1))=some v->
      iU K Γ rs W (nid+(body.len+1)) ((S.forget body.gu).cY (some d) (.bool v) none) k=some r->wpListIn (WF E.rd) 0 P ops Q (lb++p::(lr++l2)) a w:=by
     intro z v _ hz hzz Mx hrr;rw[B9 hb]at Mx;refine lK hΓ body none nid S _ v lb _ a w L hokb hmb h (by omega) (fun o' ho'=>hd o' (by simp[ho'])) Mx (fun S' a' w' L' hf h' hk'=> ?_)
     have hH:S'.H=S.H:=funext fun id=>hf.H id rfl
     have hNN:S'.N=S.N:=hf.Nn rfl;refine fin v S'.st a' w' L' (fun x' hx'=>by simp only[aZ.st,hf.env x' hx']) (by simp only[aZ.st,hH]) hNN h' ?_ hrr
     rw[<-hzz,qJ hz,ad6 hk'];rfl
    have body_skip:∀(c:Bool),b= !want->(if b then x else y)= .oY (.bool c)->iU K Γ rs W (nid+(body.len+1)) ((S.forget body.gu).cY (some d) (.bool c) none) k=some r->wpListIn (WF E.rd) 0 P ops Q (lb++p::(lr++l2)) a w:=by
     intro c hbw hc hrr;refine Et lb _ [] S.st a w L hmb h (show 0<S.N by omega) (fun o' ho'=>hd o' (by simp[ho'])) hskip ?_ (by simp) (fun S' a' w' L' he hH hN' h'=> ?_)
     ·simp only[aZ.st,hb,KV.pv,hbw]
     ·refine fin c S' a' w' L' (fun x' hx'=>he x' fun hmem=>hx' (lP _ _ hmem)) hH hN' h' ?_ hrr
      rw[hc];rfl
    rw[QL,List.cons_append];split at hr
    ·split at hr
     ·rename_i c hc
      have hy:y= .oY (.bool c):=by
       unfold Xo at hc;split at hc
       ·injection hc with hc;rw[hc]
       ·cases hc
      rw[Qc]at hr;obtain⟨v,hv,hr⟩:=hr
      cases b with
      |true=>exact body_run x v rfl hokx (by simp) hv hr
      |false=>
       rw[Ql]at hv;injection hv with hv
       subst hv;exact body_skip c rfl (by simpa using hy) hr
     ·cases hr
    ·split at hr
     ·rename_i c hc
      have hx:x= .oY (.bool c):=by
       unfold Xo at hc;split at hc
       ·injection hc with hc;rw[hc]
       ·cases hc
      rw[Qc]at hr;obtain⟨v,hv,hr⟩:=hr
      cases b with
      |false=>exact body_run y v rfl hoky (by simp) hv hr
      |true=>
       rw[Qk]at hv;injection hv with hv
       subst hv;exact body_skip c rfl (by simpa using hx) hr
     ·cases hr
   ·cases hr
  ·cases hr
end
end
section
open Go.RowKit
def PV.vo(p:Nat->Bool):PV->Bool
 | .own id _| .ptr id _ _| .eN id _ _ _ _| .view id _ _ _ _=>p id
 | .agg _| .dg _| .bY _ _| .jx _ _=>false
 |_=>true
def PV.mP(p:Nat->Bool):PV->Bool
 | .agg cs| .dg cs| .bY _ cs| .jx _ cs=>cs.all (PV.vo p)
 |x=>x.vo p
section
variable {w : World}
theorem bm.vo{p:Nat->Bool}{M M':Nat->Prop}{G G':Gh}{x:PV}{v:Value}(hx:x.vo p=true)(hM:∀b,M' b->M b)(hp:∀id,p id=true->id<G'.N/\G'.V id=G.V id/\G'.L id=G.L id)(h:bm w M G x v):bm w M' G' x v:=by
 have hs:dZ w w M M':=(dZ.of fun _ hm=>fun h'=>hm (hM _ h'))
 cases h with
 |any=>exact .any _
 |undef=>exact .undef
 |int=>exact .int _ _
 |bool=>exact .bool _
 |fW=>exact .fW _
 |str=>exact .str _
 |jW=>exact .jW
 |dW=>exact .dW
 |bY=>simp[PV.vo]at hx
 |jx=>simp[PV.vo]at hx
 |agg=>simp[PV.vo]at hx
 |dg=>simp[PV.vo]at hx
 |ptr id ak off a hN hVe h=>obtain⟨h1,h2,h3⟩:=hp id hx;exact .ptr _ _ _ _ h1 (by rw[h2];exact hVe) (fun e=>by rw[h3];exact h (by rw[e,h2]))
 |ref cs ad vs hl hcell h=>exact .ref cs ad vs hl (fun i u hu=>⟨(hcell i u hu).1,fun h'=>(hcell i u hu).2 (hM _ h')⟩) (fun i p u hp hu=>(h i p u hp hu).mono hs (Gh.le.refl _))
 |sl es ad c k vs hk hl hcell h hn hm=>exact .sl es ad c k vs hk hl (fun i u hu=>⟨(hcell i u hu).1,fun h'=>(hcell i u hu).2 (hM _ h')⟩) (fun i p u hp hu=>(h i p u hp hu).mono hs (Gh.le.refl _)) hn hm
 |slnil=>exact .slnil
 |own id ak a n c hN hVe h=>obtain⟨h1,h2,h3⟩:=hp id hx;exact .own _ _ _ _ _ h1 (by rw[h2];exact hVe) (fun e=>by rw[h3];exact h (by rw[e,h2]))
 |eN id ak k i off a hN hVe h=>obtain⟨h1,h2,h3⟩:=hp id hx;exact .eN _ _ _ _ _ _ h1 (by rw[h2];exact hVe) (fun e=>by rw[h3];exact h (by rw[e,h2]))
 |view id ak k lo n a c hN hVe h=>obtain⟨h1,h2,h3⟩:=hp id hx;exact .view _ _ _ _ _ _ _ h1 (by rw[h2];exact hVe) (fun e=>by rw[h3];exact h (by rw[e,h2]))
 |wM=>exact .wM
 |xF T v=>exact .xF T v
 |jw T x v hp h=>exact .jw T x v hp (h.plain hp)
 |jg ks us b es ck hb hMb hk hv g1 g2=>exact .jg ks us b es ck hb (fun h'=>hMb (hM _ h')) hk hv (fun i p e hp he=>(g1 i p e hp he).mono hs (Gh.le.refl _)) (fun i p e hp he=>(g2 i p e hp he).mono hs (Gh.le.refl _))
theorem bm.mP{p:Nat->Bool}{M M':Nat->Prop}{G G':Gh}{x:PV}{v:Value}(hx:x.mP p=true)(hM:∀b,M' b->M b)(hp:∀id,p id=true->id<G'.N/\G'.V id=G.V id/\G'.L id=G.L id)(h:bm w M G x v):bm w M' G' x v:=by
 have go:∀{cs:List PV} {vs:List Value},cs.all (PV.vo p)=true->bg w M G cs vs->bg w M' G' cs vs:=fun hc h=>⟨h.1,fun i y v hy hv=>(h.2 i y v hy hv).vo (QH.1 hc y (Q7 hy)) hM hp⟩
 cases x with
 |agg cs=>obtain⟨vs,rfl,hr⟩:=h.qQ;have:=go (by simpa[PV.mP]using hx) hr;exact .agg _ _ this.1 this.2
 |dg cs=>obtain⟨vs,rfl,hr⟩:=h.DE;have:=go (by simpa[PV.mP]using hx) hr;exact .dg _ _ this.1 this.2
 |bY f cs=>obtain⟨vs,rfl,hr⟩:=h.zg;have:=go (by simpa[PV.mP]using hx) hr;exact .bY _ _ _ this.1 this.2
 |jx f cs=>obtain⟨vs,rfl,hr⟩:=h.N5;have:=go (by simpa[PV.mP]using hx) hr;exact .jx _ _ _ this.1 this.2
 |_=>exact h.vo (by simpa[PV.mP]using hx) hM hp
end
section
variable {U : TU}
def KV.vo(p:Nat->Bool):KV U->Bool
 | .own id _| .ptr id _ _| .eN id _ _ _ _| .view id _ _ _ _=>p id
 | .agg _| .dg _| .bY _ _| .jx _ _=>false
 |_=>true
def KV.mP(p:Nat->Bool):KV U->Bool
 | .agg cs| .dg cs| .bY _ cs| .jx _ cs=>cs.all (KV.vo p)
 |x=>x.vo p
theorem afc(p:Nat->Bool)(x:KV U):x.pv.vo p=x.vo p:=by cases x<;>simp[KV.pv,PV.vo,KV.vo]
theorem Bl(p:Nat->Bool)(l:List (KV U)):(l.map KV.pv).all (PV.vo p)=l.all (KV.vo p):=by
 induction l with
 |nil=>rfl
 |cons x l ih=>simp only[QD,Qq69,afc,ih]
theorem RZ(p:Nat->Bool)(x:KV U):x.pv.mP p=x.mP p:=by
 cases x with
 |agg cs=>simp only[KV.pv,PV.mP,KV.mP,KV.cx];exact Bl p cs
 |dg cs=>simp only[KV.pv,PV.mP,KV.mP,KV.cx];exact Bl p cs
 |bY f cs=>simp only[KV.pv,PV.mP,KV.mP,KV.cx];exact Bl p cs
 |jx f cs=>simp only[KV.pv,PV.mP,KV.mP,KV.cx];exact Bl p cs
 |_=>simp[KV.pv,PV.mP,KV.mP,PV.vo,KV.vo]
def ea.mP(p:Nat->Bool):ea U->Bool
 | .dead=>true
 | .box cs=>cs.all (KV.mP p)
 | .row _ _ _ _=>true
 | .raw _ _ es=>es.all fun c=>c.all (KV.mP p)
inductive It (U:TU) where
 |val (t:Nat) (T:U.Ty)
 |own (t id ak e k:Nat) (T:U.Ty)
 |box (id ak:Nat) (T:U.Ty) (m:List (Nat×Nat×Nat))
 |dt (id ak e k:Nat) (T:U.Ty)
@[reducible] def It.den:It U->Type
 | .val _ T=>U.den T
 | .own _ _ _ _ _ T=>List (U.den T)
 | .box _ _ T _=>U.den T
 | .dt _ _ _ _ T=>List (U.den T)
@[reducible] def rP:List (It U)->Type
 |[]=>Unit
 |i::l=>i.den×rP l
def Bz:List (Nat×Nat×Nat)->List (KV U)->List (KV U)
 |[],cs=>cs
 |(off,_,_)::m,cs=>Bz m (cs.set off .dW)
def BC:List (Nat×Nat×Nat)->List (KV U)->List (KV U)
 |[],cs=>cs
 |(off,id,ak)::m,cs=>(BC m cs).set off (.own id ak)
def GK(S:aZ U)(cs:List (KV U)):List (Nat×Nat×Nat)->Bool
 |[]=>true
 |(off,id,_)::m=>(match cs[off]? with|some (.own i v)=>Nat.beq i id&&Nat.beq v (S.H id).ak|_=>false)&&GK S cs m
theorem Ld(cs:List (KV U)):∀(m:List (Nat×Nat×Nat)),(BC m cs).length=cs.length
 |[]=>rfl
 |(off,id,ak)::m=>by rw[BC,QX,Ld cs m]
theorem Ep:∀(m:List (Nat×Nat×Nat)) (cs:List (KV U)),(Bz m cs).length=cs.length
 |[],_=>rfl
 |(off,id,ak)::m,cs=>by rw[Bz,Ep m,QX]
theorem Le(cs:List (KV U)){i:Nat}{y:KV U}:∀(m:List (Nat×Nat×Nat)),(BC m cs)[i]?=some y->(∃id ak,(i,id,ak)∈m/\y= .own id ak)\/((∀q∈m,q.1≠i)/\cs[i]?=some y)
 |[],h=> .inr ⟨by simp,h⟩
 |(off,id,ak)::m,h=>by
  rw[BC,List.getElem?_set]at h;split at h
  ·rename_i e;subst e;split at h
   ·injection h with h
    exact .inl ⟨id,ak,Qx,h.symm⟩
   ·cases h
  ·rename_i e;rcases Le cs m h with⟨a,b,h1,h2⟩|⟨h1,h2⟩
   ·exact .inl ⟨a,b,Qy _ h1,h2⟩
   ·refine .inr ⟨fun q hq=> ?_,h2⟩
    rcases QA.1 hq with rfl|hq
    ·exact e
    ·exact h1 q hq
theorem KT{i:Nat}:∀(m:List (Nat×Nat×Nat)) (cs:List (KV U)),(∀q∈m,q.1≠i)->(Bz m cs)[i]?=cs[i]?
 |[],_,_=>rfl
 |(off,id,ak)::m,cs,h=>by
  rw[Bz,KT m _ fun q hq=>h q (Qy _ hq),List.getElem?_set,Qs (h _ Qx)]
theorem LM{S:aZ U}{cs:List (KV U)}{off id ak:Nat}:∀{m:List (Nat×Nat×Nat)},GK S cs m=true->(off,id,ak)∈m->cs[off]?=some (.own id (S.H id).ak)
 |[],_,h=>by cases h
 |(o,i,v)::m,hm,h=>by
  rw[GK,Qm]at hm;rcases QA.1 h with e|h
  ·injection e with e1 e2
   injection e2 with e2 e3
   subst e1 e2 e3;have h1:=hm.1;split at h1
   ·rename_i i' v' hc;rw[Qm]at h1;rw[hc,QF h1.1,QF h1.2]
   ·cases h1
  ·exact LM hm.2 h
variable (K : TK U)
def Vs(S:aZ U):(i:It U)->Option i.den
 | .val t T=>Cv K nL T (S.env t)
 | .own t id ak e k T=>(match S.env t with
  | .own id' v=>(match Nat.beq id' id with
   |true=>(match S.row? id' v with
    |some r=>(match Nat.beq r.e e&&Nat.beq r.k k&&(Nat.blt 0 ak||Nat.beq v 0)with|true=>wm r.T T r.xs|false=>none)
    |none=>none)
   |false=>none)
  |_=>none)
 | .box id ak T m=>(match S.oE id ak with
  |some cs=>(match GK S cs m with|true=>K.dec T nL (Bz m cs)|false=>none)
  |none=>none)
 | .dt id ak e k T=>(match(S.H id).c with
  | .row e' k' T' xs=>(match Nat.beq e' e&&Nat.beq k' k&&(Nat.blt 0 ak||Nat.beq (S.H id).ak 0)with|true=>wm T' T xs|false=>none)
  |_=>none)
def pack(S:aZ U):(l:List (It U))->Option (rP l)
 |[]=>some ()
 |i::l=>(match Vs K S i with
  |some v=>(match pack S l with|some vs=>some (v,vs)|none=>none)
  |none=>none)
def vr(S:aZ U):(i:It U)->i.den->aZ U
 | .val t T,v=>{env:=fu S.env t (F6 K T v),H:=S.H,N:=S.N}
 | .own t id ak e k T,xs=>{env:=fu S.env t (.own id ak),H:=fu S.H id ⟨ak,.row e k T xs⟩,N:=S.N}
 | .box id ak T m,v=>{env:=S.env,H:=fu S.H id ⟨ak,.box (BC m (K.eI T v))⟩,N:=S.N}
 | .dt id ak e k T,xs=>{env:=S.env,H:=fu S.H id ⟨ak,.row e k T xs⟩,N:=S.N}
def uO(S:aZ U):(l:List (It U))->rP l->aZ U
 |[],_=>S
 |i::l,v=>vr K (uO S l v.2) i v.1
structure JS (U:TU) where
 items:List (It U)
 eu:List Nat
def aZ.base(S:aZ U)(eu:List Nat):aZ U:=
 {env:=fun t=>(match ig t eu with|true=>S.env t|false=> .any),H:=fun id=>(match Nat.blt id S.N with|true=>S.H id|false=>⟨0,.dead⟩),N:=S.N}
def unpack(S:aZ U)(J:JS U)(v:rP J.items):aZ U:=uO K (S.base J.eu) J.items v
def It.bx:It U->Option Nat
 | .val t _| .own t _ _ _ _ _=>some t
 | .box _ _ _ _| .dt _ _ _ _ _=>none
def It.id:It U->Option Nat
 | .val _ _=>none
 | .own _ id _ _ _ _| .box id _ _ _| .dt id _ _ _ _=>some id
def It.okv:It U->Bool
 | .own _ _ _ _ _ _| .dt _ _ _ _ _=>true
 |_=>true
def It.row:It U->Option Nat
 | .own _ id ak _ _ _| .dt id ak _ _ _=>(match ak with|0=>none|_+1=>some id)
 |_=>none
def It.isRow(id ak:Nat):It U->Bool
 | .dt id' ver' _ _ _=>Nat.beq id' id&&Nat.beq ver' ak
 |_=>false
def MD(id ak:Nat):List (It U)->Bool
 |[]=>false
 |i::l=>i.isRow id ak||MD id ak l
def It.okm(l:List (It U)):It U->Bool
 | .box _ _ _ m=>m.all fun q=>MD q.2.1 q.2.2 l
 |_=>true
theorem MC{id ak:Nat}:∀{l:List (It U)},MD id ak l=true->∃e k T,(It.dt id ak e k T)∈l
 |[],h=>by cases h
 |i::l,h=>by
  rw[MD,Qn]at h;rcases h with h|h
  ·cases i with
   |dt id' ver' e k T=>
    simp only[It.isRow,Qm]at h;rw[QF h.1,QF h.2];exact⟨e,k,T,Qx⟩
   |_=>cases h
  ·obtain⟨e,k,T,h⟩:=MC h;exact⟨e,k,T,Qy _ h⟩
def fb:List (It U)->List Nat
 |[]=>[]
 |i::l=>(match i.id with|some id=>id::fb l|none=>fb l)
def rowsOf:List (It U)->List Nat
 |[]=>[]
 |i::l=>(match i.row with|some id=>id::rowsOf l|none=>rowsOf l)
def slotsOf:List (It U)->List Nat
 |[]=>[]
 |i::l=>(match i.bx with|some id=>id::slotsOf l|none=>slotsOf l)
def xE:List Nat->Bool
 |[]=>true
 |x::l=> !ig x l&&xE l
def M0:Nat->(Nat->Bool)->Bool
 |0,_=>true
 |n+1,p=>M0 n p&&p n
theorem MZ{p:Nat->Bool}:∀{n:Nat},M0 n p=true->∀i,i<n->p i=true
 |0,_,i,hi=>absurd hi (Nat.not_lt_zero _)
 |n+1,h,i,hi=>by
  simp only[M0,Qm]at h
  by_cases e:i=n
  ·rw[e];exact h.2
  ·exact MZ h.1 i (by omega)
def uj(S:aZ U)(J:JS U)(F:List Nat)(W:WS):Bool:=
 let ids:=fb J.items
 let rows:=rowsOf J.items
 let p:=fun id=>Nat.blt id S.N&& !ig id rows
 xE ids&&ids.all (fun id=>Nat.blt id S.N&&okW W id)&&(J.items.all It.okv&&J.items.all (It.okm J.items))&&J.eu.all (fun t=>(S.env t).mP p&& !ig t (slotsOf J.items))&&M0 S.N (fun id=>ig id ids||(S.H id).c.mP p)
  &&F.all (fun t=>ig t J.eu)&&(match W with|some (n,_)=>Nat.ble n S.N|none=>false)
def xB:(l:List (It U))->rP l->List (Sigma (It.den (U:=U)))
 |[],_=>[]
 |i::l,v=>⟨i,v.1⟩::xB l v.2
variable {K}
theorem Lr{S:aZ U}:∀{l:List (It U)} {v:rP l},pack K S l=some v->∀p∈xB l v,Vs K S p.1=some p.2
 |[],v,h,p,hp=>by cases hp
 |i::l,v,h,p,hp=>by
  rw[pack]at h;split at h
  ·rename_i v1 h1;split at h
   ·rename_i vs h2;injection h with h
    subst h;rcases QA.1 hp with rfl|hp
    ·exact h1
    ·exact Lr h2 p hp
   ·cases h
  ·cases h
def kvI:(i:It U)->i.den->KV U
 | .val _ T,v=>F6 K T v
 | .own _ id ak _ _ _,_=> .own id ak
 | .box _ _ _ _,_=> .any
 | .dt _ _ _ _ _,_=> .any
def Ns:(i:It U)->i.den->dp U
 | .val _ _,_=>⟨0,.dead⟩
 | .own _ _ ak e k T,xs=>⟨ak,.row e k T xs⟩
 | .box _ ak T m,v=>⟨ak,.box (BC m (K.eI T v))⟩
 | .dt _ ak e k T,xs=>⟨ak,.row e k T xs⟩
theorem aax(S:aZ U)(i:It U)(v:i.den)(t:Nat):(i.bx=some t/\(vr K S i v).env t=kvI (K:=K) i v)\/(i.bx≠some t/\(vr K S i v).env t=S.env t):=by
 cases i with
 |val t' T=>
  by_cases e:t'=t
  ·subst e;left;exact⟨rfl,by simp only[vr,cP];exact bZ _ _ _⟩
  ·right;exact⟨by simpa[It.bx]using e,by simp only[vr,cP];exact cu _ _ (fun h=>e h.symm)⟩
 |own t' id ak ee k T=>
  by_cases e:t'=t
  ·subst e;left;exact⟨rfl,by simp only[vr,cP];exact bZ _ _ _⟩
  ·right;exact⟨by simpa[It.bx]using e,by simp only[vr,cP];exact cu _ _ (fun h=>e h.symm)⟩
 |box id ak T m=>right;exact⟨by simp[It.bx],rfl⟩
 |dt id ak e k T=>right;exact⟨by simp[It.bx],rfl⟩
theorem RR(S:aZ U)(i:It U)(v:i.den)(id:Nat):(i.id=some id/\(vr K S i v).H id=Ns (K:=K) i v)\/(i.id≠some id/\(vr K S i v).H id=S.H id):=by
 cases i with
 |val t' T=>right;exact⟨by simp[It.id],rfl⟩
 |own t' id' ak ee k T=>
  by_cases e:id'=id
  ·subst e;left;exact⟨rfl,by simp only[vr,cP];exact bZ _ _ _⟩
  ·right;exact⟨by simpa[It.id]using e,by simp only[vr,cP];exact cu _ _ (fun h=>e h.symm)⟩
 |box id' ak T m=>
  by_cases e:id'=id
  ·subst e;left;exact⟨rfl,by simp only[vr,cP];exact bZ _ _ _⟩
  ·right;exact⟨by simpa[It.id]using e,by simp only[vr,cP];exact cu _ _ (fun h=>e h.symm)⟩
 |dt id' ak ee k T=>
  by_cases e:id'=id
  ·subst e;left;exact⟨rfl,by simp only[vr,cP];exact bZ _ _ _⟩
  ·right;exact⟨by simpa[It.id]using e,by simp only[vr,cP];exact cu _ _ (fun h=>e h.symm)⟩
theorem ae2(S:aZ U)(i:It U)(v:i.den):(vr K S i v).N=S.N:=by cases i<;>rfl
theorem DN(S:aZ U):∀(l:List (It U)) (v:rP l),(uO K S l v).N=S.N
 |[],_=>rfl
 |i::l,v=>by rw[uO,ae2,DN S l]
theorem uQ{id:Nat}:∀{l:List (It U)} {i:It U},i∈l->i.id=some id->id∈fb l
 |j::l,i,hi,h=>by
  simp only[fb];rcases QA.1 hi with rfl|hi
  ·rw[h];exact Qx
  ·have:=uQ hi h;split
   ·exact Qy _ this
   ·exact this
theorem JU{id:Nat}:∀{l:List (It U)} {i:It U},i∈l->i.row=some id->id∈rowsOf l
 |j::l,i,hi,h=>by
  simp only[rowsOf];rcases QA.1 hi with rfl|hi
  ·rw[h];exact Qx
  ·have:=JU hi h;split
   ·exact Qy _ this
   ·exact this
theorem CF{id:Nat}:∀{l:List (It U)} {i:It U},i∈l->i.bx=some id->id∈slotsOf l
 |j::l,i,hi,h=>by
  simp only[slotsOf];rcases QA.1 hi with rfl|hi
  ·rw[h];exact Qx
  ·have:=CF hi h;split
   ·exact Qy _ this
   ·exact this
theorem kh:∀{l:List (It U)} {v:rP l} {p:Sigma (It.den (U:=U))},p∈xB l v->p.1∈l
 |i::l,v,p,hp=>by
  rcases QA.1 hp with rfl|hp
  ·exact Qx
  ·exact Qy _ (kh hp)
theorem Sb:∀{l:List (It U)} {v:rP l} {i:It U},i∈l->∃d,(⟨i,d⟩:Sigma (It.den (U:=U)))∈xB l v
 |j::l,v,i,hi=>by
  rcases QA.1 hi with rfl|hi
  ·exact⟨v.1,Qx⟩
  ·obtain⟨d,hd⟩:=Sb (v:=v.2) hi;exact⟨d,Qy _ hd⟩
theorem Ac(S:aZ U):∀(l:List (It U)) (v:rP l) (t:Nat),(∃p∈xB l v,p.1.bx=some t/\(uO K S l v).env t=kvI (K:=K) p.1 p.2)\/(t∉slotsOf l/\(uO K S l v).env t=S.env t)
 |[],v,t=> .inr ⟨by simp[slotsOf],rfl⟩
 |i::l,v,t=>by
  rcases aax (K:=K) (uO K S l v.2) i v.1 t with⟨h1,h2⟩|⟨h1,h2⟩
  ·exact .inl ⟨⟨i,v.1⟩,Qx,h1,h2⟩
  ·rcases Ac S l v.2 t with⟨p,hp,h3,h4⟩|⟨h3,h4⟩
   ·exact .inl ⟨p,Qy _ hp,h3,h2.trans h4⟩
   ·refine .inr ⟨?_,h2.trans h4⟩;simp only[slotsOf];split
    ·rename_i s hs;simp only[QA,not_or];exact⟨fun e=>h1 (by rw[hs,e]),h3⟩
    ·exact h3
theorem DO(S:aZ U):∀(l:List (It U)) (v:rP l) (id:Nat),xE (fb l)=true->(∃p∈xB l v,p.1.id=some id/\(uO K S l v).H id=Ns (K:=K) p.1 p.2)\/(id∉fb l/\(uO K S l v).H id=S.H id)
 |[],v,t,_=> .inr ⟨by simp[fb],rfl⟩
 |i::l,v,id,hn=>by
  have hn':xE (fb l)=true:=by
   simp only[fb]at hn;split at hn
   ·simp only[xE,Qm]at hn;exact hn.2
   ·exact hn
  rcases RR (K:=K) (uO K S l v.2) i v.1 id with⟨h1,h2⟩|⟨h1,h2⟩
  ·exact .inl ⟨⟨i,v.1⟩,Qx,h1,h2⟩
  ·rcases DO S l v.2 id hn' with⟨p,hp,h3,h4⟩|⟨h3,h4⟩
   ·exact .inl ⟨p,Qy _ hp,h3,h2.trans h4⟩
   ·refine .inr ⟨?_,h2.trans h4⟩;simp only[fb];split
    ·rename_i s hs;simp only[QA,not_or];exact⟨fun e=>h1 (by rw[hs,e]),h3⟩
    ·exact h3
theorem Gz(S:aZ U):∀(l:List (It U)) (v:rP l),xE (fb l)=true->∀p∈xB l v,∀id,p.1.id=some id->(uO K S l v).H id=Ns (K:=K) p.1 p.2
 |[],v,_,p,hp=>by cases hp
 |i::l,v,hn,p,hp=>by
  intro id hid
  have hn':xE (fb l)=true:=by
   simp only[fb]at hn;split at hn
   ·simp only[xE,Qm]at hn;exact hn.2
   ·exact hn
  rcases QA.1 hp with rfl|hp
  ·rcases RR (K:=K) (uO K S l v.2) i v.1 id with⟨h1,h2⟩|⟨h1,h2⟩
   ·exact h2
   ·exact absurd hid h1
  ·rcases RR (K:=K) (uO K S l v.2) i v.1 id with⟨h1,h2⟩|⟨h1,h2⟩
   ·exfalso;simp only[fb,h1,xE,Qm,Bool.not_eq_true']at hn;exact pJ hn.1 (uQ (kh hp) hid)
   ·exact h2.trans (Gz S l v.2 hn' p hp id hid)
theorem MV(S:aZ U)(eu:List Nat):(S.base eu).N=S.N:=rfl
theorem Fp{S:aZ U}{eu:List Nat}{t:Nat}:(S.base eu).env t=if t∈eu then S.env t else .any:=by
 simp only[aZ.base];split
 ·rename_i h;rw[Qr (fo.1 h)]
 ·rename_i h;rw[Qs (pJ h)]
theorem MW{S:aZ U}{eu:List Nat}{id:Nat}:(S.base eu).H id=if id<S.N then S.H id else⟨0,.dead⟩:=by
 simp only[aZ.base];split
 ·rename_i h;rw[Qr (show id<S.N from QG h)]
 ·rename_i h;rw[Qs];intro hlt;have:Nat.blt id S.N=true:=Nat.ble_eq_true_of_le hlt;rw[this]at h;cases h
theorem gM.Ou{w:World}{M:Nat->Prop}{G:Gh}{xs:List (KV U)}{ys:List PV}(h:gM nL xs ys):∀{vs:List Value},bg w M G (xs.map KV.pv) vs->bg w M G ys vs:=by
 induction h with
 |nil=>intro vs h;exact h
 |cons hc _ ih=>
  intro vs h;obtain⟨v,vs',rfl,h1,h2⟩:=bg.cons_inv h;refine bg.cons ?_ (ih h2)
  cases hc with
  |dW=>rw[KV.pv]at h1;rw[h1.rD];exact .slnil
  |own _ _ _ _ hn=>cases hn
  |_=>simpa[KV.pv]using h1
theorem jT.Ou{w:World}{M:Nat->Prop}{G:Gh}{x:KV U}{y:PV}(hc:jT nL x y){v:Value}(h1:bm w M G x.pv v):bm w M G y v:=by
 cases hc with
 |dW=>rw[KV.pv]at h1;rw[h1.rD];exact .slnil
 |own _ _ _ _ hn=>cases hn
 |_=>simpa[KV.pv]using h1
theorem gM.len{lk:Lk U}{xs:List (KV U)}{ys:List PV}(h:gM lk xs ys):xs.length=ys.length:=by
 induction h with
 |nil=>rfl
 |cons _ _ ih=>rw[QE,QE,ih]
theorem gM.get{lk:Lk U}{xs:List (KV U)}{ys:List PV}(h:gM lk xs ys):∀{i:Nat} {x:KV U} {y:PV},xs[i]?=some x->ys[i]?=some y->jT lk x y:=by
 induction h with
 |nil=>intro i x y h;simp at h
 |cons hc _ ih=>
  intro i x y hx hy
  cases i with
  |zero=>simp only[List.getElem?_cons_zero,Qf]at hx hy;subst hx hy;exact hc
  |succ i=>exact ih (by simpa using hx) (by simpa using hy)
theorem X9{w:World}{M:Nat->Prop}{G:Gh}{T:U.Ty}{x:KV U}{d:U.den T}{v:Value}(h:Cv K nL T x=some d)(r:bm w M G x.pv v):bm w M G (fF T d) v:=by
 unfold Cv at h;unfold fF;split at h
 ·split at h
  ·rename_i cs;rw[KV.pv,KV.cx]at r;obtain⟨vs,rfl,hr⟩:=r.qQ;have:=(K.l9 _ _ _ _ h).Ou hr;exact .agg _ _ this.1 this.2
  ·cases h
 ·rename_i ha;have hc:=K.l9 _ _ _ _ h;have h1:bg w M G ([x].map KV.pv) [v]:= .cons r .nil;have h2:=hc.Ou h1;generalize U.pv T d=ys at h2;obtain⟨hl,h2⟩:=h2
  cases ys with
  |nil=>simp at hl
  |cons y l=>exact h2 0 y v rfl rfl
theorem Rel.meet{S0 S1:aZ U}{J:JS U}{F:List Nat}{W:WS}(hchk:uj S0 J F W=true){v:rP J.items}(hp:pack K S1 J.items=some v)
  (hk:∀t∈J.eu,S1.env t=S0.env t) (hH:∀id,id<S0.N->id∉fb J.items->S1.H id=S0.H id) (hN:S0.N<=S1.N)
  {E:En} {a:Act} {w:World} {L:Nat->Value} (h:Rel E S1.st a w L):Rel E (unpack K S0 J v).st a w L:=by
 simp only[uj,Qm,QH]at hchk;obtain⟨⟨⟨⟨⟨⟨hnd,hids⟩,hokv,hokm⟩,hkeep⟩,hobj⟩,hF⟩,hW⟩:=hchk;have hpk:=Lr hp;have hN':(unpack K S0 J v).N=S0.N:=by rw[unpack,DN,MV]
 have hlt:∀id∈fb J.items,id<S0.N:=fun id hid=>QG (hids id hid).1
 have hHc:∀id,(∃p∈xB J.items v,p.1.id=some id/\(unpack K S0 J v).H id=Ns (K:=K) p.1 p.2)\/(id∉fb J.items/\(unpack K S0 J v).H id=if id<S0.N then S0.H id else⟨0,.dead⟩):=by
  intro id;rcases DO (K:=K) (S0.base J.eu) J.items v id hnd with h1|⟨h1,h2⟩
  ·exact .inl h1
  ·exact .inr ⟨h1,h2.trans MW⟩
 have hrow:∀t id ak e k T (xs:List (U.den T)),(⟨.own t id ak e k T,xs⟩:Sigma (It.den (U:=U)))∈xB J.items v->S1.env t= .own id (S1.H id).ak/\(S1.H id).c= .row e k T xs/\(ak=0->(S1.H id).ak=0):=by
  intro t id ak e k T xs hmem;have:=hpk _ hmem;simp only[Vs]at this;split at this
  ·rename_i id' v' he;split at this
   ·rename_i hid;have hid:=QF hid;subst hid;split at this
    ·rename_i r hr;obtain⟨h1,h2⟩:=Gr hr;split at this
     ·rename_i hek;rw[Qm,Qm,Qn]at hek;obtain⟨re,rk,rT,rxs⟩:=r;obtain⟨eT,hxs⟩:=o5 this;simp only at eT hxs h2 hek;subst eT;refine⟨by rw[he,h1],by rw[h2,hxs,QF hek.1.1,QF hek.1.2],fun hz=> ?_⟩
      rcases hek.2 with h9|h9
      ·rw[hz]at h9;cases h9
      ·rw[h1];exact QF h9
     ·cases this
    ·cases this
   ·cases this
  ·cases this
 have hbox:∀id ak T m (d:U.den T),(⟨.box id ak T m,d⟩:Sigma (It.den (U:=U)))∈xB J.items v->(S1.H id).ak=ak/\∃cs,(S1.H id).c= .box cs/\GK S1 cs m=true/\gM nL (Bz m cs) (U.pv T d):=by
  intro id ak T m d hmem;have:=hpk _ hmem;simp only[Vs]at this;split at this
  ·rename_i cs hcs;obtain⟨h1,h2⟩:=Ar hcs;split at this
   ·rename_i hmk;exact⟨h1,cs,h2,hmk,K.l9 _ _ _ _ this⟩
   ·cases this
  ·cases this
 have hrowb:∀id ak e k T (xs:List (U.den T)),(⟨.dt id ak e k T,xs⟩:Sigma (It.den (U:=U)))∈xB J.items v->(S1.H id).c= .row e k T xs/\(ak=0->(S1.H id).ak=0):=by
  intro id ak e k T xs hmem;have:=hpk _ hmem;simp only[Vs]at this;split at this
  ·rename_i e' k' T' ys hc;split at this
   ·rename_i hek;rw[Qm,Qm,Qn]at hek;obtain⟨eT,hxs⟩:=o5 this;subst eT;refine⟨by rw[hc,hxs,QF hek.1.1,QF hek.1.2],fun hz=> ?_⟩
    rcases hek.2 with h9|h9
    ·rw[hz]at h9;cases h9
    ·exact QF h9
   ·cases this
  ·cases this
 have hlive:∀id,id<S0.N->((unpack K S0 J v).st.H id).c.live=true->(S1.st.H id).c.live=true:=by
  intro id hid hl;rcases hHc id with⟨⟨i,d⟩,hmem,h1,h2⟩|⟨h1,h2⟩
  ·cases i with
   |val t T=>cases h1
   |own t id' ak e k T=>
    simp only[It.id,Qf]at h1;subst h1;have:=(hrow _ _ _ _ _ _ _ hmem).2.1;simp only[aZ.st,dp.pv,this,ea.pv];rfl
   |box id' ak T m=>
    simp only[It.id,Qf]at h1;subst h1;obtain⟨_,cs,h3,_,_⟩:=hbox _ _ _ _ _ hmem;simp only[aZ.st,dp.pv,h3,ea.pv];rfl
   |dt id' ak e k T=>
    simp only[It.id,Qf]at h1;subst h1;have:=(hrowb _ _ _ _ _ _ hmem).1;simp only[aZ.st,dp.pv,this,ea.pv];rfl
  ·rw[Qr hid]at h2;simp only[aZ.st]at hl ⊢;rw[h2,<-hH id hid h1]at hl;exact hl
 have hM:∀b,br E (unpack K S0 J v).st L b->br E S1.st L b:=by
  rintro b (⟨id,hid,hl,hb⟩|hb)
  ·have hid':id<S0.N:=by simpa only[aZ.st,hN']using hid
   exact .inl ⟨id,QJ hid' hN,hlive id hid' hl,hb⟩
  ·exact .inr hb
 have hpok:∀id,(Nat.blt id S0.N&& !ig id (rowsOf J.items))=true->id<((unpack K S0 J v).st.gh L).N/\((unpack K S0 J v).st.gh L).V id=(S1.st.gh L).V id/\((unpack K S0 J v).st.gh L).L id=(S1.st.gh L).L id:=by
  intro id hid;simp only[Qm,Bool.not_eq_true']at hid;have hid1:id<S0.N:=QG hid.1;refine⟨by simpa only[St.gh,aZ.st,hN']using hid1,?_,rfl⟩
  simp only[St.gh,aZ.st,dp.pv];rcases hHc id with⟨⟨i,d⟩,hmem,h1,h2⟩|⟨h1,h2⟩
  ·cases i with
   |val t T=>cases h1
   |own t id' ak e k T=>
    simp only[It.id,Qf]at h1;subst h1
    cases ak with
    |zero=>
     rw[h2];exact((hrow _ _ _ _ _ _ _ hmem).2.2 rfl).symm
    |succ n=>exact absurd (JU (kh hmem) rfl) (pJ hid.2)
   |box id' ak T m=>
    simp only[It.id,Qf]at h1;subst h1;rw[h2];exact(hbox _ _ _ _ _ hmem).1.symm
   |dt id' ak e k T=>
    simp only[It.id,Qf]at h1;subst h1
    cases ak with
    |zero=>
     rw[h2];exact((hrowb _ _ _ _ _ _ hmem).2 rfl).symm
    |succ n=>exact absurd (JU (kh hmem) rfl) (pJ hid.2)
  ·rw[Qr hid1]at h2;rw[h2,hH id hid1 h1]
 refine⟨h.defers,h.size,fun t=> ?_,fun id hid=> ?_,fun i j b hi hj hli hlj hbi hbj=> ?_,fun id hid=> ?_,h.fr,fun hb hlv hvr=> ?_⟩
 ·show bm _ _ _ (((unpack K S0 J v).env t).pv) _;rcases Ac (K:=K) (S0.base J.eu) J.items v t with⟨⟨i,d⟩,hmem,h1,h2⟩|⟨_,h2⟩
  ·rw[show(unpack K S0 J v).env t=_ from h2]
   cases i with
   |val t' T=>
    simp only[It.bx,Qf]at h1;subst h1;simp only[kvI,DD];have h3:=hpk _ hmem;simp only[Vs]at h3;have h4:=X9 h3 (h.env t')
    have hg:(fF T d).mP (fun _=>false)=true:=by
     have:=AA K d;have h5:=FA K d
     cases hv:fF T d with
     |agg cs=>
      simp only[PV.mP];refine QH.2 fun y hy=> ?_
      cases ha:U.agg T with
      |true=>
       rw[w6 d ha]at hv;injection hv with hv
       rw[<-hv]at hy;have:=K.eH T d y hy;cases y<;>first|rfl|cases this
      |false=>obtain⟨y0,h6,h7⟩:=uJ K d ha;have h8:=K.eH T d y0 h7;rw[<-h6,hv]at h8;cases h8
     |dg cs=>exact absurd hv (h5 cs)
     |bY f cs=>
      exfalso
      cases ha:U.agg T with
      |true=>rw[w6 d ha]at hv;cases hv
      |false=>obtain⟨y,h6,h7⟩:=uJ K d ha;have h8:=K.eH T d y h7;rw[<-h6,hv]at h8;cases h8
     |_=>rw[hv]at this;first|rfl|cases this
    exact h4.mP hg hM (fun id hid=>by cases hid)
   |own t' id ak e k T=>
    simp only[It.bx,Qf]at h1;subst h1;obtain⟨h3,h4,_⟩:=hrow _ _ _ _ _ _ _ hmem;have h5:=h.env t';have h6:S1.st.env t'= .own id (S1.st.H id).ak:=by simp only[aZ.st,h3,KV.pv,dp.pv]
    rw[h6]at h5;obtain⟨h7,h8⟩:=h5.mj (show(S1.st.gh L).V id=_ from rfl)
    have hidlt:=hlt id (uQ (kh hmem) rfl);have h9:=Gz (K:=K) (S0.base J.eu) J.items v hnd _ hmem id rfl;simp only[kvI,KV.pv]
    have hsl:∃ad n c,a.tmps.getD t' undef= .slice ad n c:=by
     generalize a.tmps.getD t' undef=vv at h5
     cases h5 with
     |own _ _ ad n c _ _ _=>exact⟨ad,n,c,rfl⟩
    obtain⟨ad,n,c,hv⟩:=hsl;rw[hv]at h8 ⊢;refine .own _ _ _ _ _ (by simpa only[St.gh,aZ.st,hN']using hidlt) ?_ (fun _=>h8)
    simp only[St.gh,aZ.st,dp.pv,show(unpack K S0 J v).H id=_ from h9,Ns]
    exact QI _
   |box id ak T m=>cases h1
   |dt id ak e k T=>cases h1
  ·rw[show(unpack K S0 J v).env t=_ from h2,Fp]
   split
   ·rename_i ht;have h3:=(hkeep t ht).1;rw[<-RZ]at h3;refine bm.mP h3 hM hpok ?_;have:=h.env t;simp only[aZ.st,hk t ht]at this;exact this
   ·exact .any _
 ·have hid':id<S0.N:=by simpa only[aZ.st,hN']using hid
  show wo _ _ _ _ _ (((unpack K S0 J v).H id).c.pv);rcases hHc id with⟨⟨i,d⟩,hmem,h1,h2⟩|⟨h1,h2⟩
  ·rw[h2]
   cases i with
   |val t T=>cases h1
   |own t id' ak e k T=>
    simp only[It.id,Qf]at h1;subst h1;have h3:=(hrow _ _ _ _ _ _ _ hmem).2.1;have h4:(S1.st.H id').c= .row e k (d.map (U.pv T)):=by simp only[aZ.st,dp.pv,h3,ea.pv]
    obtain⟨vs,h5,h6,h7⟩:=h.jt (QJ hid' hN) h4;refine⟨vs,h5,h6,bg.closed ?_ hM h7⟩;refine QH.2 fun y hy=> ?_
    obtain⟨u,hu,hyu⟩:=List.mem_flatten.1 hy;obtain⟨x,_,rfl⟩:=QP.1 hu;exact iP (K.eH T x y hyu)
   |box id' ak T m=>
    simp only[It.id,Qf]at h1;subst h1;obtain⟨_,cs,h3,hmk,hcs⟩:=hbox _ _ _ _ _ hmem;have h4:(S1.st.H id').c= .box (cs.map KV.pv):=by simp only[aZ.st,dp.pv,h3,ea.pv]
    obtain⟨b,cur,T',h5,h6,h7,h8⟩:=h.o6 (QJ hid' hN) h4;refine⟨b,cur,T',h5,h6,h8,?_,fun i y u hy hu=> ?_⟩
    ·have e1:=congrArg List.length (K.oX T d);rw[QC]at e1;rw[QC,Ld,e1,<-hcs.len,Ep,h7.1,QC]
    ·rw[QT,Qb]at hy;obtain⟨z,hz,rfl⟩:=hy;rcases Le _ m hz with⟨rid,rver,hmm,rfl⟩|⟨hnm,hz⟩
     ·have hci:=LM hmk hmm;have h9:=h7.2 i _ u (by rw[QT,hci];rfl) hu
      rw[KV.pv]at h9;obtain⟨h10,h11⟩:=h9.mj (show(S1.st.gh L).V rid=_ from rfl)
      have hmi:(It.box id' ak T m)∈J.items:=kh hmem;obtain⟨e,k,T2,hrm⟩:=MC (QH.1 (hokm _ hmi) _ hmm);have hridlt:=hlt rid (uQ hrm rfl)
      have hsl:∃ad n c,u= .slice ad n c:=by
       cases h9 with
       |own _ _ ad n c _ _ _=>exact⟨ad,n,c,rfl⟩
      obtain⟨ad,n,c,hv⟩:=hsl;rw[hv]at h11 ⊢;rw[KV.pv];refine .own _ _ _ _ _ (by simpa only[St.gh,aZ.st,hN']using hridlt) ?_ (fun _=>h11)
      obtain⟨d2,hd2⟩:=Sb (v:=v) hrm;have h12:=Gz (K:=K) (S0.base J.eu) J.items v hnd _ hd2 rid rfl;simp only[St.gh,aZ.st,dp.pv,show(unpack K S0 J v).H rid=_ from h12,Ns]
      exact QI _
     ·have hzp:(U.pv T d)[i]?=some z.pv:=by rw[<-K.oX,QT,hz];rfl
      have hil:i<cs.length:=by
       have:=(Qw.1 hzp).1;rw[<-hcs.len,Ep]at this;exact this
      have hci:cs[i]?=some cs[i]:=Qv hil;have hck:=hcs.get (by rw[KT m cs hnm];exact hci) hzp
      have h9:=h7.2 i _ u (by rw[QT,hci];rfl) hu
      exact(hck.Ou h9).closed (iP (K.eH T d _ (Q7 hzp))) hM
   |dt id' ak e k T=>
    simp only[It.id,Qf]at h1;subst h1;have h3:=(hrowb _ _ _ _ _ _ hmem).1;have h4:(S1.st.H id').c= .row e k (d.map (U.pv T)):=by simp only[aZ.st,dp.pv,h3,ea.pv]
    obtain⟨vs,h5,h6,h7⟩:=h.jt (QJ hid' hN) h4;refine⟨vs,h5,h6,bg.closed ?_ hM h7⟩;refine QH.2 fun y hy=> ?_
    obtain⟨u,hu,hyu⟩:=List.mem_flatten.1 hy;obtain⟨x,_,rfl⟩:=QP.1 hu;exact iP (K.eH T x y hyu)
  ·rw[h2,Qr hid',<-hH id hid' h1];have ho:=h.obj id (QJ hid' hN);have hc:=MZ hobj id hid';rw[Qn]at hc;have hc:=hc.resolve_left (fun e=>h1 (fo.1 e))
   rw[<-hH id hid' h1]at hc
   change wo _ _ _ _ _ ((S1.H id).c.pv)at ho
   cases hcc:(S1.H id).c with
   |dead=>trivial
   |box cs=>
    rw[hcc]at ho hc;obtain⟨b,cur,T',h5,h6,h7,h8⟩:=ho;refine⟨b,cur,T',h5,h6,h7,h8.1,fun i y u hy hu=> ?_⟩
    simp only[ea.mP,QH]at hc;rw[QT,Qb]at hy;obtain⟨z,hz,rfl⟩:=hy;refine bm.mP (by rw[RZ];exact hc z (Q7 hz)) hM hpok (h8.2 i z.pv u (by rw[QT,hz];rfl) hu)
   |raw e k es=>
    rw[hcc]at ho hc;obtain⟨vs,h5,h6,h7⟩:=ho;refine⟨vs,h5,h6,h7.1,fun i y u hy hu=> ?_⟩
    simp only[ea.mP,QH]at hc;obtain⟨l,hl,hyl⟩:=List.mem_flatten.1 (Q7 hy);obtain⟨c,hcm,rfl⟩:=QP.1 hl;obtain⟨z,hz,rfl⟩:=QP.1 hyl;exact bm.mP (by rw[RZ];exact hc c hcm z hz) hM hpok (h7.2 i _ u hy hu)
   |row e k T xs=>
    rw[hcc]at ho;obtain⟨vs,h5,h6,h7⟩:=ho;refine⟨vs,h5,h6,bg.closed ?_ hM h7⟩;refine QH.2 fun y hy=> ?_
    obtain⟨u,hu,hyu⟩:=List.mem_flatten.1 hy;obtain⟨x,_,rfl⟩:=QP.1 hu;exact iP (K.eH T x y hyu)
 ·have hi':i<S0.N:=by simpa only[aZ.st,hN']using hi
  have hj':j<S0.N:=by simpa only[aZ.st,hN']using hj
  exact h.apart i j b (QJ hi' hN) (QJ hj' hN) (hlive i hi' hli) (hlive j hj' hlj) hbi hbj
 ·have hid':S0.N<=id:=by simpa only[aZ.st,hN']using hid
  rcases hHc id with⟨⟨i,d⟩,hmem,h1,h2⟩|⟨h1,h2⟩
  ·have:=hlt id (uQ (kh hmem) h1);omega
  ·rw[Qs (by omega)]at h2
   simp only[aZ.st,h2,dp.pv,ea.pv]
 ·by_cases h0:0<S0.N
  ·refine h.BE hb (hlive 0 h0 hlv) ?_;simp only[aZ.st,dp.pv]at hvr ⊢;rcases hHc 0 with⟨⟨i,d⟩,hmem,h1,h2⟩|⟨h1,h2⟩
   ·rw[h2]at hvr
    cases i with
    |val t T=>cases h1
    |own t id' ak e k T=>
     simp only[It.id,Qf]at h1;subst h1;exact(hrow _ _ _ _ _ _ _ hmem).2.2 hvr
    |box id' ak T m=>
     simp only[It.id,Qf]at h1;subst h1;rw[(hbox _ _ _ _ _ hmem).1];exact hvr
    |dt id' ak e k T=>
     simp only[It.id,Qf]at h1;subst h1;exact(hrowb _ _ _ _ _ _ hmem).2 hvr
   ·rw[Qr h0]at h2;rw[hH 0 h0 h1,<-h2];exact hvr
  ·rcases hHc 0 with⟨⟨i,d⟩,hmem,h1,h2⟩|⟨h1,h2⟩
   ·exact absurd (hlt 0 (uQ (kh hmem) h1)) h0
   ·rw[Qs h0]at h2;simp only[aZ.st,dp.pv,h2,ea.pv]at hlv;cases hlv
end
end
end Go.TQ
end
