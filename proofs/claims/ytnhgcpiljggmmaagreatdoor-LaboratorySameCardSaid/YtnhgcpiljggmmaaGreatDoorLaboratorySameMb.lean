/-
  Texts made small by a program (see NOTES). Conditions: those that each theorem names.
-/
import Derived.Test.YtnhgcpiljggmmaaGreatDoorLaboratorySameMa
import Derived.OrdersIn
import Derived.RangeFuncRecord
set_option linter.unusedVariables false
set_option linter.unusedSimpArgs false
set_option linter.unusedSectionVars false
set_option maxHeartbeats 2000000
noncomputable section
namespace Go.TQ
section
open Go.RowKit
def bg.bZ:bg->List Nat
 | .tmp t=>[t]
 | .Ab _=>[]
def bX.bZ:bX->List Nat
 | .Ga x| .box x| .AF x| .load _ x| .wH _ x| .not x| .conv _ x| .len _ x| .wA x| .AA _ x| .uC _ x
 | .Gs _ _ x=>x.bZ
 | .pick c x y=>c.bZ++x.bZ++y.bZ
 | .alloc _=>[]
 | .store _ p x=>p.bZ++x.bZ
 | .build _ ps=>ps.flatMap fun p=>p.2.2.bZ
 | .I7 _ _ _ _ ps=>ps.flatMap fun p=>p.2.bZ
 | .wE _ x i| .wM _ _ x i=>x.bZ++i.bZ
 | .bin _ x y| .ml _ x y| .eqs _ _ x y| .Eh _ x y| .qF _ x y| .dY x y| .AH _ _ _ _ x y
 =>x.bZ++y.bZ
 | .call _ xs=>xs.flatMap bg.bZ
 | .xS f xs=>f.bZ++xs.flatMap bg.bZ
 | .cZ _ _ _ _ s x=>s.bZ++x.bZ
 | .Gb _ caps| .Gc _ caps| .oP _ caps=>caps.flatMap bg.bZ
 | .Gv _ _ x y=>x.bZ++y.bZ
 | .H7 _ _ _ _ l c=>l.bZ++c.bZ
 | .Dh _ x lo hi=>x.bZ++(match lo with|some l=>l.bZ|none=>[])++(match hi with|some h=>h.bZ|none=>[])
def SG.bZ(g:SG):List Nat:=(match g.g with|some (t,_)=>[t]|none=>[])++g.op.bZ
def bX.oh:bX->Bool
 | .Ga _| .AF _| .pick ..| .bin ..| .ml ..| .eqs ..| .Eh ..| .not _| .conv ..| .AA ..| .Gb ..| .Gc ..| .build ..| .qF ..| .dY ..| .AH ..
 | .Gs ..| .oP ..| .len true _=>false
 |_=>true
def lh:PV->List Nat
 | .own id _| .ptr id _ _| .ed id _ _ _ _| .view id _ _ _ _=>[id]
 |_=>[]
def eA(H:Nat->fc):Nat->PV->List Nat
 |0,_=>[]
 |n+1,.own id _=>id::(match(H id).c with| .row _ _ es=>es.flatMap (fun e=>e.flatMap (eA H n))|_=>[])
 |n+1,.ptr id _ _=>id::(match(H id).c with| .box cs=>cs.flatMap (eA H n)|_=>[])
 |n+1,.agg cs|n+1,.cX cs|n+1,.cz _ cs|n+1,.iM _ cs=>cs.flatMap (eA H n)
 |_+1,_=>[]
def eI(nid:Nat)(S:St):bX->List Nat
 | .load _ p| .wH _ p| .wA p| .store _ p _=>lh (p.val S)
 | .wE _ x _| .wM _ _ x _| .len false x| .uC _ x| .Dh _ x _ _
 =>lh (x.val S)
 | .box _| .alloc _| .I7 ..| .H7 ..=>[nid]
 | .cZ _ _ _ _ s x=>nid::(lh (s.val S)++lh (x.val S))
 | .Gv _ _ x y=>lh (x.val S)++lh (y.val S)
 | .call _ xs=>nid::(xs.map (·.val S)).flatMap (eA S.H 9)
 | .xS f xs=>nid::(eA S.H 10 (f.val S)++(xs.map (·.val S)).flatMap (eA S.H 9))
 |_=>[]
section
variable {Γ : nk} {S S' : St} {nid : Nat}
theorem bg.val_congr{x:bg}(h:∀t∈x.bZ,S'.env t=S.env t):x.val S'=x.val S:=by
 cases x with
 |tmp t=>exact h t (by simp[bg.bZ])
 |Ab v=>rfl
theorem oU{xs:List bg}(h:∀t∈xs.flatMap bg.bZ,S'.env t=S.env t):xs.map (·.val S')=xs.map (·.val S):=
 Qq70 fun x hx=>bg.val_congr fun t ht=>h t (QQ.2 ⟨x,hx,ht⟩)
theorem Oo{H H':Nat->fc}{ex:Option Nat}:∀(n:Nat) (x:PV),(∀id∈eA H n x,H' id=H id)->fz H' ex n x=fz H ex n x
 |0,x,_=>by cases x<;>simp[fz]
 |n+1,x,h=>by
  have go:∀cs:List PV,(∀id∈cs.flatMap (eA H n),H' id=H id)->cs.map (fz H' ex n)=cs.map (fz H ex n):=fun cs hc=>
   Qq70 fun y hy=>Oo n y fun id hid=>hc id (QQ.2 ⟨y,hy,hid⟩)
  cases x with
  |own id ar=>
   have h0:H' id=H id:=h id (by simp[eA])
   simp only[fz,h0];split
   ·rfl
   ·cases hc:(H id).c with
    |row e k es=>
     simp only;congr 1;refine Qq70 fun y hy=>go y fun i hi=>h i ?_
     simp only[eA,hc,QA];exact .inr (QQ.2 ⟨y,hy,hi⟩)
    |dead=>rfl
    |box cs=>rfl
  |ptr id ar off=>
   have h0:H' id=H id:=h id (by simp[eA])
   simp only[fz,h0];split
   ·rfl
   ·cases hc:(H id).c with
    |box cs=>
     simp only;rw[go cs fun i hi=>h i (by simp only[eA,hc,QA];exact .inr hi)]
    |dead=>rfl
    |row e k es=>rfl
  |agg cs=>simp only[fz];rw[go cs (by simpa[eA]using h)]
  |cX cs=>simp only[fz];rw[go cs (by simpa[eA]using h)]
  |cz f cs=>simp only[fz];rw[go cs (by simpa[eA]using h)]
  |_=>simp[fz]
theorem zW{H H':Nat->fc}{ex:Option Nat}{xs:List PV}(h:∀id∈xs.flatMap (eA H 9),H' id=H id):xs.map (fz H' ex 9)=xs.map (fz H ex 9):=
 Qq70 fun y hy=>Oo 9 y fun id hid=>h id (QQ.2 ⟨y,hy,hid⟩)
theorem zf{f:FuncId}{args:List PV}(hnid:S'.H nid=S.H nid)(h:∀id∈args.flatMap (eA S.H 9),S'.H id=S.H id):kJ Γ nid S' f args=kJ Γ nid S f args:=by
 have Wh:∀(m:Model) (e k:Nat),wc m e k S' args=wc m e k S args:=by
  intro m e k;unfold wc
  cases args with
  |nil=>rfl
  |cons x rest=>
   cases x with
   |own id ar=>
    have h0:S'.H id=S.H id:=h id (by simp[eA])
    have h1:rest.map (fz S'.H (some id) 9)=rest.map (fz S.H (some id) 9):=zW fun i hi=>h i (by simp only[List.flatMap_cons,Qz];exact .inr hi)
    simp only[h0,h1]
   |_=>rfl
 have Lq:∀(m:Model) (e k:Nat),wb m e k S' args=wb m e k S args:=by
  intro m e k;unfold wb
  cases args with
  |nil=>rfl
  |cons x rest=>
   cases x with
   |own id ar=>
    have h0:S'.H id=S.H id:=h id (by simp[eA])
    have h1:rest.map (fz S'.H (some id) 9)=rest.map (fz S.H (some id) 9):=zW fun i hi=>h i (by simp only[List.flatMap_cons,Qz];exact .inr hi)
    simp only[h0,h1]
   |_=>rfl
 unfold kJ
 cases hm:Γ f with
 |none=>rfl
 |some m=>
  simp only[Wh,Lq,Bn,hnid,zW (ex:=none) h];split
  ·rfl
  ·rfl
  ·rfl
  split
  ·rfl
  split
  ·cases hp:args[m.pos]? with
   |none=>rfl
   |some x=>
    cases x with
    |ptr id ar off=>
     cases off with
     |zero=>
      have hmem:PV.ptr id ar 0∈args:=Q7 hp;have h0:S'.H id=S.H id:=h id (QQ.2 ⟨_,hmem,by simp[eA]⟩)
      have h1:(cutAt m.pos args).map (fz S'.H (some id) 9)=(cutAt m.pos args).map (fz S.H (some id) 9):=zW fun i hi=>by
       obtain⟨y,hy,hiy⟩:=QQ.1 hi;refine h i (QQ.2 ⟨y,?_,hiy⟩);unfold cutAt at hy;rcases Qz.1 hy with hy|hy
       ·exact Q0 hy
       ·exact Q1 hy
      simp only[h0,h1]
     |succ k=>rfl
    |_=>rfl
  ·rfl
theorem Ed:∀(ps:List (Nat×Nat×bg)) (cs:List PV),(∀t∈ps.flatMap (fun p=>p.2.2.bZ),S'.env t=S.env t)->ox S' cs ps=ox S cs ps
 |[],cs,_=>rfl
 |(off,n,x)::ps,cs,h=>by
  have h0:x.val S'=x.val S:=bg.val_congr fun t ht=>h t (by simp[ht])
  simp only[ox,h0];split
  ·exact Ed ps _ fun t ht=>h t (by simp only[List.flatMap_cons,Qz];exact .inr ht)
  ·rfl
theorem Ee(k:Nat):∀(ps:List (Nat×bg)) (es:List (List PV)),(∀t∈ps.flatMap (fun p=>p.2.bZ),S'.env t=S.env t)->qN S' k es ps=qN S k es ps
 |[],es,_=>rfl
 |(i,x)::ps,es,h=>by
  have h0:x.val S'=x.val S:=bg.val_congr fun t ht=>h t (by simp[ht])
  simp only[qN,h0];split
  ·exact Ee k ps _ fun t ht=>h t (by simp only[List.flatMap_cons,Qz];exact .inr ht)
  ·rfl
theorem wI{x:PV}(h:∀id∈lh x,S'.H id=S.H id):ig S' x=ig S x:=by
 cases x with
 |own id ar=>have h0:S'.H id=S.H id:=h id (by simp[lh]);simp only[ig,h0]
 |view id ar k lo n=>have h0:S'.H id=S.H id:=h id (by simp[lh]);simp only[ig,h0]
 |_=>rfl
theorem HW{y:Option bg}{d:Int}(h:∀l,y=some l->l.val S'=l.val S):pS S' y d=pS S y d:=by
 cases y with
 |none=>rfl
 |some l=>simp only[pS,h l rfl]
theorem Tx{op:bX}(he:∀t∈op.bZ,S'.env t=S.env t)(hH:∀id∈eI nid S op,S'.H id=S.H id):exec Γ nid S' op=exec Γ nid S op:=by
 cases op with
 |Ga x=>simp only[exec,bg.val_congr (x:=x) he]
 |pick c x y=>
  have h1:c.val S'=c.val S:=bg.val_congr fun t ht=>he t (by simp[bX.bZ,ht])
  have h2:x.val S'=x.val S:=bg.val_congr fun t ht=>he t (by simp[bX.bZ,ht])
  have h3:y.val S'=y.val S:=bg.val_congr fun t ht=>he t (by simp[bX.bZ,ht])
  simp only[exec,h1,h2,h3]
 |box x=>
  have h1:x.val S'=x.val S:=bg.val_congr he;have h2:S'.H nid=S.H nid:=hH nid (by simp[eI])
  simp only[exec,h1,h2]
 |AF x=>
  have h1:x.val S'=x.val S:=bg.val_congr he;simp only[exec,h1]
 |alloc z=>
  have h2:S'.H nid=S.H nid:=hH nid (by simp[eI])
  simp only[exec,h2]
 |load n p=>
  have h1:p.val S'=p.val S:=bg.val_congr he;simp only[exec,h1];simp only[eI]at hH
  cases hp:p.val S with
  |ptr id ar off=>rw[hp]at hH;have h2:S'.H id=S.H id:=hH id (by simp[lh]);simp only[h2]
  |ed id ar k i off=>rw[hp]at hH;have h2:S'.H id=S.H id:=hH id (by simp[lh]);simp only[h2]
  |_=>rfl
 |store n p x=>
  have h1:p.val S'=p.val S:=bg.val_congr fun t ht=>he t (by simp[bX.bZ,ht])
  have h2:x.val S'=x.val S:=bg.val_congr fun t ht=>he t (by simp[bX.bZ,ht])
  simp only[exec,h1,h2];simp only[eI]at hH
  cases hp:p.val S with
  |ptr id ar off=>rw[hp]at hH;have h3:S'.H id=S.H id:=hH id (by simp[lh]);simp only[h3]
  |ed id ar k i off=>rw[hp]at hH;have h3:S'.H id=S.H id:=hH id (by simp[lh]);simp only[h3]
  |_=>rfl
 |build z ps=>simp only[exec,Ed ps z he]
 |I7 m e k z ps=>
  have h2:S'.H nid=S.H nid:=hH nid (by simp[eI])
  simp only[exec,Ee k ps z he,h2]
 |wH off p=>
  have h1:p.val S'=p.val S:=bg.val_congr he;simp only[exec,h1];simp only[eI]at hH
  cases hp:p.val S with
  |ptr id ar off=>rw[hp]at hH;have h2:S'.H id=S.H id:=hH id (by simp[lh]);simp only[h2]
  |ed id ar k i off=>rw[hp]at hH;have h2:S'.H id=S.H id:=hH id (by simp[lh]);simp only[h2]
  |_=>rfl
 |wE k x i=>
  have h1:x.val S'=x.val S:=bg.val_congr fun t ht=>he t (by simp[bX.bZ,ht])
  have h2:i.val S'=i.val S:=bg.val_congr fun t ht=>he t (by simp[bX.bZ,ht])
  simp only[exec,h1,h2];simp only[eI]at hH
  cases hp:x.val S with
  |own id ar=>rw[hp]at hH;have h3:S'.H id=S.H id:=hH id (by simp[lh]);simp only[h3]
  |view id ar k lo n=>rw[hp]at hH;have h3:S'.H id=S.H id:=hH id (by simp[lh]);simp only[h3]
  |_=>rfl
 |wM k len x i=>
  have h1:x.val S'=x.val S:=bg.val_congr fun t ht=>he t (by simp[bX.bZ,ht])
  have h2:i.val S'=i.val S:=bg.val_congr fun t ht=>he t (by simp[bX.bZ,ht])
  simp only[exec,h1,h2];simp only[eI]at hH
  cases hp:x.val S with
  |ptr id ar off=>rw[hp]at hH;have h3:S'.H id=S.H id:=hH id (by simp[lh]);simp only[h3]
  |_=>rfl
 |bin op x y=>
  have h1:x.val S'=x.val S:=bg.val_congr fun t ht=>he t (by simp[bX.bZ,ht])
  have h2:y.val S'=y.val S:=bg.val_congr fun t ht=>he t (by simp[bX.bZ,ht])
  simp only[exec,h1,h2]
 |ml n x y=>
  have h1:x.val S'=x.val S:=bg.val_congr fun t ht=>he t (by simp[bX.bZ,ht])
  have h2:y.val S'=y.val S:=bg.val_congr fun t ht=>he t (by simp[bX.bZ,ht])
  simp only[exec,h1,h2]
 |Eh n x y=>
  have h1:x.val S'=x.val S:=bg.val_congr fun t ht=>he t (by simp[bX.bZ,ht])
  have h2:y.val S'=y.val S:=bg.val_congr fun t ht=>he t (by simp[bX.bZ,ht])
  simp only[exec,h1,h2]
 |eqs n ks x y=>
  have h1:x.val S'=x.val S:=bg.val_congr fun t ht=>he t (by simp[bX.bZ,ht])
  have h2:y.val S'=y.val S:=bg.val_congr fun t ht=>he t (by simp[bX.bZ,ht])
  simp only[exec,h1,h2]
 |AH e n len k x y=>
  have h1:x.val S'=x.val S:=bg.val_congr fun t ht=>he t (by simp[bX.bZ,ht])
  have h2:y.val S'=y.val S:=bg.val_congr fun t ht=>he t (by simp[bX.bZ,ht])
  simp only[exec,h1,h2]
 |dY x y=>
  have h1:x.val S'=x.val S:=bg.val_congr fun t ht=>he t (by simp[bX.bZ,ht])
  have h2:y.val S'=y.val S:=bg.val_congr fun t ht=>he t (by simp[bX.bZ,ht])
  simp only[exec,h1,h2]
 |not x=>simp only[exec,bg.val_congr (x:=x) he]
 |conv k x=>simp only[exec,bg.val_congr (x:=x) he]
 |Gs n off x=>simp only[exec,bg.val_congr (x:=x) he]
 |oP q xs=>simp only[exec,oU he]
 |Gv e k x y=>
  have h1:x.val S'=x.val S:=bg.val_congr fun t ht=>he t (by simp[bX.bZ,ht])
  have h2:y.val S'=y.val S:=bg.val_congr fun t ht=>he t (by simp[bX.bZ,ht])
  simp only[exec,h1,h2];rw[wI (fun id hid=>hH id (by simp[eI,hid]))]
  cases hx:x.val S with
  |own id ar=>have h0:S'.H id=S.H id:=hH id (by simp[eI,hx,lh]);simp only[h0]
  |view id ar k lo n=>have h0:S'.H id=S.H id:=hH id (by simp[eI,hx,lh]);simp only[h0]
  |_=>rfl
 |len b x=>
  have h1:x.val S'=x.val S:=bg.val_congr he
  cases b with
  |true=>simp only[exec,h1]
  |false=>simp only[exec,h1];rw[wI (by simpa[eI]using hH)]
 |call f xs=>simp only[exec,oU he];exact zf (hH nid (by simp[eI])) fun id hid=>hH id (by simp only[eI,QA];exact .inr hid)
 |xS fv xs=>
  have h1:fv.val S'=fv.val S:=bg.val_congr fun t ht=>he t (by simp[bX.bZ,ht])
  have h2:xs.map (·.val S')=xs.map (·.val S):=oU fun t ht=>he t (by simp only[bX.bZ,Qz];exact .inr ht)
  simp only[exec,h1,h2];simp only[eI]at hH
  cases hp:fv.val S with
  |cz f caps=>
   rw[hp]at hH;refine zf (hH nid (by simp)) fun id hid=>hH id ?_
   simp only[List.flatMap_append,Qz,QA]at hid ⊢;right;rcases hid with hid|hid
   ·exact .inr hid
   ·exact .inl (by simpa[eA]using hid)
  |iM f first=>
   rw[hp]at hH;refine zf (hH nid (by simp)) fun id hid=>hH id ?_
   simp only[List.flatMap_append,Qz,QA]at hid ⊢;right;rcases hid with hid|hid
   ·exact .inl (by simpa[eA]using hid)
   ·exact .inr hid
  |_=>rfl
 |cZ z e k b s x=>
  have h1:s.val S'=s.val S:=bg.val_congr fun t ht=>he t (by simp[bX.bZ,ht])
  have h2:x.val S'=x.val S:=bg.val_congr fun t ht=>he t (by simp[bX.bZ,ht])
  have h3:S'.H nid=S.H nid:=hH nid (by simp[eI])
  have h4:ig S' (x.val S)=ig S (x.val S):=wI fun id hid=>hH id (by simp[eI,hid])
  simp only[exec,h1,h2,h3,h4]
  cases hp:s.val S with
  |own id ar=>have h5:S'.H id=S.H id:=hH id (by simp[eI,hp,lh]);simp only[h5]
  |_=>rfl
 |wA x=>
  have h1:x.val S'=x.val S:=bg.val_congr he;simp only[exec,h1];simp only[eI]at hH
  cases hp:x.val S with
  |ptr id ar off=>rw[hp]at hH;have h2:S'.H id=S.H id:=hH id (by simp[lh]);simp only[h2]
  |_=>rfl
 |AA i x=>simp only[exec,bg.val_congr (x:=x) he]
 |Gb f caps=>simp only[exec,oU he]
 |Gc f caps=>simp only[exec,oU he]
 |H7 e k b z l c=>
  have h1:l.val S'=l.val S:=bg.val_congr fun t ht=>he t (by simp[bX.bZ,ht])
  have h2:c.val S'=c.val S:=bg.val_congr fun t ht=>he t (by simp[bX.bZ,ht])
  have h3:S'.H nid=S.H nid:=hH nid (by simp[eI])
  simp only[exec,h1,h2,h3]
 |Dh k x lo hi=>
  have h1:x.val S'=x.val S:=bg.val_congr fun t ht=>he t (by simp[bX.bZ,ht])
  have h2:∀l,lo=some l->l.val S'=l.val S:=fun l hl=>bg.val_congr fun t ht=>he t (by simp[bX.bZ,hl,ht])
  have h3:∀l,hi=some l->l.val S'=l.val S:=fun l hl=>bg.val_congr fun t ht=>he t (by simp[bX.bZ,hl,ht])
  simp only[eI]at hH;simp only[exec,h1];have h4:∀d,pS S' lo d=pS S lo d:=fun d=>HW h2
  have h5:∀d,pS S' hi d=pS S hi d:=fun d=>HW h3
  cases hp:x.val S with
  |own id ar=>rw[hp]at hH;have h6:S'.H id=S.H id:=hH id (by simp[lh]);simp only[h4,h5,h6]
  |view id ar k lo n=>rw[hp]at hH;have h6:S'.H id=S.H id:=hH id (by simp[lh]);simp only[h4,h5,h6]
  |sl es=>cases lo<;>cases hi<;>simp_all
  |_=>rfl
 |qF m x y=>
  have h1:x.val S'=x.val S:=bg.val_congr fun t ht=>he t (by simp[bX.bZ,ht])
  have h2:y.val S'=y.val S:=bg.val_congr fun t ht=>he t (by simp[bX.bZ,ht])
  simp only[exec,h1,h2]
 |uC n x=>
  have h1:x.val S'=x.val S:=bg.val_congr he;have h2:ig S' (x.val S)=ig S (x.val S):=wI (by simpa[eI]using hH)
  simp only[exec,h1];cases hx:x.val S<;>first|rfl|(rw[hx]at h2;simp only[h2])
theorem rM{α β:Type}{f g:α->List β}:∀{l:List α},(∀x∈l,f x=g x)->l.flatMap f=l.flatMap g
 |[],_=>rfl
 |x::l,h=>by simp only[List.flatMap_cons];rw[h x (by simp),rM fun y hy=>h y (by simp[hy])]
theorem BO{H H':Nat->fc}:∀(n:Nat) (x:PV),(∀id∈eA H n x,H' id=H id)->eA H' n x=eA H n x
 |0,x,_=>by simp[eA]
 |n+1,x,h=>by
  have go:∀cs:List PV,(∀id∈cs.flatMap (eA H n),H' id=H id)->cs.flatMap (eA H' n)=cs.flatMap (eA H n):=fun cs hc=>
   rM fun y hy=>BO n y fun id hid=>hc id (QQ.2 ⟨y,hy,hid⟩)
  cases x with
  |own id ar=>
   have h0:H' id=H id:=h id (by simp[eA])
   simp only[eA,h0]
   cases hc:(H id).c with
   |row e k es=>
    simp only;congr 1;refine rM fun y hy=>go y fun i hi=>h i ?_
    simp only[eA,hc,QA];exact .inr (QQ.2 ⟨y,hy,hi⟩)
   |dead=>rfl
   |box cs=>rfl
  |ptr id ar off=>
   have h0:H' id=H id:=h id (by simp[eA])
   simp only[eA,h0]
   cases hc:(H id).c with
   |box cs=>
    simp only;rw[go cs fun i hi=>h i (by simp only[eA,hc,QA];exact .inr hi)]
   |dead=>rfl
   |row e k es=>rfl
  |agg cs=>simp only[eA];exact go cs (by simpa[eA]using h)
  |cX cs=>simp only[eA];exact go cs (by simpa[eA]using h)
  |cz f cs=>simp only[eA];exact go cs (by simpa[eA]using h)
  |iM f cs=>simp only[eA];exact go cs (by simpa[eA]using h)
  |_=>simp[eA]
theorem FZ{H H':Nat->fc}{n:Nat}{xs:List PV}(h:∀id∈xs.flatMap (eA H n),H' id=H id):xs.flatMap (eA H' n)=xs.flatMap (eA H n):=
 rM fun y hy=>BO n y fun id hid=>h id (QQ.2 ⟨y,hy,hid⟩)
theorem SI{op:bX}(he:∀t∈op.bZ,S'.env t=S.env t)(hH:∀id∈eI nid S op,S'.H id=S.H id):eI nid S' op=eI nid S op:=by
 cases op with
 |load n p=>simp only[eI,bg.val_congr (x:=p) he]
 |wH off p=>simp only[eI,bg.val_congr (x:=p) he]
 |wA p=>simp only[eI,bg.val_congr (x:=p) he]
 |store n p x=>
  have h1:p.val S'=p.val S:=bg.val_congr fun t ht=>he t (by simp[bX.bZ,ht])
  simp only[eI,h1]
 |wE k x i=>
  have h1:x.val S'=x.val S:=bg.val_congr fun t ht=>he t (by simp[bX.bZ,ht])
  simp only[eI,h1]
 |wM k l x i=>
  have h1:x.val S'=x.val S:=bg.val_congr fun t ht=>he t (by simp[bX.bZ,ht])
  simp only[eI,h1]
 |uC n x=>simp only[eI,bg.val_congr (x:=x) he]
 |Gv e k x y=>simp only[eI,bg.val_congr (x:=x) fun t ht=>he t (by simp[bX.bZ,ht]),bg.val_congr (x:=y) fun t ht=>he t (by simp[bX.bZ,ht])]
 |Dh k x lo hi=>
  have h1:x.val S'=x.val S:=bg.val_congr fun t ht=>he t (by simp[bX.bZ,ht])
  simp only[eI,h1]
 |len b x=>
  cases b with
  |true=>rfl
  |false=>simp only[eI,bg.val_congr (x:=x) he]
 |cZ z e k b s x=>
  have h1:s.val S'=s.val S:=bg.val_congr fun t ht=>he t (by simp[bX.bZ,ht])
  have h2:x.val S'=x.val S:=bg.val_congr fun t ht=>he t (by simp[bX.bZ,ht])
  simp only[eI,h1,h2]
 |call f xs=>
  simp only[eI,oU he];rw[FZ fun id hid=>hH id (by simp only[eI,QA];exact .inr hid)]
 |xS fv xs=>
  have h1:fv.val S'=fv.val S:=bg.val_congr fun t ht=>he t (by simp[bX.bZ,ht])
  have h2:xs.map (·.val S')=xs.map (·.val S):=oU fun t ht=>he t (by simp only[bX.bZ,Qz];exact .inr ht)
  simp only[eI,QA,Qz]at hH;simp only[eI,h1,h2];rw[BO 10 _ fun id hid=>hH id (.inr (.inl hid)),FZ fun id hid=>hH id (.inr (.inr hid))]
 |_=>rfl
def xb(Γ:nk)(nid:Nat)(S:St)(g:SG):Option (PV×Option (Nat×fc)):=
 match g.wanted S with
 |some true=>exec Γ nid S g.op
 |some false=>some (.undef,none)
 |none=>none
def Bg(nid:Nat)(S:St)(g:SG):List Nat:=
 match g.wanted S with
 |some true=>eI nid S g.op
 |_=>[]
theorem Ra(g:SG):CD Γ nid S g=(xb Γ nid S g).map fun p=>S.cZ g.d p.1 p.2:=by
 unfold CD xb
 cases g.wanted S with
 |none=>rfl
 |some b=>cases b<;>rfl
theorem Db{g:SG}(he:∀t∈g.bZ,S'.env t=S.env t):g.wanted S'=g.wanted S:=by
 unfold SG.wanted
 cases hg:g.g with
 |none=>rfl
 |some p=>
  obtain⟨t,want⟩:=p;simp only;rw[he t (by simp[SG.bZ,hg])]
theorem Ll{g:SG}(he:∀t∈g.bZ,S'.env t=S.env t)(hH:∀id∈Bg nid S g,S'.H id=S.H id):xb Γ nid S' g=xb Γ nid S g:=by
 unfold xb;rw[Db he];unfold Bg at hH
 cases hw:g.wanted S with
 |none=>rfl
 |some b=>
  cases b with
  |false=>rfl
  |true=>
   rw[hw]at hH;exact Tx (fun t ht=>he t (by simp[SG.bZ,ht])) hH
theorem Lb{g:SG}(he:∀t∈g.bZ,S'.env t=S.env t)(hH:∀id∈Bg nid S g,S'.H id=S.H id):Bg nid S' g=Bg nid S g:=by
 unfold Bg;rw[Db he];unfold Bg at hH
 cases hw:g.wanted S with
 |none=>rfl
 |some b=>
  cases b with
  |false=>rfl
  |true=>
   rw[hw]at hH;exact SI (fun t ht=>he t (by simp[SG.bZ,ht])) hH
structure sx where
 d:Option Nat
 us:List Nat
 rd:List Nat
 wr:Option Nat
structure Ua (p q:sx):Prop where
 d1:∀t,p.d=some t->t∉q.us
 d2:∀t,q.d=some t->t∉p.us
 dd:∀t,p.d=some t->q.d≠some t
 w1:∀i,p.wr=some i->i∉q.rd
 w2:∀i,q.wr=some i->i∉p.rd
 ww:∀i,p.wr=some i->q.wr≠some i
def Ay(nid:Nat)(S:St)(g:SG)(p:PV×Option (Nat×fc)):sx:=⟨g.d,g.bZ,Bg nid S g,p.2.map (·.1)⟩
def ma(Γs:Nat->nk)(base:Nat):List (Nat×SG)->St->Option (St×List sx)
 |[],S=>some (S,[])
 |(i,g)::l,S=>
  match xb (Γs i) (base+i) S g with
  |none=>none
  |some p=>
   match ma Γs base l (S.cZ g.d p.1 p.2)with
   |none=>none
   |some (S',fs)=>some (S',Ay (base+i) S g p::fs)
theorem St.kq(d:Option Nat)(x:PV)(wr:Option (Nat×fc)){t:Nat}(h:d≠some t):(S.cZ d x wr).env t=S.env t:=by
 cases d with
 |none=>rfl
 |some d=>exact cu _ _ (fun e=>h (by rw[e]))
theorem St.Cu(d:Option Nat)(x:PV)(wr:Option (Nat×fc)){i:Nat}(h:wr.map (·.1)≠some i):(S.cZ d x wr).H i=S.H i:=by
 cases wr with
 |none=>rfl
 |some p=>exact cu _ _ (fun e=>h (by rw[e];rfl))
theorem MF{α:Type}(f:Nat->α){i j:Nat}(x y:α)(h:i≠j):bS (bS f i x) j y=bS (bS f j y) i x:=by
 funext k
 simp only[bS];split<;>split<;>first|rfl|omega
theorem St.Yc(d e:Option Nat)(x y:PV)(p q:Option (Nat×fc))(hd:∀t,d=some t->e≠some t)(hw:∀i,p.map (·.1)=some i->q.map (·.1)≠some i):(S.cZ d x p).cZ e y q=(S.cZ e y q).cZ d x p:=by
 unfold St.cZ;congr 1
 ·cases d with
  |none=>rfl
  |some d=>
   cases e with
   |none=>rfl
   |some e=>exact MF _ _ _ (fun h=>hd d rfl (by rw[h]))
 ·cases p with
  |none=>rfl
  |some p=>
   cases q with
   |none=>rfl
   |some q=>exact MF _ _ _ (fun h=>hw p.1 rfl (by rw[h];rfl))
theorem Dr{Γs:Nat->nk}{base:Nat}:∀(l1:List (Nat×SG)) (i:Nat) (g:SG) (l2:List (Nat×SG)) (S S':St) (fs:List sx),ma Γs base (l1++(i,g)::l2) S=some (S',fs)->
  (∀(k:Nat) (fk fi:sx),k<l1.length->fs[k]?=some fk->fs[l1.length]?=some fi->Ua fk fi)->
  ∃p,xb (Γs i) (base+i) S g=some p/\(∀fi,fs[l1.length]?=some fi->fi=Ay (base+i) S g p)/\ma Γs base (l1++l2) (S.cZ g.d p.1 p.2)=some (S',fs.eraseIdx l1.length)
 |[],i,g,l2,S,S',fs,h,_=>by
  simp only[List.nil_append,ma]at h;split at h
  ·cases h
  ·rename_i p hp;split at h
   ·cases h
   ·rename_i S1 fs1 h1;injection h with h
    injection h with h2 h3
    subst h2 h3;exact⟨p,hp,fun fi hfi=>by simp at hfi;exact hfi.symm,by simpa using h1⟩
 |(x,gx)::l1,i,g,l2,S,S',fs,h,hi=>by
  simp only[List.cons_append,ma]at h;split at h
  ·cases h
  ·rename_i px hpx;split at h
   ·cases h
   ·rename_i S1 fs1 h1;injection h with h
    injection h with h2 h3
    subst h2 h3;obtain⟨p,hp,hfp,hrest⟩:=Dr l1 i g l2 (S.cZ gx.d px.1 px.2) S1 fs1 h1 (fun k fk fi hk hfk hfi=>hi (k+1) fk fi (by simp;omega) (by simpa using hfk) (by simpa using hfi))
    have hlen:l1.length<fs1.length:=by
     have:∀(l:List (Nat×SG)) (S:St) (S':St) (fs:List sx),ma Γs base l S=some (S',fs)->fs.length=l.length:=by
      intro l
      induction l with
      |nil=>intro S S' fs h;simp only[ma,Qf,Prod.mk.injEq]at h;rw[<-h.2];rfl
      |cons q l ih=>
       intro S S' fs h;obtain⟨j,gj⟩:=q;simp only[ma]at h;split at h
       ·cases h
       ·split at h
        ·cases h
        ·rename_i S2 fs2 h2;injection h with h
         injection h with h3 h4
         subst h4;simp[ih _ _ _ h2]
     rw[this _ _ _ _ h1];simp
    have hfi:=hfp _ (Qv hlen);have hind:=hi 0 (Ay (base+x) S gx px) _ (by simp) (by simp) (show(Ay (base+x) S gx px::fs1)[l1.length+1]?=some fs1[l1.length]by rw[List.getElem?_cons_succ];exact Qv hlen)
    rw[hfi]at hind;have he:∀t∈g.bZ,S.env t=(S.cZ gx.d px.1 px.2).env t:=fun t ht=>(St.kq _ _ _ (fun e=>hind.d1 t e ht)).symm
    have hH:∀id∈Bg (base+i) (S.cZ gx.d px.1 px.2) g,S.H id=(S.cZ gx.d px.1 px.2).H id:=fun id hid=>(St.Cu _ _ _ (fun e=>hind.w1 id e hid)).symm
    have hp':xb (Γs i) (base+i) S g=some p:=(Ll he hH).trans hp;have hg':=Lb (nid:=base+i) he hH;have hex:∀t∈gx.bZ,(S.cZ g.d p.1 p.2).env t=S.env t:=fun t ht=>St.kq _ _ _ (fun e=>hind.d2 t e ht)
    have hHx:∀id∈Bg (base+x) S gx,(S.cZ g.d p.1 p.2).H id=S.H id:=fun id hid=>St.Cu _ _ _ (fun e=>hind.w2 id e hid)
    have hpx':xb (Γs x) (base+x) (S.cZ g.d p.1 p.2) gx=some px:=(Ll hex hHx).trans hpx;have hgx':=Lb (nid:=base+x) hex hHx;have hcomm:(S.cZ g.d p.1 p.2).cZ gx.d px.1 px.2=(S.cZ gx.d px.1 px.2).cZ g.d p.1 p.2:=(St.Yc _ _ _ _ _ _ hind.dd hind.ww).symm;refine⟨p,hp',fun fi hf=> ?_,?_⟩
    ·have:fi=fs1[l1.length]:=by
      have h5:(Ay (base+x) S gx px::fs1)[l1.length+1]?=some fi:=by simpa using hf
      simp only[List.getElem?_cons_succ,Qv hlen,Qf]at h5;exact h5.symm
     rw[this,hfi];simp only[Ay,hg']
    ·simp only[List.cons_append,ma,hpx',hcomm,hrest,QE,List.eraseIdx_cons_succ];congr 2;simp only[Ay,hgx']
end
section
variable {P : Program} {E : En} {Γ : nk} {hs : List Nat}
def sX(o:Oper):Nat:=o.after.toList.foldl (fun m e=>if Region.binds .any e then m|||(1<<<e.on)else m) 0
def Wk(ds:List Nat)(M:Nat):Nat:=ds.zipIdx.foldl (fun m p=>if M.testBit p.2 then m|||p.1 else m) M
def zl(ds:List Nat):Nat->Nat->Nat
 |0,M=>M
 |n+1,M=>zl ds n (Wk ds M)
theorem Pg(i j:Nat):(1<<<i).testBit j=decide (j=i):=by
 rw[Nat.one_shiftLeft,Nat.testBit_two_pow];exact decide_eq_decide.2 ⟨fun h=>h.symm,fun h=>h.symm⟩
theorem OD{o:Oper}{R:Nat->Prop}(h:∀e∈o.after,Region.binds .any e=true->R e.on):∀j,(sX o).testBit j=true->R j:=by
 have:∀(l:List Edge) (m:Nat),(∀e∈l,Region.binds .any e=true->R e.on)->(∀j,m.testBit j=true->R j)->∀j,(l.foldl (fun m e=>if Region.binds .any e then m|||(1<<<e.on)else m) m).testBit j=true->R j:=by
  intro l
  induction l with
  |nil=>intro m _ hm j hj;exact hm j hj
  |cons e l ih=>
   intro m hl hm j hj;refine ih _ (fun e' he'=>hl e' (by simp[he'])) ?_ j hj
   intro k hk;simp only at hk;split at hk
   ·rename_i hb;rw[Nat.testBit_or,Qn,Pg,Qi]at hk;rcases hk with hk|hk
    ·exact hm k hk
    ·rw[hk];exact hl e (by simp) hb
   ·exact hm k hk
 exact this o.after.toList 0 (fun e he=>h e (by simpa using he)) (fun j hj=>by simp at hj)
theorem Wj{ds:List Nat}{R:Nat->Prop}(hd:∀i d,ds[i]?=some d->R i->∀j,d.testBit j=true->R j){M:Nat}(hM:∀j,M.testBit j=true->R j):∀j,(Wk ds M).testBit j=true->R j:=by
 have:∀(l:List (Nat×Nat)) (m:Nat),(∀p∈l,R p.2->∀j,p.1.testBit j=true->R j)->(∀j,m.testBit j=true->R j)->∀j,(l.foldl (fun m p=>if M.testBit p.2 then m|||p.1 else m) m).testBit j=true->R j:=by
  intro l
  induction l with
  |nil=>intro m _ hm j hj;exact hm j hj
  |cons p l ih=>
   intro m hl hm j hj;refine ih _ (fun q hq=>hl q (by simp[hq])) ?_ j hj
   intro k hk;simp only at hk;split at hk
   ·rename_i hb;rw[Nat.testBit_or,Qn]at hk;rcases hk with hk|hk
    ·exact hm k hk
    ·exact hl p (by simp) (hM _ hb) k hk
   ·exact hm k hk
 refine this ds.zipIdx M (fun p hp hR j hj=> ?_) hM
 obtain⟨d,i⟩:=p;rw[List.mem_zipIdx_iff_getElem?]at hp;exact hd i d hp hR j hj
theorem Lw{ds:List Nat}{R:Nat->Prop}(hd:∀i d,ds[i]?=some d->R i->∀j,d.testBit j=true->R j):∀(n M:Nat),(∀j,M.testBit j=true->R j)->∀j,(zl ds n M).testBit j=true->R j
 |0,_,hM=>hM
 |n+1,_,hM=>Lw hd n _ (Wj hd hM)
def Jm(ops:List Oper):List (Nat×Nat):=
 let ds:=ops.map sX
 (List.range ops.length).flatMap fun j=>
  let M:=zl ds ops.length (ds.getD j 0)
  (List.range j).filterMap fun i=>if M.testBit i then none else some (i,j)
def J6(g h:SG):Bool:=
 (match g.d with|some t=> !h.bZ.contains t&&h.d !=some t|none=>true)&&(match h.d with|some t=> !g.bZ.contains t|none=>true)
def yR(p q:sx):Bool:=
 (match p.wr with|some i=> !q.rd.contains i&&q.wr !=some i|none=>true)&&(match q.wr with|some i=> !p.rd.contains i|none=>true)
def TJ(ops:List Oper)(gs:List SG):Option (List (Nat×Nat)):=
 let un:=Jm ops
 if un.all (fun p=>match gs[p.1]?,gs[p.2]? with|some g,some h=>J6 g h|_,_=>false)&&ops.zipIdx.all (fun p=>p.1.after.toList.all fun e=> !Region.binds .any e||decide (e.on<p.2))then
  some (un.filter fun p=>match gs[p.1]?,gs[p.2]? with|some g,some h=>g.op.oh&&h.op.oh|_,_=>true)
 else none
def Jw(Γs:Nat->nk)(base:Nat)(un:List (Nat×Nat))(gs:List SG)(S:St):Option St:=
 match ma Γs base (gs.zipIdx.map fun p=>(p.2,p.1)) S with
 |none=>none
 |some (S',fs)=>if un.all (fun p=>match fs[p.1]?,fs[p.2]? with|some a,some b=>yR a b|_,_=>false)then some S' else none
theorem MW{nid:Nat}{S:St}{op:bX}(h:op.oh=false):eI nid S op=[]:=by
 cases op with
 |len b x=>cases b<;>simp_all [bX.oh,eI]
 |_=>simp_all [bX.oh,eI]
theorem Sg{nid:Nat}{S:St}{op:bX}(h:op.oh=false){p:PV×Option (Nat×fc)}(he:exec Γ nid S op=some p):p.2=none:=by
 cases op with
 |Ga x=>simp only[exec,Qf]at he;rw[<-he]
 |pick c x y=>
  simp only[exec]at he;split at he<;>first|(injection he with he;rw[<-he])|cases he
 |bin op x y=>simp only[exec,Qb]at he;obtain⟨_,_,rfl⟩:=he;rfl
 |ml n x y=>
  simp only[exec]at he;split at he
  ·split at he
   ·injection he with he;rw[<-he]
   ·cases he
  ·cases he
 |Eh n x y=>
  simp only[exec]at he;split at he
  ·injection he with he;rw[<-he]
  ·cases he
 |AH e n len k x y=>
  simp only[exec]at he;split at he
  ·split at he
   ·simp only[Qb]at he;obtain⟨_,_,rfl⟩:=he;rfl
   ·cases he
  ·cases he
 |dY x y=>
  simp only[exec]at he;split at he
  ·simp only[Qb]at he;obtain⟨_,_,rfl⟩:=he;rfl
  ·cases he
 |not x=>
  simp only[exec]at he;split at he<;>first|(injection he with he;rw[<-he])|cases he
 |conv k x=>
  simp only[exec]at he;split at he<;>first|(injection he with he;rw[<-he])|cases he
 |AA i x=>
  simp only[exec]at he;split at he
  ·simp only[Qb]at he;obtain⟨_,_,rfl⟩:=he;rfl
  ·cases he
 |Gs n off x=>
  simp only[exec]at he;split at he
  ·simp only[Qb]at he;obtain⟨_,_,rfl⟩:=he;rfl
  ·cases he
 |oP q xs=>simp only[exec,Qb]at he;obtain⟨_,_,rfl⟩:=he;rfl
 |Gb f c=>simp only[exec,Qf]at he;rw[<-he]
 |AF x=>
  simp only[exec]at he;split at he
  ·injection he with he;rw[<-he]
  ·cases he
 |Gc f c=>simp only[exec,Qf]at he;rw[<-he]
 |eqs n ks x y=>
  simp only[exec]at he;split at he
  ·simp only[Qb]at he;obtain⟨_,_,rfl⟩:=he;rfl
  ·cases he
 |build z ps=>simp only[exec,Qb]at he;obtain⟨_,_,rfl⟩:=he;rfl
 |qF m x y=>
  simp only[exec]at he;split at he
  ·split at he
   ·injection he with he;rw[<-he]
   ·cases he
  ·cases he
 |len b x=>
  cases b with
  |true=>
   simp only[exec]at he;split at he<;>first|(injection he with he;rw[<-he])|cases he
  |false=>simp[bX.oh]at h
 |_=>simp[bX.oh]at h
theorem Jv{Γs:Nat->nk}{base:Nat}:∀(l:List (Nat×SG)) (S S':St) (fs:List sx),ma Γs base l S=some (S',fs)->fs.length=l.length/\∀(k i:Nat) (g:SG) (f:sx),l[k]?=some (i,g)->fs[k]?=some f->
  f.d=g.d/\f.us=g.bZ/\(g.op.oh=false->f.rd=[]/\f.wr=none)
 |[],S,S',fs,h=>by simp only[ma,Qf,Prod.mk.injEq]at h;rw[<-h.2];exact⟨rfl,fun k i g f hk=>by simp at hk⟩
 |(j,gj)::l,S,S',fs,h=>by
  simp only[ma]at h;split at h
  ·cases h
  ·rename_i p hp;split at h
   ·cases h
   ·rename_i S2 fs2 h2;injection h with h
    injection h with h3 h4
    subst h4;obtain⟨h5,h6⟩:=Jv l _ _ _ h2;refine⟨by simp[h5],fun k i g f hk hf=> ?_⟩
    cases k with
    |zero=>
     simp only[List.getElem?_cons_zero,Qf,Prod.mk.injEq]at hk hf;obtain⟨rfl,rfl⟩:=hk;subst hf;refine⟨rfl,rfl,fun ht=> ?_⟩
     unfold xb at hp;simp only[Ay,Bg];split at hp
     ·rename_i hw;rw[hw];exact⟨MW ht,by rw[Sg ht hp];rfl⟩
     ·rename_i hw;injection hp with hp
      subst hp;rw[hw];exact⟨rfl,rfl⟩
     ·cases hp
    |succ k=>exact h6 k i g f (by simpa using hk) (by simpa using hf)
def mJ(gs:List SG)(listed:Array Bool):List (Nat×SG):=(gs.zipIdx.map fun p=>(p.2,p.1)).filter fun p=> !listed.getD p.1 true
theorem yG{gs:List SG}{listed:Array Bool}{i:Nat}{g:SG}:(i,g)∈mJ gs listed↔gs[i]?=some g/\listed.getD i true=false:=by
 unfold mJ;simp only[List.mem_filter,QP,Prod.mk.injEq,Prod.exists,Bool.not_eq_true'];constructor
 ·rintro⟨⟨x,j,h1,rfl,rfl⟩,h2⟩;rw[List.mem_zipIdx_iff_getElem?]at h1;exact⟨h1,h2⟩
 ·rintro⟨h1,h2⟩;exact⟨⟨g,i,by rw[List.mem_zipIdx_iff_getElem?];exact h1,rfl,rfl⟩,h2⟩
theorem F4(gs:List SG)(listed:Array Bool):(mJ gs listed).Pairwise fun p q=>p.1<q.1:=by
 unfold mJ;refine List.Pairwise.filter _ ?_;rw[List.pairwise_map]
 have:∀(l:List SG) (k:Nat),(l.zipIdx k).Pairwise fun p q=>p.2<q.2:=by
  intro l
  induction l with
  |nil=>intro k;simp
  |cons x l ih=>
   intro k;rw[List.zipIdx_cons,Q3];refine⟨fun q hq=> ?_,ih (k+1)⟩
   obtain⟨y,j⟩:=q;have:=List.le_snd_of_mem_zipIdx hq;simp only at this ⊢;omega
 exact this gs 0
theorem GH{gs:List SG}{listed:Array Bool}{i:Nat}{g:SG}{l1 l2:List (Nat×SG)}(hi:i<listed.size)(h:mJ gs listed=l1++(i,g)::l2):mJ gs (listed.setIfInBounds i true)=l1++l2:=by
 have hsort:=F4 gs listed;rw[h]at hsort
 have h1:mJ gs (listed.setIfInBounds i true)=(mJ gs listed).filter fun p=>decide (p.1≠i):=by
  unfold mJ;rw[List.filter_filter];congr 1
  funext p
  by_cases hp:p.1=i
  ·rw[hp];simp[QN,Array.getElem?_setIfInBounds_self_of_lt hi]
  ·have:(listed.setIfInBounds i true).getD p.1 true=listed.getD p.1 true:=by
    simp only[QN];rw[Array.getElem?_setIfInBounds_ne (fun e=>hp e.symm)]
   rw[this];simp[hp]
 rw[h1,h,List.filter_append,List.filter_cons];simp only[ne_eq,not_true_eq_false,decide_false,Qq,Qu];rw[Qq68]at hsort;obtain⟨_,s2,s3⟩:=hsort;rw[Q3]at s2;rw[List.filter_eq_self.2,List.filter_eq_self.2]
 ·intro q hq;have:=s2.1 q hq;simp only at this;simp;omega
 ·intro q hq;have:=s3 q hq (i,g) (by simp)
  simp only at this;simp;omega
def ad7(ops:List Oper)(l:List (Nat×SG))(fs:List sx):Prop:=
 ∀(a b:Nat) (p q:Nat×SG) (f h:sx),a<b->l[a]?=some p->l[b]?=some q->fs[a]?=some f->fs[b]?=some h->(zl (ops.map sX) ops.length ((ops.map sX).getD q.1 0)).testBit p.1=false->Ua f h
theorem XP{Γs:Nat->nk}(hΓ:∀i,nW P (Γs i)){ops:Array Oper}{gs:List SG}(hc:ops.toList.mapM (ze P hs ops)=some gs)(hd:∀o∈ops.toList,∀t,o.dst=some t->E.can t){base:Nat}{S':St}{Q:Exit->Act->World->Prop}
  (hQ:∀a' w' L',Rel E S' a' w' L'->Q .normal a' w'):∀(fuel:Nat) (listed:Array Bool) (S:St) (a:Act) (w:World) (L:Nat->Value) (fs:List sx),listed.size=ops.size->
  (∀i o,ops[i]?=some o->listed.getD i true=true->∀e∈o.after,Region.binds .any e=true->listed.getD e.on true=true)->
  (∀i o,ops[i]?=some o->∀e∈o.after,Region.binds .any e=true->e.on<i)->
  Rel E S a w L->base+ops.size<=S.N->ma Γs base (mJ gs listed) S=some (S',fs)->ad7 ops.toList (mJ gs listed) fs->(mJ gs listed).length<=fuel->wpAnyIn (WF E.rd) 0 P .any ops Q fuel listed a w:=by
 have hgl:gs.length=ops.size:=by have:=mapM_length hc;simpa using this
 intro fuel
 induction fuel with
 |zero=>
  intro listed S a w L fs hsz hcl hback h hN hrun hap hfu;have hp:mJ gs listed=[]:=Qq66 (by omega)
  rw[hp]at hrun;simp only[ma,Qf,Prod.mk.injEq]at hrun
  have hrd:Region.ready .any ops listed=[]:=by
   rw[List.eq_nil_iff_forall_not_mem];intro i hi;simp only[Region.ready,List.mem_filter,List.mem_range,Qm,Bool.not_eq_true']at hi;obtain⟨h1,h2,_⟩:=hi;have:(i,gs[i]'(by omega))∈mJ gs listed:=yG.2 ⟨Qv (by omega),h2⟩
   rw[hp]at this;cases this
  refine⟨hrd,?_⟩;rw[hrun.1]at h;exact hQ a w L h
 |succ fuel ih=>
  intro listed S a w L fs hsz hcl hback h hN hrun hap hfu;refine⟨fun hrd=> ?_,fun i hi=> ?_⟩
  ·
   have hp:mJ gs listed=[]:=by
    rcases hpe:mJ gs listed with _|⟨⟨i,g⟩,l⟩
    ·rfl
    ·exfalso;have hmem:(i,g)∈mJ gs listed:=by rw[hpe];simp
     obtain⟨h1,h2⟩:=yG.1 hmem;have hil:i<ops.size:=by have:=(Qw.1 h1).1;omega
     have hmin:∀j,j<i->listed.getD j true=true:=by
      intro j hj
      cases hlj:listed.getD j true with
      |true=>rfl
      |false=>
       have hm:(j,gs[j]'(by omega))∈mJ gs listed:=yG.2 ⟨Qv (by omega),hlj⟩
       have hs:=F4 gs listed;rw[hpe,Q3]at hs;rw[hpe]at hm;rcases QA.1 hm with hm|hm
       ·injection hm with hm;omega
       ·have:=hs.1 _ hm;simp only at this;omega
     have:i∈Region.ready .any ops listed:=by
      simp only[Region.ready,List.mem_filter,List.mem_range,Qm,Bool.not_eq_true'];refine⟨hil,h2,?_⟩;rw[Array.getElem?_eq_getElem hil];simp only[Qe,Q2,Array.all_eq_true_iff_forall_mem,Qn,Bool.not_eq_true'];intro e he
      cases hb:Region.binds .any e with
      |false=>exact .inl rfl
      |true=>
       right;have hlt:=hback i _ (Array.getElem?_eq_getElem hil) e he hb;have:=hmin e.on hlt;rw[QN]at this ⊢;rw[Array.getElem?_eq_getElem (by omega)]at this ⊢
       simpa using this
     rw[hrd]at this;cases this
   rw[hp]at hrun;simp only[ma,Qf,Prod.mk.injEq]at hrun;rw[hrun.1]at h;exact hQ a w L h
  ·simp only[Region.ready,List.mem_filter,List.mem_range,Qm,Bool.not_eq_true']at hi;obtain⟨hil,hli,hpre⟩:=hi;have ho:ops[i]?=some ops[i]:=Array.getElem?_eq_getElem hil;rw[ho]at hpre;simp only[Qe,Q2,Array.all_eq_true_iff_forall_mem,Qn,Bool.not_eq_true']at hpre;have hgi:gs[i]?=some (gs[i]'(by omega)):=Qv (by omega)
   have hmem:(i,gs[i]'(by omega))∈mJ gs listed:=yG.2 ⟨hgi,hli⟩
   obtain⟨l1,l2,hsplit⟩:=List.append_of_mem hmem;rw[hsplit]at hrun hap
   have hpreT:∀e∈ops[i].after,Region.binds .any e=true->listed.getD e.on true=true:=fun e he hb=>by
    rcases hpre e he with h1|h1
    ·rw[hb]at h1;cases h1
    ·have hlt:=hback i _ ho e he hb;rw[QN]at h1 ⊢;rw[Array.getElem?_eq_getElem (by omega)]at h1 ⊢
     simpa using h1
   have hanc:∀j,(zl (ops.toList.map sX) ops.toList.length ((ops.toList.map sX).getD i 0)).testBit j=true->listed.getD j true=true:=by
    refine Lw (R:=fun j=>listed.getD j true=true) (fun k d hk hR=> ?_) _ _ ?_
    ·rw[QT,Qb]at hk;obtain⟨o,ho',rfl⟩:=hk;exact OD (fun e he hb=>hcl k o (by simpa using ho') hR e he hb)
    ·have:(ops.toList.map sX).getD i 0=sX ops[i]:=by simp[List.getD_eq_getElem?_getD,hil]
     rw[this];exact OD (fun e he hb=>hpreT e he hb)
   have hfl:=(Jv _ _ _ _ hrun).1
   obtain⟨p,hp,_,hrest⟩:=Dr l1 i _ l2 S S' fs hrun (fun k fk fi hk hfk hfi=>by
    have hk1:(l1++(i,gs[i]'(by omega))::l2)[k]?=some l1[k]:=by rw[List.getElem?_append_left hk];exact Qv hk
    refine hap k l1.length l1[k] (i,gs[i]'(by omega)) fk fi hk hk1 (by simp) hfk hfi ?_
    cases hb:(zl (ops.toList.map sX) ops.toList.length ((ops.toList.map sX).getD i 0)).testBit l1[k].1 with
    |false=>rfl
    |true=>
     have h1:=hanc _ hb;have h2:l1[k]∈mJ gs listed:=by rw[hsplit];simp[QZ]
     have h3:=(yG (i:=l1[k].1) (g:=l1[k].2)).1 h2;rw[h3.2]at h1
     cases h1)
   have hcog:ze P hs ops ops[i]=some (gs[i]'(by omega)):=by
    have:∀(l:List Oper) (r:List SG),l.mapM (ze P hs ops)=some r->∀(k:Nat) (o:Oper) (g:SG),l[k]?=some o->r[k]?=some g->ze P hs ops o=some g:=by
     intro l
     induction l with
     |nil=>intro r _ k o g hk;simp at hk
     |cons x l ihl=>
      intro r hr k o g hk hg;simp only[Qq74,Qd,Qc,Option.pure_def,Qf]at hr;obtain⟨y,hy,ys,hys,rfl⟩:=hr
      cases k with
      |zero=>simp at hk hg;subst hk hg;exact hy
      |succ k=>exact ihl ys hys k o g (by simpa using hk) (by simpa using hg)
    exact this _ _ hc i _ _ (by simp) hgi
   have hstp:CD (Γs i) (base+i) S (gs[i]'(by omega))=some (S.cZ (gs[i]'(by omega)).d p.1 p.2):=by rw[Ra,hp];rfl
   have hstep:=zC (K:=wpAnyIn (WF E.rd) 0 P .any ops Q fuel (listed.setIfInBounds i true)) (Q:=Q) (hΓ i) hcog h (nid:=base+i) (by omega) (hd _ (by simp)) hstp (fun a' w' L' h'=>by
    refine ih _ _ a' w' L' (fs.eraseIdx l1.length) (by simpa using hsz) (fun k o hk hlk e he hb=> ?_) hback h' hN (by rw[GH (by omega) hsplit];exact hrest) ?_ ?_
    ·by_cases hki:k=i
     ·subst hki;rw[ho]at hk;injection hk with hk
      subst hk;have hlt:=hback k _ ho e he hb;have:=hpreT e he hb;simp only[QN]at this ⊢;rw[Array.getElem?_setIfInBounds_ne (by omega)]
      exact this
     ·have hlk':listed.getD k true=true:=by
       simp only[QN]at hlk ⊢;rw[Array.getElem?_setIfInBounds_ne (fun e=>hki e.symm)]at hlk
       exact hlk
      have:=hcl k o hk hlk' e he hb
      by_cases hei:e.on=i
      ·rw[hei,QN,Array.getElem?_setIfInBounds_self_of_lt (by omega)]
       rfl
      ·simp only[QN]at this ⊢;rw[Array.getElem?_setIfInBounds_ne (fun e=>hei e.symm)]
       exact this
    ·rw[GH (by omega) hsplit]
     intro x y p' q' f h0 hxy hp' hq' hf hh hanc'
     have hget:∀(z:Nat),(l1++l2)[z]?=(l1++(i,gs[i]'(by omega))::l2)[if z<l1.length then z else z+1]?:=by
      intro z;split
      ·rename_i hz;rw[List.getElem?_append_left hz,List.getElem?_append_left hz]
      ·rename_i hz;rw[List.getElem?_append_right (by omega),List.getElem?_append_right (by omega)]
       have:z+1 - l1.length=(z - l1.length)+1:=by omega
       rw[this,List.getElem?_cons_succ]
     have hgetf:∀(z:Nat),(fs.eraseIdx l1.length)[z]?=fs[if z<l1.length then z else z+1]?:=by
      intro z;rw[List.getElem?_eraseIdx];split<;>rfl
     rw[hget]at hp' hq';rw[hgetf]at hf hh;refine hap _ _ p' q' f h0 ?_ hp' hq' hf hh hanc';split<;>split<;>omega
    ·rw[GH (by omega) hsplit]
     rw[hsplit]at hfu;simp at hfu ⊢
     omega)
   unfold wpOpIn;rw[ho];simp only;split
   ·rename_i hw;rw[Qr hw]at hstep;exact hstep
   ·rename_i hw;rw[Qs hw]at hstep;exact hstep
theorem Py{ops:List Oper}{i j:Nat}(hj:j<ops.length)(hij:i<j)(h:(zl (ops.map sX) ops.length ((ops.map sX).getD j 0)).testBit i=false):(i,j)∈Jm ops:=by
 unfold Jm;simp only[QQ,List.mem_range,List.mem_filterMap];exact⟨j,hj,i,hij,by rw[h];rfl⟩
theorem XH{g h:SG}{f e:sx}(hf:f.d=g.d/\f.us=g.bZ)(he:e.d=h.d/\e.us=h.bZ)(ha:J6 g h=true)(hi:yR f e=true):Ua f e:=by
 unfold J6 at ha;unfold yR at hi;rw[Qm]at ha hi;obtain⟨a1,a2⟩:=ha;obtain⟨i1,i2⟩:=hi;refine⟨fun t ht=> ?_,fun t ht=> ?_,fun t ht hq=> ?_,fun i hw=> ?_,fun i hw=> ?_,fun i hw hq=> ?_⟩
 ·rw[hf.1]at ht;rw[ht]at a1;simp only[Qm,Bool.not_eq_true',List.contains_eq_mem,Qj]at a1;rw[he.2];exact a1.1
 ·rw[he.1]at ht;rw[ht]at a2;simp only[Bool.not_eq_true',List.contains_eq_mem,Qj]at a2;rw[hf.2];exact a2
 ·rw[hf.1]at ht;rw[he.1]at hq;rw[ht,hq]at a1;simp at a1
 ·rw[hw]at i1;simp only[Qm,Bool.not_eq_true',List.contains_eq_mem,Qj]at i1;exact i1.1
 ·rw[hw]at i2;simp only[Bool.not_eq_true',List.contains_eq_mem,Qj]at i2;exact i2
 ·rw[hw,hq]at i1;simp at i1
theorem Xk(gs:List SG)(n:Nat)(hn:gs.length=n):mJ gs (Array.replicate n false)=gs.zipIdx.map fun p=>(p.2,p.1):=by
 unfold mJ;rw[List.filter_eq_self];rintro⟨i,g⟩ hp;simp only[QP,Prod.mk.injEq,Prod.exists]at hp;obtain⟨x,j,h1,rfl,rfl⟩:=hp;rw[List.mem_zipIdx_iff_getElem?]at h1;have:=(Qw.1 h1).1;simp only[QN,Array.getElem?_replicate];rw[Qr (by omega)]
 rfl
theorem adX{Γs:Nat->nk}(hΓ:∀i,nW P (Γs i))(hm:P.follows .mixedOrders=true){nt id:Nat}{ops:Array Oper}{gs:List SG}{un:List (Nat×Nat)}{Q:Exit->St->Prop}{S S':St}(hc:ops.toList.mapM (ze P hs ops)=some gs)(hd:∀o∈ops.toList,∀t,o.dst=some t->t<nt)
  (hu:TJ ops.toList gs=some un) (hr:Jw Γs S.N un gs {S with N:=S.N+gs.length}=some S') (h:Q .normal S'):V P nt (.region id ops true) Q S:=fun E hE hk a w L hrel=>by
 have hl:gs.length=ops.size:=by have:=mapM_length hc;simpa using this
 refine wpIn_region_any hm ?_;unfold TJ at hu;simp only at hu;split at hu
 ·rename_i hchk;injection hu with hu
  rw[Qm]at hchk;obtain⟨hap,hback⟩:=hchk;unfold Jw at hr;split at hr
  ·cases hr
  ·rename_i S1 fs hrun;split at hr
   ·rename_i hall;injection hr with hr
    subst hr;have hfp:=Jv _ _ _ _ hrun;have hpd:=Xk gs ops.size hl;refine XP (E:=E) (base:=S.N) hΓ hc (Wf hE hk hd) (fun a' w' L' h'=>⟨S1,L',h',h⟩) ops.size (Array.replicate ops.size false) {S with N:=S.N+gs.length} a _ L fs (by simp) ?_ ?_ ((hrel.room gs.length).drew _) (by simp[hl]) (by rw[hpd];exact hrun) ?_ (by rw[hpd];simp[hl])
    ·intro i o ho hli;exfalso;have:=(Q8.1 ho).1;simp only[QN,Array.getElem?_replicate]at hli;rw[Qr this]at hli;cases hli
    ·intro i o ho e he hb;have h1:=QH.1 hback (o,i) (by rw[List.mem_zipIdx_iff_getElem?];simpa using ho)
     have h2:=QH.1 h1 e (by simpa using he)
     rw[hb]at h2;simpa using h2
    ·rw[hpd];intro x y p q f e hxy hp hq hf he hanc
     have hget:∀(z:Nat) (r:Nat×SG),(gs.zipIdx.map fun p=>(p.2,p.1))[z]?=some r->r.1=z/\gs[z]?=some r.2:=by
      intro z r hz;simp only[QT,Qb,Prod.exists,List.getElem?_zipIdx,Prod.mk.injEq]at hz;obtain⟨u,v,⟨u',hu',rfl,rfl⟩,rfl⟩:=hz;exact⟨by simp,hu'⟩
     obtain⟨p1,p2⟩:=hget x p hp;obtain⟨q1,q2⟩:=hget y q hq;have fx:=hfp.2 x p.1 p.2 f hp hf;have fy:=hfp.2 y q.1 q.2 e hq he;have hy:y<ops.toList.length:=by have:=(Qw.1 q2).1;simp;omega
     rw[p1,q1]at hanc;have hmem:=Py hy hxy hanc;have ha:=QH.1 hap _ hmem;simp only[p2,q2]at ha;refine XH ⟨fx.1,fx.2.1⟩ ⟨fy.1,fy.2.1⟩ ha ?_
     cases htx:p.2.op.oh with
     |false=>
      obtain⟨r1,r2⟩:=fx.2.2 htx;unfold yR;rw[r1,r2];cases e.wr<;>simp
     |true=>
      cases hty:q.2.op.oh with
      |false=>
       obtain⟨r1,r2⟩:=fy.2.2 hty;unfold yR;rw[r1,r2];cases f.wr<;>simp
      |true=>
       have hin:(x,y)∈un:=by
        rw[<-hu,List.mem_filter];exact⟨hmem,by simp[p2,q2,htx,hty]⟩
       have:=QH.1 hall _ hin;simpa[hf,he]using this
   ·cases hr
 ·cases hu
end
end
section
open Go.RowKit
def bO(P:Program)(nt:Nat)(hs:List Nat):Code->Option SC
 | .skip=>some .skip
 | .region _ ops false=>
  match ops.toList.mapM (ze P hs ops)with
  |some gs=>if ops.toList.all (fun o=>match o.dst with|some t=>decide (t<nt)|none=>true)then some (.Dv gs)else none
  |none=>none
 | .region _ ops true=>
  match ops.toList.mapM (ze P hs ops)with
  |some gs=>
   if ops.toList.all (fun o=>match o.dst with|some t=>decide (t<nt)|none=>true)&&P.follows .mixedOrders then
    match TJ ops.toList gs with
    |some un=>some (.mm un gs)
    |none=>none
   else none
  |none=>none
 | .seq x y=>
  match bO P nt hs x,bO P nt hs y with
  |some x',some y'=>some (.seq x' y')
  |_,_=>none
 | .cond c x y=>
  match bb c,bO P nt hs x,bO P nt hs y with
  |some c',some x',some y'=>some (.cond c' x' y')
  |_,_,_=>none
 | .block id c=>(bO P nt hs c).map (.block id)
 | .loop c=>(bO P nt hs c).map .loop
 | .exit id=>some (.exit id)
 | .ret=>some .ret
 |_=>none
section
variable {P : Program} {S : St} {Γ : nk} {nt : Nat} {Q : Exit -> St -> Prop}
def VS(P:Program)(nt:Nat)(sc:SC)(Q:Exit->St->Prop)(S:St):Prop:=∀c hs,bO P nt hs c=some sc->V P nt c Q S
theorem VS.mono{sc:SC}{Q':Exit->St->Prop}(h:VS P nt sc Q S)(hq:∀e S,Q e S->Q' e S):VS P nt sc Q' S:=fun c hs hc=>(h c hs hc).mono hq
theorem V4{ops:Array Oper}(h:ops.toList.all (fun o=>match o.dst with|some t=>decide (t<nt)|none=>true)=true):∀o∈ops.toList,∀t,o.dst=some t->t<nt:=by
 intro o ho t ht;have:=QH.1 h o ho;rw[ht]at this;simpa using this
theorem aaP(h:Q .normal S):VS P nt .skip Q S:=by
 intro c hs hc
 cases c with
 |skip=>exact acD h
 |region id ops d=>cases d<;>simp only[bO]at hc<;>(try split at hc)<;>(try split at hc)<;>(try split at hc)<;>cases hc
 |seq x y=>simp only[bO]at hc;split at hc<;>cases hc
 |cond c x y=>simp only[bO]at hc;split at hc<;>cases hc
 |block id c=>simp only[bO,Qb]at hc;obtain⟨_,_,hc⟩:=hc;cases hc
 |loop c=>simp only[bO,Qb]at hc;obtain⟨_,_,hc⟩:=hc;cases hc
 |rangeFunc g ps x y=>simp only[bO]at hc;(try split at hc)<;>(try split at hc)<;>cases hc
 |_=>simp only[bO]at hc<;>cases hc
theorem aaS{id:Nat}(h:Q (.exit id) S):VS P nt (.exit id) Q S:=by
 intro c hs hc
 cases c with
 |exit j=>simp only[bO,Qf,SC.exit.injEq]at hc;subst hc;exact acE h
 |region id ops d=>cases d<;>simp only[bO]at hc<;>(try split at hc)<;>(try split at hc)<;>(try split at hc)<;>cases hc
 |seq x y=>simp only[bO]at hc;split at hc<;>cases hc
 |cond c x y=>simp only[bO]at hc;split at hc<;>cases hc
 |block id c=>simp only[bO,Qb]at hc;obtain⟨_,_,hc⟩:=hc;cases hc
 |loop c=>simp only[bO,Qb]at hc;obtain⟨_,_,hc⟩:=hc;cases hc
 |rangeFunc g ps x y=>simp only[bO]at hc;(try split at hc)<;>(try split at hc)<;>cases hc
 |_=>simp only[bO]at hc<;>cases hc
theorem acG(h:Q .ret S):VS P nt .ret Q S:=by
 intro c hs hc
 cases c with
 |ret=>exact adW h
 |region id ops d=>cases d<;>simp only[bO]at hc<;>(try split at hc)<;>(try split at hc)<;>(try split at hc)<;>cases hc
 |seq x y=>simp only[bO]at hc;split at hc<;>cases hc
 |cond c x y=>simp only[bO]at hc;split at hc<;>cases hc
 |block id c=>simp only[bO,Qb]at hc;obtain⟨_,_,hc⟩:=hc;cases hc
 |loop c=>simp only[bO,Qb]at hc;obtain⟨_,_,hc⟩:=hc;cases hc
 |rangeFunc g ps x y=>simp only[bO]at hc;(try split at hc)<;>(try split at hc)<;>cases hc
 |_=>simp only[bO]at hc<;>cases hc
theorem Wp{x y:SC}(h:VS P nt x (Ss (VS P nt y Q) Q) S):VS P nt (.seq x y) Q S:=by
 intro c hs hc
 cases c with
 |seq p q=>
  simp only[bO]at hc;split at hc
  ·rename_i x' y' hx hy;injection hc with hc
   injection hc with h1 h2
   subst h1 h2;refine adV ((h p hs hx).mono ?_);intro e S' hq;cases e<;>first|exact hq q hs hy|exact hq
  ·cases hc
 |region id ops d=>cases d<;>simp only[bO]at hc<;>(try split at hc)<;>(try split at hc)<;>(try split at hc)<;>cases hc
 |cond c x y=>simp only[bO]at hc;split at hc<;>cases hc
 |block id c=>simp only[bO,Qb]at hc;obtain⟨_,_,hc⟩:=hc;cases hc
 |loop c=>simp only[bO,Qb]at hc;obtain⟨_,_,hc⟩:=hc;cases hc
 |rangeFunc g ps x y=>simp only[bO]at hc;(try split at hc)<;>(try split at hc)<;>cases hc
 |_=>simp only[bO]at hc<;>cases hc
theorem aaT{c:bg}{x y:SC}{b:Bool}(hb:c.val S= .bool b)(h:VS P nt (if b then x else y) Q S):VS P nt (.cond c x y) Q S:=by
 intro cc hs hc
 cases cc with
 |cond c0 p q=>
  simp only[bO]at hc;split at hc
  ·rename_i c' x' y' hc' hx hy;injection hc with hc
   injection hc with h1 h2 h3
   subst h1 h2 h3;refine acF hc' hb ?_;cases b
   ·exact h q hs hy
   ·exact h p hs hx
  ·cases hc
 |region id ops d=>cases d<;>simp only[bO]at hc<;>(try split at hc)<;>(try split at hc)<;>(try split at hc)<;>cases hc
 |seq x y=>simp only[bO]at hc;split at hc<;>cases hc
 |block id c=>simp only[bO,Qb]at hc;obtain⟨_,_,hc⟩:=hc;cases hc
 |loop c=>simp only[bO,Qb]at hc;obtain⟨_,_,hc⟩:=hc;cases hc
 |rangeFunc g ps x y=>simp only[bO]at hc;(try split at hc)<;>(try split at hc)<;>cases hc
 |_=>simp only[bO]at hc<;>cases hc
theorem Yg{c:bg}{x y:SC}(hb:c.val S= .fB)(h1:VS P nt x Q S)(h2:VS P nt y Q S):VS P nt (.cond c x y) Q S:=by
 intro cc hs hc
 cases cc with
 |cond c0 p q=>
  simp only[bO]at hc;split at hc
  ·rename_i c' x' y' hc' hx hy;injection hc with hc
   injection hc with e1 e2 e3
   subst e1 e2 e3;intro E hE hk a w L hr;have hv:=hr.eM hc';rw[hb]at hv;generalize hu:a.eval c0=u at hv
   cases hv with
   |fB b=>
    refine wpIn_cond hu ?_;cases b
    ·exact h2 q hs hy E hE hk.YQ a w L hr
    ·exact h1 p hs hx E hE hk.YR a w L hr
  ·cases hc
 |region id ops d=>cases d<;>simp only[bO]at hc<;>(try split at hc)<;>(try split at hc)<;>(try split at hc)<;>cases hc
 |seq x y=>simp only[bO]at hc;split at hc<;>cases hc
 |block id c=>simp only[bO,Qb]at hc;obtain⟨_,_,hc⟩:=hc;cases hc
 |loop c=>simp only[bO,Qb]at hc;obtain⟨_,_,hc⟩:=hc;cases hc
 |rangeFunc g ps x y=>simp only[bO]at hc;(try split at hc)<;>(try split at hc)<;>cases hc
 |_=>simp only[bO]at hc<;>cases hc
theorem Yh{id:Nat}{x:SC}(h:VS P nt x (Bq id Q) S):VS P nt (.block id x) Q S:=by
 intro c hs hc
 cases c with
 |block j p=>
  simp only[bO,Qb]at hc;obtain⟨x',hx,hc⟩:=hc;injection hc with h1 h2
  subst h1 h2;exact aaO (h p hs hx)
 |region id ops d=>cases d<;>simp only[bO]at hc<;>(try split at hc)<;>(try split at hc)<;>(try split at hc)<;>cases hc
 |seq x y=>simp only[bO]at hc;split at hc<;>cases hc
 |cond c x y=>simp only[bO]at hc;split at hc<;>cases hc
 |loop c=>simp only[bO,Qb]at hc;obtain⟨_,_,hc⟩:=hc;cases hc
 |rangeFunc g ps x y=>simp only[bO]at hc;(try split at hc)<;>(try split at hc)<;>cases hc
 |_=>simp only[bO]at hc<;>cases hc
theorem acH{Γs:Nat->nk}(hΓ:∀i,nW P (Γs i)){un:List (Nat×Nat)}{gs:List SG}{S':St}(hr:Jw Γs S.N un gs {S with N:=S.N+gs.length}=some S')(h:Q .normal S'):VS P nt (.mm un gs) Q S:=by
 intro c hs hc
 cases c with
 |region id ops d=>
  cases d with
  |false=>simp only[bO]at hc;(try split at hc)<;>(try split at hc)<;>(try split at hc)<;>cases hc
  |true=>
   simp only[bO]at hc;split at hc
   ·rename_i gs' hgs;split at hc
    ·rename_i hd;split at hc
     ·rename_i un' hun;injection hc with hc
      injection hc with h1 h2
      subst h1 h2;rw[Qm]at hd;exact adX hΓ hd.2 hgs (V4 hd.1) hun hr h
     ·cases hc
    ·cases hc
   ·cases hc
 |seq x y=>simp only[bO]at hc;split at hc<;>cases hc
 |cond c x y=>simp only[bO]at hc;split at hc<;>cases hc
 |block id c=>simp only[bO,Qb]at hc;obtain⟨_,_,hc⟩:=hc;cases hc
 |loop c=>simp only[bO,Qb]at hc;obtain⟨_,_,hc⟩:=hc;cases hc
 |rangeFunc g ps x y=>simp only[bO]at hc;(try split at hc)<;>(try split at hc)<;>cases hc
 |_=>simp only[bO]at hc<;>cases hc
def ev(P:Program)(nt:Nat)(Γ:nk):SC->(Exit->St->Prop)->St->Prop
 | .skip,Q,S=>Q .normal S
 | .Dv gs,Q,S=>match WR Γ S.N gs {S with N:=S.N+gs.length}with|some S'=>Q .normal S'|none=>False
 | .mm un gs,Q,S=>match Jw (fun _=>Γ) S.N un gs {S with N:=S.N+gs.length}with|some S'=>Q .normal S'|none=>False
 | .seq x y,Q,S=>ev P nt Γ x (Ss (ev P nt Γ y Q) Q) S
 | .cond c x y,Q,S=>match c.val S with| .bool b=>(b=true->ev P nt Γ x Q S)/\(b=false->ev P nt Γ y Q S)| .fB=>ev P nt Γ x Q S/\ev P nt Γ y Q S|_=>False
 | .block id c,Q,S=>ev P nt Γ c (Bq id Q) S
 | .loop c,Q,S=>VS P nt (.loop c) Q S
 | .exit id,Q,S=>Q (.exit id) S
 | .ret,Q,S=>Q .ret S
inductive RV where
 |tmp (t:Nat)
 |cell (t:Nat) (n:Option Nat)
def mn(P:Program):List ResultVar->Option (List RV)
 |[]=>some []
 | .tmp t::rs=>(mn P rs).map (.tmp t::·)
 | .cell t ty::rs=>match pT P ty,mn P rs with
  |some n,some rs'=>some (.cell t n::rs')
  |_,_=>none
def yr(S:St):RV->Option PV
 | .tmp t=>some (S.env t)
 | .cell t n=>match S.env t with
  | .ptr id ar off=>if(S.H id).ar=ar then(match(S.H id).c with| .box cs=>tT n (cs.drop off)|_=>none)else none
  |_=>none
def tk(S:St):List RV->Option (List PV)
 |[]=>some []
 |r::rs=>match yr S r,tk S rs with
  |some x,some xs=>some (x::xs)
  |_,_=>none
def sU(S:St)(rs:List RV):Option PV:=
 match tk S rs with
 |some [x]=>some x
 |some xs=>some (.cX xs)
 |none=>none
def eH(pos:Nat)(recv:Bool)(cs args:List PV):St:=
 {env:=fun t=>((ic pos (if recv then[.ptr 0 0 0]else[]) args)[t]?).getD .undef,H:=fun id=>if recv=true/\id=0 then⟨0,.box cs⟩else⟨0,.dead⟩,N:=if recv then 1 else 0}
abbrev St0:=eH 0
theorem Of{α:Type}(p:Nat)(x l:List α):(ic p x l).length=x.length+l.length:=by
 simp only[ic,QB,List.length_take,List.length_drop];omega
def xG(rs:List RV)(recv:Bool)(R:PV->List PV->Prop)(S:St):Prop:=
 match sU S rs with
 |some x=>match recv with
  |true=>match S.H 0 with
   |⟨0,.box cs'⟩=>cs'.all PV.closed=true/\R (fz S.H (some 0) 9 x) cs'
   |_=>False
  |false=>R (fz S.H none 9 x) []
 |none=>False
def WW(rs:List RV)(recv:Bool)(R:PV->List PV->Prop):Exit->St->Prop
 | .ret,S=>xG rs recv R S
 | .normal,S=>xG rs recv R S
 |_,_=>False
theorem Pp{E:En}{a:Act}{w:World}{L:Nat->Value}(h:Rel E S a w L){rv:ResultVar}{r:RV}{x:PV}(hc:mn P [rv]=some [r])(hx:yr S r=some x):
  ∃v,(match rv with| .tmp t=>pure (a.tmps.getD t undef)| .cell ad t=>do loadVar t (<-asAddr (a.tmps.getD ad undef)):Sem Value).run P w= .ok v w/\aW w (bp E S L) (S.gh L) x v:=by
 cases rv with
 |tmp t=>
  simp only[mn,Qe,Qf,List.cons.injEq,and_true]at hc;subst hc;simp only[yr,Qf]at hx;subst hx;exact⟨_,rfl,h.env t⟩
 |cell t ty=>
  simp only[mn]at hc;split at hc
  ·rename_i n rs' hn hrs;injection hc with hc
   injection hc with h1 h2
   subst h1 h2;simp only[yr]at hx;split at hx
   ·rename_i id ar off e;split at hx
    ·rename_i hver;split at hx
     ·rename_i cs hcc;have r:=h.env t;rw[e]at r;obtain⟨hN,_⟩:=r.mM (show(S.gh L).V id=ar from hver)
      obtain⟨b,hv,hL⟩:=h.nD r hver hcc;obtain⟨b',cur,T,hL',hh,hr,_⟩:=h.nf hN hcc;rw[hL]at hL';simp only[Value.pointer.injEq,Qf,Addr.mk.injEq]at hL';obtain⟨rfl,_⟩:=hL';obtain⟨v,hrun,hx'⟩:=Fa (P:=P) (ad:=⟨b,off,none⟩) hn (hr.drop off) (fun i u hu=>by rw[add_mid];exact o5 hh (fF hu)) hx
      exact⟨v,by simp[hv,asAddr,hrun],hx'⟩
     ·cases hx
    ·cases hx
   ·cases hx
  ·cases hc
theorem Dt{E:En}{a:Act}{w:World}{L:Nat->Value}(h:Rel E S a w L):∀(rvs:List ResultVar) (rs:List RV) (xs:List PV),mn P rvs=some rs->tk S rs=some xs->
  ∃vs,(rvs.mapM fun| .tmp t=>pure (a.tmps.getD t undef)| .cell ad t=>do loadVar t (<-asAddr (a.tmps.getD ad undef)):Sem (List Value)).run P w= .ok vs w/\aR w (bp E S L) (S.gh L) xs vs
 |[],rs,xs,hc,hx=>by
  simp only[mn,Qf]at hc;subst hc;simp only[tk,Qf]at hx;subst hx;exact⟨[],by simp,.nil⟩
 |rv::rvs,rs,xs,hc,hx=>by
  have hsp:∃r rs',rs=r::rs'/\mn P [rv]=some [r]/\mn P rvs=some rs':=by
   cases rv with
   |tmp t=>
    simp only[mn,Qb]at hc;obtain⟨rs',h1,rfl⟩:=hc;exact⟨_,rs',rfl,rfl,h1⟩
   |cell t ty=>
    simp only[mn]at hc;split at hc
    ·rename_i n rs' hn hrs;injection hc with hc
     subst hc;exact⟨_,rs',rfl,by simp[mn,hn],hrs⟩
    ·cases hc
  obtain⟨r,rs',rfl,h1,h2⟩:=hsp;simp only[tk]at hx;split at hx
  ·rename_i x xs' hx1 hx2;injection hx with hx
   subst hx;obtain⟨v,hv,hr⟩:=Pp h h1 hx1;obtain⟨vs,hvs,hrs⟩:=Dt h rvs rs' xs' h2 hx2;refine⟨v::vs,?_,.cons hr hrs⟩;simp only[Qq74,Sem.run_bind]
   erw [hv]
   simp only[Result.andThen_ok]
   erw [hvs]
   rfl
  ·cases hx
theorem F0{E:En}{a:Act}{w:World}{L:Nat->Value}(h:Rel E S a w L){fn:Func}{rs:List RV}{x:PV}(hc:mn P fn.results.toList=some rs)(hx:sU S rs=some x):
  ∃v,(results fn a.tmps).run P w= .ok v w/\aW w (bp E S L) (S.gh L) x v:=by
 unfold sU at hx
 cases hl:tk S rs with
 |none=>rw[hl]at hx;cases hx
 |some xs=>
  rw[hl]at hx;obtain⟨vs,hvs,hr⟩:=Dt h _ _ _ hc hl
  have hrun:(results fn a.tmps).run P w= .ok (if h:vs.toArray.size=1 then vs.toArray[0]else .tuple vs.toArray) w:=by
   unfold results;rw[Array.mapM_eq_mapM_toList];simp only[Sem.run_bind,map_eq_pure_bind]
   erw [hvs]
   rfl
  refine⟨_,hrun,?_⟩
  match xs,vs,hr,hx with
  |[],vs,hr,hx=>
   injection hx with hx
   subst hx;have:=hr.tQ;subst this;exact .cX _ _ hr.1 hr.2
  |[y],vs,hr,hx=>
   injection hx with hx
   subst hx;obtain⟨v,vs',rfl,h1,h2⟩:=hr.cons_inv;have:=h2.tQ;subst this;exact h1
  |y::z::ys,vs,hr,hx=>
   injection hx with hx
   subst hx;obtain⟨v,vs',rfl,h1,h2⟩:=hr.cons_inv;obtain⟨u,us,rfl,h3,h4⟩:=h2.cons_inv;rw[dif_neg (by simp)]
   exact .cX _ _ hr.1 hr.2
theorem JC{w w':World}(h:w.heap=#[]):EF w w':=⟨by rw[h];exact QS _,fun k o hk _=>by rw[h]at hk;simp at hk⟩
theorem Rel.shut{E:En}{S:St}{a:Act}{w:World}{L:Nat->Value}(h:Rel E S a w L)(hwk:E.wk.heap=#[]){d:Deferred}{ds:List Deferred}(hd:a.defers=d::ds):
  ∃D w',d.target= .collected D/\(Instr.takeDeferred D).run P w= .ok [] w'/\Rel E S {a with defers:=ds} w' L:=by
 have hnd:=h.defers.nodup;rw[hd,List.nodup_cons]at hnd;obtain⟨D,h1,h2,h3⟩:=h.defers.at_ d (by rw[hd];exact Qx)
 have hoth:∀k,k≠D->(w.putObj D (.deferred none)).heap[k]?=w.heap[k]?:=fun k hk=>World.putObj_heap_other hk
 have hcell:∀(p:Addr) (v:Value),w.cell? p=some v->p.block≠D:=by
  intro p v hp e;unfold World.cell? at hp;rw[e,h3]at hp;simp at hp
 have hs:dj w (w.putObj D (.deferred none)) (bp E S L) (bp E S L):=⟨fun p v hp hm=>⟨(World.cell?_of_block (hoth _ (hcell p v hp))).trans hp,hm⟩,fun b es ck hb hm=>⟨(hoth b (fun e=>by rw[e,h3]at hb;cases hb)).trans hb,hm⟩⟩
 have hne:∀id b,id<S.N->(S.H id).c.live=true->dS (L id)=some b->b≠D:=by
  intro id b hid hl hb e;obtain⟨o,h4,h5⟩:=(h.obj id hid).cells hl hb;rw[e,h3]at h4;injection h4 with h4
  rw[<-h4]at h5;cases h5
 refine⟨D,w.putObj D (.deferred none),by rw[h1],run_takeDeferred h3,⟨fun e=>(by have:=h.defers.none e;rw[hd]at this;cases this),hnd.2,fun d' hd'=> ?_⟩,h.size,fun t=>(h.env t).mono hs (Gh.le.refl _),fun id hid=> ?_,h.apart,h.fresh,
  ⟨⟨h.fr.os,h.fr.tape,h.fr.output,by rw[World.putObj_size];exact h.fr.size,fun b hb hr=>by rw[hoth b (by omega)];exact h.fr.block b hb hr,h.fr.drawn⟩,JC hwk⟩,h.AV⟩
 ·obtain⟨D',h4,h5,h6⟩:=h.defers.at_ d' (by rw[hd];exact Qy _ hd')
  have hDD:D'≠D:=by
   intro e;subst e;rw[<-h1]at h4;exact hnd.1 (h4▸hd')
  exact⟨D',h4,h5,by rw[hoth _ hDD];exact h6⟩
 ·cases hl:(S.H id).c.live with
  |false=>
   cases hc:(S.H id).c with
   |dead=>trivial
   |box cs=>rw[hc]at hl;cases hl
   |row e k es=>rw[hc]at hl;cases hl
  |true=>exact(h.obj id hid).mono hs (Gh.le.refl _) (fun b hb _=>hoth b (hne id b hid hl hb))
theorem Gg{E:En}{S:St}{L:Nat->Value}(hwk:E.wk.heap=#[]){fn:Func}{R:Ending->World->Prop}{tmps:Array Value}(hR:∀w',Rel E S {tmps:=tmps,defers:=[]} w' L->∃v,(results fn tmps).run P w'= .ok v w'/\R (.returned v) w'):
  ∀(ds:List Deferred) (w:World),Rel E S {tmps:=tmps,defers:=ds} w L->LeavesInM (WF none) 0 P fn tmps R ds .returning w
 |[],w,h=>hR w h
 |d::ds,w,h=>by
  obtain⟨D,w',h1,h2,h3⟩:=Rel.shut (P:=P) h hwk rfl;exact⟨(fun e=>by cases e),.inl ⟨D,w',h1,h2,Gg hwk hR ds w' h3⟩⟩
theorem Ls{f:FuncId}{fn:Func}{c:Code}{E:En}{S0:St}{Q:Exit->St->Prop}{args:Array Value}{w:World}{L:Nat->Value}{R:Ending->World->Prop}(hf:P.funcs[f]?=some fn)(hb:fn.body=some c)(h:V P fn.ntmps c Q S0)
  (hE:E.nt=fn.ntmps) (hrd:E.rd=none/\E.nd=false) (hkt:∀t,E.kt t=none) (hwk:E.wk.heap=#[]) (hrel:Rel E S0 {tmps:=args++Array.replicate (fn.ntmps - args.size) undef,defers:=[]} w L)
  (fin:∀(e:Exit) (S':St) (L':Nat->Value) (a':Act) (w':World),Rel E S' a' w' L'->Q e S'->(e= .ret\/e= .normal)/\∃v,(results fn a'.tmps).run P w'= .ok v w'/\R (.returned v) w'):Calls P f args w R:=by
 have h0:=h E hE ⟨fun t _=>hkt t,.inl hrd⟩ _ w L hrel
 rw[hrd.1]at h0;refine uK.1 (callsIn_of_wp_marks (F:=WF none) (n:=0) hf hb trivial (wpIn_mono h0 ?_));rintro e a' w' ⟨S',L',h1,h2⟩
 have h3:LeavesInM (WF none) 0 P fn a'.tmps R a'.defers .returning w':=
  Gg hwk (fun w'' hw''=>(fin e S' L' _ w'' hw'' h2).2) a'.defers w' h1
 rcases(fin e S' L' a' w' h1 h2).1 with rfl|rfl<;>exact h3
theorem Wa{f:FuncId}{fn:Func}{c:Code}{sc:SC}{rs:List RV}{pos:Nat}{recv:Bool}{cs args cs':List PV}{r:PV}(hf:P.funcs[f]?=some fn)(hb:fn.body=some c){hs:List Nat}(hc:bO P fn.ntmps hs c=some sc)(hrs:mn P fn.results.toList=some rs)
  (hlen:(if recv then 1 else 0)+args.length<=fn.ntmps) (h:VS P fn.ntmps sc (WW rs recv fun r' cs''=>r'=r/\(recv=true->cs''=cs')) (eH pos recv cs args)):wX P f pos recv cs args r cs':=by
 intro w X hX rb T rvs vs hrecv hargs
 have hrb0:∀b,(if recv then some rb else none)=some b->b<w.heap.size/\¬gb b:=by
  intro b hb
  cases recv with
  |false=>cases hb
  |true=>
   simp only[Qt,Qf]at hb;subst hb;exact⟨(Q8.1 (hrecv rfl).1).1,(hrecv rfl).2.2⟩
 let E:En:={w0:=w,rb:=if recv then some rb else none,nt:=fn.ntmps,X:=X,hX:=hX,XJ:=recv,rv:= .pointer (some ⟨rb,0,none⟩),rk:=false,K8:=hrb0,YE:=fun h=>(by cases h),rd:=none,nd:=false,kt:=fun _=>none,wk:={w with heap:=#[]}}
 let L:Nat->Value:=fun _=> .pointer (some ⟨rb,0,none⟩)
 have hvl:vs.length=args.length:=hargs.1
 have hm:∀b,bp E (eH pos recv cs args) L b->Mc recv rb X b:=by
  rintro b (⟨id,hid,hl,hb⟩|hb)
  ·simp only[eH]at hid hl
   cases recv with
   |false=>simp at hid
   |true=>
    simp only[L,dS,Qf]at hb;exact .inl ⟨rfl,hb.symm⟩
  ·exact .inr hb
 have hm':∀b,Mc recv rb X b->bp E (eH pos recv cs args) L b:=by
  rintro b (⟨h1,h2⟩|hb)
  ·subst h2;exact .inl ⟨0,by simp[eH,h1],by simp[eH,h1,vx.live],rfl⟩
  ·exact .inr hb
 have hst:dj w w (Mc recv rb X) (bp E (eH pos recv cs args) L):=(dj.of fun _ hn=>fun h'=>hn (hm _ h'))
 have hrel:Rel E (eH pos recv cs args) {tmps:=(ic pos (pV recv rb) vs).toArray++Array.replicate (fn.ntmps - (ic pos (pV recv rb) vs).toArray.size) undef,defers:=[]} w L:=by
  refine⟨Marks.nil rfl,⟨?_,fun t v hv=>by cases hv⟩,fun t=> ?_,fun id hid=> ?_,fun i j b hi hj _ _ _ _=> ?_,fun id hid=> ?_,⟨Fr.refl _ _,JC rfl⟩,fun _ _ _=>rfl⟩
  ·cases recv<;>simp[pV,E,Of]at hlen ⊢<;>omega
  ·have hget:(((ic pos (pV recv rb) vs).toArray++Array.replicate (fn.ntmps - (ic pos (pV recv rb) vs).toArray.size) undef).getD t undef)=((ic pos (pV recv rb) vs)[t]?).getD undef:=by
    rw[QN,Array.getElem?_append]
    by_cases ht:t<(ic pos (pV recv rb) vs).toArray.size
    ·rw[Qr ht];simp
    ·rw[Qs ht,Array.getElem?_replicate];have hn:(ic pos (pV recv rb) vs)[t]?=none:=Qq71 (by simpa using ht)
     rw[hn];split<;>rfl
   simp only;rw[hget]
   have hall:aR w (bp E (eH pos recv cs args) L) ((eH pos recv cs args).gh L) (ic pos (if recv then[.ptr 0 0 0]else[]) args) (ic pos (pV recv rb) vs):=by
    have ha:=hargs.mono hst (dm.le ((eH pos recv cs args).gh L));refine((ha.take pos).append ?_).append (ha.drop pos)
    cases recv with
    |false=>exact .nil
    |true=>
     simp only[pV,Qt];exact .cons (.ptr _ _ _ _ (by simp[St.gh,eH]) (QS _) (fun _=>by simp[St.gh,L,dS])) .nil
   show aW w _ _ (((ic pos (if recv then[.ptr 0 0 0]else[]) args:List PV)[t]?).getD .undef) _
   cases hx:(ic pos (if recv then[.ptr 0 0 0]else[]) args:List PV)[t]? with
   |none=>
    have:(ic pos (pV recv rb) vs)[t]?=none:=by
     rw[List.getElem?_eq_none_iff]at hx ⊢;rw[hall.1];exact hx
    rw[this];exact .undef
   |some x=>
    obtain⟨v,hv,hr⟩:=hall.get hx;rw[hv];exact hr
  ·cases recv with
   |false=>simp[eH]at hid
   |true=>
    simp[eH]at hid;subst hid;obtain⟨h1,h2,_⟩:=hrecv rfl;have e:((eH pos true cs args).H 0).c= .box cs:=by simp[eH]
    rw[e];exact⟨rb,rvs.toArray,T,rfl,h1,.inl (by simp[E]),by simpa using h2.mono hst (dm.le ((eH pos true cs args).gh L))⟩
  ·cases recv with
   |false=>simp[eH]at hi
   |true=>simp[eH]at hi hj;omega
  ·cases recv with
   |false=>simp[eH]
   |true=>simp[eH]at hid ⊢;omega
 have fin:∀(S':St) (L':Nat->Value) (a':Act) (w':World),Rel E S' a' w' L'->xG rs recv (fun r' cs''=>r'=r/\(recv=true->cs''=cs')) S'->
   ∃v,(results fn a'.tmps).run P w'= .ok v w'/\Se recv rb X w r cs' (.returned v) w':=by
  intro S' L' a' w' h' hret;unfold xG at hret;split at hret
  ·rename_i x hx;obtain⟨v,hv,hrep⟩:=F0 h' hrs hx;refine⟨v,hv,?_⟩
   cases recv with
   |false=>
    simp only[Qq,false_implies,and_true]at hret;subst hret;refine⟨v,[],rfl,?_,(fun hq=>by cases hq),h'.fr.toFr⟩
    refine h'.fz (fun b hb=> ?_) (fun id b hid hl _ hb hq=> ?_) 9 hrep
    ·rcases hb with⟨hb,_⟩|hb
     ·cases hb
     ·exact .inr hb
    ·rcases hq with⟨hq,_⟩|hq
     ·cases hq
     ·rcases((h'.obj id hid).uM hl hb).2 with h1|h1
      ·simp[E]at h1
      ·have:=hX.lt b hq;simp only[E]at h1;omega
   |true=>
    simp only at hret;split at hret
    ·rename_i cs'' hH;obtain⟨hcl,rfl,hcs⟩:=hret;have hcs:=hcs trivial;subst hcs
     have hN0:0<S'.N:=by
      rcases Nat.eq_zero_or_pos S'.N with h0|h0
      ·have:=h'.fresh 0 (by omega)
       rw[hH]at this;cases this
      ·exact h0
     have hL0:L' 0= .pointer (some ⟨rb,0,none⟩):=h'.AV rfl (by rw[hH];rfl) (by rw[hH])
     obtain⟨b,cur,T',hL',hh,hr,_⟩:=h'.nf hN0 (show(S'.H 0).c= .box cs'' by rw[hH])
     rw[hL0]at hL';simp only[Value.pointer.injEq,Qf,Addr.mk.injEq]at hL';obtain⟨rfl,_⟩:=hL'
     have hsub:∀q,Mc true rb X q->bp E S' L' q:=by
      rintro q (⟨_,rfl⟩|hq)
      ·exact .inl ⟨0,hN0,by rw[hH];rfl,by rw[hL0];rfl⟩
      ·exact .inr hq
     refine⟨v,cur.toList,rfl,?_,fun _=>⟨?_,hr.closed hcl hsub⟩,h'.fr.toFr⟩
     ·refine h'.fz hsub (fun id b hid hl hne hb hq=> ?_) 9 hrep
      have hnb:b≠rb:=fun e=>hne (by rw[h'.apart id 0 b hid hN0 hl (by rw[hH];rfl) hb (by rw[hL0,e];rfl)])
      rcases hq with⟨_,hq⟩|hq
      ·exact hnb hq
      ·rcases((h'.obj id hid).uM hl hb).2 with h1|h1
       ·simp only[E,Qt,Qf]at h1;exact hnb h1.symm
       ·have:=hX.lt b hq;simp only[E]at h1;omega
     ·exact⟨T',by simpa using hh⟩
    ·exact hret.elim
  ·exact hret.elim
 exact Ls hf hb (h c hs hc) rfl ⟨rfl,rfl⟩ (fun _=>rfl) rfl hrel fun e S' L' a' w' h1 h2=>by
  cases e with
  |normal=>exact⟨.inr rfl,fin S' L' a' w' h1 h2⟩
  |ret=>exact⟨.inl rfl,fin S' L' a' w' h1 h2⟩
  |exit i=>exact h2.elim
  |goto l=>exact h2.elim
  |panic c=>exact h2.elim
  |outgrown=>exact h2.elim
def Nr(rs:List RV)(R:List PV->Prop):Exit->St->Prop
 | .ret,S=>match sU S rs with
  |some (.ptr id ar 0)=>if(S.H id).ar=ar then(match(S.H id).c with| .box cs=>cs.all PV.closed=true/\R cs|_=>False)else False
  |_=>False
 |_,_=>False
theorem aaB{f:FuncId}{fn:Func}{c:Code}{sc:SC}{rs:List RV}{args cs:List PV}(hf:P.funcs[f]?=some fn)(hb:fn.body=some c){hs:List Nat}(hc:bO P fn.ntmps hs c=some sc)(hrs:mn P fn.results.toList=some rs)
  (hlen:args.length<=fn.ntmps) (h:VS P fn.ntmps sc (Nr rs fun cs'=>cs'=cs) (eH 0 false [] args)):Ue P f args cs:=by
 intro w X hX vs hargs
 let E:En:={w0:=w,rb:=none,nt:=fn.ntmps,X:=X,hX:=hX,XJ:=false,rv:=undef,rk:=false,K8:=fun b hb=>(by cases hb),YE:=fun h=>(by cases h),rd:=none,nd:=false,kt:=fun _=>none,wk:={w with heap:=#[]}}
 let L:Nat->Value:=fun _=> .pointer none
 have hst:dj w w X (bp E (eH 0 false [] args) L):=(dj.of fun _ hn h'=>hn (by
  rcases h' with⟨id,hid,_⟩|h'
  ·simp[eH]at hid
  ·exact h'))
 have hvl:vs.length=args.length:=hargs.1
 have hrel:Rel E (eH 0 false [] args) {tmps:=vs.toArray++Array.replicate (fn.ntmps - vs.toArray.size) undef,defers:=[]} w L:=by
  refine⟨Marks.nil rfl,⟨?_,fun t v hv=>by cases hv⟩,fun t=> ?_,fun id hid=> ?_,fun i j b hi hj _ _ _ _=> ?_,fun id hid=> ?_,⟨Fr.refl _ _,JC rfl⟩,fun hb _ _=>(by cases hb)⟩
  ·simp[E];omega
  ·have hget:((vs.toArray++Array.replicate (fn.ntmps - vs.toArray.size) undef).getD t undef)=(vs[t]?).getD undef:=by
    rw[QN,Array.getElem?_append]
    by_cases ht:t<vs.toArray.size
    ·rw[Qr ht];simp
    ·rw[Qs ht,Array.getElem?_replicate];have hn:vs[t]?=none:=Qq71 (by simpa using ht)
     rw[hn];split<;>rfl
   simp only;rw[hget];have ha:=hargs.mono hst (dm.le ((eH 0 false [] args).gh L));show aW w _ _ ((([]++args:List PV)[t]?).getD .undef) _;rw[List.nil_append]
   cases hx:args[t]? with
   |none=>
    have:vs[t]?=none:=by
     rw[List.getElem?_eq_none_iff]at hx ⊢;omega
    rw[this];exact .undef
   |some x=>
    obtain⟨v,hv,hr⟩:=ha.get hx;rw[hv];exact hr
  ·simp[eH]at hid
  ·simp[eH]at hi
  ·simp[eH]
 refine Ls hf hb (h c hs hc) rfl ⟨rfl,rfl⟩ (fun _=>rfl) rfl hrel fun e S' L' a' w' h' hq=> ?_
 cases e with
 |ret=>
  simp only[Nr]at hq;split at hq
  ·rename_i id ar hx;split at hq
   ·rename_i hver;split at hq
    ·rename_i cs' hcc;obtain⟨hcl,rfl⟩:=hq;obtain⟨v,hv,hrep⟩:=F0 h' hrs hx;obtain⟨hN,_⟩:=hrep.mM (show(S'.gh L').V id=ar from hver)
     obtain⟨b,hvb,hL⟩:=h'.nD hrep hver hcc;obtain⟨b',cur,T,hL',hh,hr,hE⟩:=h'.nf hN hcc;rw[hL]at hL';simp only[Value.pointer.injEq,Qf,Addr.mk.injEq]at hL';obtain⟨rfl,_⟩:=hL';refine⟨.inl rfl,v,hv,b,cur.toList,T,by rw[hvb],?_,by simpa using hh,?_,h'.fr.toFr⟩
     ·rcases hE with h1|h1
      ·simp[E]at h1
      ·exact h1
     ·refine hr.closed hcl ?_;rintro q (hq|rfl)
      ·exact .inr hq
      ·exact .inl ⟨id,hN,by rw[hcc];rfl,by rw[hL];rfl⟩
    ·exact hq.elim
   ·exact hq.elim
  ·exact hq.elim
 |normal=>exact hq.elim
 |exit i=>exact hq.elim
 |goto l=>exact hq.elim
 |panic c=>exact hq.elim
 |outgrown=>exact hq.elim
def o7(P:Program)(f:FuncId)(nt:Nat)(sc:SC)(rs:List RV):Prop:=
 ∃fn hs,P.funcs[f]?=some fn/\fn.ntmps=nt/\(fn.body.bind (bO P nt hs))=some sc/\mn P fn.results.toList=some rs/\(fn.name== "runtime.NumGoroutine")=false
theorem o7.enters{f:FuncId}{sc:SC}{rs:List RV}(h:o7 P f nt sc rs):Enters P f:=by
 obtain⟨fn,hs,h1,_,h3,_,h5⟩:=h;refine⟨fn,h1,?_,h5⟩
 cases hb:fn.body with
 |none=>rw[hb]at h3;cases h3
 |some c=>rfl
theorem o7.Lq{f:FuncId}{sc:SC}{rs:List RV}(h:o7 P f nt sc rs){pos:Nat}{recv:Bool}{cs args cs':List PV}{r:PV}(hlen:(if recv then 1 else 0)+args.length<=nt)
  (hv:VS P nt sc (WW rs recv fun r' cs''=>r'=r/\(recv=true->cs''=cs')) (eH pos recv cs args)):wX P f pos recv cs args r cs':=by
 obtain⟨fn,hs,h1,rfl,h3,h4,_⟩:=h
 cases hb:fn.body with
 |none=>rw[hb]at h3;cases h3
 |some c=>
  rw[hb]at h3;exact Wa h1 hb h3 h4 hlen hv
theorem o7.aeW{f:FuncId}{sc:SC}{rs:List RV}(h:o7 P f nt sc rs){args cs:List PV}(hlen:args.length<=nt)
  (hv:VS P nt sc (Nr rs fun cs'=>cs'=cs) (eH 0 false [] args)):Ue P f args cs:=by
 obtain⟨fn,hs,h1,rfl,h3,h4,_⟩:=h
 cases hb:fn.body with
 |none=>rw[hb]at h3;cases h3
 |some c=>
  rw[hb]at h3;exact aaB h1 hb h3 h4 hlen hv
def tab:List (FuncId×Model)->nk
 |[],_=>none
 |(g,m)::l,f=>if f=g then some m else tab l f
end
end
section
 def mkM{α:Type}(fD:α->List PV)(pre:α->Prop)(spec:α->PV):Model:=
 {recv:=false,pos:=0,fresh:=false,m:=fun _ args=>open Classical in if h:∃x,args=fD x/\pre x then some (spec (Classical.choose h),[])else none,rk:= .no,ro:=false,rm:=fun _ _=>none}
theorem VA{α:Type}{fD:α->List PV}{pre:α->Prop}{spec:α->PV}:(mkM fD pre spec).fresh=false:=rfl
theorem Xu{α:Type}{fD:α->List PV}{pre:α->Prop}{spec:α->PV}:(mkM fD pre spec).recv=false:=rfl
@[simp] theorem ad8 {α:Type} (f:Nat->α) (i:Nat) (x:α) (j:Nat):bS f i x j=if j=i then x else f j:=rfl
@[simp] theorem aeA (g:FuncId) (m:Model) (l:List (FuncId×Model)) (f:FuncId):tab ((g,m)::l) f=if f=g then some m else tab l f:=rfl
@[simp] theorem aeY (S:St) (ts:List Nat) (n t:Nat):(S.cut ts n).env t=if t∈ts then S.env t else .any:=rfl
@[simp] theorem ae7 (S:St) (ts:List Nat) (n id:Nat):(S.cut ts n).H id=if id<n then S.H id else⟨0,.dead⟩:=rfl
@[simp] theorem ae6 (S:St) (ts:List Nat) (n:Nat):(S.cut ts n).N=n:=rfl
attribute [simp] ev WR CD SG.wanted exec St.cZ bg.val St0 eH ic Ss WW xG Bq adq sU tk yr fz tT ox qN PV.cells PV.one PV.closed gz Fo Ey I8 kJ PV.qu PV.plain PV.mV PV.bB PV.rO ig
 Jw ma xb Ay Bg eI eA lh yR Xu VA Nr PV.jo
section
variable (n : Nat)
@[simp] theorem aej:PV.under n .any=true:=rfl
@[simp] theorem acS:PV.under n .undef=true:=rfl
@[simp] theorem aeg (k:IntKind) (i:Int):PV.under n (.int k i)=true:=rfl
@[simp] theorem ac2 (b:Bool):PV.under n (.bool b)=true:=rfl
@[simp] theorem acT:PV.under n .fB=true:=rfl
@[simp] theorem aeb (s:ByteArray):PV.under n (.str s)=true:=rfl
@[simp] theorem acZ:PV.under n .jj=true:=rfl
@[simp] theorem acY:PV.under n .dx=true:=rfl
@[simp] theorem aed (cs:List PV):PV.under n (.ref cs)=true:=rfl
@[simp] theorem aez (es:List (List PV)):PV.under n (.sl es)=true:=rfl
@[simp] theorem aef (i v:Nat):PV.under n (.own i v)=decide (i<n):=rfl
@[simp] theorem aee (i v o:Nat):PV.under n (.ptr i v o)=decide (i<n):=rfl
@[simp] theorem ac0 (i v k j o:Nat):PV.under n (.ed i v k j o)=decide (i<n):=rfl
@[simp] theorem acX (i v k j o:Nat):PV.under n (.view i v k j o)=decide (i<n):=rfl
@[simp] theorem aek (cs:List PV):PV.under n (.agg cs)=cs.all (PV.jo n):=rfl
@[simp] theorem aea (cs:List PV):PV.under n (.cX cs)=cs.all (PV.jo n):=rfl
@[simp] theorem aeh (f:FuncId) (cs:List PV):PV.under n (.cz f cs)=cs.all (PV.jo n):=rfl
@[simp] theorem ac1:vx.under n .dead=true:=rfl
@[simp] theorem aei (cs:List PV):vx.under n (.box cs)=cs.all (PV.under n):=rfl
@[simp] theorem aec (e k:Nat) (es:List (List PV)):vx.under n (.row e k es)=es.all fun u=>u.all (PV.under n):=rfl
end
def Fz:Nat->(Nat->Prop)->Prop
 |0,_=>True
 |n+1,p=>Fz n p/\p n
theorem EC{p:Nat->Prop}:∀{n:Nat},Fz n p↔∀i,i<n->p i
 |0=>by simp[Fz]
 |n+1=>by
  rw[Fz,EC];refine⟨fun h i hi=> ?_,fun h=>⟨fun i hi=>h i (by omega),h n (by omega)⟩⟩
  by_cases e:i=n
  ·rw[e];exact h.2
  ·exact h.1 i (by omega)
theorem V7{S:St}{ts:List Nat}{n:Nat}:Uc S ts n↔n<=S.N/\(∀t∈ts,(S.env t).under n=true)/\Fz n fun id=>(S.H id).c.under n=true:=
 ⟨fun h=>⟨h.N,h.env,EC.2 h.H⟩,fun h=>⟨h.1,h.2.1,EC.1 h.2.2⟩⟩
attribute [simp] V7 Fz
theorem i64_in{n:Int}(h: -9223372036854775808<=n)(h':n<=9223372036854775807):IntKind.i64.wrap n=n:=by
 rw[IntKind.wrap_i64];omega
end
section
structure TU where
 Ty:Type
 RY:DecidableEq Ty
 den:Ty->Type
 pv:(t:Ty)->den t->List PV
 size:Ty->Nat
 agg:Ty->Bool
 plain:Ty->Bool
inductive KV (U:TU) where
 |any
 |undef
 |int (k:IntKind) (n:Int)
 |bool (b:Bool)
 |fB
 |str (s:ByteArray)
 |jj
 |dx
 |cz (f:FuncId) (caps:List (KV U))
 |iM (f:FuncId) (first:List (KV U))
 |agg (cs:List (KV U))
 |cX (cs:List (KV U))
 |ptr (id ar off:Nat)
 |ref (cs:List (KV U))
 |sl (T:U.Ty) (xs:List (U.den T))
 |own (id ar:Nat)
 |ed (id ar k i off:Nat)
 |view (id ar k lo n:Nat)
 |iu (A B:U.Ty) (xs:List (U.den A×U.den B))
 |iJ (b:Bool)
 |gA (T:TypeId) (x:KV U)
 |dyn (Ti Ts:TypeId) (b:Bool) (n:Int) (s:ByteArray)
def gF{U:TU}(T:U.Ty)(v:U.den T):PV:=
 match U.agg T with
 |true=> .agg (U.pv T v)
 |false=>(U.pv T v).headD .any
section
variable {U : TU}
mutual
def KV.pv:KV U->PV
 | .any=> .any
 | .undef=> .undef
 | .int k n=> .int k n
 | .bool b=> .bool b
 | .fB=> .fB
 | .str s=> .str s
 | .jj=> .jj
 | .dx=> .dx
 | .cz f cs=> .cz f (KV.AX cs)
 | .iM f cs=> .iM f (KV.AX cs)
 | .agg cs=> .agg (KV.AX cs)
 | .cX cs=> .cX (KV.AX cs)
 | .ptr id ar off=> .ptr id ar off
 | .ref cs=> .ref (KV.AX cs)
 | .sl T xs=> .sl (xs.map (U.pv T))
 | .own id ar=> .own id ar
 | .ed id ar k i off=> .ed id ar k i off
 | .view id ar k lo n=> .view id ar k lo n
 | .iu A B xs=> .iu (xs.map fun p=>gF A p.1) (xs.map fun p=>gF B p.2)
 | .iJ b=> .iJ b
 | .gA T x=> .gA T (KV.pv x)
 | .dyn Ti Ts b n s=> .gA (cond b Ts Ti) (cond b (.str s) (.int .i64 n))
def KV.AX:List (KV U)->List PV
 |[]=>[]
 |x::l=>KV.pv x::KV.AX l
end
theorem KV.cv:∀(l:List (KV U)),KV.AX l=l.map KV.pv
 |[]=>by simp[KV.AX]
 |x::l=>by simp[KV.AX,KV.cv l]
inductive dz (U:TU) where
 |dead
 |box (cs:List (KV U))
 |row (e k:Nat) (T:U.Ty) (xs:List (U.den T))
 |raw (e k:Nat) (es:List (List (KV U)))
structure cV (U:TU) where
 ar:Nat
 c:dz U
structure aS (U:TU) where
 env:Nat->KV U
 H:Nat->cV U
 N:Nat
def dz.pv:dz U->vx
 | .dead=> .dead
 | .box cs=> .box (cs.map KV.pv)
 | .row e k T xs=> .row e k (xs.map (U.pv T))
 | .raw e k es=> .row e k (es.map fun c=>c.map KV.pv)
def cV.pv(o:cV U):fc:=⟨o.ar,o.c.pv⟩
def aS.st(S:aS U):St:=⟨fun t=>(S.env t).pv,fun id=>(S.H id).pv,S.N⟩
def fE{α:Type}(f:Nat->α)(i:Nat)(x:α)(j:Nat):α:=
 match Nat.beq j i with
 |true=>x
 |false=>f j
theorem cH{α:Type}(f:Nat->α)(i:Nat)(x:α):fE f i x=bS f i x:=by
 funext j
 unfold fE bS;split
 ·rename_i h;rw[Qr (QF h)]
 ·rename_i h;rw[Qs (Nat.ne_of_beq_eq_false h)]
def aS.cZ(S:aS U)(d:Option Nat)(x:KV U)(wr:Option (Nat×cV U)):aS U:=
 {env:=match d with|some d=>fE S.env d x|none=>S.env,H:=match wr with|some (id,o)=>fE S.H id o|none=>S.H,N:=S.N}
def iA(p:Nat×cV U):Nat×fc:=(p.1,p.2.pv)
theorem lP{α β:Type}(g:α->β)(f:Nat->α)(i:Nat)(x:α):(fun j=>g (bS f i x j))=bS (fun j=>g (f j)) i (g x):=by
 funext j
 unfold bS;split<;>rfl
theorem w3(S:aS U)(d:Option Nat)(x:KV U)(wr:Option (Nat×cV U)):(S.cZ d x wr).st=S.st.cZ d x.pv (wr.map iA):=by
 unfold aS.cZ St.cZ aS.st;congr 1
 ·cases d with
  |none=>rfl
  |some d=>simp only[cH];exact lP _ _ _ _
 ·cases wr with
  |none=>rfl
  |some p=>obtain⟨i,o⟩:=p;simp only[cH,Qe,iA];exact lP _ _ _ _
abbrev Lk(U:TU):=Nat->Nat->(T:U.Ty)->Option (List (U.den T))
def sY{U:TU}(T' T:U.Ty)(xs:List (U.den T')):Option (List (U.den T)):=
 match U.RY T' T with
 |isTrue h=>some (h▸xs)
 |isFalse _=>none
theorem nc{T' T:U.Ty}{xs:List (U.den T')}{ys:List (U.den T)}(h:sY T' T xs=some ys):∃e:T'=T,ys=e▸xs:=by
 unfold sY at h;split at h
 ·rename_i e _;injection h with h;exact⟨e,h.symm⟩
 ·cases h
def aS.lk(S:aS U):Lk U:=fun id ar T=>
 match Nat.beq (S.H id).ar ar with
 |true=>match(S.H id).c with
  | .row _ _ T' xs=>sY T' T xs
  |_=>none
 |false=>none
def mf:Lk U:=fun _ _ _=>none
def XV(k:IntKind):KV U->Option Int
 | .int k' n=>if k'=k then some n else none
 |_=>none
def Eo:KV U->Option Bool
 | .bool b=>some b
 |_=>none
def XT:KV U->Option ByteArray
 | .str s=>some s
 |_=>none
def OH(lk:Lk U)(T:U.Ty):KV U->Option (List (U.den T))
 | .dx=>some []
 | .sl T' xs=>sY T' T xs
 | .own id ar=>lk id ar T
 |_=>none
def TM{U:TU}(A' B' A B:U.Ty)(xs:List (U.den A'×U.den B')):Option (List (U.den A×U.den B)):=
 match U.RY A' A with
 |isTrue h=>(match U.RY B' B with
  |isTrue h'=>some (h▸h'▸xs)
  |isFalse _=>none)
 |isFalse _=>none
theorem TL{A' B' A B:U.Ty}{xs:List (U.den A'×U.den B')}{ys:List (U.den A×U.den B)}(h:TM A' B' A B xs=some ys):∃(e:A'=A) (e':B'=B),ys=e▸e'▸xs:=by
 unfold TM at h;split at h
 ·rename_i e _;split at h
  ·rename_i e' _;injection h with h;exact⟨e,e',h.symm⟩
  ·cases h
 ·cases h
def XU(A B:U.Ty):KV U->Option (List (U.den A×U.den B))
 | .iu A' B' xs=>TM A' B' A B xs
 |_=>none
inductive iq (lk:Lk U):KV U->PV->Prop where
 |int (k:IntKind) (n:Int):iq lk (.int k n) (.int k n)
 |bool (b:Bool):iq lk (.bool b) (.bool b)
 |str (s:ByteArray):iq lk (.str s) (.str s)
 |dx:iq lk .dx (.sl [])
 |sl (T:U.Ty) (xs:List (U.den T)):iq lk (.sl T xs) (.sl (xs.map (U.pv T)))
 |own (id ar:Nat) (T:U.Ty) (xs:List (U.den T)) (h:lk id ar T=some xs):iq lk (.own id ar) (.sl (xs.map (U.pv T)))
 |iu (A B:U.Ty) (xs:List (U.den A×U.den B)):iq lk (.iu A B xs) (.iu (xs.map fun p=>gF A p.1) (xs.map fun p=>gF B p.2))
 |iJ (b:Bool):iq lk (.iJ b) (.iJ b)
 |gA (T:TypeId) (x:KV U):iq lk (.gA T x) (.gA T x.pv)
 |dyn (Ti Ts:TypeId) (b:Bool) (n:Int) (s:ByteArray):iq lk (.dyn Ti Ts b n s) (.gA (cond b Ts Ti) (cond b (.str s) (.int .i64 n)))
theorem aat{lk:Lk U}{A B:U.Ty}{x:KV U}{xs:List (U.den A×U.den B)}(h:XU A B x=some xs):iq lk x (.iu (xs.map fun p=>gF A p.1) (xs.map fun p=>gF B p.2)):=by
 unfold XU at h;split at h
 ·obtain⟨e,e',rfl⟩:=TL h;subst e;subst e';exact .iu _ _ _
 ·cases h
theorem aav{lk:Lk U}{k:IntKind}{x:KV U}{n:Int}(h:XV k x=some n):iq lk x (.int k n):=by
 unfold XV at h;split at h
 ·split at h
  ·rename_i e;injection h with h;subst h e;exact .int _ _
  ·cases h
 ·cases h
theorem aaz{lk:Lk U}{x:KV U}{b:Bool}(h:Eo x=some b):iq lk x (.bool b):=by
 unfold Eo at h;split at h
 ·injection h with h;subst h;exact .bool _
 ·cases h
theorem aas{lk:Lk U}{x:KV U}{s:ByteArray}(h:XT x=some s):iq lk x (.str s):=by
 unfold XT at h;split at h
 ·injection h with h;subst h;exact .str _
 ·cases h
theorem aau{lk:Lk U}{T:U.Ty}{x:KV U}{xs:List (U.den T)}(h:OH lk T x=some xs):iq lk x (.sl (xs.map (U.pv T))):=by
 unfold OH at h;split at h
 ·injection h with h;subst h;exact .dx
 ·obtain⟨e,rfl⟩:=nc h;subst e;exact .sl _ _
 ·exact .own _ _ _ _ h
 ·cases h
def PV.fp:PV->Bool
 | .int ..| .bool _| .str _| .sl _| .iu ..| .iJ _| .gA ..=>true
 |_=>false
inductive gn (lk:Lk U):List (KV U)->List PV->Prop where
 |nil:gn lk [] []
 |cons {x:KV U} {y:PV} {xs:List (KV U)} {ys:List PV} (h:iq lk x y) (t:gn lk xs ys):gn lk (x::xs) (y::ys)
structure TK (U:TU) where
 fD:(t:U.Ty)->U.den t->List (KV U)
 dec:(t:U.Ty)->Lk U->List (KV U)->Option (U.den t)
 Jn:Nat->Option U.Ty
 mZ:∀t v,(fD t v).map KV.pv=U.pv t v
 kH:∀t lk cs v,dec t lk cs=some v->gn lk cs (U.pv t v)
 len:∀t v,(U.pv t v).length=U.size t
 fp:∀t v y,y∈U.pv t v->y.fp=true
 one:∀t,U.agg t=false->U.size t=1
 plain:∀t,U.plain t=true->∀v y,y∈U.pv t v->y.plain=true
 NF:U.Ty->Option (IntKind×IntKind)
 JK:∀t k l,NF t=some (k,l)->U.agg t=true/\∀v,∃a b,fD t v=[.int k a,.int l b]
variable (K : TK U)
def Dd(T:U.Ty)(v:U.den T):KV U:=
 match U.agg T with
 |true=> .agg (K.fD T v)
 |false=>(K.fD T v).headD .any
def zz(lk:Lk U)(T:U.Ty)(x:KV U):Option (U.den T):=
 match U.agg T with
 |true=>(match x with| .agg cs=>K.dec T lk cs|_=>none)
 |false=>K.dec T lk [x]
theorem AO(T:U.Ty)(v:U.den T):(Dd K T v).pv=gF T v:=by
 unfold Dd gF;split
 ·simp only[KV.pv,KV.cv,K.mZ]
 ·rename_i h;have h1:=K.len T v;rw[K.one T h]at h1;have h2:=K.mZ T v
  cases he:K.fD T v with
  |nil=>rw[he]at h2;simp at h2;rw[h2]at h1;simp at h1
  |cons x l=>rw[he]at h2;rw[<-h2];rfl
def PV.du:PV->Bool
 | .int ..| .bool _| .str _| .jj| .dx| .any| .iJ _| .cz _ []=>true
 |_=>false
def KV.F7:PV->KV U
 | .int k n=> .int k n
 | .bool b=> .bool b
 | .str s=> .str s
 | .jj=> .jj
 | .dx=> .dx
 | .iJ b=> .iJ b
 | .cz f []=> .cz f []
 |_=> .any
def bg.du:bg->Bool
 | .tmp _=>true
 | .Ab x=>x.du
def bg.cA(S:aS U):bg->KV U
 | .tmp t=>S.env t
 | .Ab x=>KV.F7 x
theorem ou{S:aS U}{x:bg}(h:x.du=true):x.val S.st=(x.cA S).pv:=by
 cases x with
 |tmp t=>rfl
 |Ab x=>
  simp only[bg.du]at h;unfold PV.du at h;split at h<;>first|rfl|(cases h)
def KV.cells:KV U->List (KV U)
 | .agg cs=>cs
 |x=>[x]
def KV.one:KV U->Bool
 | .int ..| .bool _| .fB| .str _| .jj| .dx| .cz ..| .iM ..| .ptr ..| .ed ..| .ref _| .sl ..| .own ..| .view ..| .iu ..| .iJ _| .gA ..| .dyn ..=>true
 |_=>false
def KV.closed:KV U->Bool
 | .int ..| .bool _| .str _| .jj| .dx| .sl ..| .ref _| .iu ..| .iJ _| .gA ..| .dyn ..=>true
 | .cz _ []=>true
 |_=>false
def KV.bB:KV U->Bool
 | .agg cs| .cX cs| .cz _ cs=>cs.all KV.closed
 |x=>x.closed
theorem abF(x:KV U):x.pv.one=x.one:=by
 cases x with
 |_=>simp[KV.pv,PV.one,KV.one]
theorem Wd(x:KV U):x.pv.closed=x.closed:=by
 cases x with
 |cz f cs=>cases cs<;>simp[KV.pv,KV.AX,PV.closed,KV.closed]
 |_=>simp[KV.pv,PV.closed,KV.closed]
theorem tD(x:KV U):x.pv.cells=x.cells.map KV.pv:=by
 cases x with
 |_=>simp[KV.pv,PV.cells,KV.cells,KV.cv]
theorem iW(l:List (KV U)):(l.map KV.pv).all PV.closed=l.all KV.closed:=by
 induction l with
 |nil=>rfl
 |cons x l ih=>simp only[QD,Qq69,Wd,ih]
theorem uO(l:List (KV U)):(l.map KV.pv).all PV.one=l.all KV.one:=by
 induction l with
 |nil=>rfl
 |cons x l ih=>simp only[QD,Qq69,abF,ih]
theorem I6(x:KV U):x.pv.bB=x.bB:=by
 cases x with
 |agg cs=>simp only[KV.pv,PV.bB,KV.bB,KV.cv];exact iW cs
 |cX cs=>simp only[KV.pv,PV.bB,KV.bB,KV.cv];exact iW cs
 |cz f cs=>simp only[KV.pv,PV.bB,KV.bB,KV.cv];exact iW cs
 |_=>simp[KV.pv,PV.bB,KV.bB,PV.closed,KV.closed]
end
end
section
section
variable {U : TU}
inductive dn (U:TU) where
 |ty (T:U.Ty)
 |cz (f:FuncId) (cs:List (dn U))
 |ref (a:dn U)
 |agg (cs:List (dn U))
inductive nn (U:TU) where
 |one (T:U.Ty)
 |many (Ts:List U.Ty)
 |fn (a:dn U)
@[reducible] def Cx (U:TU):List U.Ty->Type
 |[]=>Unit
 |T::l=>U.den T×Cx U l
mutual
@[reducible] def dn.den:dn U->Type
 | .ty T=>U.den T
 | .cz _ cs=>dZ cs
 | .ref a=>a.den
 | .agg cs=>dZ cs
@[reducible] def dZ:List (dn U)->Type
 |[]=>Unit
 |a::l=>a.den×dZ l
end
@[reducible] def nn.den:nn U->Type
 | .one T=>U.den T
 | .many Ts=>Cx U Ts
 | .fn a=>a.den
def Al:(Ts:List U.Ty)->Cx U Ts->List PV
 |[],_=>[]
 |T::l,v=>gF T v.1::Al l v.2
mutual
def kS:(a:dn U)->a.den->PV
 | .ty T,v=>gF T v
 | .cz f cs,v=> .cz f (fM cs v)
 | .ref a,v=> .ref (ni a v)
 | .agg cs,v=> .agg (fM cs v)
def ni:(a:dn U)->a.den->List PV
 | .ty T,v=>U.pv T v
 | .cz f cs,v=>[.cz f (fM cs v)]
 | .ref a,v=>[.ref (ni a v)]
 | .agg cs,v=>fM cs v
def fM:(A_s:List (dn U))->dZ A_s->List PV
 |[],_=>[]
 |a::l,v=>kS a v.1::fM l v.2
end
def sb:(r:nn U)->r.den->PV
 | .one T,v=>gF T v
 | .many Ts,v=> .cX (Al Ts v)
 | .fn a,v=>kS a v
variable (K : TK U)
def Yu:(Ts:List U.Ty)->Cx U Ts->List (KV U)
 |[],_=>[]
 |T::l,v=>Dd K T v.1::Yu l v.2
mutual
def Ho:(a:dn U)->a.den->KV U
 | .ty T,v=>Dd K T v
 | .cz f cs,v=> .cz f (xh cs v)
 | .ref a,v=> .ref (Ct a v)
 | .agg cs,v=> .agg (xh cs v)
def Ct:(a:dn U)->a.den->List (KV U)
 | .ty T,v=>K.fD T v
 | .cz f cs,v=>[.cz f (xh cs v)]
 | .ref a,v=>[.ref (Ct a v)]
 | .agg cs,v=>xh cs v
def xh:(A_s:List (dn U))->dZ A_s->List (KV U)
 |[],_=>[]
 |a::l,v=>Ho a v.1::xh l v.2
end
def MR:(r:nn U)->r.den->KV U
 | .one T,v=>Dd K T v
 | .many Ts,v=> .cX (Yu K Ts v)
 | .fn a,v=>Ho K a v
theorem UE:∀(Ts:List U.Ty) (v:Cx U Ts),(Yu K Ts v).map KV.pv=Al Ts v
 |[],_=>rfl
 |T::l,v=>by rw[Yu,Al,QD,AO,UE l v.2]
mutual
theorem R9:∀(a:dn U) (v:a.den),(Ho K a v).pv=kS a v
 | .ty T,v=>by rw[Ho,kS];exact AO K T v
 | .cz f cs,v=>by rw[Ho,kS,KV.pv,KV.cv,zi cs v]
 | .ref a,v=>by rw[Ho,kS,KV.pv,KV.cv,O0 a v]
 | .agg cs,v=>by rw[Ho,kS,KV.pv,KV.cv,zi cs v]
theorem O0:∀(a:dn U) (v:a.den),(Ct K a v).map KV.pv=ni a v
 | .ty T,v=>by rw[Ct,ni];exact K.mZ T v
 | .cz f cs,v=>by rw[Ct,ni,QD,QO,KV.pv,KV.cv,zi cs v]
 | .ref a,v=>by rw[Ct,ni,QD,QO,KV.pv,KV.cv,O0 a v]
 | .agg cs,v=>by rw[Ct,ni,zi cs v]
theorem zi:∀(A_s:List (dn U)) (v:dZ A_s),(xh K A_s v).map KV.pv=fM A_s v
 |[],_=>by rw[xh,fM];rfl
 |a::l,v=>by rw[xh,fM,QD,R9 a v.1,zi l v.2]
end
theorem HJ:∀(r:nn U) (v:r.den),(MR K r v).pv=sb r v
 | .one T,v=>AO K T v
 | .many Ts,v=>by rw[MR,sb,KV.pv,KV.cv,UE]
 | .fn a,v=>R9 K a v
def Mu(lk:Lk U):(Ts:List U.Ty)->List (KV U)->Option (Cx U Ts)
 |[],xs=>match xs with|[]=>some ()|_=>none
 |T::l,xs=>match xs with
  |x::xs=>(match zz K lk T x with
   |some v=>(match Mu lk l xs with|some vs=>some (v,vs)|none=>none)
   |none=>none)
  |[]=>none
def KV.Mp:KV U->Bool
 | .dx=>false
 |_=>true
def Tz:Option Nat->Nat->Bool
 |none,_=>true
 |some i,id=> !Nat.beq i id
def wF:List (KV U)->KV U
 |[x]=>x
 |_=> .any
def Cl(T:U.Ty)(cs:List (KV U)):Option (U.den T):=
 match cs.all KV.Mp with
 |true=>K.dec T mf cs
 |false=>none
def E5{α:Type}(f:FuncId)(x:KV U)(k:List (KV U)->Option α):Option α:=
 match x with
 | .cz g caps=>(match Nat.beq g f with|true=>k caps|false=>none)
 |_=>none
def H4{α:Type}(x:KV U)(k:List (KV U)->Option α):Option α:=
 match x with
 | .agg cs=>k cs
 |_=>none
def Mm{α:Type}(x:KV U)(k:List (KV U)->Option α):Option α:=
 match x with
 | .ref cs=>k cs
 |_=>none
def Mo(xs:List (KV U)):Option Unit:=
 match xs with
 |[]=>some ()
 |_=>none
def H3{α β:Type}(xs:List (KV U))(k:KV U->Option α)(m:List (KV U)->Option β):Option (α×β):=
 match xs with
 |x::l=>(match k x with
  |some v=>(match m l with|some vs=>some (v,vs)|none=>none)
  |none=>none)
 |[]=>none
def Mn{α:Type}(S:aS U)(ex:Option Nat)(x:KV U)(k0 k1:List (KV U)->Option α):Option α:=
 match x with
 | .ref cells=>k0 cells
 | .ptr id ar off=>(match Nat.beq off 0&&Tz ex id with
  |true=>(match Nat.beq (S.H id).ar ar with
   |true=>(match(S.H id).c with
    | .box cells=>k1 cells
    |_=>none)
   |false=>none)
  |false=>none)
 |_=>none
theorem xI{α:Type}{f:FuncId}{x:KV U}{k:List (KV U)->Option α}{r:α}(h:E5 f x k=some r):∃caps,x= .cz f caps/\k caps=some r:=by
 unfold E5 at h;split at h
 ·split at h
  ·rename_i hg;exact⟨_,by rw[QF hg],h⟩
  ·cases h
 ·cases h
theorem BX{α:Type}{x:KV U}{k:List (KV U)->Option α}{r:α}(h:H4 x k=some r):∃cs,x= .agg cs/\k cs=some r:=by
 unfold H4 at h;split at h
 ·exact⟨_,rfl,h⟩
 ·cases h
theorem HZ{α:Type}{x:KV U}{k:List (KV U)->Option α}{r:α}(h:Mm x k=some r):∃cs,x= .ref cs/\k cs=some r:=by
 unfold Mm at h;split at h
 ·exact⟨_,rfl,h⟩
 ·cases h
theorem H2{xs:List (KV U)}{r:Unit}(h:Mo xs=some r):xs=[]:=by
 unfold Mo at h;split at h
 ·rfl
 ·cases h
theorem F5{α β:Type}{xs:List (KV U)}{k:KV U->Option α}{m:List (KV U)->Option β}{r:α×β}(h:H3 xs k m=some r):∃x l,xs=x::l/\k x=some r.1/\m l=some r.2:=by
 unfold H3 at h;split at h
 ·split at h
  ·rename_i h1;split at h
   ·rename_i h2;injection h with h
    subst h;exact⟨_,_,rfl,h1,h2⟩
   ·cases h
  ·cases h
 ·cases h
theorem H0{α:Type}{S:aS U}{ex:Option Nat}{x:KV U}{k0 k1:List (KV U)->Option α}{r:α}(h:Mn S ex x k0 k1=some r):
  (∃cs,x= .ref cs/\k0 cs=some r)\/∃id ar cells,x= .ptr id ar 0/\Tz ex id=true/\(S.H id).ar=ar/\(S.H id).c= .box cells/\k1 cells=some r:=by
 unfold Mn at h;split at h
 ·exact .inl ⟨_,rfl,h⟩
 ·split at h
  ·rename_i hoff;rw[Qm]at hoff;split at h
   ·rename_i hver;split at h
    ·rename_i hc;exact .inr ⟨_,_,_,by rw[QF hoff.1],hoff.2,QF hver,hc,h⟩
    ·cases h
   ·cases h
  ·cases h
 ·cases h
mutual
def Fk:(a:dn U)->KV U->Option a.den
 | .ty T,x=>(match U.agg T with
  |true=>H4 x fun cs=>Cl K T cs
  |false=>Cl K T [x])
 | .cz f cs,x=>E5 f x fun caps=>xe cs caps
 | .ref a,x=>Mm x fun cells=>xR a cells
 | .agg cs,x=>H4 x fun cells=>xe cs cells
def xR:(a:dn U)->List (KV U)->Option a.den
 | .ty T,cells=>Cl K T cells
 | .cz f cs,cells=>E5 f (wF cells) fun caps=>xe cs caps
 | .ref a,cells=>Mm (wF cells) fun cells=>xR a cells
 | .agg cs,cells=>xe cs cells
def xe:(A_s:List (dn U))->List (KV U)->Option (dZ A_s)
 |[],xs=>Mo xs
 |a::l,xs=>H3 xs (fun x=>Fk a x) fun xs=>xe l xs
end
mutual
def Hi(S:aS U)(ex:Option Nat):(a:dn U)->KV U->Option a.den
 | .ty T,x=>zz K S.lk T x
 | .cz f cs,x=>E5 f x fun caps=>nU S ex cs caps
 | .ref a,x=>Mn S ex x (fun cells=>xR K a cells) fun cells=>Hh S ex a cells
 | .agg cs,x=>H4 x fun cells=>nU S ex cs cells
def Hh(S:aS U)(ex:Option Nat):(a:dn U)->List (KV U)->Option a.den
 | .ty T,cells=>K.dec T S.lk cells
 | .cz f cs,cells=>E5 f (wF cells) fun caps=>nU S ex cs caps
 | .ref a,cells=>Mn S ex (wF cells) (fun cells=>xR K a cells) fun cells=>Hh S ex a cells
 | .agg cs,cells=>nU S ex cs cells
def nU(S:aS U)(ex:Option Nat):(A_s:List (dn U))->List (KV U)->Option (dZ A_s)
 |[],xs=>Mo xs
 |a::l,xs=>H3 xs (fun x=>Hi S ex a x) fun xs=>nU S ex l xs
end
mutual
def dn.depth:dn U->Nat
 | .ty _=>2
 | .cz _ cs=>lT cs+1
 | .ref a=>a.depth+1
 | .agg cs=>lT cs+1
def lT:List (dn U)->Nat
 |[]=>2
 |a::l=>max a.depth (lT l)
end
def nn.plain:nn U->Bool
 | .one T=>U.plain T
 | .many Ts=>Ts.all U.plain
 | .fn _=>false
def dn.YD:dn U->Bool
 | .ref _=>true
 |_=>false
def nn.ok:nn U->Bool
 | .fn (.cz _ cs)=>cs.all dn.YD
 | .fn _=>false
 |_=>true
theorem aae{H:Nat->fc}{ex:Option Nat}:∀(n:Nat) {y:PV},y.fp=true->fz H ex n y=y
 |0,y,h=>by cases y<;>simp[PV.fp]at h<;>simp[fz,PV.closed]
 |n+1,y,h=>by cases y<;>simp[PV.fp]at h<;>simp[fz,PV.closed]
theorem XL{H:Nat->fc}{ex:Option Nat}(n:Nat){l:List PV}(h:∀y∈l,y.fp=true):l.map (fz H ex n)=l:=by
 induction l with
 |nil=>rfl
 |cons x l ih=>rw[QD,aae n (h x (by simp)),ih fun y hy=>h y (by simp[hy])]
theorem RE{S:aS U}{id ar:Nat}{T:U.Ty}{xs:List (U.den T)}(h:S.lk id ar T=some xs):(S.H id).ar=ar/\∃e k,(S.H id).c= .row e k T xs:=by
 unfold aS.lk at h;split at h
 ·rename_i hv;split at h
  ·rename_i e k T' ys hc;obtain⟨eq,rfl⟩:=nc h;subst eq;exact⟨QF hv,e,k,hc⟩
  ·cases h
 ·cases h
variable {K}
variable {S : aS U} {ex : Option Nat}
theorem aaE(hex:∀id,ex=some id->∀e k T xs,(S.H id).c≠ .row e k T xs)(n:Nat){x:KV U}{y:PV}(h:iq S.lk x y)(K:TK U):fz S.st.H ex (n+1) x.pv=y:=by
 cases h with
 |int=>simp[KV.pv,fz,PV.closed]
 |bool=>simp[KV.pv,fz,PV.closed]
 |str=>simp[KV.pv,fz,PV.closed]
 |dx=>simp[KV.pv,fz]
 |sl T xs=>simp[KV.pv,fz,PV.closed]
 |iu A B xs=>simp[KV.pv,fz,PV.closed]
 |iJ=>simp[KV.pv,fz,PV.closed]
 |gA T x=>simp[KV.pv,fz,PV.closed]
 |dyn=>simp[KV.pv,fz,PV.closed]
 |own id ar T xs h=>
  obtain⟨hv,e,k,hc⟩:=RE h
  have hne:¬(some id=ex\/(S.st.H id).ar≠ar):=by
   rintro(h1|h1)
   ·exact hex id h1.symm _ _ _ _ hc
   ·exact h1 hv
  have hcp:(S.st.H id).c= .row e k (xs.map (U.pv T)):=by simp[aS.st,cV.pv,hc,dz.pv]
  simp only[KV.pv,fz];rw[Qs hne,hcp];simp only[List.map_map];congr 1;refine Qq70 fun v _=> ?_
  exact XL n fun y hy=>K.fp T v y hy
theorem Hl(hex:∀id,ex=some id->∀e k T xs,(S.H id).c≠ .row e k T xs)(n:Nat){xs:List (KV U)}{ys:List PV}(h:gn S.lk xs ys)(K:TK U):(xs.map KV.pv).map (fz S.st.H ex (n+1))=ys:=by
 induction h with
 |nil=>rfl
 |cons h _ ih=>rw[QD,QD,aaE hex n h K,ih]
theorem GB(hex:∀id,ex=some id->∀e k T xs,(S.H id).c≠ .row e k T xs)(n:Nat){T:U.Ty}{x:KV U}{v:U.den T}(h:zz K S.lk T x=some v):fz S.st.H ex (n+2) x.pv=gF T v:=by
 unfold zz at h;unfold gF;split at h
 ·rename_i ha;split at h
  ·rename_i cs;simp only[KV.pv,KV.cv,fz,Hl hex n (K.kH _ _ _ _ h) K]
  ·cases h
 ·rename_i ha;have h1:=Hl hex (n+1) (K.kH _ _ _ _ h) K;simp only[QD,QO]at h1;simp only[<-h1,List.headD_cons]
theorem OG(hex:∀id,ex=some id->∀e k T xs,(S.H id).c≠ .row e k T xs)(n:Nat):∀(Ts:List U.Ty) (xs:List (KV U)) (v:Cx U Ts),Mu K S.lk Ts xs=some v->(xs.map KV.pv).map (fz S.st.H ex (n+2))=Al Ts v
 |[],[],_,_=>rfl
 |[],_::_,_,h=>by cases h
 |T::l,[],_,h=>by cases h
 |T::l,x::xs,v,h=>by
  rw[Mu]at h;split at h
  ·rename_i v1 h1;split at h
   ·rename_i vs h2;injection h with h
    subst h;rw[QD,QD,Al,GB hex n h1,OG hex n l xs vs h2]
   ·cases h
  ·cases h
theorem UI{xs:List (KV U)}{ys:List PV}(h:gn mf xs ys):xs.all KV.Mp=true->xs.map KV.pv=ys:=by
 induction h with
 |nil=>intro _;rfl
 |cons hc _ ih=>
  intro hn;rw[Qq69,Qm]at hn;rw[QD,ih hn.2];congr 1
  cases hc with
  |dx=>cases hn.1
  |own _ _ _ _ h=>cases h
  |_=>rfl
theorem Hf{T:U.Ty}{cs:List (KV U)}{v:U.den T}(h:Cl K T cs=some v):cs.map KV.pv=U.pv T v:=by
 unfold Cl at h;split at h
 ·rename_i hn;exact UI (K.kH _ _ _ _ h) hn
 ·cases h
theorem IP{cs:List (KV U)}{f:FuncId}{caps:List (KV U)}(h:wF cs= .cz f caps):cs=[.cz f caps]:=by
 unfold wF at h;split at h
 ·rw[h]
 ·cases h
theorem K9{cs cells:List (KV U)}(h:wF cs= .ref cells):cs=[.ref cells]:=by
 unfold wF at h;split at h
 ·rw[h]
 ·cases h
theorem VP{cs:List (KV U)}{id ar off:Nat}(h:wF cs= .ptr id ar off):cs=[.ptr id ar off]:=by
 unfold wF at h;split at h
 ·rw[h]
 ·cases h
mutual
theorem XY:∀(a:dn U) (x:KV U) (v:a.den),Fk K a x=some v->x.pv=kS a v
 | .ty T,x,v,h=>by
  rw[Fk]at h;rw[kS];split at h
  ·rename_i ha;obtain⟨cs,rfl,h⟩:=BX h;rw[KV.pv,KV.cv,Hf h,gF,ha]
  ·rename_i ha;have:=Hf h;rw[gF,ha,<-this];rfl
 | .cz f cs,x,v,h=>by
  rw[Fk]at h;rw[kS];obtain⟨caps,rfl,h'⟩:=xI h;rw[KV.pv,KV.cv,xd cs caps v h']
 | .ref a,x,v,h=>by
  rw[Fk]at h;rw[kS];obtain⟨cells,rfl,h⟩:=HZ h;rw[KV.pv,KV.cv,Cm a cells v h]
 | .agg cs,x,v,h=>by
  rw[Fk]at h;rw[kS];obtain⟨cells,rfl,h⟩:=BX h;rw[KV.pv,KV.cv,xd cs cells v h]
theorem Cm:∀(a:dn U) (cs:List (KV U)) (v:a.den),xR K a cs=some v->cs.map KV.pv=ni a v
 | .ty T,cs,v,h=>by rw[xR]at h;rw[ni];exact Hf h
 | .cz f cs,cells,v,h=>by
  rw[xR]at h;rw[ni];obtain⟨caps,hh,h⟩:=xI h;rw[IP hh,QD,QO,KV.pv,KV.cv,xd cs caps v h]
 | .ref a,cells,v,h=>by
  rw[xR]at h;rw[ni];obtain⟨cells',hh,h⟩:=HZ h;rw[K9 hh,QD,QO,KV.pv,KV.cv,Cm a cells' v h]
 | .agg cs,cells,v,h=>by
  rw[xR]at h;rw[ni];exact xd cs cells v h
theorem xd:∀(A_s:List (dn U)) (xs:List (KV U)) (v:dZ A_s),xe K A_s xs=some v->xs.map KV.pv=fM A_s v
 |[],xs,v,h=>by
  rw[xe]at h;rw[fM,H2 h];rfl
 |a::l,xs,v,h=>by
  rw[xe]at h;rw[fM];obtain⟨x,xs,rfl,h1,h2⟩:=F5 h;rw[QD,XY a x v.1 h1,xd l xs v.2 h2]
end
mutual
theorem R3(hex:∀id,ex=some id->∀e k T xs,(S.H id).c≠ .row e k T xs):∀(a:dn U) (n:Nat) (x:KV U) (v:a.den),a.depth<=n->Hi K S ex a x=some v->fz S.st.H ex n x.pv=kS a v
 | .ty T,n,x,v,hd,h=>by
  rw[Hi]at h;rw[kS];rw[dn.depth]at hd;obtain⟨m,rfl⟩:∃m,n=m+2:=⟨n - 2,by omega⟩
  exact GB hex m h
 | .cz f cs,n,x,v,hd,h=>by
  rw[Hi]at h;rw[kS];rw[dn.depth]at hd;obtain⟨m,rfl⟩:∃m,n=m+1:=⟨n - 1,by omega⟩
  obtain⟨caps,rfl,h'⟩:=xI h;rw[KV.pv,KV.cv,fz,jW hex cs m caps v (by omega) h']
 | .ref a,n,x,v,hd,h=>by
  rw[Hi]at h;rw[kS];rw[dn.depth]at hd;obtain⟨m,rfl⟩:∃m,n=m+1:=⟨n - 1,by omega⟩
  rcases H0 h with⟨cells,rfl,h⟩|⟨id,ar,cells,rfl,hex2,hver,hc,h⟩
  ·rw[KV.pv,KV.cv,Cm a cells v h];simp[fz,PV.closed]
  ·have hne:¬(some id=ex\/(S.st.H id).ar≠ar):=by
    rintro(h1|h1)
    ·rw[<-h1]at hex2;simp[Tz]at hex2
    ·exact h1 hver
   have hcp:(S.st.H id).c= .box (cells.map KV.pv):=by simp[aS.st,cV.pv,hc,dz.pv]
   simp only[KV.pv,fz];rw[Qs hne,hcp];simp only[List.drop_zero];rw[R0 hex a m cells v (by omega) h]
 | .agg cs,n,x,v,hd,h=>by
  rw[Hi]at h;rw[kS];rw[dn.depth]at hd;obtain⟨m,rfl⟩:∃m,n=m+1:=⟨n - 1,by omega⟩
  obtain⟨caps,rfl,h'⟩:=BX h;rw[KV.pv,KV.cv,fz,jW hex cs m caps v (by omega) h']
theorem R0(hex:∀id,ex=some id->∀e k T xs,(S.H id).c≠ .row e k T xs):∀(a:dn U) (n:Nat) (cs:List (KV U)) (v:a.den),a.depth<=n->Hh K S ex a cs=some v->(cs.map KV.pv).map (fz S.st.H ex n)=ni a v
 | .ty T,n,cs,v,hd,h=>by
  rw[Hh]at h;rw[ni];rw[dn.depth]at hd;obtain⟨m,rfl⟩:∃m,n=m+1:=⟨n - 1,by omega⟩
  exact Hl hex m (K.kH _ _ _ _ h) K
 | .cz f cs,n,cells,v,hd,h=>by
  rw[Hh]at h;rw[ni];rw[dn.depth]at hd;obtain⟨m,rfl⟩:∃m,n=m+1:=⟨n - 1,by omega⟩
  obtain⟨caps,hh,h⟩:=xI h;rw[IP hh,QD,QO,QD,QO,KV.pv,KV.cv,fz,jW hex cs m caps v (by omega) h]
 | .ref a,n,cells,v,hd,h=>by
  rw[Hh]at h;rw[ni];rw[dn.depth]at hd;obtain⟨m,rfl⟩:∃m,n=m+1:=⟨n - 1,by omega⟩
  rcases H0 h with⟨cells',hh,h⟩|⟨id,ar,cells',hh,hex2,hver,hc,h⟩
  ·rw[K9 hh,QD,QO,KV.pv,KV.cv,Cm a cells' v h];simp[fz,PV.closed]
  ·have hne:¬(some id=ex\/(S.st.H id).ar≠ar):=by
    rintro(h1|h1)
    ·rw[<-h1]at hex2;simp[Tz]at hex2
    ·exact h1 hver
   have hcp:(S.st.H id).c= .box (cells'.map KV.pv):=by simp[aS.st,cV.pv,hc,dz.pv]
   rw[VP hh];simp only[QD,QO,KV.pv,fz];rw[Qs hne,hcp];simp only[List.drop_zero];rw[R0 hex a m cells' v (by omega) h]
 | .agg cs,n,cells,v,hd,h=>by
  rw[Hh]at h;rw[ni];rw[dn.depth]at hd;exact jW hex cs n cells v (by omega) h
theorem jW(hex:∀id,ex=some id->∀e k T xs,(S.H id).c≠ .row e k T xs):∀(A_s:List (dn U)) (n:Nat) (xs:List (KV U)) (v:dZ A_s),lT A_s<=n->nU K S ex A_s xs=some v->(xs.map KV.pv).map (fz S.st.H ex n)=fM A_s v
 |[],n,xs,v,hd,h=>by
  rw[nU]at h;rw[fM,H2 h];rfl
 |a::l,n,xs,v,hd,h=>by
  rw[nU]at h;rw[fM];rw[lT]at hd;obtain⟨x,xs,rfl,h1,h2⟩:=F5 h;rw[QD,QD,R3 hex a n x v.1 (by omega) h1,jW hex l n xs v.2 (by omega) h2]
end
theorem o4{xs:List (KV U)}{ys:List PV}(h:gn mf xs ys):(xs.map KV.pv).map nz=ys/\xs.all KV.closed=true:=by
 induction h with
 |nil=>exact⟨rfl,rfl⟩
 |cons h _ ih=>
  obtain⟨h1,h2⟩:=ih;simp only[QD,Qq69,h1,h2,Bool.and_true]
  cases h with
  |own _ _ _ _ h=>cases h
  |_=>simp[KV.pv,nz,KV.closed]
def aS.J4(S:aS U)(id ar:Nat):aS U:={env:=S.env,H:=fE S.H id ⟨ar,.dead⟩,N:=S.N}
theorem YN{H H':Nat->fc}{ex:Option Nat}(h:∀j,some j≠ex->H' j=H j):∀(n:Nat) (y:PV),fz H' ex n y=fz H ex n y
 |0,y=>by simp only[fz]
 |n+1,y=>by
  have hm:fz H' ex n=fz H ex n:=funext (YN h n)
  cases y with
  |own id ar=>
   simp only[fz,hm]
   by_cases h0:some id=ex
   ·rw[Qr (.inl h0),Qr (.inl h0)]
   ·rw[h id h0]
  |ptr id ar off=>
   simp only[fz,hm]
   by_cases h0:some id=ex
   ·rw[Qr (.inl h0),Qr (.inl h0)]
   ·rw[h id h0]
  |agg cs=>simp only[fz,hm]
  |cX cs=>simp only[fz,hm]
  |cz f cs=>simp only[fz,hm]
  |_=>simp only[fz]
theorem RQ(S:aS U)(id ar n:Nat)(y:PV):fz (S.J4 id ar).st.H (some id) n y=fz S.st.H (some id) n y:=by
 refine YN (fun j hj=> ?_) n y
 have:j≠id:=fun e=>hj (by rw[e])
 simp only[aS.J4,aS.st,cH,cu _ _ this]
theorem Og(S:aS U)(id ar:Nat):∀j,some id=some j->∀e k T xs,((S.J4 id ar).H j).c≠ .row e k T xs:=by
 intro j hj e k T xs;injection hj with hj
 subst hj;simp only[aS.J4,cH,ca];intro h;cases h
inductive dk (U:TU) where
 |rw(f:FuncId) (e k:Nat) (T:U.Ty) (A_s:List (dn U)) (rs:nn U) (F:List (U.den T)->dZ A_s->Option (rs.den×List (U.den T)))
 |cw (f:FuncId) (e k:Nat) (T:U.Ty) (A_s:List (dn U)) (F:List (U.den T)->dZ A_s->Option (List (U.den T)))
 |fw (f:FuncId) (A_s:List (dn U)) (e k:Nat) (T:U.Ty) (F:dZ A_s->Option (List (U.den T)))
 |fn (f:FuncId) (A_s:List (dn U)) (rs:nn U) (F:dZ A_s->Option rs.den)
 |rc (f:FuncId) (pos:Nat) (R:U.Ty) (A_s:List (dn U)) (rs:nn U) (F:U.den R->dZ A_s->Option (rs.den×U.den R))
 |nw (f:FuncId) (A_s:List (dn U)) (R:U.Ty) (F:dZ A_s->Option (U.den R))
 |ro (f:FuncId) (pos:Nat) (R:U.Ty) (A_s:List (dn U)) (rs:nn U) (F:U.den R->dZ A_s->Option (rs.den×U.den R))
 |r2 (f:FuncId) (R1 R2:U.Ty) (F:U.den R1->U.den R2->Option (U.den R1×U.den R2))
 |pr (f g:FuncId) (A_s:List (dn U)) (e k:Nat) (T:U.Ty) (F:dZ A_s->Option (List (U.den T)))
def dk.Sound(P:Program):dk U->Prop
 | .rw f e k T A_s rs F=>Enters P f/\∀xs a r ys,F xs a=some (r,ys)->Ym P f e k (xs.map (U.pv T)) (fM A_s a) (sb rs r) (ys.map (U.pv T))
 | .cw f e k T A_s F=>Enters P f/\∀xs a ys,F xs a=some ys->Yn P f e k (xs.map (U.pv T)) (fM A_s a) (ys.map (U.pv T))
 | .fw f A_s e k T F=>Enters P f/\∀a ys,F a=some ys->Uf P f (fM A_s a) e k (ys.map (U.pv T))
 | .fn f A_s rs F=>Enters P f/\∀a r,F a=some r->Bw P f false [] (fM A_s a) (sb rs r) []
 | .rc f pos R A_s rs F=>Enters P f/\∀s a r s',F s a=some (r,s')->wX P f pos true (U.pv R s) (fM A_s a) (sb rs r) (U.pv R s')
 | .ro f pos R A_s rs F=>Enters P f/\∀s a r s',F s a=some (r,s')->s'=s/\wX P f pos true (U.pv R s) (fM A_s a) (sb rs r) (U.pv R s')
 | .nw f A_s R F=>Enters P f/\∀a s,F a=some s->Ue P f (fM A_s a) (U.pv R s)
 | .r2 f R1 R2 F=>Enters P f/\∀s t s' t',F s t=some (s',t')->Ug P f (U.pv R1 s) (U.pv R2 t) (U.pv R1 s') (U.pv R2 t')
 | .pr f g A_s e k T F=>(Enters P f/\Enters P g)/\∀a ys,F a=some ys->Ud P f g (fM A_s a) e k (ys.map (U.pv T))
def tN(P:Program):List (dk U)->Prop
 |[]=>True
 |f::l=>f.Sound P/\tN P l
theorem Ok{y:PV}(h:y.fp=true):y.closed=true:=by
 cases y<;>first|rfl|cases h
open Classical in
 def rH(recv:Bool)(pos:Nat)(fresh ro:Bool)(cs args:List PV)(r:PV)(cs':List PV):Model:=
 {recv:=recv,pos:=pos,fresh:=fresh,m:=fun c a=>if c=cs/\a=args then some (r,cs')else none,rk:= .no,ro:=ro,rm:=fun _ _=>none}
open Classical in
 def xH(rk:RK)(es:List (List PV))(args:List PV)(r:PV)(es':List (List PV)):Model:=
 {recv:=false,pos:=0,fresh:=false,m:=fun _ _=>none,rk:=rk,ro:=false,rm:=fun c a=>if c=es/\a=args then some (r,es')else none}
 def sG(f:FuncId)(m:Model):nk:=fun g=>if g=f then some m else none
theorem qz{P:Program}{f:FuncId}{m:Model}(h:Wr P f m):nW P (sG f m):=by
 intro g m' hg;unfold sG at hg;split at hg
 ·rename_i e;subst e;injection hg with hg;subst hg;exact h
 ·cases hg
theorem qA(f:FuncId)(m:Model):sG f m f=some m:=Qr rfl
def aS.mL(S:aS U)(id ar:Nat):Option (List (KV U)):=
 match Nat.beq (S.H id).ar ar with
 |true=>match(S.H id).c with
  | .box cs=>some cs
  |_=>none
 |false=>none
theorem xg{id ar:Nat}{cs:List (KV U)}(h:S.mL id ar=some cs):(S.H id).ar=ar/\(S.H id).c= .box cs:=by
 unfold aS.mL at h;split at h
 ·rename_i hv;split at h
  ·rename_i hc;injection h with h;subst h;exact⟨QF hv,hc⟩
  ·cases h
 ·cases h
structure Yj (U:TU) where
 e:Nat
 k:Nat
 T:U.Ty
 xs:List (U.den T)
def aS.row?(S:aS U)(id ar:Nat):Option (Yj U):=
 match Nat.beq (S.H id).ar ar with
 |true=>match(S.H id).c with
  | .row e k T xs=>some ⟨e,k,T,xs⟩
  |_=>none
 |false=>none
theorem Ds{id ar:Nat}{r:Yj U}(h:S.row? id ar=some r):(S.H id).ar=ar/\(S.H id).c= .row r.e r.k r.T r.xs:=by
 unfold aS.row? at h;split at h
 ·rename_i hv;split at h
  ·rename_i hc;injection h with h;subst h;exact⟨QF hv,hc⟩
  ·cases h
 ·cases h
theorem lz{id ar:Nat}{r:Yj U}(h:S.row? id ar=some r):(S.st.H id).ar=ar/\(S.st.H id).c= .row r.e r.k (r.xs.map (U.pv r.T)):=by
 obtain⟨h1,h2⟩:=Ds h;exact⟨h1,by simp[aS.st,cV.pv,h2,dz.pv]⟩
structure acN (U:TU) where
 e:Nat
 k:Nat
 es:List (List (KV U))
def aS.MY(S:aS U)(id ar:Nat):Option (acN U):=
 match Nat.beq (S.H id).ar ar with
 |true=>match(S.H id).c with
  | .raw e k es=>some ⟨e,k,es⟩
  |_=>none
 |false=>none
theorem MX{id ar:Nat}{r:acN U}(h:S.MY id ar=some r):(S.st.H id).ar=ar/\(S.st.H id).c= .row r.e r.k (r.es.map fun c=>c.map KV.pv):=by
 unfold aS.MY at h;split at h
 ·rename_i hv;split at h
  ·rename_i hc;injection h with h
   subst h;exact⟨QF hv,by simp[aS.st,cV.pv,hc,dz.pv]⟩
  ·cases h
 ·cases h
def Ml{α:Type}(S:aS U)(e k:Nat)(T:U.Ty)(args:List (KV U))(j:Nat->Nat->List (U.den T)->List (KV U)->Option α):Option α:=
 match args with
 | .own id ar::rest=>(match S.row? id ar with
  |some r=>(match Nat.beq r.e e&&Nat.beq r.k k with
   |true=>(match sY r.T T r.xs with|some xs=>j id ar xs rest|none=>none)
   |false=>none)
  |none=>none)
 |_=>none
theorem HY{α:Type}{e k:Nat}{T:U.Ty}{args:List (KV U)}{j:Nat->Nat->List (U.den T)->List (KV U)->Option α}{r:α}(h:Ml S e k T args j=some r):
  ∃id ar xs rest,args= .own id ar::rest/\(S.H id).ar=ar/\(S.H id).c= .row e k T xs/\j id ar xs rest=some r:=by
 unfold Ml at h;split at h
 ·rename_i id ar rest;split at h
  ·rename_i rr hr;obtain⟨h1,h2⟩:=Ds hr;split at h
   ·rename_i hek;rw[Qm]at hek;split at h
    ·rename_i xs hxs;obtain⟨eT,rfl⟩:=nc hxs;obtain⟨re,rk,rT,rxs⟩:=rr;simp only at eT h2 hek;subst eT;exact⟨id,ar,_,rest,rfl,h1,by rw[h2,QF hek.1,QF hek.2],h⟩
    ·cases h
   ·cases h
  ·cases h
 ·cases h
theorem yA(K:TK U)(T:U.Ty)(xs:List (U.den T)):yB (xs.map (U.pv T))=true:=by
 refine QH.2 fun u hu=> ?_
 obtain⟨x,_,rfl⟩:=QP.1 hu;exact QH.2 fun y hy=>Ok (K.fp T x y hy)
theorem BU(K:TK U){T:U.Ty}(hp:U.plain T=true)(xs:List (U.den T)):yz (xs.map (U.pv T))=true:=by
 refine QH.2 fun u hu=> ?_
 obtain⟨x,_,rfl⟩:=QP.1 hu;exact QH.2 fun y hy=>K.plain T hp x y hy
variable (K)
def iB{ρ:Type}(nid:Nat)(S:aS U)(f:FuncId)(args:List (KV U))(k:KV U->Option (Nat×cV U)->Option ρ):List (dk U)->Option ρ
 |[]=>none
 | .r2 ..::Γ| .pr ..::Γ=>iB nid S f args k Γ
 | .rw g e kk T A_s rs F::Γ=>match Nat.beq f g with
  |true=>Ml S e kk T args fun id ar xs rest=>(match nU K (S.J4 id ar) (some id) A_s rest with
   |some a=>(match(rs.plain||rest.all KV.bB)&&(U.plain T||rest.all KV.bB)&&(rs.ok&&Nat.ble (lT A_s) 9)with
    |true=>(F xs a).bind fun p=>k (MR K rs p.1) (some (id,⟨ar,.row e kk T p.2⟩))
    |false=>none)
   |none=>iB nid S f args k Γ)
  |false=>iB nid S f args k Γ
 | .cw g e kk T A_s F::Γ=>match Nat.beq f g with
  |true=>Ml S e kk T args fun id ar xs rest=>(match nU K (S.J4 id ar) (some id) A_s rest with
   |some a=>(match(U.plain T||rest.all KV.bB)&&Nat.ble (lT A_s) 9 with
    |true=>(F xs a).bind fun ys=>k (.own id (ar+1)) (some (id,⟨ar+1,.row e kk T ys⟩))
    |false=>none)
   |none=>iB nid S f args k Γ)
  |false=>iB nid S f args k Γ
 | .fw g A_s e kk T F::Γ=>match Nat.beq f g with
  |true=>(match nU K S none A_s args with
   |some a=>(match(U.plain T||args.all KV.bB)&&Nat.ble (lT A_s) 9 with
    |true=>(F a).bind fun ys=>k (.own nid ((S.H nid).ar+1)) (some (nid,⟨(S.H nid).ar+1,.row e kk T ys⟩))
    |false=>none)
   |none=>iB nid S f args k Γ)
  |false=>iB nid S f args k Γ
 | .fn g A_s rs F::Γ=>match Nat.beq f g with
  |true=>(match nU K S none A_s args with
   |some a=>(match(rs.plain||args.all KV.bB)&&(rs.ok&&Nat.ble (lT A_s) 9)with
    |true=>(F a).bind fun r=>k (MR K rs r) none
    |false=>none)
   |none=>iB nid S f args k Γ)
  |false=>iB nid S f args k Γ
 | .rc g pos R A_s rs F::Γ=>match Nat.beq f g with
  |true=>(match args[pos]? with
   |some (.ptr id ar 0)=>(match S.mL id ar with
    |some cs=>(match K.dec R mf cs with
     |some s=>(match nU K S (some id) A_s (cutAt pos args)with
      |some a=>(match((rs.plain&&U.plain R)||(cutAt pos args).all KV.bB)&&(rs.ok&&Nat.ble (lT A_s) 9)with
       |true=>(F s a).bind fun p=>k (MR K rs p.1) (some (id,⟨ar,.box (K.fD R p.2)⟩))
       |false=>none)
      |none=>iB nid S f args k Γ)
     |none=>none)
    |none=>none)
   |_=>none)
  |false=>iB nid S f args k Γ
 | .ro g pos R A_s rs F::Γ=>match Nat.beq f g with
  |true=>(match args[pos]? with
   |some (.ptr id ar 0)=>(match S.mL id ar with
    |some cs=>(match Cl K R cs with
     |some s=>(match nU K S (some id) A_s (cutAt pos args)with
      |some a=>(match((rs.plain&&U.plain R)||(cutAt pos args).all KV.bB)&&(rs.ok&&Nat.ble (lT A_s) 9)with
       |true=>(F s a).bind fun p=>k (MR K rs p.1) none
       |false=>none)
      |none=>iB nid S f args k Γ)
     |none=>none)
    |none=>none)
   |_=>none)
  |false=>iB nid S f args k Γ
 | .nw g A_s R F::Γ=>match Nat.beq f g with
  |true=>(match nU K S none A_s args with
   |some a=>(match(U.plain R||args.all KV.bB)&&Nat.ble (lT A_s) 9 with
    |true=>(F a).bind fun s=>k (.ptr nid ((S.H nid).ar+1) 0) (some (nid,⟨(S.H nid).ar+1,.box (K.fD R s)⟩))
    |false=>none)
   |none=>iB nid S f args k Γ)
  |false=>iB nid S f args k Γ
variable {K}
theorem ru{T:U.Ty}(K:TK U)(v:U.den T)(ha:U.agg T=false):∃y,gF T v=y/\y∈U.pv T v:=by
 have h1:=K.len T v;rw[K.one T ha]at h1
 cases hq:U.pv T v with
 |nil=>rw[hq]at h1;cases h1
 |cons y l=>exact⟨y,by rw[gF,ha,hq];rfl,Qx⟩
theorem tP{T:U.Ty}(v:U.den T)(ha:U.agg T=true):gF T v= .agg (U.pv T v):=by rw[gF,ha]
theorem M8{y:PV}(h:y.plain=true):y.mV=true:=by
 cases y<;>first|exact h|cases h
theorem hO{y:PV}(h:y.fp=true):y.closed=true:=by
 cases y<;>first|rfl|cases h
theorem Oj{y:PV}(h:y.fp=true):y.bB=true:=by
 cases y<;>first|rfl|cases h
theorem FW(K:TK U){T:U.Ty}(hp:U.plain T=true)(v:U.den T):(gF T v).mV=true:=by
 cases ha:U.agg T with
 |true=>rw[tP v ha];exact QH.2 fun y hy=>K.plain T hp v y hy
 |false=>obtain⟨y,h1,h2⟩:=ru K v ha;rw[h1];exact M8 (K.plain T hp v y h2)
theorem xl{T:U.Ty}(K:TK U)(v:U.den T):(gF T v).bB=true:=by
 cases ha:U.agg T with
 |true=>rw[tP v ha];exact QH.2 fun y hy=>hO (K.fp T v y hy)
 |false=>obtain⟨y,h1,h2⟩:=ru K v ha;rw[h1];exact Oj (K.fp T v y h2)
theorem Hu(K:TK U):∀(Ts:List U.Ty) (v:Cx U Ts),Ts.all U.plain=true->(Al Ts v).all PV.mV=true
 |[],v,_=>rfl
 |T::l,v,h=>by
  rw[Qq69,Qm]at h;rw[Al,Qq69,FW K h.1 v.1,Hu K l v.2 h.2];rfl
theorem Df(K:TK U):∀(Ts:List U.Ty) (v:Cx U Ts),(Al Ts v).all PV.bB=true
 |[],v=>rfl
 |T::l,v=>by rw[Al,Qq69,xl K v.1,Df K l v.2];rfl
theorem Vc{y:PV}(h:y.mV=true):y.qu=true:=by
 cases y<;>first|exact h|cases h
theorem CB{T:U.Ty}(K:TK U)(v:U.den T)(cs:List PV):gF T v≠ .cX cs:=by
 intro h
 cases ha:U.agg T with
 |true=>rw[tP v ha]at h;cases h
 |false=>obtain⟨y,h1,h2⟩:=ru K v ha;have h3:=K.fp T v y h2;rw[<-h1,h]at h3;cases h3
theorem wx(K:TK U):∀(r:nn U) (v:r.den),r.plain=true->(sb r v).qu=true
 | .one T,v,h=>Vc (FW K h v)
 | .many Ts,v,h=>Hu K Ts v h
 | .fn _,_,h=>by cases h
theorem Lv:∀(A_s:List (dn U)) (v:dZ A_s),A_s.all dn.YD=true->(fM A_s v).all PV.closed=true
 |[],_,_=>by rw[fM];rfl
 |a::l,v,h=>by
  rw[Qq69,Qm]at h;rw[fM,Qq69,Lv l v.2 h.2,Bool.and_true]
  cases a with
  |ref a=>rw[kS];rfl
  |ty T=>cases h.1
  |cz f cs=>cases h.1
  |agg cs=>cases h.1
theorem ud(K:TK U):∀(r:nn U) (v:r.den),r.ok=true->(sb r v).rO=true
 | .fn (.cz f cs),v,h=>by
  show(kS (.cz f cs) v).rO=true;rw[kS];exact Lv cs v h
 | .fn (.ty _),v,h=>by cases h
 | .fn (.ref _),v,h=>by cases h
 | .fn (.agg _),v,h=>by cases h
 | .one T,v,_=>by
  show(gF T v).rO=true;have h1:=xl K v;have h2:=CB K v;generalize gF T v=y at h1 h2;cases y<;>first|exact h1|exact absurd rfl (h2 _)
 | .many Ts,v,_=>Df K Ts v
theorem jX(l:List (KV U)):(l.map KV.pv).all PV.bB=l.all KV.bB:=by
 induction l with
 |nil=>rfl
 |cons x l ih=>simp only[QD,Qq69,I6,ih]
theorem dF{P:Program}{ρ:Type}{nid:Nat}{f:FuncId}{args:List (KV U)}{k:KV U->Option (Nat×cV U)->Option ρ}{r:ρ}:∀{Γ:List (dk U)},tN P Γ->iB K nid S f args k Γ=some r->
  ∃Γ' x wr,nW P Γ'/\kJ Γ' nid S.st f (args.map KV.pv)=some (x.pv,wr.map iA)/\k x wr=some r
 |[],_,h=>by cases h
 | .r2 ..::Γ,hΓ,h=>dF (Γ:=Γ) hΓ.2 h
 | .pr ..::Γ,hΓ,h=>dF (Γ:=Γ) hΓ.2 h
 | .rw g e kk T A_s rs F::Γ,hΓ,h=>by
  simp only[iB]at h;split at h
  ·rename_i hg;have hg:=QF hg;subst hg;obtain⟨id,ar,xs,rest,rfl,hver,hc,h'⟩:=HY h;split at h'
   ·rename_i a ha;split at h'
    ·rename_i hcl;simp only[Qc]at h';obtain⟨⟨v,ys⟩,hv,hk⟩:=h';rw[Qm,Qm,Qm]at hcl;obtain⟨⟨hcl1,hcl2⟩,hrok,hdep⟩:=hcl;have hfz:=jW (ex:=some id) (Og S id ar) A_s 9 rest a (QG hdep) ha
     have hfz':(rest.map KV.pv).map (fz S.st.H (some id) 9)=fM A_s a:=by
      rw[<-hfz];exact Qq70 fun y _=>(RQ S id ar 9 y).symm
     obtain⟨hen,hcon⟩:=hΓ.1;refine⟨sG f (xH (.Wh e kk) (xs.map (U.pv T)) (fM A_s a) (sb rs v) (ys.map (U.pv T))),MR K rs v,some (id,⟨ar,.row e kk T ys⟩),qz ⟨hen,(fun _ cs as' r' cs' hm=>by cases hm),(fun hq=>by cases hq),fun es as' r' es' hm=> ?_,(fun hq=>by cases hq)⟩,?_,hk⟩
     ·simp only[xH]at hm;split at hm
      ·rename_i he;injection hm with hm
       injection hm with h1 h2
       subst h1 h2;obtain⟨rfl,rfl⟩:=he;exact hcon xs a v ys hv
      ·cases hm
     ·have hv1:(S.st.H id).ar=ar:=hver;have hc1:(S.st.H id).c= .row e kk (xs.map (U.pv T)):=by simp[aS.st,cV.pv,hc,dz.pv]
      simp only[QD,KV.pv,kJ,qA,xH,wc,hv1,hc1,Qt,yA K T xs,and_self,hfz',HJ,Qe,iA,cV.pv,dz.pv];rw[Qr];rw[jX,ud K rs v hrok,yA K T ys];simp only[Qn]at hcl1 hcl2;rcases hcl1 with hcl1|hcl1
      ·rw[wx K rs v hcl1];rcases hcl2 with hcl2|hcl2
       ·rw[BU K hcl2 ys];rfl
       ·rw[hcl2];simp
      ·rw[hcl1];simp
    ·cases h'
   ·exact dF hΓ.2 h'
  ·exact dF hΓ.2 h
 | .cw g e kk T A_s F::Γ,hΓ,h=>by
  simp only[iB]at h;split at h
  ·rename_i hg;have hg:=QF hg;subst hg;obtain⟨id,ar,xs,rest,rfl,hver,hc,h'⟩:=HY h;split at h'
   ·rename_i a ha;split at h'
    ·rename_i hcl;simp only[Qc]at h';obtain⟨ys,hv,hk⟩:=h';rw[Qm]at hcl;obtain⟨hcl2,hdep⟩:=hcl;have hfz:=jW (ex:=some id) (Og S id ar) A_s 9 rest a (QG hdep) ha
     have hfz':(rest.map KV.pv).map (fz S.st.H (some id) 9)=fM A_s a:=by
      rw[<-hfz];exact Qq70 fun y _=>(RQ S id ar 9 y).symm
     obtain⟨hen,hcon⟩:=hΓ.1;refine⟨sG f (xH (.Lq e kk) (xs.map (U.pv T)) (fM A_s a) .any (ys.map (U.pv T))),.own id (ar+1),some (id,⟨ar+1,.row e kk T ys⟩),qz ⟨hen,(fun _ cs as' r' cs' hm=>by cases hm),(fun hq=>by cases hq),fun es as' r' es' hm=> ?_,(fun hq=>by cases hq)⟩,?_,hk⟩
     ·simp only[xH]at hm;split at hm
      ·rename_i he;injection hm with hm
       injection hm with h1 h2
       subst h1 h2;obtain⟨rfl,rfl⟩:=he;exact hcon xs a ys hv
      ·cases hm
     ·have hv1:(S.st.H id).ar=ar:=hver;have hc1:(S.st.H id).c= .row e kk (xs.map (U.pv T)):=by simp[aS.st,cV.pv,hc,dz.pv]
      simp only[QD,KV.pv,kJ,qA,xH,wb,hv1,hc1,Qt,yA K T xs,and_self,hfz',Qe,iA,cV.pv,dz.pv];rw[Qr];rw[jX,yA K T ys];simp only[Qn]at hcl2;rcases hcl2 with hcl2|hcl2
      ·rw[BU K hcl2 ys];rfl
      ·rw[hcl2];simp
    ·cases h'
   ·exact dF hΓ.2 h'
  ·exact dF hΓ.2 h
 | .fw g A_s e kk T F::Γ,hΓ,h=>by
  simp only[iB]at h;split at h
  ·rename_i hg;have hg:=QF hg;subst hg;split at h
   ·rename_i a ha;split at h
    ·rename_i hcl;simp only[Qc]at h;obtain⟨ys,hv,hk⟩:=h;rw[Qm]at hcl;obtain⟨hcl2,hdep⟩:=hcl;have hfz:=jW (ex:=none) (fun id h=>by cases h) A_s 9 args a (QG hdep) ha
     obtain⟨hen,hcon⟩:=hΓ.1;refine⟨sG f (xH (.fre e kk) [] (fM A_s a) .any (ys.map (U.pv T))),.own nid ((S.H nid).ar+1),some (nid,⟨(S.H nid).ar+1,.row e kk T ys⟩),qz ⟨hen,(fun _ cs as' r' cs' hm=>by cases hm),(fun hq=>by cases hq),fun as' r' es' hm=> ?_,(fun hq=>by cases hq)⟩,?_,hk⟩
     ·simp only[xH]at hm;split at hm
      ·rename_i he;injection hm with hm
       injection hm with h1 h2
       subst h1 h2;obtain⟨_,rfl⟩:=he;exact hcon a ys hv
      ·cases hm
     ·simp only[kJ,qA,xH,Bn,hfz,and_self,Qt,Qe,iA,cV.pv,dz.pv,KV.pv];rw[Qr]
      ·rfl
      rw[jX,yA K T ys];simp only[Qn]at hcl2;rcases hcl2 with hcl2|hcl2
      ·rw[BU K hcl2 ys];rfl
      ·rw[hcl2];simp
    ·cases h
   ·exact dF hΓ.2 h
  ·exact dF hΓ.2 h
 | .fn g A_s rs F::Γ,hΓ,h=>by
  simp only[iB]at h;split at h
  ·rename_i hg;have hg:=QF hg;subst hg;split at h
   ·rename_i a ha;split at h
    ·rename_i hcl;simp only[Qc]at h;obtain⟨v,hv,hk⟩:=h;rw[Qm,Qm]at hcl;obtain⟨hcl,hrok,hdep⟩:=hcl;have hfz:=jW (ex:=none) (fun id h=>by cases h) A_s 9 args a (QG hdep) ha
     obtain⟨hen,hcon⟩:=hΓ.1;refine⟨sG f (rH false 0 false false [] (fM A_s a) (sb rs v) []),_,none,qz ⟨hen,fun _ cs as' r' cs' hm=> ?_,(fun hq=>by cases hq),trivial,(fun hq=>by cases hq)⟩,?_,hk⟩
     ·simp only[rH]at hm;split at hm
      ·rename_i he;injection hm with hm
       injection hm with h1 h2
       subst h1 h2;obtain⟨rfl,rfl⟩:=he;exact hcon a v hv
      ·cases hm
     ·simp only[kJ,qA,rH,Qq,Qu,hfz,and_self,Qt,HJ,Qq64];rw[Qr];rw[jX,ud K rs v hrok];simp only[Qn]at hcl;rcases hcl with hcl|hcl
      ·rw[wx K rs v hcl];rfl
      ·rw[hcl];simp
    ·cases h
   ·obtain⟨Γ',x,wr,h1,h2,h3⟩:=dF hΓ.2 h;exact⟨Γ',x,wr,h1,h2,h3⟩
  ·exact dF hΓ.2 h
 | .rc g pos R A_s rs F::Γ,hΓ,h=>by
  simp only[iB]at h;split at h
  ·rename_i hg;have hg:=QF hg;subst hg;split at h
   ·rename_i id ar hpos;have hpos:args[pos]?=some (.ptr id ar 0):=hpos;generalize hrest:cutAt pos args=rest at h;split at h
    ·rename_i cs hbox;split at h
     ·rename_i s hs;split at h
      ·rename_i a ha;split at h
       ·rename_i hcl;simp only[Qc]at h;obtain⟨⟨v,s'⟩,hv,hk⟩:=h;obtain⟨hver,hc⟩:=xg hbox;rw[Qm,Qm]at hcl;obtain⟨hcl,hrok,hdep⟩:=hcl;have hfz:=jW (ex:=some id) (fun id' h=>by injection h with h;subst h;intro e k T xs hq;rw[hc]at hq;cases hq) A_s 9 rest a (QG hdep) ha
        obtain⟨hnz,hclo⟩:=o4 (K.kH _ _ _ _ hs);obtain⟨hen,hcon⟩:=hΓ.1;refine⟨sG f (rH true pos false false (U.pv R s) (fM A_s a) (sb rs v) (U.pv R s')),_,_,qz ⟨hen,fun _ cs as' r' cs' hm=> ?_,(fun hq=>by cases hq),trivial,(fun hq=>by cases hq)⟩,?_,hk⟩
        ·simp only[rH]at hm;split at hm
         ·rename_i he;injection hm with hm
          injection hm with h1 h2
          subst h1 h2;obtain⟨rfl,rfl⟩:=he;exact hcon s a v s' hv
         ·cases hm
        ·have hv1:(S.st.H id).ar=ar:=hver;have hc1:(S.st.H id).c= .box (cs.map KV.pv):=by simp[aS.st,cV.pv,hc,dz.pv]
         have hpos':(args.map KV.pv)[pos]?=some (.ptr id ar 0):=by rw[QT,hpos];rfl
         have hrest':cutAt pos (args.map KV.pv)=rest.map KV.pv:=by rw[<-hrest];simp[cutAt]
         simp only[kJ,qA,rH,Bool.false_and,Qq,Qu,Qt,hpos',hrest',hv1,hc1,iW,hclo,hnz,hfz,and_self,HJ,Qe,iA,cV.pv,dz.pv,K.mZ];rw[Qr];have hgs:(U.pv R s').all PV.closed=true:=QH.2 fun y hy=>hO (K.fp R s' y hy)
         rw[jX,ud K rs v hrok,hgs];simp only[Qn,Qm]at hcl;rcases hcl with⟨hcl1,hcl2⟩|hcl
         ·rw[wx K rs v hcl1,QH.2 fun y hy=>K.plain R hcl2 s' y hy];rfl
         ·rw[hcl];simp
       ·cases h
      ·exact dF hΓ.2 h
     ·cases h
    ·cases h
   ·cases h
  ·exact dF hΓ.2 h
 | .ro g pos R A_s rs F::Γ,hΓ,h=>by
  simp only[iB]at h;split at h
  ·rename_i hg;have hg:=QF hg;subst hg;split at h
   ·rename_i id ar hpos;have hpos:args[pos]?=some (.ptr id ar 0):=hpos;generalize hrest:cutAt pos args=rest at h;split at h
    ·rename_i cs hbox;split at h
     ·rename_i s hs;split at h
      ·rename_i a ha;split at h
       ·rename_i hcl;simp only[Qc]at h;obtain⟨⟨v,s'⟩,hv,hk⟩:=h;obtain⟨hver,hc⟩:=xg hbox;rw[Qm,Qm]at hcl;obtain⟨hcl,hrok,hdep⟩:=hcl;have hfz:=jW (ex:=some id) (fun id' h=>by injection h with h;subst h;intro e k T xs hq;rw[hc]at hq;cases hq) A_s 9 rest a (QG hdep) ha
        obtain⟨hnn,hs⟩:cs.all KV.Mp=true/\K.dec R mf cs=some s:=by
         unfold Cl at hs;split at hs
         ·rename_i hn;exact⟨hn,hs⟩
         ·cases hs
        obtain⟨hnz,hclo⟩:=o4 (K.kH _ _ _ _ hs)
        have hnnp:(cs.map KV.pv).all PV.No=true:=by
         rw[QH];intro y hy;obtain⟨x,hx,rfl⟩:=QP.1 hy;have:=QH.1 hnn x hx;cases x<;>first|rfl|cases this
        obtain⟨hen,hcon⟩:=hΓ.1;refine⟨sG f (rH true pos false true (U.pv R s) (fM A_s a) (sb rs v) (U.pv R s')),_,none,qz ⟨hen,fun _ cs as' r' cs' hm=> ?_,(fun hq=>by cases hq),trivial,fun _ cs as' r' cs' hm=> ?_⟩,?_,hk⟩
        ·simp only[rH]at hm;split at hm
         ·rename_i he;injection hm with hm
          injection hm with h1 h2
          subst h1 h2;obtain⟨rfl,rfl⟩:=he;exact(hcon s a v s' hv).2
         ·cases hm
        ·simp only[rH]at hm;split at hm
         ·rename_i he;injection hm with hm
          injection hm with h1 h2
          subst h1 h2;rw[(hcon s a v s' hv).1,he.1]
         ·cases hm
        ·have hv1:(S.st.H id).ar=ar:=hver;have hc1:(S.st.H id).c= .box (cs.map KV.pv):=by simp[aS.st,cV.pv,hc,dz.pv]
         have hpos':(args.map KV.pv)[pos]?=some (.ptr id ar 0):=by rw[QT,hpos];rfl
         have hrest':cutAt pos (args.map KV.pv)=rest.map KV.pv:=by rw[<-hrest];simp[cutAt]
         simp only[kJ,qA,rH,Qq,Qu,Qt,hpos',hrest',hv1,hc1,iW,hclo,hnz,hfz,and_self,HJ,Qq64,hnnp,Bool.and_self];rw[Qr];have hgs:(U.pv R s').all PV.closed=true:=QH.2 fun y hy=>hO (K.fp R s' y hy)
         rw[jX,ud K rs v hrok,hgs];simp only[Qn,Qm]at hcl;rcases hcl with⟨hcl1,hcl2⟩|hcl
         ·rw[wx K rs v hcl1,QH.2 fun y hy=>K.plain R hcl2 s' y hy];rfl
         ·rw[hcl];simp
       ·cases h
      ·exact dF hΓ.2 h
     ·cases h
    ·cases h
   ·cases h
  ·exact dF hΓ.2 h
 | .nw g A_s R F::Γ,hΓ,h=>by
  simp only[iB]at h;split at h
  ·rename_i hg;have hg:=QF hg;subst hg;split at h
   ·rename_i a ha;split at h
    ·rename_i hcl;simp only[Qc]at h;obtain⟨s,hs,hk⟩:=h;rw[Qm]at hcl;obtain⟨hcl,hdep⟩:=hcl;have hfz:=jW (ex:=none) (fun id h=>by cases h) A_s 9 args a (QG hdep) ha
     obtain⟨hen,hcon⟩:=hΓ.1;refine⟨sG f (rH false 0 true false [] (fM A_s a) .any (U.pv R s)),_,_,qz ⟨hen,(fun hq=>by cases hq),fun _ as' r' cs' hm=> ?_,trivial,(fun hq=>by cases hq)⟩,?_,hk⟩
     ·simp only[rH]at hm;split at hm
      ·rename_i he;injection hm with hm
       injection hm with h1 h2
       subst h1 h2;obtain⟨_,rfl⟩:=he;exact hcon a s hs
      ·cases hm
     ·simp only[kJ,qA,rH,Qt,hfz,and_self,Qe,iA,cV.pv,dz.pv,K.mZ];have hgs:(U.pv R s).all PV.closed=true:=QH.2 fun y hy=>hO (K.fp R s y hy)
      rw[Qr]
      ·rfl
      rw[jX,hgs];simp only[Qn]at hcl;rcases hcl with hcl|hcl
      ·rw[QH.2 fun y hy=>K.plain R hcl s y hy];rfl
      ·rw[hcl];simp
    ·cases h
   ·exact dF hΓ.2 h
  ·exact dF hΓ.2 h
end
end
section
def idx{α:Type}(xs:List α)(n:Int):Option α:=if 0<=n then xs[n.toNat]? else none
def aT(bytes n:Nat):Bool:=decide (n*bytes<=140737488355328)&&decide (n<=maxLen)
theorem B5{bytes n:Nat}(h:aT bytes n=true):n*bytes<=140737488355328/\n<=maxLen:=by
 simpa[aT]using h
theorem G6{α:Type}{xs:List α}{n:Int}{v:α}(h:idx xs n=some v):0<=n/\n.toNat<xs.length/\xs[n.toNat]?=some v:=by
 unfold idx at h;split at h
 ·rename_i h0;exact⟨h0,(Qw.1 h).1,h⟩
 ·cases h
section
variable {U : TU}
def DT:Option Nat->List (KV U)->Option (KV U)
 |none,cs=>(match cs with|x::_=>some x|[]=>none)
 |some n,cs=>(match Nat.ble n cs.length with|true=>some (.agg (cs.take n))|false=>none)
def AS(cs:List (KV U))(off:Nat)(xs:List (KV U)):List (KV U):=cs.take off++xs++cs.drop (off+xs.length)
def Ms(S:aS U):List (KV U)->List (Nat×Nat×bg)->Option (List (KV U))
 |cs,[]=>some cs
 |cs,(off,n,x)::rest=>
  match Nat.beq (x.cA S).cells.length n&&Nat.ble (off+n) cs.length&&(x.cA S).cells.all KV.one with
  |true=>Ms S (AS cs off (x.cA S).cells) rest
  |false=>none
def Eg(S:aS U)(k:Nat):List (List (KV U))->List (Nat×bg)->Option (List (List (KV U)))
 |es,[]=>some es
 |es,(i,x)::rest=>
  match Nat.beq (x.cA S).cells.length k&&Nat.blt i es.length&&(x.cA S).cells.all KV.one with
  |true=>Eg S k (es.set i (x.cA S).cells) rest
  |false=>none
def Mw(K:TK U)(T:U.Ty):List (List (KV U))->Option (List (U.den T))
 |[]=>some []
 |e::es=>match K.dec T mf e with
  |some v=>(match Mw K T es with|some vs=>some (v::vs)|none=>none)
  |none=>none
def X8{ρ:Type}(op:BinOp)(x y:KV U)(k:KV U->Option ρ):Option ρ:=
 match x,y with
 | .int kd a,.int kd' b=>
  match op with
  | .shl=>if b<0 then none else k (.int kd (kd.wrap (a*2 ^ (min b.toNat kd.bits))))
  | .shr=>if b<0 then none else k (.int kd (a.fdiv (2 ^ (min b.toNat kd.bits))))
  |_=>if kd=kd' then(match op with
   | .add=>k (.int kd (kd.wrap (a+b)))
   | .sub=>k (.int kd (kd.wrap (a - b)))
   | .mul=>k (.int kd (kd.wrap (a*b)))
   | .quo=>if b=0 then none else k (.int kd (kd.wrap (a.tdiv b)))
   | .rem=>if b=0 then none else k (.int kd (a.tmod b))
   | .and=>k (.int kd (kd.wrap ((BitVec.ofInt kd.bits a&&&BitVec.ofInt kd.bits b).toNat)))
   | .or=>k (.int kd (kd.wrap ((BitVec.ofInt kd.bits a|||BitVec.ofInt kd.bits b).toNat)))
   | .xor=>k (.int kd (kd.wrap ((BitVec.ofInt kd.bits a^^^BitVec.ofInt kd.bits b).toNat)))
   | .andNot=>k (.int kd (kd.wrap ((BitVec.ofInt kd.bits a&&& ~~~ BitVec.ofInt kd.bits b).toNat)))
   | .eql=>k (.bool (decide (a=b)))
   | .neq=>k (.bool (!decide (a=b)))
   | .lss=>k (.bool (decide (a<b)))
   | .leq=>k (.bool (decide (a<=b)))
   | .gtr=>k (.bool (decide (b<a)))
   | .geq=>k (.bool (decide (b<=a)))
   |_=>none)else none
 | .str a,.str b=>
  match op with
  | .eql=>k (.bool (decide (a=b)))
  | .neq=>k (.bool (!decide (a=b)))
  | .lss=>k (.bool (mA a b))
  | .leq=>k (.bool (mA a b||decide (a=b)))
  | .gtr=>k (.bool (!(mA a b||decide (a=b))))
  | .geq=>k (.bool (!mA a b))
  |_=>none
 |_,_=>none
def Cg:List LK->List (KV U)->List (KV U)->Option Bool
 |[],cs,ds=>(match cs,ds with|[],[]=>some true|_,_=>none)
 |q::ks,cs,ds=>(match q,cs,ds with
  | .i,.int k a::cs,.int l b::ds=>if k=l then(match Cg ks cs ds with|some r=>some (decide (a=b)&&r)|none=>none)else none
  | .s,.str a::cs,.str b::ds=>(match Cg ks cs ds with|some r=>some (decide (a=b)&&r)|none=>none)
  | .b,.bool a::cs,.bool b::ds=>(match Cg ks cs ds with|some r=>some (decide (a=b)&&r)|none=>none)
  |_,_,_=>none)
theorem Cf:∀{ks:List LK} {cs ds:List (KV U)} {b:Bool},Cg ks cs ds=some b->jV ks (cs.map KV.pv) (ds.map KV.pv)=some b
 |[],cs,ds,b,h=>by
  simp only[Cg]at h;split at h
  ·injection h with h;subst h;rfl
  ·cases h
 |q::ks,cs,ds,b,h=>by
  simp only[Cg]at h;split at h
  ·split at h
   ·rename_i hk;split at h
    ·rename_i r hr;injection h with h
     subst h;simp only[QD,KV.pv,jV,Qr hk,Cf hr,Qe]
    ·cases h
   ·cases h
  ·split at h
   ·rename_i r hr;injection h with h
    subst h;simp only[QD,KV.pv,jV,Cf hr,Qe]
   ·cases h
  ·split at h
   ·rename_i r hr;injection h with h
    subst h;simp only[QD,KV.pv,jV,Cf hr,Qe]
   ·cases h
  ·cases h
def aS.YO(S:aS U)(T:U.Ty)(x:KV U):Option (List (U.den T)):=OH S.lk T x
def aS.elv(S:aS U)(T:U.Ty)(x:KV U):Option (List (U.den T)):=
 match x with
 | .view id ar kk lo n=>(match S.row? id ar with
  |some r=>(match Nat.beq r.k kk with
   |true=>(match sY r.T T r.xs with|some xs=>some ((xs.drop lo).take n)|none=>none)
   |false=>none)
  |none=>none)
 |x=>S.YO T x
def aS.Xz(S:aS U):KV U->Option Nat
 | .dx=>some 0
 | .sl _ xs=>some xs.length
 | .own id ar=>(match S.row? id ar with
  |some r=>some r.xs.length
  |none=>(match S.MY id ar with|some r=>some r.es.length|none=>none))
 | .view id ar kk lo n=>(match S.row? id ar with
  |some r=>(match Nat.beq r.k kk with|true=>some ((r.xs.drop lo).take n).length|false=>none)
  |none=>none)
 |_=>none
def Aw(S:aS U):Option bg->Int->Option Int
 |none,d=>some d
 |some x,_=>(match x.cA S with| .int _ n=>some n|_=>none)
def dN(l h:Int)(n:Nat):Bool:=decide (0<=l)&&decide (l<=h)&&decide (h<=n)
def bX.cQ:bX->List bg
 | .Ga x| .box x| .AF x| .load _ x| .wH _ x| .not x| .conv _ x| .len _ x| .wA x| .AA _ x| .uC _ x
 | .Gs _ _ x=>[x]
 | .pick c x y=>[c,x,y]
 | .alloc _=>[]
 | .store _ p x=>[p,x]
 | .build _ ps=>ps.map (·.2.2)
 | .I7 _ _ _ _ ps=>ps.map (·.2)
 | .wE _ x i=>[x,i]
 | .wM _ _ x i=>[x,i]
 | .bin _ x y| .ml _ x y| .eqs _ _ x y| .Eh _ x y| .qF _ x y| .dY x y| .AH _ _ _ _ x y
 =>[x,y]
 | .call _ xs=>xs
 | .xS f xs=>f::xs
 | .cZ _ _ _ _ s x=>[s,x]
 | .Gb _ xs=>xs
 | .Gc _ xs=>xs
 | .oP _ xs=>xs
 | .Gv _ _ x y=>[x,y]
 | .H7 _ _ _ _ l c=>[l,c]
 | .Dh _ x lo hi=>x::(lo.toList++hi.toList)
def bX.du(op:bX):Bool:=op.cQ.all bg.du
variable (K : TK U)
def Bk(T:U.Ty)(kk:Nat):Nat->List (KV U)->Option (List (U.den T))
 |0,_=>some []
 |n+1,cs=>(match K.dec T mf (cs.take kk)with
  |some v=>(match Bk T kk n (cs.drop kk)with|some vs=>some (v::vs)|none=>none)
  |none=>none)
def T4(n:Option Nat)(ag:Bool)(kk:Nat):Bool:=
 match n with
 |none=> !ag&&Nat.beq kk 1
 |some m=>ag&&Nat.beq m kk
theorem Gw{T:U.Ty}{kk:Nat}:∀{n:Nat} {cs:List (KV U)} {vs:List (U.den T)},Bk K T kk n cs=some vs->vs.length=n/\∀(i:Nat) (v:U.den T),vs[i]?=some v->K.dec T mf ((cs.drop (i*kk)).take kk)=some v
 |0,cs,vs,h=>by
  rw[Bk]at h;injection h with h
  subst h;exact⟨rfl,fun i v hv=>by simp at hv⟩
 |n+1,cs,vs,h=>by
  rw[Bk]at h;split at h
  ·rename_i v0 h0;split at h
   ·rename_i vs0 h1;injection h with h
    subst h;obtain⟨h2,h3⟩:=Gw h1;refine⟨by rw[QE,h2],fun i v hv=> ?_⟩
    cases i with
    |zero=>
     simp only[List.getElem?_cons_zero,Qf]at hv;subst hv;simpa using h0
    |succ i=>
     have:=h3 i v (by simpa using hv)
     rw[List.drop_drop]at this
     rwa [Nat.succ_mul,Nat.add_comm]
   ·cases h
  ·cases h
def TX{ρ:Type}(z:Bool)(id ar e kk:Nat)(T:U.Ty)(xs:List (U.den T))(k:KV U->Option (Nat×cV U)->Option ρ):Option ρ:=
 match z with
 |false=>k (.own id ar) (some (id,⟨ar,.row e kk T xs⟩))
 |true=>k (.sl T xs) (some (id,⟨ar,.dead⟩))
def zg{α:Type}(f:α->Option UInt8):List α->Option (List UInt8)
 |[]=>some []
 |x::l=>(match f x,zg f l with
  |some b,some bs=>some (b::bs)
  |_,_=>none)
def Bo(l:List Int):Option (List UInt8):=zg byteOf l
def TN:List (KV U)->Option UInt8
 |[.int .u8 n]=>byteOf n
 |_=>none
def XG:PV->Bool
 | .int .i64 (.ofNat 0)=>true
 |_=>false
def XF:PV->Bool
 | .str s=>Nat.beq s.size 0
 |_=>false
def Xh{ρ:Type}(q:PQ)(xs:List (KV U))(k:KV U->Option ρ):Option ρ:=
 match q,xs with
 | .cy,[.str a,.str b]=>(cy a b).bind fun v=>k (.str v)
 | .ir true false,[.str s,.int _ l]=>(ir s l s.size).bind fun v=>k (.str v)
 | .ir false true,[.str s,.int _ h]=>(ir s 0 h).bind fun v=>k (.str v)
 | .ir true true,[.str s,.int _ l,.int _ h]=>(ir s l h).bind fun v=>k (.str v)
 | .YS,[.sl T xs]=>(zg (fun v=>TN (K.fD T v)) xs).bind fun l=>k (.str ⟨l.toArray⟩)
 | .Vz T,[.int kd n]=>k (.gA T (.int kd n))
 | .Vz T,[.str s]=>k (.gA T (.str s))
 | .P9 T z,[.dyn Ti Ts b n s]=>(match Nat.beq T Ti&&XG z,Nat.beq T Ts&&XF z,Nat.beq Ti Ts with
  |true,_,false=>k (.cX [.int .i64 (cond b 0 n),.bool (!b)])
  |false,true,false=>k (.cX [.str (cond b s ⟨#[]⟩),.bool b])
  |_,_,_=>none)
 | .D7 neg,[.iJ b]=>k (.bool (xor neg b))
 | .D7 neg,[.gA ..]=>k (.bool neg)
 | .neg,[.int kd n]=>k (.int kd (kd.wrap (0 - n)))
 |_,_=>none
def eG{ρ:Type}(Γ:List (dk U))(nid:Nat)(S:aS U)(op:bX)(k:KV U->Option (Nat×cV U)->Option ρ):Option ρ:=
 match op with
 | .Ga x=>k (x.cA S) none
 | .pick c x y=>(match c.cA S with
  | .bool b=>(match b with|true=>k (x.cA S) none|false=>k (y.cA S) none)
  |_=>none)
 | .box x=>(match(x.cA S).cells.all KV.one with
  |true=>k (.ptr nid ((S.H nid).ar+1) 0) (some (nid,⟨(S.H nid).ar+1,.box (x.cA S).cells⟩))
  |false=>none)
 | .AF x=>(match(x.cA S).cells.all KV.one&&(x.cA S).cells.all KV.closed with
  |true=>k (.ref (x.cA S).cells) none
  |false=>none)
 | .alloc z=>(match z.all PV.du with
  |true=>k (.ptr nid ((S.H nid).ar+1) 0) (some (nid,⟨(S.H nid).ar+1,.box (z.map KV.F7)⟩))
  |false=>none)
 | .load n p=>(match p.cA S with
  | .ptr id ar off=>(match S.mL id ar with
   |some cs=>(match DT n (cs.drop off)with|some x=>k x none|none=>none)
   |none=>none)
  | .ed id ar kk i off=>(match S.row? id ar with
   |some r=>(match Nat.beq kk r.k with
    |true=>(r.xs[i]?).bind fun v=>(match DT n ((K.fD r.T v).drop off)with|some x=>k x none|none=>none)
    |false=>none)
   |none=>(match S.MY id ar with
    |some r=>(match Nat.beq kk r.k with
     |true=>(match r.es[i]? with
      |some c=>(match DT n (c.drop off)with|some x=>k x none|none=>none)
      |none=>none)
     |false=>none)
    |none=>none))
  | .ref cs=>(match DT n cs with|some x=>k x none|none=>none)
  |_=>none)
 | .store n p x=>(match Nat.beq (x.cA S).cells.length n&&(x.cA S).cells.all KV.one with
  |true=>(match p.cA S with
   | .ptr id ar off=>(match S.mL id ar with
    |some cs=>(match Nat.ble (off+n) cs.length with
     |true=>k .undef (some (id,⟨ar,.box (AS cs off (x.cA S).cells)⟩))
     |false=>none)
    |none=>none)
   | .ed id ar kk i off=>(match S.row? id ar with
    |some r=>(match Nat.beq kk r.k&&Nat.beq (U.size r.T) r.k&&Nat.ble (off+n) (U.size r.T)with
     |true=>(r.xs[i]?).bind fun v=>(match K.dec r.T mf (AS (K.fD r.T v) off (x.cA S).cells)with
      |some v'=>k .undef (some (id,⟨ar,.row r.e r.k r.T (r.xs.set i v')⟩))
      |none=>none)
     |false=>none)
    |none=>none)
   |_=>none)
  |false=>none)
 | .build z ps=>(match z.all PV.du with
  |true=>(match Ms S (z.map KV.F7) ps with|some cs=>k (.agg cs) none|none=>none)
  |false=>none)
 | .I7 m e kk z ps=>(match K.Jn e with
  |some T=>(match Nat.beq (U.size T) kk&&z.all (fun u=>u.all PV.du)with
   |true=>(match Eg S kk (z.map fun u=>u.map KV.F7) ps with
    |some es=>(match Mw K T es with
     |some vs=>(match m with
      |false=>k (.sl T vs) none
      |true=>k (.own nid ((S.H nid).ar+1)) (some (nid,⟨(S.H nid).ar+1,.row e kk T vs⟩)))
     |none=>none)
    |none=>none)
   |false=>none)
  |none=>(match m&&z.all (fun u=>u.all PV.du)with
   |true=>(match Eg S kk (z.map fun u=>u.map KV.F7) ps with
    |some es=>(match es.all (fun c=>c.all KV.Mp)with
     |true=>k (.own nid ((S.H nid).ar+1)) (some (nid,⟨(S.H nid).ar+1,.raw e kk es⟩))
     |false=>none)
    |none=>none)
   |false=>none))
 | .wH off p=>(match p.cA S with
  | .ptr id ar o=>(match S.mL id ar with|some _=>k (.ptr id ar (o+off)) none|none=>none)
  | .ed id ar kk i o=>(match S.row? id ar with|some r=>(r.xs[i]?).bind fun _=>k (.ed id ar kk i (o+off)) none|none=>none)
  | .ref cs=>k (.ref (cs.drop off)) none
  |_=>none)
 | .wE kk x i=>(match i.cA S with
  | .int _ n=>(match x.cA S with
   | .sl T xs=>(match Nat.beq (U.size T) kk with
    |true=>(idx xs n).bind fun v=>k (.ref (K.fD T v)) none
    |false=>none)
   | .own id ar=>(match S.row? id ar with
    |some r=>(match Nat.beq kk r.k with
     |true=>(idx r.xs n).bind fun _=>k (.ed id ar kk n.toNat 0) none
     |false=>none)
    |none=>(match S.MY id ar with
     |some r=>(match n with
      | .ofNat j=>(match Nat.beq kk r.k&&Nat.blt j r.es.length with
       |true=>k (.ed id ar kk j 0) none
       |false=>none)
      |_=>none)
     |none=>none))
   | .view id ar kk' lo m=>(match S.row? id ar with
    |some r=>(match Nat.beq kk r.k&&Nat.beq kk' kk with
     |true=>(idx ((r.xs.drop lo).take m) n).bind fun _=>k (.ed id ar kk (lo+n.toNat) 0) none
     |false=>none)
    |none=>none)
   |_=>none)
  |_=>none)
 | .bin op x y=>X8 op (x.cA S) (y.cA S) fun v=>k v none
 | .ml neg x y=>(match x.cA S,y.cA S with
  | .agg [.int kd a,.str s],.agg [.int kd' b,.str t]=>if kd=kd' then k (.bool (xor neg (decide (a=b)&&decide (s=t)))) none else none
  |_,_=>none)
 | .eqs neg ks x y=>(match x.cA S,y.cA S with
  | .agg cs,.agg ds=>(match Cg ks cs ds with|some b=>k (.bool (xor neg b)) none|none=>none)
  |_,_=>none)
 | .Gs n off x=>(match x.cA S with
  | .agg cs=>(match DT n (cs.drop off)with|some v=>k v none|none=>none)
  |_=>none)
 | .oP q xs=>Xh K q (xs.map (·.cA S)) fun v=>k v none
 | .Gv e kk x y=>(match K.Jn e with
  |some T=>(match Nat.beq (U.size T) kk with
   |true=>(match S.elv T (y.cA S)with
    |some ys=>(match x.cA S with
     | .own id ar=>(match S.row? id ar with
      |some r=>(match Nat.beq r.e e&&Nat.beq r.k kk with
       |true=>(match sY r.T T r.xs with
        |some xs=>k (.int .i64 (min xs.length ys.length:Nat)) (some (id,⟨ar,.row e kk T (ll xs 0 xs.length ys)⟩))
        |none=>none)
       |false=>none)
      |none=>none)
     | .view id ar kk' lo n=>(match S.row? id ar with
      |some r=>(match Nat.beq r.e e&&Nat.beq r.k kk&&Nat.beq kk' kk with
       |true=>(match sY r.T T r.xs with
        |some xs=>k (.int .i64 (min n ys.length:Nat)) (some (id,⟨ar,.row e kk T (ll xs lo n ys)⟩))
        |none=>none)
       |false=>none)
      |none=>none)
     |_=>none)
    |none=>none)
   |false=>none)
  |none=>none)
 | .Eh neg x y=>(match x.cA S,y.cA S with
  | .bool a,.bool b=>k (.bool (xor neg (decide (a=b)))) none
  |_,_=>none)
 | .not x=>(match x.cA S with| .bool b=>k (.bool !b) none|_=>none)
 | .conv kd x=>(match x.cA S with| .int _ n=>k (.int kd (kd.wrap n)) none|_=>none)
 | .len true x=>(match x.cA S with| .str s=>k (.int .i64 s.size) none|_=>none)
 | .len false x=>(match S.Xz (x.cA S)with|some n=>k (.int .i64 n) none|none=>none)
 | .call f xs=>iB K nid S f (xs.map (·.cA S)) k Γ
 | .xS fv xs=>(match fv.cA S with
  | .cz f caps=>iB K nid S f (xs.map (·.cA S)++caps) k Γ
  | .iM f first=>iB K nid S f (first++xs.map (·.cA S)) k Γ
  |_=>none)
 | .cZ z e kk bytes s x=>(match K.Jn e with
  |some T=>(match Nat.beq (U.size T) kk with
   |true=>(match S.YO T (x.cA S)with
    |some news=>(match s.cA S with
     | .dx=>bif aT bytes news.length then TX z nid ((S.H nid).ar+1) e kk T news k else none
     | .own id ar=>(match S.row? id ar with
      |some r=>(match Nat.beq r.e e&&Nat.beq r.k kk with
       |true=>(match sY r.T T r.xs with
        |some xs=>bif aT bytes (xs.length+news.length)then TX z id (ar+1) e kk T (xs++news) k else none
        |none=>none)
       |false=>none)
      |none=>none)
     |_=>none)
    |none=>none)
   |false=>none)
  |none=>none)
 | .wA x=>(match x.cA S with
  | .ptr id ar off=>(match S.mL id ar with|some _=>k (.ptr id ar off) none|none=>none)
  | .ref cs=>k (.ref cs) none
  | .cz f cs=>k (.cz f cs) none
  |_=>none)
 | .AA i x=>(match x.cA S with
  | .cX cs=>(match cs[i]? with|some y=>k y none|none=>none)
  |_=>none)
 | .Gb f caps=>k (.cz f (caps.map (·.cA S))) none
 | .Gc f first=>k (.iM f (first.map (·.cA S))) none
 | .H7 e kk bytes z l c=>(match K.Jn e with
  |some T=>(match Nat.beq (U.size T) kk&&z.all PV.du with
   |true=>(match K.dec T mf (z.map KV.F7)with
    |some d=>(match l.cA S,c.cA S with
     | .int _ n,.int _ m=>bif decide (n<=m)&&decide (0<=n)&&aT bytes m.toNat then k (.own nid ((S.H nid).ar+1)) (some (nid,⟨(S.H nid).ar+1,.row e kk T (List.replicate n.toNat d)⟩))else none
     |_,_=>none)
    |none=>none)
   |false=>none)
  |none=>none)
 | .Dh kk x lo hi=>(match x.cA S with
  | .sl T xs=>(match Nat.beq (U.size T) kk with
   |true=>(match Aw S lo 0,Aw S hi xs.length with
    |some l,some h=>bif dN l h xs.length then k (.sl T ((xs.take h.toNat).drop l.toNat)) none else none
    |_,_=>none)
   |false=>none)
  | .own id ar=>(match S.row? id ar with
   |some r=>(match Nat.beq kk r.k with
    |true=>(match Aw S lo 0,Aw S hi r.xs.length with
     |some l,some h=>bif dN l h r.xs.length then k (.view id ar kk l.toNat (h.toNat - l.toNat)) none else none
     |_,_=>none)
    |false=>none)
   |none=>none)
  | .view id ar kk' lo0 n0=>(match S.row? id ar with
   |some r=>(match Nat.beq kk r.k&&Nat.beq kk' kk with
    |true=>(match Aw S lo 0,Aw S hi n0 with
     |some l,some h=>bif dN l h n0 then k (.view id ar kk (lo0+l.toNat) (h.toNat - l.toNat)) none else none
     |_,_=>none)
    |false=>none)
   |none=>none)
  |_=>none)
 | .dY x i=>(match x.cA S,i.cA S with
  | .str s,.int _ n=>(dY s n).bind fun b=>k (.int .u8 b) none
  |_,_=>none)
 | .AH e n len kk x i=>(match x.cA S,i.cA S with
  | .agg cs,.int _ j=>(match K.Jn e with
   |some T=>(match Nat.beq (U.size T) kk&&T4 n (U.agg T) kk with
    |true=>(match Bk K T kk len cs with
     |some vs=>(idx vs j).bind fun v=>k (Dd K T v) none
     |none=>none)
    |false=>none)
   |none=>none)
  |_,_=>none)
 | .qF mx x y=>(match x.cA S,y.cA S with
  | .int kd a,.int kd' b=>if kd=kd' then k (.int kd (if mx then(if b>a then b else a)else(if b<a then b else a))) none else none
  |_,_=>none)
 | .uC neg x=>(match x.cA S with
  | .dx=>k (.bool !neg) none
  | .sl _ xs=>bif xs.isEmpty then k .fB none else k (.bool neg) none
  |_=>none)
 | .wM kk len x i=>(match i.cA S with
  | .int _ (.ofNat n)=>(match Nat.blt n len with
   |true=>(match x.cA S with
    | .ptr id ar o=>(match S.mL id ar with|some _=>k (.ptr id ar (o+n*kk)) none|none=>none)
    | .ref cs=>k (.ref (cs.drop (n*kk))) none
    |_=>none)
   |false=>none)
  |_=>none)
variable {K}
variable {S : aS U}
theorem py{id ar:Nat}{cs:List (KV U)}(h:S.mL id ar=some cs):(S.st.H id).ar=ar/\(S.st.H id).c= .box (cs.map KV.pv):=by
 obtain⟨h1,h2⟩:=xg h;exact⟨h1,by simp[aS.st,cV.pv,h2,dz.pv]⟩
theorem yf:∀{n:Option Nat} {cs:List (KV U)} {x:KV U},DT n cs=some x->tT n (cs.map KV.pv)=some x.pv
 |none,[],x,h=>by cases h
 |none,y::l,x,h=>by injection h with h;subst h;rfl
 |some n,cs,x,h=>by
  simp only[DT]at h;split at h
  ·rename_i hn;injection h with h
   subst h;rw[tT,Qr (by simpa using QG hn),KV.pv,KV.cv,List.map_take]
  ·cases h
theorem Dg(cs xs:List (KV U))(off:Nat):(AS cs off xs).map KV.pv=gz (cs.map KV.pv) off (xs.map KV.pv):=by
 simp[AS,gz,List.map_append,List.map_take,List.map_drop]
theorem abH(S:aS U){x:PV}(h:x.du=true):(KV.F7 x:KV U).pv=x:=(ou (S:=S) (x:= .Ab x) h).symm
theorem A6{z:List PV}(S:aS U)(h:z.all PV.du=true):(z.map (KV.F7:PV->KV U)).map KV.pv=z:=by
 induction z with
 |nil=>rfl
 |cons x l ih=>
  rw[Qq69,Qm]at h;rw[QD,QD,abH S h.1,ih h.2]
theorem Ox:∀{ps:List (Nat×Nat×bg)} {cs cs':List (KV U)},(∀p∈ps,p.2.2.du=true)->Ms S cs ps=some cs'->ox S.st (cs.map KV.pv) ps=some (cs'.map KV.pv)
 |[],cs,cs',_,h=>by injection h with h;subst h;rfl
 |(off,n,x)::ps,cs,cs',ho,h=>by
  simp only[Ms]at h;split at h
  ·rename_i hc;simp only[Qm]at hc;obtain⟨⟨h1,h2⟩,h3⟩:=hc;have h1:=QF h1;have h2:=QG h2;rw[ox,ou (ho _ Qx),tD,uO,Qr ⟨by simpa using h1,by simpa using h2,h3⟩,<-Dg]
   exact Ox (fun p hp=>ho p (Qy _ hp)) h
  ·cases h
theorem Ef{kk:Nat}:∀{ps:List (Nat×bg)} {es es':List (List (KV U))},(∀p∈ps,p.2.du=true)->Eg S kk es ps=some es'->qN S.st kk (es.map fun e=>e.map KV.pv) ps=some (es'.map fun e=>e.map KV.pv)
 |[],es,es',_,h=>by injection h with h;subst h;rfl
 |(i,x)::ps,es,es',ho,h=>by
  simp only[Eg]at h;split at h
  ·rename_i hc;simp only[Qm]at hc;obtain⟨⟨h1,h2⟩,h3⟩:=hc;have h1:=QF h1;have h2:i<es.length:=QG h2;rw[qN,ou (ho _ Qx),tD,uO,Qr ⟨by simpa using h1,by simpa using h2,h3⟩,<-List.map_set]
   exact Ef (fun p hp=>ho p (Qy _ hp)) h
  ·cases h
theorem OI{T:U.Ty}:∀{es:List (List (KV U))} {vs:List (U.den T)},Mw K T es=some vs->yC (es.map fun e=>e.map KV.pv)=vs.map (U.pv T)/\(es.map fun e=>e.map KV.pv).all (fun u=>u.all PV.closed)=true
 |[],vs,h=>by injection h with h;subst h;exact⟨rfl,rfl⟩
 |e::es,vs,h=>by
  rw[Mw]at h;split at h
  ·rename_i v hv;split at h
   ·rename_i vs' hvs;injection h with h
    subst h;obtain⟨h1,h2⟩:=OI hvs;obtain⟨h3,h4⟩:=o4 (K.kH _ _ _ _ hv);refine⟨?_,?_⟩
    ·rw[QD,QD,<-h1,<-h3];rfl
    ·rw[QD,Qq69,iW,h4,h2];rfl
   ·cases h
  ·cases h
theorem XK{y:PV}(h:y.fp=true):y.one=true:=by
 cases y<;>first|rfl|cases h
theorem E7(T:U.Ty)(vs:List (U.den T)){kk:Nat}(hk:U.size T=kk)(K:TK U):(vs.map (U.pv T)).all (fun u=>u.length==kk&&u.all PV.one)=true:=by
 refine QH.2 fun u hu=> ?_
 obtain⟨v,_,rfl⟩:=QP.1 hu;rw[K.len,hk,QH.2 fun y hy=>XK (K.fp T v y hy)]
 simp
theorem V2{T:U.Ty}{x:KV U}{vs:List (U.den T)}(h:S.YO T x=some vs):ig S.st x.pv=some (vs.map (U.pv T)):=by
 unfold aS.YO OH at h;split at h
 ·injection h with h;subst h;rfl
 ·obtain⟨e,rfl⟩:=nc h;subst e;rfl
 ·rename_i id ar;obtain⟨hv,e,k,hc⟩:=RE h;have hc1:(S.st.H id).c= .row e k (vs.map (U.pv T)):=by simp[aS.st,cV.pv,hc,dz.pv]
  have hv1:(S.st.H id).ar=ar:=hv;rw[KV.pv,ig,Qr hv1,hc1]
 ·cases h
theorem Hm{T' T:U.Ty}{xs:List (U.den T')}{ys:List (U.den T)}(h:sY T' T xs=some ys):xs.map (U.pv T')=ys.map (U.pv T):=by
 obtain⟨e,rfl⟩:=nc h;subst e;rfl
theorem OJ{α β:Type}(f:α->β)(xs:List α)(lo n:Nat)(ys:List α):(ll xs lo n ys).map f=ll (xs.map f) lo n (ys.map f):=by simp[ll,List.map_take,List.map_drop]
theorem acq{T:U.Ty}{x:KV U}{vs:List (U.den T)}(h:S.elv T x=some vs):ig S.st x.pv=some (vs.map (U.pv T)):=by
 unfold aS.elv at h;split at h
 ·rename_i id ar kk lo n;split at h
  ·rename_i r hr;obtain⟨h4,h5⟩:=lz hr;split at h
   ·rename_i hk;split at h
    ·rename_i xs hc;injection h with h
     subst h;simp only[KV.pv,ig];rw[Qr h4,h5];simp only;rw[Qr (QF hk),Hm hc,<-List.map_drop,<-List.map_take]
    ·cases h
   ·cases h
  ·cases h
 ·exact V2 h
theorem Lt{T:U.Ty}:∀{xs:List (U.den T)} {l:List UInt8},zg (fun v=>TN (K.fD T v)) xs=some l->bytesOf (xs.map (U.pv T))=some l
 |[],l,h=>h
 |x::xs,l,h=>by
  simp only[zg]at h;split at h
  ·rename_i b bs hb hbs;injection h with h
   subst h;unfold TN at hb;split at hb
   ·rename_i n he;have:=K.mZ T x;rw[he]at this;simp only[QD,QO,KV.pv]at this;simp only[QD,<-this,bytesOf,hb,Lt hbs]
   ·cases hb
  ·cases h
theorem Z1{z:PV}(h:XG z=true):z= .int .i64 0:=by
 unfold XG at h;split at h
 ·rfl
 ·cases h
theorem ZZ{z:PV}(h:XF z=true):z= .str ⟨#[]⟩:=by
 unfold XF at h;split at h
 ·rename_i s;have h:=QF h;congr 1;exact ByteArray.ext (Array.eq_empty_of_size_eq_zero h)
 ·cases h
theorem Zy{ρ:Type}{q:PQ}{xs:List (KV U)}{k:KV U->Option ρ}{r:ρ}(h:Xh K q xs k=some r):∃v,lI q (xs.map KV.pv)=some v.pv/\k v=some r:=by
 unfold Xh at h;split at h
 ·simp only[Qc]at h;obtain⟨v,hv,h⟩:=h;exact⟨_,by simp only[QD,QO,KV.pv,lI,hv,Qe],h⟩
 ·simp only[Qc]at h;obtain⟨v,hv,h⟩:=h;exact⟨_,by simp only[QD,QO,KV.pv,lI,hv,Qe],h⟩
 ·simp only[Qc]at h;obtain⟨v,hv,h⟩:=h;exact⟨_,by simp only[QD,QO,KV.pv,lI,hv,Qe],h⟩
 ·simp only[Qc]at h;obtain⟨v,hv,h⟩:=h;exact⟨_,by simp only[QD,QO,KV.pv,lI,hv,Qe],h⟩
 ·simp only[Qc]at h;obtain⟨v,hv,h⟩:=h;exact⟨_,by simp only[QD,QO,KV.pv,lI,Lt hv,Qe],h⟩
 ·exact⟨_,by simp[KV.pv,lI,PV.plain,PV.one],h⟩
 ·exact⟨_,by simp[KV.pv,lI,PV.plain,PV.one],h⟩
 ·rename_i T z Ti Ts b n s;split at h
  ·rename_i h1 h3;rw[Qm]at h1;have e1:=QF h1.1;have e2:=Z1 h1.2;have e3:=Nat.ne_of_beq_eq_false h3;subst e1 e2;refine⟨_,?_,h⟩;cases b<;>simp[KV.pv,KV.AX,lI,Ne.symm e3]
  ·rename_i _ h1 h3;rw[Qm]at h1;have e1:=QF h1.1;have e2:=ZZ h1.2;have e3:=Nat.ne_of_beq_eq_false h3;subst e1 e2;refine⟨_,?_,h⟩;cases b<;>simp[KV.pv,KV.AX,lI,e3]
  ·cases h
 ·exact⟨_,rfl,h⟩
 ·exact⟨_,rfl,h⟩
 ·exact⟨_,rfl,h⟩
 ·cases h
theorem ZQ{x:KV U}{n:Nat}(h:S.Xz x=some n):∃es,ig S.st x.pv=some es/\es.length=n:=by
 unfold aS.Xz at h;split at h
 ·injection h with h;exact⟨[],rfl,h⟩
 ·rename_i T xs;injection h with h;exact⟨xs.map (U.pv T),rfl,by simpa using h⟩
 ·rename_i id ar;split at h
  ·rename_i r hr;obtain⟨hv,hc⟩:=lz hr;injection h with h
   refine⟨r.xs.map (U.pv r.T),?_,by simpa using h⟩
   rw[KV.pv,ig,Qr hv,hc]
  ·split at h
   ·rename_i r hr;obtain⟨hv,hc⟩:=MX hr;injection h with h
    refine⟨r.es.map fun c=>c.map KV.pv,?_,by simpa using h⟩
    rw[KV.pv,ig,Qr hv,hc]
   ·cases h
 ·rename_i id ar kk lo m;split at h
  ·rename_i r hr;obtain⟨hv,hc⟩:=lz hr;split at h
   ·rename_i hk;injection h with h
    refine⟨((r.xs.drop lo).take m).map (U.pv r.T),?_,by rw[QC];exact h⟩
    rw[KV.pv,ig,Qr hv,hc];simp only;rw[Qr (QF hk),List.map_take,List.map_drop]
   ·cases h
  ·cases h
 ·cases h
theorem HX{l:List bg}{y:Option bg}{d n:Int}(hi1:∀(y:bg) (d n:Int),y∈l->Aw S (some y) d=some n->∃kd,y.val S.st= .int kd n)(hy:∀z,y=some z->z∈l)(h:Aw S y d=some n):pS S.st y d=some n:=by
 cases y with
 |none=>exact h
 |some z=>
  obtain⟨kd,hz⟩:=hi1 z d n (hy z rfl) h;simp only[pS,hz]
theorem yH{xs:List bg}(h:∀x∈xs,x.du=true):xs.map (·.val S.st)=(xs.map (·.cA S)).map KV.pv:=by
 rw[List.map_map];exact Qq70 fun x hx=>ou (h x hx)
theorem aaI{ρ:Type}{op:BinOp}{x y:KV U}{k:KV U->Option ρ}{r:ρ}(h:X8 op x y k=some r):∃v:KV U,Fo op x.pv y.pv=some v.pv/\k v=some r:=by
 unfold X8 at h;split at h
 ·rename_i kd a kd' b;cases op<;>simp only at h<;>simp only[KV.pv,Fo,Ey]<;>
  first
  |(
    split at h
    ·cases h
    ·rename_i h1;exact⟨_,by rw[Qs h1];rfl,h⟩)
  |(
    split at h
    ·rename_i h1;rw[Qr h1]
     first
     |exact⟨_,rfl,h⟩
     |(
       split at h
       ·cases h
       ·rename_i h2;exact⟨_,by rw[Qs h2];rfl,h⟩)
     |cases h
    ·cases h)
 ·rename_i a b;cases op<;>simp only at h<;>simp only[KV.pv,Fo,I8]<;>first|exact⟨_,rfl,h⟩|cases h
 ·cases h
theorem O2(K:TK U){ρ:Type}{z:Bool}{id ar e kk:Nat}{T:U.Ty}{xs:List (U.den T)}{k:KV U->Option (Nat×cV U)->Option ρ}{r:ρ}(h:TX z id ar e kk T xs k=some r):
  ∃x wr,EA z id ar e kk (xs.map (U.pv T))=some (x.pv,wr.map iA)/\k x wr=some r:=by
 cases z with
 |false=>exact⟨_,_,rfl,h⟩
 |true=>
  refine⟨_,_,?_,h⟩;simp only[EA];rw[Qr]
  ·rfl
  ·refine QH.2 fun u hu=> ?_
   obtain⟨x,_,rfl⟩:=QP.1 hu;exact QH.2 fun y hy=>hO (K.fp _ _ _ hy)
theorem PT{P:Program}{ρ:Type}{Γ:List (dk U)}{nid:Nat}{op:bX}{k:KV U->Option (Nat×cV U)->Option ρ}{r:ρ}(hΓ:tN P Γ)(ho:op.du=true)(h:eG K Γ nid S op k=some r):
  ∃Γ' x wr,nW P Γ'/\exec Γ' nid S.st op=some (x.pv,wr.map iA)/\k x wr=some r:=by
 have hov:∀x∈op.cQ,x.val S.st=(x.cA S).pv:=fun x hx=>ou (QH.1 ho x hx)
 have hoc:∀x∈op.cQ,x.du=true:=fun x hx=>QH.1 ho x hx
 have pure:∀{x:KV U} {wr:Option (Nat×cV U)},exec (fun _=>none) nid S.st op=some (x.pv,wr.map iA)->k x wr=some r->∃Γ' x wr,nW P Γ'/\exec Γ' nid S.st op=some (x.pv,wr.map iA)/\k x wr=some r:=
  fun{x wr} h1 h2=>⟨fun _=>none,x,wr,fun f m hm=>(by cases hm),h1,h2⟩
 cases op with
 |Ga x=>
  have h1:=hov x (by simp[bX.cQ])
  exact pure (by rw[exec,h1];rfl) h
 |pick c x y=>
  have h1:=hov c (by simp[bX.cQ])
  have h2:=hov x (by simp[bX.cQ])
  have h3:=hov y (by simp[bX.cQ])
  simp only[eG]at h;split at h
  ·rename_i b hb;rw[hb]at h1;split at h
   ·exact pure (by rw[exec,h1];simp only[KV.pv];rw[h2];rfl) h
   ·exact pure (by rw[exec,h1];simp only[KV.pv];rw[h3];rfl) h
  ·cases h
 |box x=>
  have h1:=hov x (by simp[bX.cQ])
  simp only[eG]at h;split at h
  ·rename_i hb;refine pure ?_ h;rw[exec,h1,tD,uO,Qr hb];rfl
  ·cases h
 |AF x=>
  have h1:=hov x (by simp[bX.cQ])
  simp only[eG]at h;split at h
  ·rename_i hb;refine pure ?_ h;rw[exec,h1,tD,uO,iW,Qr hb];simp only[KV.pv,KV.cv,Qq64]
  ·cases h
 |alloc z=>
  simp only[eG]at h;split at h
  ·rename_i hb;refine pure ?_ h;simp only[exec,Qe,iA,cV.pv,dz.pv,A6 S hb];rfl
  ·cases h
 |load n p=>
  have h1:=hov p (by simp[bX.cQ])
  simp only[eG]at h;split at h
  ·rename_i id ar off hp;rw[hp]at h1;split at h
   ·rename_i cs hb;obtain⟨h2,h3⟩:=py hb;split at h
    ·rename_i x hx;refine pure ?_ h;have:=yf hx;rw[List.map_drop]at this;rw[exec,h1];simp only[KV.pv];rw[Qr h2,h3];simp only[this,Qe,Qq64]
    ·cases h
   ·cases h
  ·rename_i id ar kk i off hp;rw[hp]at h1;split at h
   ·rename_i rr hb;obtain⟨h2,h3⟩:=lz hb;split at h
    ·rename_i hk;simp only[Qc]at h;obtain⟨v,hv,h⟩:=h;split at h
     ·rename_i x hx;refine pure ?_ h;have:=yf hx;rw[List.map_drop,K.mZ]at this;rw[exec,h1];simp only[KV.pv];rw[Qr h2,h3];simp only[QF hk,Qt,QT,hv,Qe,this,Qq64]
     ·cases h
    ·cases h
   ·split at h
    ·rename_i rr hb;obtain⟨h2,h3⟩:=MX hb;split at h
     ·rename_i hk;split at h
      ·rename_i c hc;split at h
       ·rename_i x hx;refine pure ?_ h;have:=yf hx;rw[List.map_drop]at this;rw[exec,h1];simp only[KV.pv];rw[Qr h2,h3];simp only[QF hk,Qt,QT,hc,Qe,this,Qq64]
       ·cases h
      ·cases h
     ·cases h
    ·cases h
  ·rename_i cs hp;rw[hp]at h1;split at h
   ·rename_i x hx;refine pure ?_ h;rw[exec,h1];simp only[KV.pv,KV.cv,yf hx,Qe,Qq64]
   ·cases h
  ·cases h
 |store n p x=>
  have h1:=hov p (by simp[bX.cQ])
  have h2:=hov x (by simp[bX.cQ])
  simp only[eG]at h;split at h
  ·rename_i hc;rw[Qm]at hc;have hl:=QF hc.1
   have hc1:(x.val S.st).cells.length=n/\(x.val S.st).cells.all PV.one=true:=by
    rw[h2,tD,uO];exact⟨by simpa using hl,hc.2⟩
   split at h
   ·rename_i id ar off hp;rw[hp]at h1;split at h
    ·rename_i cs hb;obtain⟨h3,h4⟩:=py hb;split at h
     ·rename_i hle;refine pure ?_ h;rw[exec,Qr hc1,h1];simp only[KV.pv];rw[Qr h3,h4];simp only[QC];rw[Qr (QG hle),h2,tD];simp only[Qe,iA,cV.pv,dz.pv,Dg]
     ·cases h
    ·cases h
   ·rename_i id ar kk i off hp;rw[hp]at h1;split at h
    ·rename_i rr hb;obtain⟨h3,h4⟩:=lz hb;split at h
     ·rename_i hk;simp only[Qm]at hk;obtain⟨⟨hk1,hk2⟩,hk3⟩:=hk;have hk1:=QF hk1;have hk2:=QF hk2;have hk3:=QG hk3;simp only[Qc]at h;obtain⟨v,hv,h⟩:=h;split at h
      ·rename_i v' hd;refine pure ?_ h;obtain⟨h5,_⟩:=o4 (K.kH _ _ _ _ hd);rw[Dg,K.mZ]at h5
       have h6:gz (U.pv rr.T v) off (((x.cA S).cells.map KV.pv).map nz)=U.pv rr.T v':=by
        rw[<-h5]
        have hnz:(U.pv rr.T v).map nz=U.pv rr.T v:=by
         refine(Qq70 fun y hy=> ?_).trans (List.map_id _)
         have:=K.fp _ _ _ hy;cases y<;>first|rfl|cases this
        simp only[gz,List.map_append,List.map_take,List.map_drop,hnz,QC]
       rw[exec,Qr hc1,h1];simp only[KV.pv];rw[Qr h3,h4];simp only[hk1,Qt,QT,hv,Qe,K.len];rw[Qr hk3,h2,tD,h6];simp only[iA,cV.pv,dz.pv,List.map_set]
      ·cases h
     ·cases h
    ·cases h
   ·cases h
  ·cases h
 |build z ps=>
  simp only[eG]at h;split at h
  ·rename_i hz;split at h
   ·rename_i cs hf;refine pure ?_ h;have:=Ox (fun p hp=>hoc _ (by simp only[bX.cQ,QP];exact⟨p,hp,rfl⟩)) hf
    rw[A6 S hz]at this;rw[exec,this];simp only[Qe,Qq64,KV.pv,KV.cv]
   ·cases h
  ·cases h
 |I7 m e kk z ps=>
  simp only[eG]at h;split at h
  ·rename_i T hT;split at h
   ·rename_i hz;rw[Qm]at hz;split at h
    ·rename_i es hf;split at h
     ·rename_i vs hd;have h1:=Ef (fun p hp=>hoc _ (by simp only[bX.cQ,QP];exact⟨p,hp,rfl⟩)) hf
      have h2:(z.map fun u=>u.map (KV.F7:PV->KV U)).map (fun e=>e.map KV.pv)=z:=by
       rw[List.map_map];refine(Qq70 fun u hu=> ?_).trans (List.map_id _)
       exact A6 S (QH.1 hz.2 u hu)
      rw[h2]at h1;obtain⟨h3,h4⟩:=OI hd;split at h
      ·refine pure ?_ h;rw[exec,h1];simp only[h4,and_self,Qt,h3,KV.pv,Qq64]
      ·refine pure ?_ h;rw[exec,h1];simp only[Bool.true_eq_false,false_and,Qu,h3,KV.pv,Qe,iA,cV.pv,dz.pv];rfl
     ·cases h
    ·cases h
   ·cases h
  ·split at h
   ·rename_i hz;rw[Qm]at hz;split at h
    ·rename_i es hf;split at h
     ·rename_i hnn;have h1:=Ef (fun p hp=>hoc _ (by simp only[bX.cQ,QP];exact⟨p,hp,rfl⟩)) hf
      have h2:(z.map fun u=>u.map (KV.F7:PV->KV U)).map (fun e=>e.map KV.pv)=z:=by
       rw[List.map_map];refine(Qq70 fun u hu=> ?_).trans (List.map_id _)
       exact A6 S (QH.1 hz.2 u hu)
      rw[h2]at h1
      have h3:yC (es.map fun e=>e.map KV.pv)=es.map fun e=>e.map KV.pv:=by
       unfold yC;rw[List.map_map];refine Qq70 fun c hc=> ?_
       simp only[Function.comp,List.map_map];refine Qq70 fun y hy=> ?_
       have:=QH.1 (QH.1 hnn c hc) y hy;cases y<;>first|rfl|cases this|simp[KV.pv,nz]
      have hm:m=true:=hz.1;subst hm;refine pure ?_ h;rw[exec,h1];simp only[Bool.true_eq_false,false_and,Qu,h3,KV.pv,Qe,iA,cV.pv,dz.pv];rfl
     ·cases h
    ·cases h
   ·cases h
 |wH off p=>
  have h1:=hov p (by simp[bX.cQ])
  simp only[eG]at h;split at h
  ·rename_i id ar o hp;rw[hp]at h1;split at h
   ·rename_i cs hb;obtain⟨h2,h3⟩:=py hb;refine pure ?_ h;rw[exec,h1];simp only[KV.pv];rw[Qr h2,h3];rfl
   ·cases h
  ·rename_i id ar kk i o hp;rw[hp]at h1;split at h
   ·rename_i rr hb;obtain⟨h2,h3⟩:=lz hb;simp only[Qc]at h;obtain⟨v,hv,h⟩:=h;refine pure ?_ h;have hi:=(Qw.1 hv).1;rw[exec,h1];simp only[KV.pv];rw[Qr h2,h3];simp only[QC,hi,Qt,Qq64]
   ·cases h
  ·rename_i cs hp;rw[hp]at h1;refine pure ?_ h;rw[exec,h1];simp only[KV.pv,KV.cv,List.map_drop,Qq64]
  ·cases h
 |wE kk x i=>
  have h1:=hov x (by simp[bX.cQ])
  have h2:=hov i (by simp[bX.cQ])
  simp only[eG]at h;split at h
  ·rename_i kd n hn;rw[hn]at h2;split at h
   ·rename_i T xs hx;rw[hx]at h1;split at h
    ·rename_i hk;simp only[Qc]at h;obtain⟨v,hv,h⟩:=h;obtain⟨hi0,hi1,hi2⟩:=G6 hv;refine pure ?_ h;rw[exec,h2];simp only[KV.pv];rw[h1];simp only[KV.pv,QC];rw[Qr ⟨hi0,by omega⟩]
     simp only[QT,hi2,Qe,K.len,QF hk,Qt,KV.cv,K.mZ,Qq64]
    ·cases h
   ·rename_i id ar hx;rw[hx]at h1;split at h
    ·rename_i rr hb;obtain⟨h3,h4⟩:=lz hb;split at h
     ·rename_i hk;simp only[Qc]at h;obtain⟨v,hv,h⟩:=h;obtain⟨hi0,hi1,hi2⟩:=G6 hv;refine pure ?_ h;rw[exec,h2];simp only[KV.pv];rw[h1];simp only[KV.pv];rw[Qr h3,h4];simp only[QC];rw[Qr ⟨QF hk,hi0,by omega⟩]
      rfl
     ·cases h
    ·split at h
     ·rename_i rr hb;obtain⟨h3,h4⟩:=MX hb;split at h
      ·rename_i j;split at h
       ·rename_i hk;rw[Qm]at hk;have hlt:j<rr.es.length:=QG hk.2;refine pure ?_ h;rw[exec,h2];simp only[KV.pv];rw[h1];simp only[KV.pv];rw[Qr h3,h4];simp only[QC];rw[Qr ⟨QF hk.1,Int.natCast_nonneg j,Int.ofNat_lt.2 hlt⟩];rfl
       ·cases h
      ·cases h
     ·cases h
   ·rename_i id ar kk' lo m hx;rw[hx]at h1;split at h
    ·rename_i rr hb;obtain⟨h3,h4⟩:=lz hb;split at h
     ·rename_i hk;rw[Qm]at hk;simp only[Qc]at h;obtain⟨v,hv,h⟩:=h;obtain⟨hi0,hi1,hi2⟩:=G6 hv;refine pure ?_ h;rw[exec,h2];simp only[KV.pv];rw[h1];simp only[KV.pv];rw[Qr h3,h4];simp only[QC];simp only[List.length_take,List.length_drop]at hi1;rw[Qr ⟨QF hk.1,QF hk.2,hi0,by omega,by omega⟩]
      rfl
     ·cases h
    ·cases h
   ·cases h
  ·cases h
 |dY x i=>
  have h1:=hov x (by simp[bX.cQ])
  have h2:=hov i (by simp[bX.cQ])
  simp only[eG]at h;split at h
  ·rename_i s _ n hx hi;rw[hx]at h1;rw[hi]at h2;simp only[Qc]at h;obtain⟨b,hb,h⟩:=h;refine pure ?_ h;rw[exec,h1,h2];simp only[KV.pv,hb,Qe,Qq64]
  ·cases h
 |AH e n len kk x i=>
  have h1:=hov x (by simp[bX.cQ])
  have h2:=hov i (by simp[bX.cQ])
  simp only[eG]at h;split at h
  ·rename_i cs _ j hx hi;rw[hx]at h1;rw[hi]at h2;split at h
   ·rename_i T hT;split at h
    ·rename_i hk;split at h
     ·rename_i vs hvs;simp only[Qc]at h;obtain⟨v,hv,h⟩:=h;obtain⟨hlen,hget⟩:=Gw K hvs
      have hv0:0<=j/\vs[j.toNat]?=some v:=by
       unfold idx at hv;split at hv
       ·rename_i h0;exact⟨h0,hv⟩
       ·cases hv
      have hjl:j.toNat<vs.length:=(Qw.1 hv0.2).1;obtain⟨hnz,_⟩:=o4 (K.kH _ _ _ _ (hget _ _ hv0.2));rw[Qm]at hk;have hkk:=QF hk.1;have hpl:=K.len T v
      have hcl:((cs.drop (j.toNat*kk)).take kk).length=kk:=by
       have:=congrArg List.length hnz;simp only[QC]at this;omega
      refine pure ?_ h;rw[exec,h1,h2];simp only[KV.pv,KV.cv];rw[Qr ⟨hv0.1,by omega⟩,AO]
      have hsplit:((cs.map KV.pv).drop (j.toNat*kk)).map nz=U.pv T v++(((cs.drop (j.toNat*kk)).drop kk).map KV.pv).map nz:=by
       rw[<-hnz,<-List.map_append,<-List.map_append,List.take_append_drop,List.map_drop,List.map_drop,List.map_drop]
      rw[hsplit]
      cases n with
      |none=>
       simp only[T4,Qm,Bool.not_eq_true']at hk;have h1k:=QF hk.2.2;obtain⟨y,hy1,hy2⟩:=ru K v hk.2.1
       cases hp:U.pv T v with
       |nil=>rw[hp]at hy2;cases hy2
       |cons y0 l=>
        have hl0:l=[]:=by
         rw[hp,QE]at hpl;exact Qq66 (by omega)
        rw[hp,hl0,Q4]at hy2;rw[hl0];simp only[List.singleton_append,tT,Qe,Qq64];rw[hy1,hy2]
      |some m=>
       simp only[T4,Qm]at hk;have hm:=QF hk.2.2;subst hm;simp only[tT];rw[Qr (by rw[QB];omega),List.take_append_of_le_length (by omega),List.take_of_length_le (by omega),tP v hk.2.1]
       rfl
     ·cases h
    ·cases h
   ·cases h
  ·cases h
 |wM kk len x i=>
  have h1:=hov x (by simp[bX.cQ])
  have h2:=hov i (by simp[bX.cQ])
  simp only[eG]at h;split at h
  ·rename_i kd n hi;rw[hi]at h2;split at h
   ·rename_i hb;have hlt:n<len:=by simpa using hb
    have hc:(0:Int)<=Int.ofNat n/\Int.ofNat n<(len:Int):=⟨Int.natCast_nonneg n,Int.ofNat_lt.2 hlt⟩;split at h
    ·rename_i id ar o hx;rw[hx]at h1;split at h
     ·rename_i cs hbx;obtain⟨h3,h4⟩:=py hbx;refine pure ?_ h;rw[exec,h2];simp only[KV.pv];rw[Qr hc,h1];simp only[KV.pv];rw[Qr h3,h4];rfl
     ·cases h
    ·rename_i cs hx;rw[hx]at h1;refine pure ?_ h;rw[exec,h2];simp only[KV.pv];rw[Qr hc,h1];simp only[KV.pv,KV.cv,List.map_drop,Qq64];rfl
    ·cases h
   ·cases h
  ·cases h
 |bin op x y=>
  have h1:=hov x (by simp[bX.cQ])
  have h2:=hov y (by simp[bX.cQ])
  simp only[eG]at h;obtain⟨v,h3,h4⟩:=aaI h;refine pure ?_ h4;rw[exec,h1,h2,h3];rfl
 |ml neg x y=>
  have h1:=hov x (by simp[bX.cQ])
  have h2:=hov y (by simp[bX.cQ])
  simp only[eG]at h;split at h
  ·rename_i hx hy;rw[hx]at h1;rw[hy]at h2;split at h
   ·rename_i hk;refine pure ?_ h;rw[exec,h1,h2];simp only[KV.pv,KV.AX,hk,Qt,Qq64]
   ·cases h
  ·cases h
 |oP q xs=>
  simp only[eG]at h;have hx:xs.map (·.val S.st)=(xs.map (·.cA S)).map KV.pv:=by rw[List.map_map];exact Qq70 fun y hy=>hov y (by simpa[bX.cQ]using hy)
  obtain⟨v,hv,h⟩:=Zy h;refine pure ?_ h;rw[exec,hx,hv];rfl
 |Gv e kk x y=>
  have h1:=hov x (by simp[bX.cQ])
  have h2:=hov y (by simp[bX.cQ])
  simp only[eG]at h;split at h
  ·rename_i T hT;split at h
   ·rename_i hk;have hk:=QF hk;split at h
    ·rename_i ys hn;have h3:=acq hn;split at h
     ·rename_i id ar hs;rw[hs]at h1;split at h
      ·rename_i rr hb;obtain⟨h4,h5⟩:=lz hb;split at h
       ·rename_i he;rw[Qm]at he;have he1:=QF he.1;have he2:=QF he.2;split at h
        ·rename_i xs hc;have hpv:rr.xs.map (U.pv rr.T)=xs.map (U.pv T):=Hm hc;refine pure ?_ h;rw[exec,h2,h3];simp only[h1,KV.pv];rw[Qr h4,h5];simp only[hpv,QC];rw[Qr ⟨he1.symm,he2.symm,E7 T ys hk K⟩];simp only[Qe,iA,cV.pv,dz.pv,OJ]
        ·cases h
       ·cases h
      ·cases h
     ·rename_i id ar kk' lo n hs;rw[hs]at h1;split at h
      ·rename_i rr hb;obtain⟨h4,h5⟩:=lz hb;split at h
       ·rename_i he;rw[Qm,Qm]at he;have he1:=QF he.1.1;have he2:=QF he.1.2;have he3:=QF he.2;split at h
        ·rename_i xs hc;have hpv:rr.xs.map (U.pv rr.T)=xs.map (U.pv T):=Hm hc;refine pure ?_ h;rw[exec,h2,h3];simp only[h1,KV.pv];rw[Qr h4,h5];simp only[hpv,QC];rw[Qr ⟨he1.symm,he2.symm,he3,E7 T ys hk K⟩];simp only[Qe,iA,cV.pv,dz.pv,OJ]
        ·cases h
       ·cases h
      ·cases h
     ·cases h
    ·cases h
   ·cases h
  ·cases h
 |Gs n off x=>
  have h1:=hov x (by simp[bX.cQ])
  simp only[eG]at h;split at h
  ·rename_i cs hp;rw[hp]at h1;split at h
   ·rename_i v hx;refine pure ?_ h;have:=yf hx;rw[List.map_drop]at this;rw[exec,h1];simp only[KV.pv,KV.cv,this,Qe,Qq64]
   ·cases h
  ·cases h
 |Eh neg x y=>
  have h1:=hov x (by simp[bX.cQ])
  have h2:=hov y (by simp[bX.cQ])
  simp only[eG]at h;split at h
  ·rename_i hx hy;rw[hx]at h1;rw[hy]at h2;refine pure ?_ h;rw[exec,h1,h2];rfl
  ·cases h
 |not x=>
  have h1:=hov x (by simp[bX.cQ])
  simp only[eG]at h;split at h
  ·rename_i hx;rw[hx]at h1;exact pure (by rw[exec,h1];rfl) h
  ·cases h
 |conv kd x=>
  have h1:=hov x (by simp[bX.cQ])
  simp only[eG]at h;split at h
  ·rename_i hx;rw[hx]at h1;exact pure (by rw[exec,h1];rfl) h
  ·cases h
 |len b x=>
  have h1:=hov x (by simp[bX.cQ])
  cases b with
  |true=>
   simp only[eG]at h;split at h
   ·rename_i hx;rw[hx]at h1;exact pure (by rw[exec,h1];rfl) h
   ·cases h
  |false=>
   simp only[eG]at h;split at h
   ·rename_i n hx;obtain⟨es,h2,h3⟩:=ZQ hx;exact pure (by rw[exec,h1,h2];simp only[Qe,Qq64,KV.pv,h3]) h
   ·cases h
 |call f xs=>
  simp only[eG]at h;obtain⟨Γ',x,wr,h1,h2,h3⟩:=dF hΓ h;refine⟨Γ',x,wr,h1,?_,h3⟩;rw[exec,yH (xs:=xs) hoc];exact h2
 |xS fv xs=>
  have h0:=hov fv (by simp[bX.cQ])
  simp only[eG]at h;split at h
  ·rename_i f caps hf;rw[hf]at h0;obtain⟨Γ',x,wr,h1,h2,h3⟩:=dF hΓ h;refine⟨Γ',x,wr,h1,?_,h3⟩;rw[exec,h0];simp only[KV.pv];rw[yH (fun x hx=>hoc x (by simp[bX.cQ,hx])),KV.cv,<-List.map_append]
   exact h2
  ·rename_i f caps hf;rw[hf]at h0;obtain⟨Γ',x,wr,h1,h2,h3⟩:=dF hΓ h;refine⟨Γ',x,wr,h1,?_,h3⟩;rw[exec,h0];simp only[KV.pv];rw[yH (fun x hx=>hoc x (by simp[bX.cQ,hx])),KV.cv,<-List.map_append]
   exact h2
  ·cases h
 |cZ z e kk bytes s x=>
  have h1:=hov s (by simp[bX.cQ])
  have h2:=hov x (by simp[bX.cQ])
  simp only[eG]at h;split at h
  ·rename_i T hT;split at h
   ·rename_i hk;have hk:=QF hk;split at h
    ·rename_i news hn;have h3:=V2 hn;split at h
     ·rename_i hs;rw[hs]at h1
      cases hl:aT bytes news.length with
      |false=>rw[hl]at h;cases h
      |true=>
       rw[hl]at h;obtain⟨hl1,hl2⟩:=B5 hl;obtain⟨x0,wr0,g1,g2⟩:=O2 K h;refine pure ?_ g2;rw[exec,h2,h3];simp only[E7 T news hk K,Qt,h1,KV.pv,QC];rw[Qr ⟨hl1,hl2⟩];exact g1
     ·rename_i id ar hs;rw[hs]at h1;split at h
      ·rename_i rr hb;obtain⟨h4,h5⟩:=lz hb;split at h
       ·rename_i he;rw[Qm]at he;have he1:=QF he.1;have he2:=QF he.2;split at h
        ·rename_i xs hc
         have hpv:rr.xs.map (U.pv rr.T)=xs.map (U.pv T):=by
          obtain⟨eT,hxs⟩:=nc hc;obtain⟨re,rk,rT,rxs⟩:=rr;simp only at eT hxs ⊢;subst eT;rw[hxs]
         cases hl:aT bytes (xs.length+news.length)with
         |false=>rw[hl]at h;cases h
         |true=>
          rw[hl]at h;obtain⟨hl1,hl2⟩:=B5 hl;obtain⟨x0,wr0,g1,g2⟩:=O2 K h;refine pure ?_ g2;rw[exec,h2,h3];simp only[E7 T news hk K,Qt,h1,KV.pv];rw[Qr h4,h5];simp only[hpv,QC];rw[Qr ⟨he1.symm,he2.symm,hl1,hl2⟩];rw[List.map_append]at g1;exact g1
        ·cases h
       ·cases h
      ·cases h
     ·cases h
    ·cases h
   ·cases h
  ·cases h
 |wA x=>
  have h1:=hov x (by simp[bX.cQ])
  simp only[eG]at h;split at h
  ·rename_i id ar o hp;rw[hp]at h1;split at h
   ·rename_i cs hb;obtain⟨h2,h3⟩:=py hb;refine pure ?_ h;rw[exec,h1];simp only[KV.pv];rw[Qr h2,h3];rfl
   ·cases h
  ·rename_i cs hp;rw[hp]at h1;exact pure (by rw[exec,h1];rfl) h
  ·rename_i cs hp;rw[hp]at h1;exact pure (by rw[exec,h1];rfl) h
  ·cases h
 |AA i x=>
  have h1:=hov x (by simp[bX.cQ])
  simp only[eG]at h;split at h
  ·rename_i cs hx;rw[hx]at h1;split at h
   ·rename_i y hy;refine pure ?_ h;rw[exec,h1];simp only[KV.pv,KV.cv,QT,hy,Qe,Qq64]
   ·cases h
  ·cases h
 |Gb f caps=>
  refine pure ?_ h;rw[exec,yH (xs:=caps) hoc];simp only[KV.pv,KV.cv,Qq64]
 |Gc f caps=>
  refine pure ?_ h;rw[exec,yH (xs:=caps) hoc];simp only[KV.pv,KV.cv,Qq64]
 |eqs neg ks x y=>
  have h1:=hov x (by simp[bX.cQ])
  have h2:=hov y (by simp[bX.cQ])
  simp only[eG]at h;split at h
  ·rename_i cs ds hx hy;rw[hx]at h1;rw[hy]at h2;split at h
   ·rename_i b hb;refine pure ?_ h;rw[exec,h1,h2];simp only[KV.pv,KV.cv,Cf hb,Qe,Qq64]
   ·cases h
  ·cases h
 |H7 e kk bytes z l c=>
  have h1:=hov l (by simp[bX.cQ])
  have h2:=hov c (by simp[bX.cQ])
  simp only[eG]at h;split at h
  ·rename_i T hT;split at h
   ·rename_i hz;rw[Qm]at hz;split at h
    ·rename_i d hd;split at h
     ·rename_i _ n _ m hl hc;rw[hl]at h1;rw[hc]at h2
      cases hb:(decide (n<=m)&&decide (0<=n)&&aT bytes m.toNat)with
      |false=>rw[hb]at h;cases h
      |true=>
       rw[hb]at h;simp only[Qm,Qi]at hb;obtain⟨⟨h3,h4⟩,h5⟩:=hb;obtain⟨h5,h6⟩:=B5 h5;refine pure ?_ h;have h7:=(o4 (K.kH _ _ _ _ hd)).1;rw[A6 S hz.2]at h7;rw[exec,h1,h2];simp only[KV.pv];rw[Qr ⟨h3,h4,h5,h6⟩,h7];simp only[Qe,iA,cV.pv,dz.pv,List.map_replicate];rfl
     ·cases h
    ·cases h
   ·cases h
  ·cases h
 |Dh kk x lo hi=>
  have h1:=hov x (by simp[bX.cQ])
  have hi1:∀(y:bg) (d n:Int),y∈(bX.Dh kk x lo hi).cQ->Aw S (some y) d=some n->∃kd,y.val S.st= .int kd n:=by
   intro y d n ho hn;have:=hov y ho;simp only[Aw]at hn;split at hn
   ·rename_i kd _ hy;rw[hy]at this;injection hn with hn;subst hn;exact⟨kd,this⟩
   ·cases hn
  simp only[eG]at h;split at h
  ·rename_i T xs hx;rw[hx]at h1;split at h
   ·rename_i hk;have hk:=QF hk;split at h
    ·rename_i l hh hl hhi
     cases hs:dN l hh xs.length with
     |false=>rw[hs]at h;cases h
     |true=>
      rw[hs]at h;refine pure ?_ h;simp only[dN,Qm,Qi]at hs;obtain⟨⟨h4,h5⟩,h6⟩:=hs
      have h7:(xs.map (U.pv T)).all (fun e=>e.length==kk)=true:=QH.2 fun u hu=>by
       obtain⟨v,_,rfl⟩:=QP.1 hu;rw[K.len,hk];simp
      unfold exec;simp only[h1,KV.pv,QC,h7,Qt]
      have fin:∀(l hh:Int),0<=l/\l<=hh/\hh<=(xs.length:Int)->(if 0<=l/\l<=hh/\hh<=(xs.length:Int)then some (PV.sl (((xs.map (U.pv T)).take hh.toNat).drop l.toNat),(none:Option (Nat×fc)))else none)=some (PV.sl (((xs.take hh.toNat).drop l.toNat).map (U.pv T)),Option.map iA (none:Option (Nat×cV U))):=fun l hh hc=>by
       rw[Qr hc];simp only[List.map_take,List.map_drop,Qq64]
      cases lo with
      |none=>
       injection hl with hl
       subst hl
       cases hi with
       |none=>injection hhi with hhi;subst hhi;exact fin _ _ ⟨h4,h5,h6⟩
       |some y=>obtain⟨kd,hy⟩:=hi1 y _ _ (by simp[bX.cQ]) hhi;simp only[hy];exact fin _ _ ⟨h4,h5,h6⟩
      |some z=>
       obtain⟨kz,hz⟩:=hi1 z _ _ (by simp[bX.cQ]) hl
       cases hi with
       |none=>injection hhi with hhi;subst hhi;simp only[hz];exact fin _ _ ⟨h4,h5,h6⟩
       |some y=>obtain⟨kd,hy⟩:=hi1 y _ _ (by simp[bX.cQ]) hhi;simp only[hz,hy];exact fin _ _ ⟨h4,h5,h6⟩
    ·cases h
   ·cases h
  ·rename_i id ar hx;rw[hx]at h1;split at h
   ·rename_i rr hb;obtain⟨h3,h4⟩:=lz hb;split at h
    ·rename_i hk;have hk:=QF hk;split at h
     ·rename_i l hh hl hhi;have e1:=HX (hi1:=hi1) (y:=lo) (fun y hy=>by simp[bX.cQ,hy]) hl
      have e2:=HX (hi1:=hi1) (y:=hi) (fun y hy=>by simp[bX.cQ,hy]) hhi
      cases hs:dN l hh rr.xs.length with
      |false=>rw[hs]at h;cases h
      |true=>
       rw[hs]at h;refine pure ?_ h;simp only[dN,Qm,Qi]at hs;unfold exec;simp only[h1,KV.pv];rw[Qr h3,h4];simp only[QC];rw[Qr hk,e1,e2];simp only;rw[Qr ⟨hs.1.1,hs.1.2,hs.2⟩];rfl
     ·cases h
    ·cases h
   ·cases h
  ·rename_i id ar kk' lo0 n0 hx;rw[hx]at h1;split at h
   ·rename_i rr hb;obtain⟨h3,h4⟩:=lz hb;split at h
    ·rename_i hk;rw[Qm]at hk;split at h
     ·rename_i l hh hl hhi;have e1:=HX (hi1:=hi1) (y:=lo) (fun y hy=>by simp[bX.cQ,hy]) hl
      have e2:=HX (hi1:=hi1) (y:=hi) (fun y hy=>by simp[bX.cQ,hy]) hhi
      cases hs:dN l hh n0 with
      |false=>rw[hs]at h;cases h
      |true=>
       rw[hs]at h;refine pure ?_ h;simp only[dN,Qm,Qi]at hs;unfold exec;simp only[h1,KV.pv];rw[Qr h3,h4];simp only;rw[Qr ⟨QF hk.1,QF hk.2⟩,e1,e2];simp only;rw[Qr ⟨hs.1.1,hs.1.2,hs.2⟩];rfl
     ·cases h
    ·cases h
   ·cases h
  ·cases h
 |qF mx x y=>
  have h1:=hov x (by simp[bX.cQ])
  have h2:=hov y (by simp[bX.cQ])
  simp only[eG]at h;split at h
  ·rename_i hx hy;rw[hx]at h1;rw[hy]at h2;split at h
   ·rename_i hk;refine pure ?_ h;rw[exec,h1,h2];simp only[KV.pv,hk,Qt,Qq64]
   ·cases h
  ·cases h
 |uC neg x=>
  have h1:=hov x (by simp[bX.cQ])
  simp only[eG]at h;split at h
  ·rename_i hx;rw[hx]at h1;exact pure (by unfold exec;simp only[h1,KV.pv,Qq64]) h
  ·rename_i T xs hx;rw[hx]at h1
   cases xs with
   |nil=>exact pure (x:= .fB) (by unfold exec;simp only[h1,KV.pv,ig,QO,Qq64]) h
   |cons y l=>exact pure (x:= .bool neg) (by unfold exec;simp only[h1,KV.pv,ig,QD,Qq64]) h
  ·cases h
end
end
section
open Go.RowKit
section
variable {P : Program} {S : St} {nt : Nat} {Q : Exit -> St -> Prop} {E : En} {a : Act} {w : World} {L : Nat -> Value}
theorem Rel.abo(h:Rel E S a w L){id:Nat}(hid:id<S.N)(e k:Nat):
  Rel E {S with H:=bS S.H id ⟨(S.H id).ar+1,.row e k []⟩} a w (bS L id (.slice none 0 0)):=
 (h.og (w':=w) hid ⟨(S.H id).ar+1,.row e k []⟩ (.slice none 0 0) (.inr (Nat.lt_succ_self _)) rfl rfl rfl (QI _) (fun _ _ _=>rfl)
  (fun b _ hb=>by simp[dS]at hb) (fun _ _=>⟨[],⟨by simp,.inl ⟨rfl,rfl⟩⟩,by simp,by exact⟨rfl,fun i y v hy=>by simp at hy⟩⟩)).1
theorem abC{S:St}{id:Nat}(hid:id<S.N)(e k:Nat){w:World}{M:Nat->Prop}{v:Value}(h:v= .slice none 0 0):
  aW w M (St.gh {S with H:=bS S.H id ⟨(S.H id).ar+1,.row e k []⟩} (bS L id (.slice none 0 0))) (.own id ((S.H id).ar+1)) v:=by
 subst h;exact .own _ _ _ _ _ hid (by simp[St.gh]) (fun _=>by simp[St.gh])
end
end
section
open Go.RowKit
section
variable {P : Program} {E : En} {S : St} {a : Act} {w : World} {L : Nat -> Value}
theorem Rel.aeV(h:Rel E S a w L){id ar k n e0 k':Nat}{es:List (List PV)}{v:Value}(r:aW w (bp E S L) (S.gh L) (.view id ar k 0 n) v)(hver:(S.H id).ar=ar)(hc:(S.H id).c= .row e0 k' es):
  Rel E {S with H:=bS S.H id ⟨ar+1,.row e0 k' (es.take n)⟩} a w (bS L id v)/\aW w (bp E {S with H:=bS S.H id ⟨ar+1,.row e0 k' (es.take n)⟩} (bS L id v)) (St.gh {S with H:=bS S.H id ⟨ar+1,.row e0 k' (es.take n)⟩} (bS L id v)) (.own id (ar+1)) v:=by
 obtain⟨hN,ad,c,hv,hat⟩:=r.vF (show(S.gh L).V id=ar from hver)
 have hle:=h.EJ hN hc hat;obtain⟨a0,m0,c0,hl,q1,q2,q3,q4⟩:=hat;have hl:L id= .slice a0 m0 c0:=hl;have hlive:(S.H id).c.live=true:=by rw[hc];rfl
 obtain⟨vs,hown,hk,hr⟩:=h.iI hN hc
 have had:ad=a0:=by
  rcases q4 with q4|q4
  ·exact absurd rfl q4.2.1
  ·rw[q4];cases a0<;>simp[Addr.add]
 have hc0:c=c0:=by omega
 subst had hc0;have hbv:dS v=dS (L id):=by rw[hv,hl];cases ad<;>rfl
 have hlen:(es.take n).length=n:=by simp;omega
 have hnew:w.ownsRow (gd E v) e0 k' v (es.take n).length (vs.take (n*k')):=by
  rw[xn hbv,hlen];have hvl:vs.length=es.length*k':=hown.1;have hnk:n*k'<=es.length*k':=Qq62 _ (by omega)
  refine⟨by rw[List.length_take,hvl];omega,?_⟩
  rcases hown.2 with⟨hL,h0⟩|⟨g,cap,cur,hL,hb1,hh,hnc,hcm,hcs,htake⟩
  ·left;rw[hl]at hL;injection hL with e1 e2 e3
   subst e1 e2 e3;have hn0:n=0:=by omega
   subst hn0;exact⟨hv,rfl⟩
  ·right;rw[hl]at hL;injection hL with e1 e2 e3
   subst e1 e2 e3;refine⟨g,c,cur,hv,hb1,hh,by omega,hcm,hcs,?_⟩
   rw[<-htake,List.take_take,Nat.min_eq_left hnk]
 obtain⟨h1,hs,hg⟩:=h.og (w':=w) hN ⟨ar+1,.row e0 k' (es.take n)⟩ v (.inr (by show(S.H id).ar<ar+1;omega)) rfl rfl rfl (QI _) (fun _ _ _=>rfl)
  (fun b _ hb=> .inl ⟨hlive,by rw[<-hbv];exact hb⟩)
  (fun hs hg=>⟨_,hnew,fun u hu=>hk u (Q0 hu),by rw[qL k' n es hk];exact(hr.take _).mono hs hg⟩)
 refine⟨h1,?_⟩;subst hv;exact .own _ _ _ _ _ hN (by simp[St.gh]) (fun _=>by simp[St.gh])
theorem Rel.Yy(h:Rel E S a w L){id:Nat}{cs cs':List PV}(hid:id<S.N)(hc:(S.H id).c= .box cs)(hr:∀vs,aR w (bp E S L) (S.gh L) cs vs->aR w (bp E S L) (S.gh L) cs' vs):
  Rel E {S with H:=bS S.H id ⟨(S.H id).ar,.box cs'⟩} a w L:=by
 have:=(h.og (w':=w) hid ⟨(S.H id).ar,.box cs'⟩ (L id) (.inl ⟨rfl,rfl,by rw[hc];rfl⟩) rfl rfl rfl (QI _) (fun _ _ _=>rfl) (fun b _ hb=> .inl ⟨by rw[hc];rfl,hb⟩) (fun hs hg=>by
  obtain⟨b,cur,T,h1,h2,h3,h4⟩:=h.nf hid hc
  exact⟨b,cur,T,h1,h2,h4,(hr _ h3).mono hs hg⟩)).1
 rwa [BC]at this
theorem aR.set{M:Nat->Prop}{G:Gh}{cs:List PV}{vs:List Value}(h:aR w M G cs vs)(i:Nat)(y:PV)(hy:∀v,vs[i]?=some v->aW w M G y v):aR w M G (cs.set i y) vs:=by
 refine⟨by rw[QX];exact h.1,fun j x v hx hv=> ?_⟩
 rw[List.getElem?_set]at hx;split at hx
 ·rename_i hij;subst hij;split at hx
  ·injection hx with hx;subst hx;exact hy v hv
  ·cases hx
 ·exact h.2 j x v hx hv
theorem Rel.Y2(h:Rel E S a w L){S':St}(hH:S'.H=S.H)(hN:S'.N=S.N)(he:∀t,S'.env t=S.env t\/S'.env t= .any):Rel E S' a w L:=by
 obtain⟨env,H,N⟩:=S;obtain⟨env',H',N'⟩:=S';simp only at hH hN he;subst hH hN;refine⟨h.defers,h.size,fun t=> ?_,h.obj,h.apart,h.fresh,h.fr,h.AV⟩
 rcases he t with e|e
 ·show aW _ _ _ (env' t) _;rw[e];exact h.env t
 ·show aW _ _ _ (env' t) _;rw[e];exact .any _
end
section
variable {U : TU}
inductive Ps (U:TU) where
 |own (t e k:Nat) (T:U.Ty)
 |zX (t:Nat)
 |tu (t off e k:Nat) (T:U.Ty)
 |Ax (t off:Nat)
 |cut (t:Nat)
def Ps.run(S:aS U):Ps U->Option (aS U)
 | .own t e k T=>(match S.env t with
  | .dx=>some {env:=fE S.env t (.own S.N 1),H:=fE S.H S.N ⟨1,.row e k T []⟩,N:=S.N+1}
  |_=>none)
 | .zX t=>(match S.env t with
  | .own id ar=>(match S.row? id ar with
   |some r=>some {env:=fE S.env t (.sl r.T r.xs),H:=fE S.H id ⟨ar,.dead⟩,N:=S.N}
   |none=>none)
  |_=>none)
 | .tu t off e k T=>(match S.env t with
  | .ptr id ar _=>(match S.mL id ar with
   |some cs=>(match cs[off]? with
    |some .dx=>some {env:=S.env,H:=fE (fE S.H S.N ⟨1,.row e k T []⟩) id ⟨ar,.box (cs.set off (.own S.N 1))⟩,N:=S.N+1}
    |_=>none)
   |none=>none)
  |_=>none)
 | .Ax t off=>(match S.env t with
  | .ptr id ar _=>(match S.mL id ar with
   |some cs=>(match cs[off]? with
    |some (.own i v)=>(match S.row? i v with
     |some r=>some {env:=S.env,H:=fE (fE S.H i ⟨v,.dead⟩) id ⟨ar,.box (cs.set off (.sl r.T r.xs))⟩,N:=S.N}
     |none=>none)
    |_=>none)
   |none=>none)
  |_=>none)
 | .cut t=>(match S.env t with
  | .view id ar _ lo n=>(match S.row? id ar with
   |some r=>(match Nat.beq lo 0 with
    |true=>some {env:=fE S.env t (.own id (ar+1)),H:=fE S.H id ⟨ar+1,.row r.e r.k r.T (r.xs.take n)⟩,N:=S.N}
    |false=>none)
   |none=>none)
  |_=>none)
def Ps.tmps:Ps U->List Nat
 | .own t _ _ _| .zX t| .cut t=>[t]
 | .tu _ _ _ _ _| .Ax _ _=>[]
def Ps.B0(S:aS U):Ps U->List Nat
 | .own _ _ _ _=>[S.N]
 | .zX t=>(match S.env t with| .own id _=>[id]|_=>[])
 | .cut t=>(match S.env t with| .view id _ _ _ _=>[id]|_=>[])
 | .tu t _ _ _ _=>S.N::(match S.env t with| .ptr id _ _=>[id]|_=>[])
 | .Ax t off=>(match S.env t with
  | .ptr id ar _=>id::(match S.mL id ar with
   |some cs=>(match cs[off]? with|some (.own i _)=>[i]|_=>[])
   |none=>[])
  |_=>[])
theorem Ps.sound(K:TK U){S S':aS U}{p:Ps U}(hp:p.run S=some S'){E:En}{a:Act}{w:World}{L:Nat->Value}(h:Rel E S.st a w L):∃L',Rel E S'.st a w L':=by
 cases p with
 |own t e k T=>
  simp only[Ps.run]at hp;split at hp
  ·rename_i ht;injection hp with hp
   subst hp;have h0:=h.room 1;have hf:(S.st.H S.N)=⟨0,.dead⟩:=h.fresh S.N (QI _);have hid:S.N<({S.st with N:=S.st.N+1}:St).N:=Nat.lt_succ_self S.N
   have h1:=h0.abo hid e k;refine⟨bS L S.N (.slice none 0 0),?_⟩
   have heq:(aS.st {env:=fE S.env t (.own S.N 1),H:=fE S.H S.N ⟨1,.row e k T []⟩,N:=S.N+1}:St)={env:=bS S.st.env t (.own S.N 1),H:=bS S.st.H S.N ⟨(S.st.H S.N).ar+1,.row e k []⟩,N:=S.st.N+1}:=by
    rw[hf];unfold aS.st;congr 1
    ·simp only[cH];exact lP _ _ _ _
    ·simp only[cH];exact lP _ _ _ _
   rw[heq];refine⟨h1.defers,h1.size,fun j=> ?_,h1.obj,h1.apart,h1.fresh,h1.fr,h1.AV⟩
   show aW w _ _ (bS S.st.env t _ j) _
   by_cases hj:j=t
   ·subst hj;have h2:=h.env j;have h3:S.st.env j= .dx:=by simp only[aS.st,ht,KV.pv]
    rw[h3]at h2;rw[ca];have:=abC (L:=L) (S:={S.st with N:=S.st.N+1}) hid e k (w:=w) (M:=bp E {env:=S.st.env,H:=bS S.st.H S.N ⟨(S.st.H S.N).ar+1,.row e k []⟩,N:=S.st.N+1} (bS L S.N (.slice none 0 0))) h2.oX
    have hv:(S.st.H S.N).ar+1=1:=by rw[hf]
    simp only[hv]at this ⊢;exact this
   ·rw[cu _ _ hj];exact h1.env j
  ·cases hp
 |zX t=>
  simp only[Ps.run]at hp;split at hp
  ·rename_i id ar ht;split at hp
   ·rename_i r hr;injection hp with hp
    subst hp;obtain⟨hv,hc⟩:=lz hr;have h2:=h.env t;have h3:S.st.env t= .own id (S.st.H id).ar:=by rw[hv];simp only[aS.st,ht,KV.pv]
    rw[h3]at h2
    obtain⟨h4,h5⟩:=h.zX h2 hc (fun u hu=>by
     obtain⟨x,_,rfl⟩:=QP.1 hu
     exact QH.2 fun y hy=>hO (K.fp _ _ _ hy))
    rw[hv]at h4 h5;refine⟨L,?_⟩
    have heq:(aS.st {env:=fE S.env t (.sl r.T r.xs),H:=fE S.H id ⟨ar,.dead⟩,N:=S.N}:St)={env:=bS S.st.env t (.sl (r.xs.map (U.pv r.T))),H:=bS S.st.H id ⟨ar,.dead⟩,N:=S.st.N}:=by
     unfold aS.st;congr 1
     ·simp only[cH];exact lP _ _ _ _
     ·simp only[cH];exact lP _ _ _ _
    rw[heq];refine⟨h4.defers,h4.size,fun j=> ?_,h4.obj,h4.apart,h4.fresh,h4.fr,h4.AV⟩
    show aW w _ _ (bS S.st.env t _ j) _
    by_cases hj:j=t
    ·subst hj;rw[ca];exact h5
    ·rw[cu _ _ hj];exact h4.env j
   ·cases hp
  ·cases hp
 |cut t=>
  simp only[Ps.run]at hp;split at hp
  ·rename_i id ar k lo n ht;split at hp
   ·rename_i r hr;split at hp
    ·rename_i hlo;injection hp with hp
     subst hp;have hlo:=QF hlo;subst hlo;obtain⟨hv,hc⟩:=lz hr;have h2:=h.env t;have h3:S.st.env t= .view id ar k 0 n:=by simp only[aS.st,ht,KV.pv]
     rw[h3]at h2;obtain⟨h4,h5⟩:=h.aeV h2 hv hc;refine⟨bS L id (a.tmps.getD t undef),?_⟩
     have heq:(aS.st {env:=fE S.env t (.own id (ar+1)),H:=fE S.H id ⟨ar+1,.row r.e r.k r.T (r.xs.take n)⟩,N:=S.N}:St)={env:=bS S.st.env t (.own id (ar+1)),H:=bS S.st.H id ⟨ar+1,.row r.e r.k ((r.xs.map (U.pv r.T)).take n)⟩,N:=S.st.N}:=by
      unfold aS.st;congr 1
      ·simp only[cH];exact lP _ _ _ _
      ·simp only[cH];rw[<-List.map_take];exact lP _ _ _ _
     rw[heq];refine⟨h4.defers,h4.size,fun j=> ?_,h4.obj,h4.apart,h4.fresh,h4.fr,h4.AV⟩
     show aW w _ _ (bS S.st.env t _ j) _
     by_cases hj:j=t
     ·subst hj;rw[ca];exact h5
     ·rw[cu _ _ hj];exact h4.env j
    ·cases hp
   ·cases hp
  ·cases hp
 |tu t off e k T=>
  simp only[Ps.run]at hp;split at hp
  ·rename_i id ar o ht;split at hp
   ·rename_i cs hb;split at hp
    ·rename_i hcell;injection hp with hp
     subst hp;obtain⟨hv,hc⟩:=py hb;have h3:S.st.env t= .ptr id ar o:=by simp only[aS.st,ht,KV.pv]
     have hlt:id<S.N:=by
      have h2:=h.env t;rw[h3]at h2;exact(h2.mM (show(S.st.gh L).V id=ar from hv)).1
     have h0:=h.room 1;have hf:(S.st.H S.N)=⟨0,.dead⟩:=h.fresh S.N (QI _);have hid:S.N<({S.st with N:=S.st.N+1}:St).N:=Nat.lt_succ_self S.N
     have h1:=h0.abo hid e k;have hne:id≠S.N:=Nat.ne_of_lt hlt
     have h2:=h1.Yy (id:=id) (cs:=cs.map KV.pv) (cs':=(cs.map KV.pv).set off (.own S.N ((S.st.H S.N).ar+1))) (Nat.lt_succ_of_lt hlt) (by show(bS S.st.H S.N _ id).c=_;rw[cu _ _ hne];exact hc)
      (fun vs hr=>hr.set _ _ fun v hvv=>by
       have hn:(cs.map KV.pv)[off]?=some .dx:=by rw[QT,hcell];rfl
       exact abC (L:=L) (S:={S.st with N:=S.st.N+1}) hid e k (hr.2 off .dx v hn hvv).oX)
     refine⟨bS L S.N (.slice none 0 0),?_⟩
     have heq:(aS.st {env:=S.env,H:=fE (fE S.H S.N ⟨1,.row e k T []⟩) id ⟨ar,.box (cs.set off (.own S.N 1))⟩,N:=S.N+1}:St)
       ={env:=S.st.env,H:=bS (bS S.st.H S.N ⟨(S.st.H S.N).ar+1,.row e k []⟩) id ⟨(bS S.st.H S.N ⟨(S.st.H S.N).ar+1,.row e k []⟩ id).ar,.box ((cs.map KV.pv).set off (.own S.N ((S.st.H S.N).ar+1)))⟩,N:=S.st.N+1}:=by
      rw[cu _ _ hne,hv,hf];unfold aS.st;congr 1;simp only[cH];rw[lP,lP];simp only[cV.pv,dz.pv,List.map_set,KV.pv,QO]
     rw[heq];exact h2
    ·cases hp
   ·cases hp
  ·cases hp
 |Ax t off=>
  simp only[Ps.run]at hp;split at hp
  ·rename_i id ar o ht;split at hp
   ·rename_i cs hb;split at hp
    ·rename_i i v hcell;split at hp
     ·rename_i r hr;injection hp with hp
      subst hp;obtain⟨hv,hc⟩:=py hb;obtain⟨hv2,hc2⟩:=lz hr;have h3:S.st.env t= .ptr id ar o:=by simp only[aS.st,ht,KV.pv]
      have hlt:id<S.N:=by
       have h2:=h.env t;rw[h3]at h2;exact(h2.mM (show(S.st.gh L).V id=ar from hv)).1
      have hcell':(cs.map KV.pv)[off]?=some (.own i v):=by rw[QT,hcell];rfl
      have hili:i<S.N:=by
       obtain⟨b,cur,T,h5,h6,h7,h8⟩:=h.nf hlt hc;obtain⟨u,hu,hru⟩:=h7.get hcell';exact(hru.kR (show(S.st.gh L).V i=v from hv2)).1
      have hne:id≠i:=by
       intro e;subst e;rw[hc]at hc2;cases hc2
      obtain⟨h4,h5⟩:=h.aci hili hc2 (fun u hu=>by
       obtain⟨x,_,rfl⟩:=QP.1 hu
       exact QH.2 fun y hy=>hO (K.fp _ _ _ hy))
      have h6:=h4.Yy (id:=id) (cs:=cs.map KV.pv) (cs':=(cs.map KV.pv).set off (.sl (r.xs.map (U.pv r.T)))) hlt (by show(bS S.st.H i _ id).c=_;rw[cu _ _ hne];exact hc)
       (fun vs hrr=>hrr.set _ _ fun u hu=>h5 u (by
        have:=hrr.2 off _ u hcell' hu
        exact(this.kR (show(bS S.st.H i ⟨(S.st.H i).ar,.dead⟩ i).ar=v by rw[ca];exact hv2)).2))
      refine⟨L,?_⟩
      have heq:(aS.st {env:=S.env,H:=fE (fE S.H i ⟨v,.dead⟩) id ⟨ar,.box (cs.set off (.sl r.T r.xs))⟩,N:=S.N}:St)
        ={env:=S.st.env,H:=bS (bS S.st.H i ⟨(S.st.H i).ar,.dead⟩) id ⟨(bS S.st.H i ⟨(S.st.H i).ar,.dead⟩ id).ar,.box ((cs.map KV.pv).set off (.sl (r.xs.map (U.pv r.T))))⟩,N:=S.st.N}:=by
       rw[cu _ _ hne,hv,hv2];unfold aS.st;congr 1;simp only[cH];rw[lP,lP];simp only[cV.pv,dz.pv,List.map_set,KV.pv]
      rw[heq];exact h6
     ·cases hp
    ·cases hp
   ·cases hp
  ·cases hp
inductive RS (U:TU) where
 |nil
 |op (o:SG) (r:RS U)
 |ps (p:Ps U) (r:RS U)
 |w4 (t:Nat) (r:RS U)
 |ite (t:Nat) (want:Bool) (body:RS U) (d:Nat) (g:Option (Nat×Bool)) (x y:bg) (r:RS U)
 |two (d:Option Nat) (f:FuncId) (x y:bg) (r:RS U)
 |pr (t1:Nat) (f g:FuncId) (x:bg) (t2:Nat) (r:RS U)
def RS.flat:RS U->List SG
 | .nil=>[]
 | .op o r=>o::r.flat
 | .ps _ r=>r.flat
 | .w4 _ r=>r.flat
 | .ite t _ b d g x y r=>b.flat++⟨some d,g,.pick (.tmp t) x y⟩::r.flat
 | .two d f x y r=>⟨d,none,.call f [x,y]⟩::r.flat
 | .pr t1 f g x t2 r=>⟨some t1,none,.call f [x]⟩::⟨some t2,none,.call g [.tmp t1]⟩::r.flat
def RS.fK:RS U->List Nat
 | .nil=>[]
 | .op o r=>(match o.d with|some t=>t::r.fK|none=>r.fK)
 | .ps p r=>p.tmps++r.fK
 | .w4 _ r=>r.fK
 | .ite _ _ b d _ _ _ r=>b.fK++d::r.fK
 | .two d _ _ _ r=>(match d with|some t=>t::r.fK|none=>r.fK)
 | .pr t1 _ _ _ t2 r=>t1::t2::r.fK
def pY:List SG->List Nat
 |[]=>[]
 |o::l=>(match o.d with|some t=>t::pY l|none=>pY l)
def RS.len:RS U->Nat
 | .nil=>0
 | .op _ r=>r.len+1
 | .ps _ r=>r.len
 | .w4 _ r=>r.len
 | .ite _ _ b _ _ _ _ r=>b.len+(r.len+1)
 | .two _ _ _ _ r=>r.len+1
 | .pr _ _ _ _ _ r=>r.len+1+1
theorem RS.qH:∀(r:RS U),r.flat.length=r.len
 | .nil=>rfl
 | .op _ r=>by simp[RS.flat,RS.len,r.qH]
 | .ps _ r=>r.qH
 | .w4 _ r=>r.qH
 | .ite _ _ b _ _ _ _ r=>by simp[RS.flat,RS.len,b.qH,r.qH]
 | .two _ _ _ _ r=>by simp[RS.flat,RS.len,r.qH]
 | .pr _ _ _ _ _ r=>by simp[RS.flat,RS.len,r.qH]
def jH(t:Nat):List Nat->Bool
 |[]=>false
 |x::l=>(match Nat.beq t x with|true=>true|false=>jH t l)
theorem jq{t:Nat}:∀{l:List Nat},jH t l=true↔t∈l
 |[]=>by simp[jH]
 |x::l=>by
  simp only[jH];split
  ·rename_i h;simp[QF h]
  ·rename_i h;rw[jq];simp[Nat.ne_of_beq_eq_false h]
theorem oY{t:Nat}{l:List Nat}(h:jH t l=false):t∉l:=fun hm=>by rw[jq.2 hm]at h;cases h
def TP:Bool->Bool->Bool
 |true,b=>b
 |false,true=>false
 |false,false=>true
theorem Fp(x y:Bool):TP x y=(x==y):=by cases x<;>cases y<;>rfl
abbrev WS:=Option (Nat×List Nat)
def okW:WS->Nat->Bool
 |none,_=>false
 |some (n,l),id=>Nat.ble n id||jH id l
def BY(W:WS):Option (Nat×cV U)->Bool
 |none=>true
 |some (id,_)=>okW W id
def Di(t:Nat)(want:Bool):List Nat->List SG->Bool
 |_,[]=>true
 |u,o::l=>(match o.g with
  |some (t',want')=>(Nat.beq t' t&&TP want' want)||jH t' u
  |none=>false)&&(match o.d with
   |some d=> !Nat.beq d t&&Di t want (d::u) l
   |none=>Di t want u l)
variable (K : TK U)
def TD{ρ:Type}(Γ:List (dk U))(W:WS)(nid:Nat)(S:aS U)(o:SG)(k:KV U->Option (Nat×cV U)->Option ρ):Option ρ:=
 match o.g with
 |none=>eG K Γ nid S o.op fun x wr=>(match BY W wr with|true=>k x wr|false=>none)
 |some (t,want)=>match S.env t with
  | .bool b=>(match TP b want with
   |true=>eG K Γ nid S o.op fun x wr=>(match BY W wr with|true=>k x wr|false=>none)
   |false=>k .undef none)
  | .undef=>k .undef none
  |_=>none
def Yw{ρ:Type}(Γ:List (dk U))(W:WS)(nid:Nat)(S:aS U)(o:SG)(k:aS U->Option ρ):Option ρ:=
 TD K Γ W nid S o fun x wr=>k (S.cZ o.d x wr)
def Yt(S:aS U)(ds:List Nat):Option (Nat×Bool)->Bool
 |none=>true
 |some (t,want)=>(match S.env t with| .bool b=>TP b want&& !jH t ds|_=>false)
def aS.forget(S:aS U)(ds:List Nat):aS U:={env:=fun t=>(match jH t ds with|true=> .any|false=>S.env t),H:=S.H,N:=S.N}
def TF:bg->Option Bool
 | .Ab (.bool b)=>some b
 |_=>none
def MI{ρ:Type}(S:aS U)(W:WS)(f:FuncId)(x y:KV U)(k:aS U->Option ρ):List (dk U)->Option ρ
 |[]=>none
 | .r2 g R1 R2 F::Γ=>(match Nat.beq f g with
  |true=>(match x,y with
   | .ptr i v 0,.ptr j u 0=>(match S.mL i v,S.mL j u,Nat.beq i j,okW W i&&okW W j with
    |some cs,some ds,false,true=>(match K.dec R1 mf cs,K.dec R2 mf ds with
     |some s,some t=>(F s t).bind fun p=>k {S with H:=fE (fE S.H i ⟨v,.box (K.fD R1 p.1)⟩) j ⟨u,.box (K.fD R2 p.2)⟩}
     |_,_=>none)
    |_,_,_,_=>none)
   |_,_=>none)
  |false=>MI S W f x y k Γ)
 |_::Γ=>MI S W f x y k Γ
def Va{ρ:Type}(S:aS U)(W:WS)(nid:Nat)(f g:FuncId)(x:KV U)(k:(Nat×cV U)->Option ρ):List (dk U)->Option ρ
 |[]=>none
 | .pr f' g' A_s e kk T F::Γ=>(match Nat.beq f f'&&Nat.beq g g' with
  |true=>(match nU K S none A_s [x]with
   |some a=>(match(U.plain T||x.bB)&&Nat.ble (lT A_s) 9&&okW W nid with
    |true=>(F a).bind fun ys=>k (nid,⟨(S.H nid).ar+1,.row e kk T ys⟩)
    |false=>none)
   |none=>none)
  |false=>Va S W nid f g x k Γ)
 |_::Γ=>Va S W nid f g x k Γ
def ib(Γ:List (dk U)):RS U->{ρ:Type}->(W:WS)->(nid:Nat)->(S:aS U)->(k:aS U->Option ρ)->Option ρ
 | .nil,_,_,_,S,k=>k S
 | .op o r,_,W,nid,S,k=>Yw K Γ W nid S o fun S'=>ib Γ r W (nid+1) S' k
 | .ps p r,_,W,nid,S,k=>(match(p.B0 S).all (okW W)with
  |true=>(match p.run S with|some S'=>ib Γ r W nid S' k|none=>none)
  |false=>none)
 | .w4 t r,_,W,nid,S,k=>(match S.env t with
  | .bool b=>bif b then ib Γ r W nid (S.cZ (some t) (.bool true) none) k else ib Γ r W nid (S.cZ (some t) (.bool false) none) k
  | .undef=>ib Γ r W nid S k
  |_=>none)
 | .ite t want body d g x y r,_,W,nid,S,k=>(match S.env t with
  | .bool b=>(match Yt S body.fK g&&(Di t want [] body.flat&& !jH t body.fK)with
   |true=>(match want with
    |true=>(match TF y with
     |some c=>(bif b then ib Γ body none nid (S.cZ (some t) (.bool true) none) (fun S1=>Eo (x.cA S1))else some c).bind fun v=>ib Γ r W (nid+(body.len+1)) ((S.forget body.fK).cZ (some d) (.bool v) none) k
     |none=>none)
    |false=>(match TF x with
     |some c=>(bif b then some c else ib Γ body none nid (S.cZ (some t) (.bool false) none) (fun S1=>Eo (y.cA S1))).bind fun v=>ib Γ r W (nid+(body.len+1)) ((S.forget body.fK).cZ (some d) (.bool v) none) k
     |none=>none))
   |false=>none)
  |_=>none)
 | .two d f x y r,_,W,nid,S,k=>MI K S W f (x.cA S) (y.cA S) (fun S1=>ib Γ r W (nid+1) (S1.cZ d (.cX []) none) k) Γ
 | .pr t1 f g x t2 r,_,W,nid,S,k=>(match Nat.beq t1 t2 with
  |true=>none
  |false=>Va K S W (nid+1) f g (x.cA S) (fun o=>ib Γ r W (nid+1+1) ((S.cZ (some t1) .any none).cZ (some t2) (.own (nid+1) ((S.H (nid+1)).ar+1)) (some o)) k) Γ)
structure xk (D:List Nat) (W:WS) (S S':aS U):Prop where
 env:∀t,t∉D->S'.env t=S.env t
 H:∀id,okW W id=false->S'.H id=S.H id
 N:S.N<=S'.N
 Nn:W=none->S'.N=S.N
theorem xk.refl(D:List Nat)(W:WS)(S:aS U):xk D W S S:=⟨fun _ _=>rfl,fun _ _=>rfl,QI _,fun _=>rfl⟩
theorem xk.trans{D D' D'':List Nat}{W:WS}{S S' S'':aS U}(h:xk D W S S')(h':xk D' W S' S'')(hd:∀t,t∉D''->t∉D/\t∉D'):xk D'' W S S'':=
 ⟨fun t ht=>(h'.env t (hd t ht).2).trans (h.env t (hd t ht).1),fun id hid=>(h'.H id hid).trans (h.H id hid),QK h.N h'.N,fun e=>(h'.Nn e).trans (h.Nn e)⟩
theorem kq(S:aS U)(d:Option Nat)(x:KV U)(wr:Option (Nat×cV U)){t:Nat}(h:d≠some t):(S.cZ d x wr).env t=S.env t:=by
 cases d with
 |none=>rfl
 |some d=>simp only[aS.cZ,cH];exact cu _ _ (fun e=>h (by rw[e]))
theorem Cu(S:aS U)(d:Option Nat)(x:KV U)(wr:Option (Nat×cV U)){i:Nat}(h:wr.map (·.1)≠some i):(S.cZ d x wr).H i=S.H i:=by
 cases wr with
 |none=>rfl
 |some p=>simp only[aS.cZ,cH];exact cu _ _ (fun e=>h (by rw[e];rfl))
theorem Br(S:aS U)(W:WS)(d:Option Nat)(x:KV U)(wr:Option (Nat×cV U))(h:BY W wr=true):xk d.toList W S (S.cZ d x wr):=by
 refine⟨fun t ht=>kq _ _ _ _ (fun e=>ht (by simp[e])),fun id hid=>Cu _ _ _ _ (fun e=> ?_),QI _,fun _=>rfl⟩
 cases wr with
 |none=>cases e
 |some p=>simp only[Qe,Qf]at e;simp only[BY]at h;rw[e,hid]at h;cases h
variable {K}
variable {P : Program}
theorem I0{ρ:Type}{Γ:List (dk U)}{W:WS}{nid:Nat}{S:aS U}{o:SG}{k:KV U->Option (Nat×cV U)->Option ρ}{r:ρ}(hΓ:tN P Γ)(ho:o.op.du=true)(h:TD K Γ W nid S o k=some r):
  ∃Γ' x wr,nW P Γ'/\xb Γ' nid S.st o=some (x.pv,wr.map iA)/\BY W wr=true/\k x wr=some r:=by
 have run:∀(hw:o.wanted S.st=some true),eG K Γ nid S o.op (fun x wr=>(match BY W wr with|true=>k x wr|false=>none))=some r->
   ∃Γ' x wr,nW P Γ'/\xb Γ' nid S.st o=some (x.pv,wr.map iA)/\BY W wr=true/\k x wr=some r:=by
  intro hw h;obtain⟨Γ',x,wr,h1,h2,h3⟩:=PT hΓ ho h;split at h3
  ·rename_i hok;refine⟨Γ',x,wr,h1,?_,hok,h3⟩;rw[xb,hw];exact h2
  ·cases h3
 have skip:∀(hw:o.wanted S.st=some false),k .undef none=some r->
   ∃Γ' x wr,nW P Γ'/\xb Γ' nid S.st o=some (x.pv,wr.map iA)/\BY W wr=true/\k x wr=some r:=by
  intro hw h;refine⟨fun _=>none,.undef,none,fun f m hm=>(by cases hm),?_,rfl,h⟩
  rw[xb,hw];rfl
 unfold TD at h;split at h
 ·rename_i hg;exact run (by rw[SG.wanted,hg]) h
 ·rename_i t want hg;split at h
  ·rename_i b hb;have hb':S.st.env t= .bool b:=by simp only[aS.st,hb,KV.pv]
   split at h
   ·rename_i hbw;exact run (by simp only[SG.wanted,hg,hb'];rw[Fp]at hbw;rw[hbw]) h
   ·rename_i hbw;refine skip ?_ h;simp only[SG.wanted,hg,hb'];rw[Fp]at hbw;rw[hbw]
  ·rename_i hb;have hb':S.st.env t= .undef:=by simp only[aS.st,hb,KV.pv]
   exact skip (by simp only[SG.wanted,hg,hb']) h
  ·cases h
theorem Pj{ρ:Type}{Γ:List (dk U)}{W:WS}{nid:Nat}{S:aS U}{o:SG}{k:aS U->Option ρ}{r:ρ}(hΓ:tN P Γ)(ho:o.op.du=true)(h:Yw K Γ W nid S o k=some r):
  ∃Γ' x wr,nW P Γ'/\xb Γ' nid S.st o=some (x.pv,wr.map iA)/\BY W wr=true/\k (S.cZ o.d x wr)=some r:=I0 hΓ ho h
theorem S8:nW P (fun _=>none):=fun f m hm=>by cases hm
theorem BJ{E:En}{hs:List Nat}{ops:Array Oper}{t:Nat}{want:Bool}{Q:Exit->Act->World->Prop}{l2:List Oper}:∀(l1:List Oper) (gs:List SG) (u:List Nat) (S:St) (a:Act) (w:World) (L:Nat->Value),
  l1.mapM (ze P hs ops)=some gs->Rel E S a w L->0<S.N->(∀o∈l1,∀t,o.dst=some t->E.can t)->Di t want u gs=true->S.env t= .bool (!want)->(∀x∈u,S.env x= .undef)->
  (∀S' a' w' L',(∀x,x∉pY gs->S'.env x=S.env x)->S'.H=S.H->S'.N=S.N->Rel E S' a' w' L'->wpListIn (WF E.rd) 0 P ops Q l2 a' w')->wpListIn (WF E.rd) 0 P ops Q (l1++l2) a w
 |[],gs,u,S,a,w,L,hm,h,hN,hd,hs,ht,hu,hk=>by
  simp at hm;subst hm;exact hk S a w L (fun _ _=>rfl) rfl rfl h
 |o::l1,gs,u,S,a,w,L,hm,h,hN,hd,hs,ht,hu,hk=>by
  simp only[Qq74,Qd,Qc,Option.pure_def,Qf]at hm;obtain⟨g,hg,gs',hgs,rfl⟩:=hm;simp only[Di,Qm]at hs;obtain⟨h1,h2⟩:=hs
  have hw:g.wanted S=some false:=by
   split at h1
   ·rename_i t' want' hgg;rw[Qn,Qm]at h1;rw[SG.wanted,hgg];rcases h1 with⟨h3,h4⟩|h3
    ·rw[QF h3];rw[Fp]at h4;simp only[ht];have:=eq_of_beq h4;subst this;cases want'<;>rfl
    ·simp only[hu t' (jq.1 h3)]
   ·cases h1
  have hst:CD (fun _=>none) 0 S g=some (S.cZ g.d .undef none):=by rw[CD,hw]
  rw[List.cons_append];refine wpListIn_step fun K hK=> ?_
  refine zC S8 hg h hN (hd o (by simp)) hst (fun a' w' L' h'=>hK _ _ ?_)
  split at h2
  ·rename_i d hdd;rw[Qm]at h2;have hdt:d≠t:=fun e=>by subst e;have:=h2.1;simp at this
   refine BJ l1 gs' (d::u) _ a' w' L' hgs h' hN (fun o' ho'=>hd o' (by simp[ho'])) h2.2 ?_ ?_ ?_
   ·rw[hdd,St.kq _ _ _ (by simp[hdt])];exact ht
   ·intro x hx;rw[hdd]
    by_cases hxd:x=d
    ·subst hxd;exact ca _ _ _
    ·rw[St.kq _ _ _ (by simpa using fun e=>hxd e.symm)]
     exact hu x ((QA.1 hx).resolve_left hxd)
   ·intro S' a' w' L' he hH hN h';refine hk S' a' w' L' (fun x hx=> ?_) hH hN h'
    simp only[pY,hdd,QA,not_or]at hx;rw[he x hx.2,hdd,St.kq _ _ _ (by simpa using fun e=>hx.1 e.symm)]
  ·rename_i hdd;refine BJ l1 gs' u _ a' w' L' hgs h' hN (fun o' ho'=>hd o' (by simp[ho'])) h2 ?_ ?_ ?_
   ·rw[hdd];exact ht
   ·intro x hx;rw[hdd];exact hu x hx
   ·intro S' a' w' L' he hH hN h';refine hk S' a' w' L' (fun x hx=> ?_) hH hN h'
    simp only[pY,hdd]at hx;rw[he x hx,hdd];rfl
def RS.du:RS U->Bool
 | .nil=>true
 | .op o r=>o.op.du&&r.du
 | .ps _ r=>r.du
 | .w4 _ r=>r.du
 | .ite _ _ b _ _ x y r=>b.du&&(x.du&&y.du)&&r.du
 | .two _ _ x y r=>(x.du&&y.du)&&r.du
 | .pr _ _ _ x _ r=>x.du&&r.du
theorem km:∀(r:RS U) (t:Nat),t∈pY r.flat->t∈r.fK
 | .nil,t,h=>h
 | .op o r,t,h=>by
  simp only[RS.flat,pY]at h;simp only[RS.fK];split at h
  ·rcases QA.1 h with h|h
   ·exact QA.2 (.inl h)
   ·exact QA.2 (.inr (km r t h))
  ·exact km r t h
 | .two d f x y r,t,h=>by
  simp only[RS.flat,pY]at h;simp only[RS.fK];split at h
  ·rcases QA.1 h with h|h
   ·exact QA.2 (.inl h)
   ·exact QA.2 (.inr (km r t h))
  ·exact km r t h
 | .pr t1 f g x t2 r,t,h=>by
  simp only[RS.flat,pY,QA]at h;simp only[RS.fK,QA];rcases h with h|h|h
  ·exact .inl h
  ·exact .inr (.inl h)
  ·exact .inr (.inr (km r t h))
 | .ps p r,t,h=>Qz.2 (.inr (km r t h))
 | .w4 _ r,t,h=>km r t h
 | .ite t0 want b d g x y r,t,h=>by
  have cZ:∀(l1 l2:List SG),t∈pY (l1++l2)->t∈pY l1\/t∈pY l2:=by
   intro l1 l2
   induction l1 with
   |nil=>exact fun h=> .inr h
   |cons o l1 ih=>
    intro h;simp only[List.cons_append,pY]at h ⊢
    cases hd:o.d with
    |none=>rw[hd]at h;exact ih h
    |some e=>
     rw[hd]at h;simp only[QA]at h ⊢;rcases h with h|h
     ·exact .inl (.inl h)
     ·rcases ih h with h|h
      ·exact .inl (.inr h)
      ·exact .inr h
  simp only[RS.flat]at h;simp only[RS.fK,Qz,QA];rcases cZ _ _ h with h|h
  ·exact .inl (km b t h)
  ·simp only[pY,QA]at h;rcases h with h|h
   ·exact .inr (.inl h)
   ·exact .inr (.inr (km r t h))
theorem aay{x:KV U}{b:Bool}(h:Eo x=some b):x= .bool b:=by
 unfold Eo at h;split at h
 ·injection h with h;rw[h]
 ·cases h
theorem zj{S:aS U}{t:Nat}{x:KV U}(h:S.env t=x):S.cZ (some t) x none=S:=by
 unfold aS.cZ;obtain⟨env,H,N⟩:=S;simp only at h ⊢;congr 1;rw[cH,<-h];exact BC _ _
theorem Ps.frm{S S':aS U}{p:Ps U}(hp:p.run S=some S'){W:WS}(hW:(p.B0 S).all (okW W)=true):xk p.tmps W S S':=by
 have ne:∀{id id':Nat},okW W id=true->okW W id'=false->id'≠id:=fun h1 h2 e=>by subst e;rw[h1]at h2;cases h2
 have hN:∀{n:Nat},okW W n=true->W≠none:=fun h e=>by rw[e]at h;cases h
 cases p with
 |own t e k T=>
  simp only[Ps.run]at hp;split at hp
  ·injection hp with hp
   subst hp;simp only[Ps.B0,Qq69,List.all_nil,Bool.and_true]at hW;exact⟨fun x hx=>by simp only[cH];exact cu _ _ (by simpa[Ps.tmps]using hx),fun id hid=>by simp only[cH];exact cu _ _ (ne hW hid),Nat.le_succ _,fun e=>absurd e (hN hW)⟩
  ·cases hp
 |zX t=>
  simp only[Ps.run]at hp;split at hp
  ·rename_i id ar ht;split at hp
   ·injection hp with hp
    subst hp;simp only[Ps.B0,ht,Qq69,List.all_nil,Bool.and_true]at hW;exact⟨fun x hx=>by simp only[cH];exact cu _ _ (by simpa[Ps.tmps]using hx),fun id' hid=>by simp only[cH];exact cu _ _ (ne hW hid),QI _,fun _=>rfl⟩
   ·cases hp
  ·cases hp
 |cut t=>
  simp only[Ps.run]at hp;split at hp
  ·rename_i id ar k lo n ht;split at hp
   ·split at hp
    ·injection hp with hp
     subst hp;simp only[Ps.B0,ht,Qq69,List.all_nil,Bool.and_true]at hW;exact⟨fun x hx=>by simp only[cH];exact cu _ _ (by simpa[Ps.tmps]using hx),fun id' hid=>by simp only[cH];exact cu _ _ (ne hW hid),QI _,fun _=>rfl⟩
    ·cases hp
   ·cases hp
  ·cases hp
 |tu t off e k T=>
  simp only[Ps.run]at hp;split at hp
  ·rename_i id ar o ht;split at hp
   ·rename_i cs hb;split at hp
    ·injection hp with hp
     subst hp;simp only[Ps.B0,ht,Qq69,List.all_nil,Bool.and_true,Qm]at hW;exact⟨fun x hx=>rfl,fun id' hid=>by simp only[cH];rw[cu _ _ (ne hW.2 hid),cu _ _ (ne hW.1 hid)],Nat.le_succ _,fun e=>absurd e (hN hW.1)⟩
    ·cases hp
   ·cases hp
  ·cases hp
 |Ax t off=>
  simp only[Ps.run]at hp;split at hp
  ·rename_i id ar o ht;split at hp
   ·rename_i cs hb;split at hp
    ·rename_i i v hcell;split at hp
     ·injection hp with hp
      subst hp;simp only[Ps.B0,ht,hb,hcell,Qq69,List.all_nil,Bool.and_true,Qm]at hW;exact⟨fun x hx=>rfl,fun id' hid=>by simp only[cH];rw[cu _ _ (ne hW.1 hid),cu _ _ (ne hW.2 hid)],QI _,fun _=>rfl⟩
     ·cases hp
    ·cases hp
   ·cases hp
  ·cases hp
theorem zL{α β:Type}{f:α->Option β}:∀{l:List α} {r1 r2:List β},l.mapM f=some (r1++r2)->∃l1 l2,l=l1++l2/\l1.mapM f=some r1/\l2.mapM f=some r2
 |l,[],r2,h=>⟨[],l,rfl,rfl,h⟩
 |[],x::r1,r2,h=>by simp at h
 |y::l,x::r1,r2,h=>by
  simp only[Qq74,Qd,Qc,Option.pure_def,Qf,List.cons_append,List.cons.injEq]at h;obtain⟨z,hz,ys,hys,rfl,rfl⟩:=h;obtain⟨l1,l2,rfl,h1,h2⟩:=zL hys;exact⟨y::l1,l2,rfl,by simp[Qq74,hz,h1],h2⟩
theorem Rc(S:aS U)(i:Nat)(o:cV U):({S with H:=fE S.H i o}:aS U).st={S.st with H:=bS S.st.H i o.pv}:=by
 unfold aS.st;congr 1;simp only[cH];exact lP _ _ _ _
theorem Hk{P:Program}{hs:List Nat}{ops:Array Oper}{o:Oper}{d:Option Nat}{s:bX}(h:ze P hs ops o=some ⟨d,none,s⟩):o.guard=none/\o.dst=d/\I4 P hs o=some s:=by
 unfold ze at h;split at h
 ·cases h
 ·rename_i s' hs';split at h
  ·rename_i hg;injection h with h
   injection h with h1 h2 h3
   exact⟨hg,h1,by rw[hs',h3]⟩
  ·repeat' split at h
   all_goals first|cases h|(simp only[Qf,SG.mk.injEq,reduceCtorEq,false_and,and_false]at h)|(simp at h)
theorem De{P:Program}{K:TK U}{ρ:Type}{S:aS U}{W:WS}{f:FuncId}{x y:KV U}{k:aS U->Option ρ}{r:ρ}:∀{Γ:List (dk U)},tN P Γ->MI K S W f x y k Γ=some r->
  ∃(i v j u:Nat) (cs ds:List (KV U)) (R1 R2:U.Ty) (s s':U.den R1) (t t':U.den R2),x= .ptr i v 0/\y= .ptr j u 0/\S.mL i v=some cs/\S.mL j u=some ds/\i≠j/\(okW W i=true/\okW W j=true)/\K.dec R1 mf cs=some s/\K.dec R2 mf ds=some t/\
   Enters P f/\Ug P f (U.pv R1 s) (U.pv R2 t) (U.pv R1 s') (U.pv R2 t')/\k {S with H:=fE (fE S.H i ⟨v,.box (K.fD R1 s')⟩) j ⟨u,.box (K.fD R2 t')⟩}=some r
 |[],_,h=>by cases h
 | .r2 g R1 R2 F::Γ,hΓ,h=>by
  simp only[MI]at h;split at h
  ·rename_i hg;have hg:=QF hg;subst hg;split at h
   ·rename_i i v j u;split at h
    ·rename_i cs ds h1 h2 h3 h4;split at h
     ·rename_i s t h5 h6;simp only[Qc]at h;obtain⟨⟨s',t'⟩,hF,hk⟩:=h;rw[Qm]at h4;exact⟨i,v,j,u,cs,ds,R1,R2,s,s',t,t',rfl,rfl,h1,h2,Nat.ne_of_beq_eq_false h3,h4,h5,h6,hΓ.1.1,hΓ.1.2 s t s' t' hF,hk⟩
     ·cases h
    ·cases h
   ·cases h
  ·exact De hΓ.2 h
 | .pr ..::Γ,hΓ,h| .ro ..::Γ,hΓ,h| .rw ..::Γ,hΓ,h| .cw ..::Γ,hΓ,h| .fw ..::Γ,hΓ,h| .fn ..::Γ,hΓ,h| .rc ..::Γ,hΓ,h| .nw ..::Γ,hΓ,h=>De (Γ:=Γ) hΓ.2 h
theorem GG{P:Program}{K:TK U}{ρ:Type}{S:aS U}{W:WS}{nid:Nat}{f g:FuncId}{x:KV U}{k:(Nat×cV U)->Option ρ}{r:ρ}:∀{Γ:List (dk U)},tN P Γ->Va K S W nid f g x k Γ=some r->
  ∃(e kk:Nat) (T:U.Ty) (ys:List (U.den T)),(Enters P f/\Enters P g)/\Ud P f g ([x.pv].map (fz S.st.H none 9)) e kk (ys.map (U.pv T))/\(yz (ys.map (U.pv T))||[x.pv].all PV.bB)=true/\okW W nid=true/\k (nid,⟨(S.H nid).ar+1,.row e kk T ys⟩)=some r
 |[],_,h=>by cases h
 | .pr f' g' A_s e kk T F::Γ,hΓ,h=>by
  simp only[Va]at h;split at h
  ·rename_i hg;rw[Qm]at hg;obtain rfl:=QF hg.1;obtain rfl:=QF hg.2;split at h
   ·rename_i a ha;split at h
    ·rename_i hc;rw[Qm,Qm]at hc;obtain⟨⟨h1,h2⟩,h3⟩:=hc;simp only[Qc]at h;obtain⟨ys,hF,hk⟩:=h;have hfz:=jW (ex:=none) (fun id' h=>by cases h) A_s 9 [x] a (QG h2) ha
     refine⟨e,kk,T,ys,hΓ.1.1,?_,?_,h3,hk⟩
     ·have:=hΓ.1.2 a ys hF;rw[<-hfz]at this;exact this
     ·rw[Qn]at h1 ⊢;rcases h1 with h1|h1
      ·exact .inl (BU K h1 ys)
      ·exact .inr (by simp only[Qq69,List.all_nil,Bool.and_true,I6];exact h1)
    ·cases h
   ·cases h
  ·exact GG hΓ.2 h
 | .r2 ..::Γ,hΓ,h| .ro ..::Γ,hΓ,h| .rw ..::Γ,hΓ,h| .cw ..::Γ,hΓ,h| .fw ..::Γ,hΓ,h| .fn ..::Γ,hΓ,h| .rc ..::Γ,hΓ,h| .nw ..::Γ,hΓ,h=>GG (Γ:=Γ) hΓ.2 h
theorem Aj{o:Oper}{p:Nat->Option Bool}(h:o.guard=none):Region.wanted o p=true:=by simp[Region.wanted,h]
theorem Ej{P:Program}{a:Act}{w:World}{o:Oper}{f:FuncId}{args:Array Operand}{ats:Array TypeId}(hop:o.op= .call {callee:= .value (.func f),args:=args,argTypes:=ats})(hen:Enters P f):
  (execOp a.eval o).run P w= .ok (.enter f (args.toList.map a.eval).toArray) w:=by
 have ha:args.map a.eval=(args.toList.map a.eval).toArray:=by rw[<-Array.toList_map,Array.toArray_toList]
 simp[execOp,hop,resolve,Act.eval,Deferred.ofValue,invoke,ha,uc hen]
theorem ki{E:En}{Γ:List (dk U)}(hΓ:tN P Γ){hs:List Nat}{ops:Array Oper}{Q:Exit->Act->World->Prop}:∀(rs:RS U) {ρ:Type} (W:WS) (nid:Nat) (S:aS U) (k:aS U->Option ρ) (r:ρ) (l1 l2:List Oper) (a:Act) (w:World) (L:Nat->Value),
  rs.du=true->l1.mapM (ze P hs ops)=some rs.flat->Rel E S.st a w L->nid+rs.len<=S.N->(∀o∈l1,∀t,o.dst=some t->E.can t)->ib K Γ rs W nid S k=some r->
  (∀S' a' w' L',xk rs.fK W S S'->Rel E S'.st a' w' L'->k S'=some r->wpListIn (WF E.rd) 0 P ops Q l2 a' w')->wpListIn (WF E.rd) 0 P ops Q (l1++l2) a w
 | .nil,ρ,W,nid,S,k,r,l1,l2,a,w,L,hok,hm,h,hN,hd,hr,hk=>by
  have:l1=[]:=by
   have:=mapM_length hm;exact Qq66 (by simpa[RS.flat]using this.symm)
  subst this;exact hk S a w L (xk.refl _ _ _) h hr
 | .op o rs,ρ,W,nid,S,k,r,l1,l2,a,w,L,hok,hm,h,hN,hd,hr,hk=>by
  simp only[RS.du,Qm]at hok
  cases l1 with
  |nil=>simp[RS.flat]at hm
  |cons p l1=>
  simp only[RS.flat,Qq74,Qd,Qc,Option.pure_def,Qf,List.cons.injEq]at hm;obtain⟨g,hg,gs',hgs,rfl,rfl⟩:=hm;simp only[RS.len]at hN;obtain⟨Γ',x,wr,hΓ',he,hwr,hr'⟩:=Pj hΓ hok.1 hr;have hst:CD Γ' nid S.st g=some (S.cZ g.d x wr).st:=by rw[Ra,he,w3];rfl
  rw[List.cons_append];refine wpListIn_step fun K hK=> ?_
  refine zC hΓ' hg h (show nid<S.N by omega) (hd p (by simp)) hst (fun a' w' L' h'=>hK _ _ ?_)
  refine ki hΓ rs W (nid+1) _ k r l1 l2 a' w' L' hok.2 hgs h' (by show _<=S.N;omega) (fun o' ho'=>hd o' (by simp[ho'])) hr' (fun S' a' w' L' hf h' hk'=>hk S' a' w' L' ?_ h' hk')
  refine(Br S W g.d x wr hwr).trans hf fun t ht=> ?_
  simp only[RS.fK]at ht
  cases hdd:g.d with
  |none=>rw[hdd]at ht;exact⟨by simp,ht⟩
  |some d=>rw[hdd]at ht;simp only[QA,not_or]at ht;exact⟨by simpa using fun e=>ht.1 e,ht.2⟩
 | .two d f x y rs,ρ,W,nid,S,k,r,l1,l2,a,w,L,hok,hm,h,hN,hd,hr,hk=>by
  simp only[RS.du,Qm]at hok
  cases l1 with
  |nil=>simp[RS.flat]at hm
  |cons p l1=>
  simp only[RS.flat,Qq74,Qd,Qc,Option.pure_def,Qf,List.cons.injEq]at hm;obtain⟨g,hg,gs',hgs,rfl,rfl⟩:=hm;simp only[RS.len]at hN;simp only[ib]at hr;obtain⟨i,v,j,u,cs,ds,R1,R2,s,s',t,t',hx,hy,hb1,hb2,hne,hW,hs,ht,hen,hcon,hr'⟩:=De hΓ hr;obtain⟨hgu,hds,hcop⟩:=Hk hg;obtain⟨args,ats,hop,hxs⟩:=zd hcop;have hv:=h.cQ hxs;obtain⟨x1,vs1,e1,rx,hv⟩:=hv.cons_inv;obtain⟨y1,vs2,e2,ry,hv⟩:=hv.cons_inv;obtain rfl:=hv.tQ;subst e2;simp only[ou hok.1.1,hx,KV.pv]at rx;simp only[ou hok.1.2,hy,KV.pv]at ry;obtain⟨k1,k2⟩:=py hb1;obtain⟨k3,k4⟩:=py hb2;obtain⟨n1,n2⟩:=o4 (K.kH _ _ _ _ hs);obtain⟨n3,n4⟩:=o4 (K.kH _ _ _ _ ht);rw[<-n1,<-n3]at hcon;have hcall:=aa2 hcon h rx ry k1 k3 k2 k4 hne (by rw[iW];exact n2) (by rw[iW];exact n4)
  rw[List.cons_append];refine wpListIn_step fun KK hKK=> ?_
  rw[Aj hgu,Qr rfl];unfold Oper.wpIn;rw[Oper.semAt_eq _ _ _ (wJ hcop),Ej hop hen,e1];refine⟨fun _ _=>trivial,(fun h=>by cases h),uK.2 (Calls.mono hcall ?_)⟩
  rintro e w' ⟨L',rfl,h2⟩;have h3:=h2.SW (d:=p.dst) (hd p (by simp)) (x:= .cX []) (v:= .tuple #[]) (.cX [] [] rfl fun q z z' hz=>by simp at hz)
  have hst:({S with H:=fE (fE S.H i ⟨v,.box (K.fD R1 s')⟩) j ⟨u,.box (K.fD R2 t')⟩}:aS U).st={S.st with H:=bS (bS S.st.H i ⟨v,.box (U.pv R1 s')⟩) j ⟨u,.box (U.pv R2 t')⟩}:=by
   have e1:=Rc {S with H:=fE S.H i ⟨v,.box (K.fD R1 s')⟩} j ⟨u,.box (K.fD R2 t')⟩
   have e2:=Rc S i ⟨v,.box (K.fD R1 s')⟩;simp only at e1;rw[e1,e2];simp only[cV.pv,dz.pv,K.mZ]
  rw[<-hst]at h3;refine hKK _ _ ?_;refine ki hΓ rs W (nid+1) _ k r l1 l2 (a.put p.dst (.tuple #[])) w' L' hok.2 hgs (by rw[w3,<-hds];exact h3) (by show _<=S.N;omega) (fun o' ho'=>hd o' (by simp[ho'])) hr' (fun S' a' w' L' hf h' hk'=>hk S' a' w' L' ?_ h' hk')
  have f1:xk [] W S {S with H:=fE (fE S.H i ⟨v,.box (K.fD R1 s')⟩) j ⟨u,.box (K.fD R2 t')⟩}:=⟨fun _ _=>rfl,fun q hq=>by
   have n1:q≠i:=fun e=>by rw[e,hW.1]at hq;cases hq
   have n2:q≠j:=fun e=>by rw[e,hW.2]at hq;cases hq
   simp only[cH]
   rw[cu _ _ n2,cu _ _ n1],QI _,fun _=>rfl⟩
  refine(f1.trans (Br _ W d (.cX []) none rfl) (D'':=d.toList) fun q hq=>⟨by simp,hq⟩).trans hf fun q hq=> ?_
  simp only[RS.fK]at hq
  cases hdd:d with
  |none=>rw[hdd]at hq;exact⟨by simp,hq⟩
  |some d=>rw[hdd]at hq;simp only[QA,not_or]at hq;exact⟨by simpa using fun e=>hq.1 e,hq.2⟩
 | .pr t1 f g x t2 rs,ρ,W,nid,S,k,r,l1,l2,a,w,L,hok,hm,h,hN,hd,hr,hk=>by
  simp only[RS.du,Qm]at hok
  cases l1 with
  |nil=>simp[RS.flat]at hm
  |cons p l1=>
  cases l1 with
  |nil=>
   have:=mapM_length hm;simp[RS.flat]at this
  |cons p2 l1=>
  simp only[RS.flat,Qq74,Qd,Qc,Option.pure_def,Qf,List.cons.injEq]at hm;obtain⟨g1,hg1,gs1,⟨g2,hg2,gs',hgs,rfl⟩,rfl,rfl,rfl⟩:=hm;simp only[RS.len]at hN;simp only[ib]at hr;split at hr
  ·cases hr
  rename_i hne;have hne:=Nat.ne_of_beq_eq_false hne;obtain⟨e,kk,T,ys,⟨hen1,hen2⟩,hcon,hpl,hW,hr'⟩:=GG hΓ hr;obtain⟨hgu1,hds1,hcop1⟩:=Hk hg1;obtain⟨hgu2,hds2,hcop2⟩:=Hk hg2;obtain⟨args,ats,hop,hxs⟩:=zd hcop1;obtain⟨args2,ats2,hop2,hxs2⟩:=zd hcop2;have hv:=h.cQ hxs;rw[show[x].map (·.val S.st)=[(x.cA S).pv]by simp only[QD,QO,ou hok.1]]at hv
  have hcall:=ZE (nid:=nid+1) hcon h (show nid+1<S.N by omega) hv hpl
  rw[List.cons_append,List.cons_append];refine wpListIn_step fun KK hKK=> ?_
  rw[Aj hgu1,Qr rfl];unfold Oper.wpIn;rw[Oper.semAt_eq _ _ _ (wJ hcop1),Ej hop hen1];refine⟨fun _ _=>trivial,(fun h=>by cases h),uK.2 (Calls.mono hcall ?_)⟩
  rintro e' w1 ⟨v,rfl,hcall2⟩;refine hKK _ _ ?_;refine wpListIn_step fun KK2 hKK2=> ?_
  rw[Aj hgu2,Qr rfl];have hct1:E.can t1:=hd p (by simp) t1 hds1
  have hct2:E.can t2:=hd p2 (by simp) t2 hds2
  have hev:(args2.toList.map (a.put p.dst v).eval).toArray=#[v]:=by
   cases hq:args2.toList with
   |nil=>rw[hq]at hxs2;simp at hxs2
   |cons q l=>
    rw[hq]at hxs2;simp only[Qq74,Qd,Qc,Option.pure_def,Qf,List.cons.injEq]at hxs2;obtain⟨z,hz,zs,hzs,rfl,rfl⟩:=hxs2
    have hl:l=[]:=by
     have:=mapM_length hzs;exact Qq66 (by simpa using this.symm)
    subst hl
    cases q with
    |tmp t=>
     simp only[bb,Qf,bg.tmp.injEq]at hz;subst hz;rw[hds1];simp only[QD,QO,Act.eval,Act.put,QN];rw[Array.getElem?_setIfInBounds_self_of_lt (by rw[h.size.1];exact hct1.1)]
     rfl
    |const c=>simp only[bb,Qb,reduceCtorEq,and_false,exists_false]at hz
    |func c=>simp only[bb,Qf,reduceCtorEq]at hz
    |«global» c=>simp only[bb,reduceCtorEq]at hz
  unfold Oper.wpIn;rw[Oper.semAt_eq _ _ _ (wJ hcop2),Ej hop2 hen2,hev];refine⟨fun _ _=>trivial,(fun h=>by cases h),uK.2 (Calls.mono hcall2 ?_)⟩
  rintro e' w' ⟨u,L',rfl,h2,hu⟩;refine hKK2 _ _ ?_;have h3:=h2.put (d:=t1) (x:= .any) (v:=v) hct1 (.any _);have h4:=h3.put (d:=t2) (x:= .own (nid+1) ((S.st.H (nid+1)).ar+1)) (v:=u) hct2 hu;refine ki hΓ rs W (nid+1+1) _ k r l1 l2 ((a.put p.dst v).put p2.dst u) w' L' hok.2 hgs ?_ (by show _<=S.N;omega) (fun o' ho'=>hd o' (by simp[ho'])) hr' (fun S' a' w' L' hf h' hk'=>hk S' a' w' L' ?_ h' hk')
  ·rw[hds1,hds2,w3,w3];exact h4
  ·refine((Br S W (some t1) .any none rfl).trans (Br _ W (some t2) (.own (nid+1) ((S.H (nid+1)).ar+1)) (some (nid+1,⟨(S.H (nid+1)).ar+1,.row e kk T ys⟩)) hW) (D'':=[t1,t2]) fun q hq=> ?_).trans hf fun q hq=> ?_
   ·simp only[QA,QR,or_false,not_or]at hq;simp only[Option.toList_some,QA,QR,or_false];exact⟨hq.1,hq.2⟩
   ·simp only[RS.fK,QA,not_or]at hq;simp only[QA,QR,or_false,not_or];exact⟨⟨hq.1,hq.2.1⟩,hq.2.2⟩
 | .ps p rs,ρ,W,nid,S,k,r,l1,l2,a,w,L,hok,hm,h,hN,hd,hr,hk=>by
  simp only[ib]at hr;split at hr
  ·rename_i hW;split at hr
   ·rename_i S1 hp;obtain⟨L1,h1⟩:=Ps.sound K hp h;have hf:=Ps.frm hp hW;refine ki hΓ rs W nid S1 k r l1 l2 a w L1 hok hm h1 (QK hN hf.N) hd hr (fun S' a' w' L' hf' h' hk'=>hk S' a' w' L' (hf.trans hf' fun t ht=> ?_) h' hk')
    simp only[RS.fK,Qz,not_or]at ht;exact ht
   ·cases hr
  ·cases hr
 | .w4 t rs,ρ,W,nid,S,k,r,l1,l2,a,w,L,hok,hm,h,hN,hd,hr,hk=>by
  simp only[ib]at hr;split at hr
  ·rename_i b hb
   cases b with
   |true=>
    rw[Qk,zj hb]at hr;exact ki hΓ rs W nid S k r l1 l2 a w L hok hm h hN hd hr hk
   |false=>
    rw[Ql,zj hb]at hr;exact ki hΓ rs W nid S k r l1 l2 a w L hok hm h hN hd hr hk
  ·exact ki hΓ rs W nid S k r l1 l2 a w L hok hm h hN hd hr hk
  ·cases hr
 | .ite t want body d g x y rs,ρ,W,nid,S,k,r,l1,l2,a,w,L,hok,hm,h,hN,hd,hr,hk=>by
  simp only[RS.du,Qm]at hok;obtain⟨⟨hokb,hokx,hoky⟩,hokr⟩:=hok;simp only[RS.flat]at hm;obtain⟨lb,lr,rfl,hmb,hmr⟩:=zL hm
  cases lr with
  |nil=>simp at hmr
  |cons p lr=>
  simp only[Qq74,Qd,Qc,Option.pure_def,Qf,List.cons.injEq]at hmr;obtain⟨pg,hpg,gs',hgs,rfl,rfl⟩:=hmr;simp only[RS.len]at hN;simp only[ib]at hr;split at hr
  ·rename_i b hb;split at hr
   ·rename_i hchk;simp only[Qm,Bool.not_eq_true']at hchk;obtain⟨hwant,hskip,htd⟩:=hchk;have htd:=oY htd
    have fin:∀(v:Bool) (S1:St) (a1:Act) (w1:World) (L1:Nat->Value),(∀x,x∉body.fK->S1.env x=S.st.env x)->S1.H=S.st.H->S1.N=S.st.N->Rel E S1 a1 w1 L1->
      (if b then x else y).val S1= .bool v->ib K Γ rs W (nid+(body.len+1)) ((S.forget body.fK).cZ (some d) (.bool v) none) k=some r->wpListIn (WF E.rd) 0 P ops Q (p::(lr++l2)) a1 w1:=by
     intro v S1 a1 w1 L1 he hH hN1 h1 hv hr1
     have hpw:(⟨some d,g,.pick (.tmp t) x y⟩:SG).wanted S1=some true:=by
      rw[SG.wanted]
      cases g with
      |none=>rfl
      |some q=>
       obtain⟨t',want'⟩:=q;simp only[Yt]at hwant;split at hwant
       ·rename_i b' hb';simp only[Qm,Bool.not_eq_true']at hwant;have:S1.env t'= .bool b':=by rw[he t' (oY hwant.2)];simp only[aS.st,hb',KV.pv]
        simp only[this];rw[Fp]at hwant;rw[hwant.1]
       ·cases hwant
     have hbt:S1.env t= .bool b:=by rw[he t htd];simp only[aS.st,hb,KV.pv]
     have hst:CD (fun _=>none) nid S1 ⟨some d,g,.pick (.tmp t) x y⟩=some (S1.cZ (some d) (.bool v) none):=by
      rw[CD,hpw];have hbt':(bg.tmp t).val S1= .bool b:=hbt;simp only[exec,hbt']
      cases b with
      |true=>simp only[Qt]at hv;simp only[hv];rfl
      |false=>simp only[Qq,Qu]at hv;simp only[hv];rfl
     refine wpListIn_step fun KK hKK=> ?_
     refine zC S8 hpg h1 (show nid<S1.N by rw[hN1];show nid<S.N;omega) (hd p (by simp)) hst (fun a' w' L' h'=>hKK _ _ ?_)
     have h2:Rel E ((S.forget body.fK).cZ (some d) (.bool v) none).st a' w' L':=by
      refine h'.Y2 (by rw[w3];exact hH.symm) (by rw[w3];exact hN1.symm) fun t'=> ?_
      rw[w3]
      by_cases htd':t'=d
      ·subst htd';left;rw[show(S1.cZ (some t') (.bool v) none).env t'= .bool v from ca _ _ _]
       exact ca _ _ _
      ·rw[St.kq _ _ _ (by simpa using fun e=>htd' e.symm),St.kq _ _ _ (by simpa using fun e=>htd' e.symm)]
       cases hmm:jH t' body.fK with
       |true=>right;simp only[aS.st,aS.forget,hmm,KV.pv]
       |false=>left;simp only[aS.st,aS.forget,hmm];exact(he t' (oY hmm)).symm
     refine ki hΓ rs W (nid+(body.len+1)) _ k r lr l2 a' w' L' hokr hgs h2 (by show _<=S.N;omega) (fun o' ho'=>hd o' (by simp[ho'])) hr1 (fun S' a' w' L' hf h' hk'=>hk S' a' w' L' ?_ h' hk')
     refine xk.trans (S':=(S.forget body.fK).cZ (some d) (.bool v) none) (D:=body.fK++[d]) ⟨fun t' ht'=> ?_,fun id _=>rfl,QI _,fun _=>rfl⟩ hf fun t' ht'=> ?_
     ·simp only[Qz,Q4,not_or]at ht';rw[kq _ _ _ _ (by simpa using fun e=>ht'.2 e.symm)]
      have:jH t' body.fK=false:=by
       cases hmm:jH t' body.fK with
       |true=>exact absurd (jq.1 hmm) ht'.1
       |false=>rfl
      simp only[aS.forget,this]
     ·simp only[RS.fK,Qz,QA,not_or]at ht';exact⟨by simp[ht'.1,ht'.2.1],ht'.2.2⟩
    have body_run:∀(z:bg) (v:Bool),b=want->z.du=true->z=(if b then x else y)->ib K Γ body none nid (S.cZ (some t) (.bool b) none) (fun S1=>Eo (z.cA S1))=some v->
      ib K Γ rs W (nid+(body.len+1)) ((S.forget body.fK).cZ (some d) (.bool v) none) k=some r->wpListIn (WF E.rd) 0 P ops Q (lb++p::(lr++l2)) a w:=by
     intro z v _ hz hzz K8 hrr;rw[zj hb]at K8;refine ki hΓ body none nid S _ v lb _ a w L hokb hmb h (by omega) (fun o' ho'=>hd o' (by simp[ho'])) K8 (fun S' a' w' L' hf h' hk'=> ?_)
     have hH:S'.H=S.H:=funext fun id=>hf.H id rfl
     have hNN:S'.N=S.N:=hf.Nn rfl;refine fin v S'.st a' w' L' (fun x' hx'=>by simp only[aS.st,hf.env x' hx']) (by simp only[aS.st,hH]) hNN h' ?_ hrr
     rw[<-hzz,ou hz,aay hk'];rfl
    have body_skip:∀(c:Bool),b= !want->(if b then x else y)= .Ab (.bool c)->ib K Γ rs W (nid+(body.len+1)) ((S.forget body.fK).cZ (some d) (.bool c) none) k=some r->wpListIn (WF E.rd) 0 P ops Q (lb++p::(lr++l2)) a w:=by
     intro c hbw hc hrr;refine BJ lb _ [] S.st a w L hmb h (show 0<S.N by omega) (fun o' ho'=>hd o' (by simp[ho'])) hskip ?_ (by simp) (fun S' a' w' L' he hH hN' h'=> ?_)
     ·simp only[aS.st,hb,KV.pv,hbw]
     ·refine fin c S' a' w' L' (fun x' hx'=>he x' fun hmem=>hx' (km _ _ hmem)) hH hN' h' ?_ hrr
      rw[hc];rfl
    rw[QL,List.cons_append];split at hr
    ·split at hr
     ·rename_i c hc
      have hy:y= .Ab (.bool c):=by
       unfold TF at hc;split at hc
       ·injection hc with hc;rw[hc]
       ·cases hc
      rw[Qc]at hr;obtain⟨v,hv,hr⟩:=hr
      cases b with
      |true=>exact body_run x v rfl hokx (by simp) hv hr
      |false=>
       rw[Ql]at hv;injection hv with hv
       subst hv;exact body_skip c rfl (by simpa using hy) hr
     ·cases hr
    ·split at hr
     ·rename_i c hc
      have hx:x= .Ab (.bool c):=by
       unfold TF at hc;split at hc
       ·injection hc with hc;rw[hc]
       ·cases hc
      rw[Qc]at hr;obtain⟨v,hv,hr⟩:=hr
      cases b with
      |false=>exact body_run y v rfl hoky (by simp) hv hr
      |true=>
       rw[Qk]at hv;injection hv with hv
       subst hv;exact body_skip c rfl (by simpa using hx) hr
     ·cases hr
   ·cases hr
  ·cases hr
end
end
section
open Go.RowKit
def PV.rY(p:Nat->Bool):PV->Bool
 | .own id _| .ptr id _ _| .ed id _ _ _ _| .view id _ _ _ _=>p id
 | .agg _| .cX _| .cz _ _| .iM _ _=>false
 |_=>true
def PV.lA(p:Nat->Bool):PV->Bool
 | .agg cs| .cX cs| .cz _ cs| .iM _ cs=>cs.all (PV.rY p)
 |x=>x.rY p
section
variable {w : World}
theorem aW.rY{p:Nat->Bool}{M M':Nat->Prop}{G G':Gh}{x:PV}{v:Value}(hx:x.rY p=true)(hM:∀b,M' b->M b)(hp:∀id,p id=true->id<G'.N/\G'.V id=G.V id/\G'.L id=G.L id)(h:aW w M G x v):aW w M' G' x v:=by
 have hs:dj w w M M':=(dj.of fun _ hm=>fun h'=>hm (hM _ h'))
 cases h with
 |any=>exact .any _
 |undef=>exact .undef
 |int=>exact .int _ _
 |bool=>exact .bool _
 |fB=>exact .fB _
 |str=>exact .str _
 |jj=>exact .jj
 |dx=>exact .dx
 |cz=>simp[PV.rY]at hx
 |iM=>simp[PV.rY]at hx
 |agg=>simp[PV.rY]at hx
 |cX=>simp[PV.rY]at hx
 |ptr id ar off a hN hVe h=>obtain⟨h1,h2,h3⟩:=hp id hx;exact .ptr _ _ _ _ h1 (by rw[h2];exact hVe) (fun e=>by rw[h3];exact h (by rw[e,h2]))
 |ref cs ad vs hl hcell h=>exact .ref cs ad vs hl (fun i u hu=>⟨(hcell i u hu).1,fun h'=>(hcell i u hu).2 (hM _ h')⟩) (fun i p u hp hu=>(h i p u hp hu).mono hs (Gh.le.refl _))
 |sl es ad c k vs hk hl hcell h hn hm=>exact .sl es ad c k vs hk hl (fun i u hu=>⟨(hcell i u hu).1,fun h'=>(hcell i u hu).2 (hM _ h')⟩) (fun i p u hp hu=>(h i p u hp hu).mono hs (Gh.le.refl _)) hn hm
 |slnil=>exact .slnil
 |own id ar a n c hN hVe h=>obtain⟨h1,h2,h3⟩:=hp id hx;exact .own _ _ _ _ _ h1 (by rw[h2];exact hVe) (fun e=>by rw[h3];exact h (by rw[e,h2]))
 |ed id ar k i off a hN hVe h=>obtain⟨h1,h2,h3⟩:=hp id hx;exact .ed _ _ _ _ _ _ h1 (by rw[h2];exact hVe) (fun e=>by rw[h3];exact h (by rw[e,h2]))
 |view id ar k lo n a c hN hVe h=>obtain⟨h1,h2,h3⟩:=hp id hx;exact .view _ _ _ _ _ _ _ h1 (by rw[h2];exact hVe) (fun e=>by rw[h3];exact h (by rw[e,h2]))
 |sf=>exact .sf
 |si T v=>exact .si T v
 |gA T x v hp h=>exact .gA T x v hp (h.plain hp)
 |iu ks us b es ck hb hMb hk hv g1 g2=>exact .iu ks us b es ck hb (fun h'=>hMb (hM _ h')) hk hv (fun i p e hp he=>(g1 i p e hp he).mono hs (Gh.le.refl _)) (fun i p e hp he=>(g2 i p e hp he).mono hs (Gh.le.refl _))
theorem aW.lA{p:Nat->Bool}{M M':Nat->Prop}{G G':Gh}{x:PV}{v:Value}(hx:x.lA p=true)(hM:∀b,M' b->M b)(hp:∀id,p id=true->id<G'.N/\G'.V id=G.V id/\G'.L id=G.L id)(h:aW w M G x v):aW w M' G' x v:=by
 have go:∀{cs:List PV} {vs:List Value},cs.all (PV.rY p)=true->aR w M G cs vs->aR w M' G' cs vs:=fun hc h=>⟨h.1,fun i y v hy hv=>(h.2 i y v hy hv).rY (QH.1 hc y (Q7 hy)) hM hp⟩
 cases x with
 |agg cs=>obtain⟨vs,rfl,hr⟩:=h.oy;have:=go (by simpa[PV.lA]using hx) hr;exact .agg _ _ this.1 this.2
 |cX cs=>obtain⟨vs,rfl,hr⟩:=h.AP;have:=go (by simpa[PV.lA]using hx) hr;exact .cX _ _ this.1 this.2
 |cz f cs=>obtain⟨vs,rfl,hr⟩:=h.yh;have:=go (by simpa[PV.lA]using hx) hr;exact .cz _ _ _ this.1 this.2
 |iM f cs=>obtain⟨vs,rfl,hr⟩:=h.Kg;have:=go (by simpa[PV.lA]using hx) hr;exact .iM _ _ _ this.1 this.2
 |_=>exact h.rY (by simpa[PV.lA]using hx) hM hp
end
section
variable {U : TU}
def KV.rY(p:Nat->Bool):KV U->Bool
 | .own id _| .ptr id _ _| .ed id _ _ _ _| .view id _ _ _ _=>p id
 | .agg _| .cX _| .cz _ _| .iM _ _=>false
 |_=>true
def KV.lA(p:Nat->Bool):KV U->Bool
 | .agg cs| .cX cs| .cz _ cs| .iM _ cs=>cs.all (KV.rY p)
 |x=>x.rY p
theorem abG(p:Nat->Bool)(x:KV U):x.pv.rY p=x.rY p:=by cases x<;>simp[KV.pv,PV.rY,KV.rY]
theorem xU(p:Nat->Bool)(l:List (KV U)):(l.map KV.pv).all (PV.rY p)=l.all (KV.rY p):=by
 induction l with
 |nil=>rfl
 |cons x l ih=>simp only[QD,Qq69,abG,ih]
theorem Nf(p:Nat->Bool)(x:KV U):x.pv.lA p=x.lA p:=by
 cases x with
 |agg cs=>simp only[KV.pv,PV.lA,KV.lA,KV.cv];exact xU p cs
 |cX cs=>simp only[KV.pv,PV.lA,KV.lA,KV.cv];exact xU p cs
 |cz f cs=>simp only[KV.pv,PV.lA,KV.lA,KV.cv];exact xU p cs
 |iM f cs=>simp only[KV.pv,PV.lA,KV.lA,KV.cv];exact xU p cs
 |_=>simp[KV.pv,PV.lA,KV.lA,PV.rY,KV.rY]
def dz.lA(p:Nat->Bool):dz U->Bool
 | .dead=>true
 | .box cs=>cs.all (KV.lA p)
 | .row _ _ _ _=>true
 | .raw _ _ es=>es.all fun c=>c.all (KV.lA p)
inductive It (U:TU) where
 |val (t:Nat) (T:U.Ty)
 |own (t id ar e k:Nat) (T:U.Ty)
 |box (id ar:Nat) (T:U.Ty) (m:List (Nat×Nat×Nat))
 |eR (id ar e k:Nat) (T:U.Ty)
@[reducible] def It.den:It U->Type
 | .val _ T=>U.den T
 | .own _ _ _ _ _ T=>List (U.den T)
 | .box _ _ T _=>U.den T
 | .eR _ _ _ _ T=>List (U.den T)
@[reducible] def tI:List (It U)->Type
 |[]=>Unit
 |i::l=>i.den×tI l
def yn:List (Nat×Nat×Nat)->List (KV U)->List (KV U)
 |[],cs=>cs
 |(off,_,_)::m,cs=>yn m (cs.set off .dx)
def yt:List (Nat×Nat×Nat)->List (KV U)->List (KV U)
 |[],cs=>cs
 |(off,id,ar)::m,cs=>(yt m cs).set off (.own id ar)
def DM(S:aS U)(cs:List (KV U)):List (Nat×Nat×Nat)->Bool
 |[]=>true
 |(off,id,_)::m=>(match cs[off]? with|some (.own i v)=>Nat.beq i id&&Nat.beq v (S.H id).ar|_=>false)&&DM S cs m
theorem HL(cs:List (KV U)):∀(m:List (Nat×Nat×Nat)),(yt m cs).length=cs.length
 |[]=>rfl
 |(off,id,ar)::m=>by rw[yt,QX,HL cs m]
theorem BD:∀(m:List (Nat×Nat×Nat)) (cs:List (KV U)),(yn m cs).length=cs.length
 |[],_=>rfl
 |(off,id,ar)::m,cs=>by rw[yn,BD m,QX]
theorem HM(cs:List (KV U)){i:Nat}{y:KV U}:∀(m:List (Nat×Nat×Nat)),(yt m cs)[i]?=some y->(∃id ar,(i,id,ar)∈m/\y= .own id ar)\/((∀q∈m,q.1≠i)/\cs[i]?=some y)
 |[],h=> .inr ⟨by simp,h⟩
 |(off,id,ar)::m,h=>by
  rw[yt,List.getElem?_set]at h;split at h
  ·rename_i e;subst e;split at h
   ·injection h with h
    exact .inl ⟨id,ar,Qx,h.symm⟩
   ·cases h
  ·rename_i e;rcases HM cs m h with⟨a,b,h1,h2⟩|⟨h1,h2⟩
   ·exact .inl ⟨a,b,Qy _ h1,h2⟩
   ·refine .inr ⟨fun q hq=> ?_,h2⟩
    rcases QA.1 hq with rfl|hq
    ·exact e
    ·exact h1 q hq
theorem Ht{i:Nat}:∀(m:List (Nat×Nat×Nat)) (cs:List (KV U)),(∀q∈m,q.1≠i)->(yn m cs)[i]?=cs[i]?
 |[],_,_=>rfl
 |(off,id,ar)::m,cs,h=>by
  rw[yn,Ht m _ fun q hq=>h q (Qy _ hq),List.getElem?_set,Qs (h _ Qx)]
theorem Ia{S:aS U}{cs:List (KV U)}{off id ar:Nat}:∀{m:List (Nat×Nat×Nat)},DM S cs m=true->(off,id,ar)∈m->cs[off]?=some (.own id (S.H id).ar)
 |[],_,h=>by cases h
 |(o,i,v)::m,hm,h=>by
  rw[DM,Qm]at hm;rcases QA.1 h with e|h
  ·injection e with e1 e2
   injection e2 with e2 e3
   subst e1 e2 e3;have h1:=hm.1;split at h1
   ·rename_i i' v' hc;rw[Qm]at h1;rw[hc,QF h1.1,QF h1.2]
   ·cases h1
  ·exact Ia hm.2 h
variable (K : TK U)
def RH(S:aS U):(i:It U)->Option i.den
 | .val t T=>zz K mf T (S.env t)
 | .own t id ar e k T=>(match S.env t with
  | .own id' v=>(match Nat.beq id' id with
   |true=>(match S.row? id' v with
    |some r=>(match Nat.beq r.e e&&Nat.beq r.k k&&(Nat.blt 0 ar||Nat.beq v 0)with|true=>sY r.T T r.xs|false=>none)
    |none=>none)
   |false=>none)
  |_=>none)
 | .box id ar T m=>(match S.mL id ar with
  |some cs=>(match DM S cs m with|true=>K.dec T mf (yn m cs)|false=>none)
  |none=>none)
 | .eR id ar e k T=>(match(S.H id).c with
  | .row e' k' T' xs=>(match Nat.beq e' e&&Nat.beq k' k&&(Nat.blt 0 ar||Nat.beq (S.H id).ar 0)with|true=>sY T' T xs|false=>none)
  |_=>none)
def pack(S:aS U):(l:List (It U))->Option (tI l)
 |[]=>some ()
 |i::l=>(match RH K S i with
  |some v=>(match pack S l with|some vs=>some (v,vs)|none=>none)
  |none=>none)
def sd(S:aS U):(i:It U)->i.den->aS U
 | .val t T,v=>{env:=fE S.env t (Dd K T v),H:=S.H,N:=S.N}
 | .own t id ar e k T,xs=>{env:=fE S.env t (.own id ar),H:=fE S.H id ⟨ar,.row e k T xs⟩,N:=S.N}
 | .box id ar T m,v=>{env:=S.env,H:=fE S.H id ⟨ar,.box (yt m (K.fD T v))⟩,N:=S.N}
 | .eR id ar e k T,xs=>{env:=S.env,H:=fE S.H id ⟨ar,.row e k T xs⟩,N:=S.N}
def rE(S:aS U):(l:List (It U))->tI l->aS U
 |[],_=>S
 |i::l,v=>sd K (rE S l v.2) i v.1
structure JS (U:TU) where
 items:List (It U)
 gP:List Nat
def aS.base(S:aS U)(gP:List Nat):aS U:=
 {env:=fun t=>(match jH t gP with|true=>S.env t|false=> .any),H:=fun id=>(match Nat.blt id S.N with|true=>S.H id|false=>⟨0,.dead⟩),N:=S.N}
def unpack(S:aS U)(J:JS U)(v:tI J.items):aS U:=rE K (S.base J.gP) J.items v
def It.bj:It U->Option Nat
 | .val t _| .own t _ _ _ _ _=>some t
 | .box _ _ _ _| .eR _ _ _ _ _=>none
def It.id:It U->Option Nat
 | .val _ _=>none
 | .own _ id _ _ _ _| .box id _ _ _| .eR id _ _ _ _=>some id
def It.okv:It U->Bool
 | .own _ _ _ _ _ _| .eR _ _ _ _ _=>true
 |_=>true
def It.row:It U->Option Nat
 | .own _ id ar _ _ _| .eR id ar _ _ _=>(match ar with|0=>none|_+1=>some id)
 |_=>none
def It.isRow(id ar:Nat):It U->Bool
 | .eR id' ver' _ _ _=>Nat.beq id' id&&Nat.beq ver' ar
 |_=>false
def IS(id ar:Nat):List (It U)->Bool
 |[]=>false
 |i::l=>i.isRow id ar||IS id ar l
def It.okm(l:List (It U)):It U->Bool
 | .box _ _ _ m=>m.all fun q=>IS q.2.1 q.2.2 l
 |_=>true
theorem IQ{id ar:Nat}:∀{l:List (It U)},IS id ar l=true->∃e k T,(It.eR id ar e k T)∈l
 |[],h=>by cases h
 |i::l,h=>by
  rw[IS,Qn]at h;rcases h with h|h
  ·cases i with
   |eR id' ver' e k T=>
    simp only[It.isRow,Qm]at h;rw[QF h.1,QF h.2];exact⟨e,k,T,Qx⟩
   |_=>cases h
  ·obtain⟨e,k,T,h⟩:=IQ h;exact⟨e,k,T,Qy _ h⟩
def gB:List (It U)->List Nat
 |[]=>[]
 |i::l=>(match i.id with|some id=>id::gB l|none=>gB l)
def rowsOf:List (It U)->List Nat
 |[]=>[]
 |i::l=>(match i.row with|some id=>id::rowsOf l|none=>rowsOf l)
def slotsOf:List (It U)->List Nat
 |[]=>[]
 |i::l=>(match i.bj with|some id=>id::slotsOf l|none=>slotsOf l)
def uo:List Nat->Bool
 |[]=>true
 |x::l=> !jH x l&&uo l
def Jc:Nat->(Nat->Bool)->Bool
 |0,_=>true
 |n+1,p=>Jc n p&&p n
theorem Jb{p:Nat->Bool}:∀{n:Nat},Jc n p=true->∀i,i<n->p i=true
 |0,_,i,hi=>absurd hi (Nat.not_lt_zero _)
 |n+1,h,i,hi=>by
  simp only[Jc,Qm]at h
  by_cases e:i=n
  ·rw[e];exact h.2
  ·exact Jb h.1 i (by omega)
def AE(S:aS U)(J:JS U)(F:List Nat)(W:WS):Bool:=
 let ids:=gB J.items
 let rows:=rowsOf J.items
 let p:=fun id=>Nat.blt id S.N&& !jH id rows
 uo ids&&ids.all (fun id=>Nat.blt id S.N&&okW W id)&&(J.items.all It.okv&&J.items.all (It.okm J.items))&&J.gP.all (fun t=>(S.env t).lA p&& !jH t (slotsOf J.items))&&Jc S.N (fun id=>jH id ids||(S.H id).c.lA p)
  &&F.all (fun t=>jH t J.gP)&&(match W with|some (n,_)=>Nat.ble n S.N|none=>false)
def uk:(l:List (It U))->tI l->List (Sigma (It.den (U:=U)))
 |[],_=>[]
 |i::l,v=>⟨i,v.1⟩::uk l v.2
variable {K}
theorem HV{S:aS U}:∀{l:List (It U)} {v:tI l},pack K S l=some v->∀p∈uk l v,RH K S p.1=some p.2
 |[],v,h,p,hp=>by cases hp
 |i::l,v,h,p,hp=>by
  rw[pack]at h;split at h
  ·rename_i v1 h1;split at h
   ·rename_i vs h2;injection h with h
    subst h;rcases QA.1 hp with rfl|hp
    ·exact h1
    ·exact HV h2 p hp
   ·cases h
  ·cases h
def YC:(i:It U)->i.den->KV U
 | .val _ T,v=>Dd K T v
 | .own _ id ar _ _ _,_=> .own id ar
 | .box _ _ _ _,_=> .any
 | .eR _ _ _ _ _,_=> .any
def JE:(i:It U)->i.den->cV U
 | .val _ _,_=>⟨0,.dead⟩
 | .own _ _ ar e k T,xs=>⟨ar,.row e k T xs⟩
 | .box _ ar T m,v=>⟨ar,.box (yt m (K.fD T v))⟩
 | .eR _ ar e k T,xs=>⟨ar,.row e k T xs⟩
theorem Xg(S:aS U)(i:It U)(v:i.den)(t:Nat):(i.bj=some t/\(sd K S i v).env t=YC (K:=K) i v)\/(i.bj≠some t/\(sd K S i v).env t=S.env t):=by
 cases i with
 |val t' T=>
  by_cases e:t'=t
  ·subst e;left;exact⟨rfl,by simp only[sd,cH];exact ca _ _ _⟩
  ·right;exact⟨by simpa[It.bj]using e,by simp only[sd,cH];exact cu _ _ (fun h=>e h.symm)⟩
 |own t' id ar ee k T=>
  by_cases e:t'=t
  ·subst e;left;exact⟨rfl,by simp only[sd,cH];exact ca _ _ _⟩
  ·right;exact⟨by simpa[It.bj]using e,by simp only[sd,cH];exact cu _ _ (fun h=>e h.symm)⟩
 |box id ar T m=>right;exact⟨by simp[It.bj],rfl⟩
 |eR id ar e k T=>right;exact⟨by simp[It.bj],rfl⟩
theorem M6(S:aS U)(i:It U)(v:i.den)(id:Nat):(i.id=some id/\(sd K S i v).H id=JE (K:=K) i v)\/(i.id≠some id/\(sd K S i v).H id=S.H id):=by
 cases i with
 |val t' T=>right;exact⟨by simp[It.id],rfl⟩
 |own t' id' ar ee k T=>
  by_cases e:id'=id
  ·subst e;left;exact⟨rfl,by simp only[sd,cH];exact ca _ _ _⟩
  ·right;exact⟨by simpa[It.id]using e,by simp only[sd,cH];exact cu _ _ (fun h=>e h.symm)⟩
 |box id' ar T m=>
  by_cases e:id'=id
  ·subst e;left;exact⟨rfl,by simp only[sd,cH];exact ca _ _ _⟩
  ·right;exact⟨by simpa[It.id]using e,by simp only[sd,cH];exact cu _ _ (fun h=>e h.symm)⟩
 |eR id' ar ee k T=>
  by_cases e:id'=id
  ·subst e;left;exact⟨rfl,by simp only[sd,cH];exact ca _ _ _⟩
  ·right;exact⟨by simpa[It.id]using e,by simp only[sd,cH];exact cu _ _ (fun h=>e h.symm)⟩
theorem abz(S:aS U)(i:It U)(v:i.den):(sd K S i v).N=S.N:=by cases i<;>rfl
theorem EY(S:aS U):∀(l:List (It U)) (v:tI l),(rE K S l v).N=S.N
 |[],_=>rfl
 |i::l,v=>by rw[rE,abz,EY S l]
theorem tR{id:Nat}:∀{l:List (It U)} {i:It U},i∈l->i.id=some id->id∈gB l
 |j::l,i,hi,h=>by
  simp only[gB];rcases QA.1 hi with rfl|hi
  ·rw[h];exact Qx
  ·have:=tR hi h;split
   ·exact Qy _ this
   ·exact this
theorem GL{id:Nat}:∀{l:List (It U)} {i:It U},i∈l->i.row=some id->id∈rowsOf l
 |j::l,i,hi,h=>by
  simp only[rowsOf];rcases QA.1 hi with rfl|hi
  ·rw[h];exact Qx
  ·have:=GL hi h;split
   ·exact Qy _ this
   ·exact this
theorem DK{id:Nat}:∀{l:List (It U)} {i:It U},i∈l->i.bj=some id->id∈slotsOf l
 |j::l,i,hi,h=>by
  simp only[slotsOf];rcases QA.1 hi with rfl|hi
  ·rw[h];exact Qx
  ·have:=DK hi h;split
   ·exact Qy _ this
   ·exact this
theorem lf:∀{l:List (It U)} {v:tI l} {p:Sigma (It.den (U:=U))},p∈uk l v->p.1∈l
 |i::l,v,p,hp=>by
  rcases QA.1 hp with rfl|hp
  ·exact Qx
  ·exact Qy _ (lf hp)
theorem Nt:∀{l:List (It U)} {v:tI l} {i:It U},i∈l->∃d,(⟨i,d⟩:Sigma (It.den (U:=U)))∈uk l v
 |j::l,v,i,hi=>by
  rcases QA.1 hi with rfl|hi
  ·exact⟨v.1,Qx⟩
  ·obtain⟨d,hd⟩:=Nt (v:=v.2) hi;exact⟨d,Qy _ hd⟩
theorem zI(S:aS U):∀(l:List (It U)) (v:tI l) (t:Nat),(∃p∈uk l v,p.1.bj=some t/\(rE K S l v).env t=YC (K:=K) p.1 p.2)\/(t∉slotsOf l/\(rE K S l v).env t=S.env t)
 |[],v,t=> .inr ⟨by simp[slotsOf],rfl⟩
 |i::l,v,t=>by
  rcases Xg (K:=K) (rE K S l v.2) i v.1 t with⟨h1,h2⟩|⟨h1,h2⟩
  ·exact .inl ⟨⟨i,v.1⟩,Qx,h1,h2⟩
  ·rcases zI S l v.2 t with⟨p,hp,h3,h4⟩|⟨h3,h4⟩
   ·exact .inl ⟨p,Qy _ hp,h3,h2.trans h4⟩
   ·refine .inr ⟨?_,h2.trans h4⟩;simp only[slotsOf];split
    ·rename_i s hs;simp only[QA,not_or];exact⟨fun e=>h1 (by rw[hs,e]),h3⟩
    ·exact h3
theorem EZ(S:aS U):∀(l:List (It U)) (v:tI l) (id:Nat),uo (gB l)=true->(∃p∈uk l v,p.1.id=some id/\(rE K S l v).H id=JE (K:=K) p.1 p.2)\/(id∉gB l/\(rE K S l v).H id=S.H id)
 |[],v,t,_=> .inr ⟨by simp[gB],rfl⟩
 |i::l,v,id,hn=>by
  have hn':uo (gB l)=true:=by
   simp only[gB]at hn;split at hn
   ·simp only[uo,Qm]at hn;exact hn.2
   ·exact hn
  rcases M6 (K:=K) (rE K S l v.2) i v.1 id with⟨h1,h2⟩|⟨h1,h2⟩
  ·exact .inl ⟨⟨i,v.1⟩,Qx,h1,h2⟩
  ·rcases EZ S l v.2 id hn' with⟨p,hp,h3,h4⟩|⟨h3,h4⟩
   ·exact .inl ⟨p,Qy _ hp,h3,h2.trans h4⟩
   ·refine .inr ⟨?_,h2.trans h4⟩;simp only[gB];split
    ·rename_i s hs;simp only[QA,not_or];exact⟨fun e=>h1 (by rw[hs,e]),h3⟩
    ·exact h3
theorem DB(S:aS U):∀(l:List (It U)) (v:tI l),uo (gB l)=true->∀p∈uk l v,∀id,p.1.id=some id->(rE K S l v).H id=JE (K:=K) p.1 p.2
 |[],v,_,p,hp=>by cases hp
 |i::l,v,hn,p,hp=>by
  intro id hid
  have hn':uo (gB l)=true:=by
   simp only[gB]at hn;split at hn
   ·simp only[uo,Qm]at hn;exact hn.2
   ·exact hn
  rcases QA.1 hp with rfl|hp
  ·rcases M6 (K:=K) (rE K S l v.2) i v.1 id with⟨h1,h2⟩|⟨h1,h2⟩
   ·exact h2
   ·exact absurd hid h1
  ·rcases M6 (K:=K) (rE K S l v.2) i v.1 id with⟨h1,h2⟩|⟨h1,h2⟩
   ·exfalso;simp only[gB,h1,uo,Qm,Bool.not_eq_true']at hn;exact oY hn.1 (tR (lf hp) hid)
   ·exact h2.trans (DB S l v.2 hn' p hp id hid)
theorem OY(S:aS U)(gP:List Nat):(S.base gP).N=S.N:=rfl
theorem Hn{S:aS U}{gP:List Nat}{t:Nat}:(S.base gP).env t=if t∈gP then S.env t else .any:=by
 simp only[aS.base];split
 ·rename_i h;rw[Qr (jq.1 h)]
 ·rename_i h;rw[Qs (oY h)]
theorem OZ{S:aS U}{gP:List Nat}{id:Nat}:(S.base gP).H id=if id<S.N then S.H id else⟨0,.dead⟩:=by
 simp only[aS.base];split
 ·rename_i h;rw[Qr (show id<S.N from QG h)]
 ·rename_i h;rw[Qs];intro hlt;have:Nat.blt id S.N=true:=Nat.ble_eq_true_of_le hlt;rw[this]at h;cases h
theorem gn.Yx{w:World}{M:Nat->Prop}{G:Gh}{xs:List (KV U)}{ys:List PV}(h:gn mf xs ys):∀{vs:List Value},aR w M G (xs.map KV.pv) vs->aR w M G ys vs:=by
 induction h with
 |nil=>intro vs h;exact h
 |cons hc _ ih=>
  intro vs h;obtain⟨v,vs',rfl,h1,h2⟩:=aR.cons_inv h;refine aR.cons ?_ (ih h2)
  cases hc with
  |dx=>rw[KV.pv]at h1;rw[h1.oX];exact .slnil
  |own _ _ _ _ hn=>cases hn
  |_=>simpa[KV.pv]using h1
theorem iq.Yx{w:World}{M:Nat->Prop}{G:Gh}{x:KV U}{y:PV}(hc:iq mf x y){v:Value}(h1:aW w M G x.pv v):aW w M G y v:=by
 cases hc with
 |dx=>rw[KV.pv]at h1;rw[h1.oX];exact .slnil
 |own _ _ _ _ hn=>cases hn
 |_=>simpa[KV.pv]using h1
theorem gn.len{lk:Lk U}{xs:List (KV U)}{ys:List PV}(h:gn lk xs ys):xs.length=ys.length:=by
 induction h with
 |nil=>rfl
 |cons _ _ ih=>rw[QE,QE,ih]
theorem gn.get{lk:Lk U}{xs:List (KV U)}{ys:List PV}(h:gn lk xs ys):∀{i:Nat} {x:KV U} {y:PV},xs[i]?=some x->ys[i]?=some y->iq lk x y:=by
 induction h with
 |nil=>intro i x y h;simp at h
 |cons hc _ ih=>
  intro i x y hx hy
  cases i with
  |zero=>simp only[List.getElem?_cons_zero,Qf]at hx hy;subst hx hy;exact hc
  |succ i=>exact ih (by simpa using hx) (by simpa using hy)
theorem Uy{w:World}{M:Nat->Prop}{G:Gh}{T:U.Ty}{x:KV U}{d:U.den T}{v:Value}(h:zz K mf T x=some d)(r:aW w M G x.pv v):aW w M G (gF T d) v:=by
 unfold zz at h;unfold gF;split at h
 ·split at h
  ·rename_i cs;rw[KV.pv,KV.cv]at r;obtain⟨vs,rfl,hr⟩:=r.oy;have:=(K.kH _ _ _ _ h).Yx hr;exact .agg _ _ this.1 this.2
  ·cases h
 ·rename_i ha;have hc:=K.kH _ _ _ _ h;have h1:aR w M G ([x].map KV.pv) [v]:= .cons r .nil;have h2:=hc.Yx h1;generalize U.pv T d=ys at h2;obtain⟨hl,h2⟩:=h2
  cases ys with
  |nil=>simp at hl
  |cons y l=>exact h2 0 y v rfl rfl
theorem Rel.meet{S0 S1:aS U}{J:JS U}{F:List Nat}{W:WS}(hchk:AE S0 J F W=true){v:tI J.items}(hp:pack K S1 J.items=some v)
  (hk:∀t∈J.gP,S1.env t=S0.env t) (hH:∀id,id<S0.N->id∉gB J.items->S1.H id=S0.H id) (hN:S0.N<=S1.N)
  {E:En} {a:Act} {w:World} {L:Nat->Value} (h:Rel E S1.st a w L):Rel E (unpack K S0 J v).st a w L:=by
 simp only[AE,Qm,QH]at hchk;obtain⟨⟨⟨⟨⟨⟨hnd,hids⟩,hokv,hokm⟩,hkeep⟩,hobj⟩,hF⟩,hW⟩:=hchk;have hpk:=HV hp;have hN':(unpack K S0 J v).N=S0.N:=by rw[unpack,EY,OY]
 have hlt:∀id∈gB J.items,id<S0.N:=fun id hid=>QG (hids id hid).1
 have hHc:∀id,(∃p∈uk J.items v,p.1.id=some id/\(unpack K S0 J v).H id=JE (K:=K) p.1 p.2)\/(id∉gB J.items/\(unpack K S0 J v).H id=if id<S0.N then S0.H id else⟨0,.dead⟩):=by
  intro id;rcases EZ (K:=K) (S0.base J.gP) J.items v id hnd with h1|⟨h1,h2⟩
  ·exact .inl h1
  ·exact .inr ⟨h1,h2.trans OZ⟩
 have hrow:∀t id ar e k T (xs:List (U.den T)),(⟨.own t id ar e k T,xs⟩:Sigma (It.den (U:=U)))∈uk J.items v->S1.env t= .own id (S1.H id).ar/\(S1.H id).c= .row e k T xs/\(ar=0->(S1.H id).ar=0):=by
  intro t id ar e k T xs hmem;have:=hpk _ hmem;simp only[RH]at this;split at this
  ·rename_i id' v' he;split at this
   ·rename_i hid;have hid:=QF hid;subst hid;split at this
    ·rename_i r hr;obtain⟨h1,h2⟩:=Ds hr;split at this
     ·rename_i hek;rw[Qm,Qm,Qn]at hek;obtain⟨re,rk,rT,rxs⟩:=r;obtain⟨eT,hxs⟩:=nc this;simp only at eT hxs h2 hek;subst eT;refine⟨by rw[he,h1],by rw[h2,hxs,QF hek.1.1,QF hek.1.2],fun hz=> ?_⟩
      rcases hek.2 with h9|h9
      ·rw[hz]at h9;cases h9
      ·rw[h1];exact QF h9
     ·cases this
    ·cases this
   ·cases this
  ·cases this
 have hbox:∀id ar T m (d:U.den T),(⟨.box id ar T m,d⟩:Sigma (It.den (U:=U)))∈uk J.items v->(S1.H id).ar=ar/\∃cs,(S1.H id).c= .box cs/\DM S1 cs m=true/\gn mf (yn m cs) (U.pv T d):=by
  intro id ar T m d hmem;have:=hpk _ hmem;simp only[RH]at this;split at this
  ·rename_i cs hcs;obtain⟨h1,h2⟩:=xg hcs;split at this
   ·rename_i hmk;exact⟨h1,cs,h2,hmk,K.kH _ _ _ _ this⟩
   ·cases this
  ·cases this
 have hrowb:∀id ar e k T (xs:List (U.den T)),(⟨.eR id ar e k T,xs⟩:Sigma (It.den (U:=U)))∈uk J.items v->(S1.H id).c= .row e k T xs/\(ar=0->(S1.H id).ar=0):=by
  intro id ar e k T xs hmem;have:=hpk _ hmem;simp only[RH]at this;split at this
  ·rename_i e' k' T' ys hc;split at this
   ·rename_i hek;rw[Qm,Qm,Qn]at hek;obtain⟨eT,hxs⟩:=nc this;subst eT;refine⟨by rw[hc,hxs,QF hek.1.1,QF hek.1.2],fun hz=> ?_⟩
    rcases hek.2 with h9|h9
    ·rw[hz]at h9;cases h9
    ·exact QF h9
   ·cases this
  ·cases this
 have hlive:∀id,id<S0.N->((unpack K S0 J v).st.H id).c.live=true->(S1.st.H id).c.live=true:=by
  intro id hid hl;rcases hHc id with⟨⟨i,d⟩,hmem,h1,h2⟩|⟨h1,h2⟩
  ·cases i with
   |val t T=>cases h1
   |own t id' ar e k T=>
    simp only[It.id,Qf]at h1;subst h1;have:=(hrow _ _ _ _ _ _ _ hmem).2.1;simp only[aS.st,cV.pv,this,dz.pv];rfl
   |box id' ar T m=>
    simp only[It.id,Qf]at h1;subst h1;obtain⟨_,cs,h3,_,_⟩:=hbox _ _ _ _ _ hmem;simp only[aS.st,cV.pv,h3,dz.pv];rfl
   |eR id' ar e k T=>
    simp only[It.id,Qf]at h1;subst h1;have:=(hrowb _ _ _ _ _ _ hmem).1;simp only[aS.st,cV.pv,this,dz.pv];rfl
  ·rw[Qr hid]at h2;simp only[aS.st]at hl ⊢;rw[h2,<-hH id hid h1]at hl;exact hl
 have hM:∀b,bp E (unpack K S0 J v).st L b->bp E S1.st L b:=by
  rintro b (⟨id,hid,hl,hb⟩|hb)
  ·have hid':id<S0.N:=by simpa only[aS.st,hN']using hid
   exact .inl ⟨id,QJ hid' hN,hlive id hid' hl,hb⟩
  ·exact .inr hb
 have hpok:∀id,(Nat.blt id S0.N&& !jH id (rowsOf J.items))=true->id<((unpack K S0 J v).st.gh L).N/\((unpack K S0 J v).st.gh L).V id=(S1.st.gh L).V id/\((unpack K S0 J v).st.gh L).L id=(S1.st.gh L).L id:=by
  intro id hid;simp only[Qm,Bool.not_eq_true']at hid;have hid1:id<S0.N:=QG hid.1;refine⟨by simpa only[St.gh,aS.st,hN']using hid1,?_,rfl⟩
  simp only[St.gh,aS.st,cV.pv];rcases hHc id with⟨⟨i,d⟩,hmem,h1,h2⟩|⟨h1,h2⟩
  ·cases i with
   |val t T=>cases h1
   |own t id' ar e k T=>
    simp only[It.id,Qf]at h1;subst h1
    cases ar with
    |zero=>
     rw[h2];exact((hrow _ _ _ _ _ _ _ hmem).2.2 rfl).symm
    |succ n=>exact absurd (GL (lf hmem) rfl) (oY hid.2)
   |box id' ar T m=>
    simp only[It.id,Qf]at h1;subst h1;rw[h2];exact(hbox _ _ _ _ _ hmem).1.symm
   |eR id' ar e k T=>
    simp only[It.id,Qf]at h1;subst h1
    cases ar with
    |zero=>
     rw[h2];exact((hrowb _ _ _ _ _ _ hmem).2 rfl).symm
    |succ n=>exact absurd (GL (lf hmem) rfl) (oY hid.2)
  ·rw[Qr hid1]at h2;rw[h2,hH id hid1 h1]
 refine⟨h.defers,h.size,fun t=> ?_,fun id hid=> ?_,fun i j b hi hj hli hlj hbi hbj=> ?_,fun id hid=> ?_,h.fr,fun hb hlv hvr=> ?_⟩
 ·show aW _ _ _ (((unpack K S0 J v).env t).pv) _;rcases zI (K:=K) (S0.base J.gP) J.items v t with⟨⟨i,d⟩,hmem,h1,h2⟩|⟨_,h2⟩
  ·rw[show(unpack K S0 J v).env t=_ from h2]
   cases i with
   |val t' T=>
    simp only[It.bj,Qf]at h1;subst h1;simp only[YC,AO];have h3:=hpk _ hmem;simp only[RH]at h3;have h4:=Uy h3 (h.env t')
    have hg:(gF T d).lA (fun _=>false)=true:=by
     have:=xl K d;have h5:=CB K d
     cases hv:gF T d with
     |agg cs=>
      simp only[PV.lA];refine QH.2 fun y hy=> ?_
      cases ha:U.agg T with
      |true=>
       rw[tP d ha]at hv;injection hv with hv
       rw[<-hv]at hy;have:=K.fp T d y hy;cases y<;>first|rfl|cases this
      |false=>obtain⟨y0,h6,h7⟩:=ru K d ha;have h8:=K.fp T d y0 h7;rw[<-h6,hv]at h8;cases h8
     |cX cs=>exact absurd hv (h5 cs)
     |cz f cs=>
      exfalso
      cases ha:U.agg T with
      |true=>rw[tP d ha]at hv;cases hv
      |false=>obtain⟨y,h6,h7⟩:=ru K d ha;have h8:=K.fp T d y h7;rw[<-h6,hv]at h8;cases h8
     |_=>rw[hv]at this;first|rfl|cases this
    exact h4.lA hg hM (fun id hid=>by cases hid)
   |own t' id ar e k T=>
    simp only[It.bj,Qf]at h1;subst h1;obtain⟨h3,h4,_⟩:=hrow _ _ _ _ _ _ _ hmem;have h5:=h.env t';have h6:S1.st.env t'= .own id (S1.st.H id).ar:=by simp only[aS.st,h3,KV.pv,cV.pv]
    rw[h6]at h5;obtain⟨h7,h8⟩:=h5.kR (show(S1.st.gh L).V id=_ from rfl)
    have hidlt:=hlt id (tR (lf hmem) rfl);have h9:=DB (K:=K) (S0.base J.gP) J.items v hnd _ hmem id rfl;simp only[YC,KV.pv]
    have hsl:∃ad n c,a.tmps.getD t' undef= .slice ad n c:=by
     generalize a.tmps.getD t' undef=vv at h5
     cases h5 with
     |own _ _ ad n c _ _ _=>exact⟨ad,n,c,rfl⟩
    obtain⟨ad,n,c,hv⟩:=hsl;rw[hv]at h8 ⊢;refine .own _ _ _ _ _ (by simpa only[St.gh,aS.st,hN']using hidlt) ?_ (fun _=>h8)
    simp only[St.gh,aS.st,cV.pv,show(unpack K S0 J v).H id=_ from h9,JE]
    exact QI _
   |box id ar T m=>cases h1
   |eR id ar e k T=>cases h1
  ·rw[show(unpack K S0 J v).env t=_ from h2,Hn]
   split
   ·rename_i ht;have h3:=(hkeep t ht).1;rw[<-Nf]at h3;refine aW.lA h3 hM hpok ?_;have:=h.env t;simp only[aS.st,hk t ht]at this;exact this
   ·exact .any _
 ·have hid':id<S0.N:=by simpa only[aS.st,hN']using hid
  show uS _ _ _ _ _ (((unpack K S0 J v).H id).c.pv);rcases hHc id with⟨⟨i,d⟩,hmem,h1,h2⟩|⟨h1,h2⟩
  ·rw[h2]
   cases i with
   |val t T=>cases h1
   |own t id' ar e k T=>
    simp only[It.id,Qf]at h1;subst h1;have h3:=(hrow _ _ _ _ _ _ _ hmem).2.1;have h4:(S1.st.H id').c= .row e k (d.map (U.pv T)):=by simp only[aS.st,cV.pv,h3,dz.pv]
    obtain⟨vs,h5,h6,h7⟩:=h.iI (QJ hid' hN) h4;refine⟨vs,h5,h6,aR.closed ?_ hM h7⟩;refine QH.2 fun y hy=> ?_
    obtain⟨u,hu,hyu⟩:=List.mem_flatten.1 hy;obtain⟨x,_,rfl⟩:=QP.1 hu;exact hO (K.fp T x y hyu)
   |box id' ar T m=>
    simp only[It.id,Qf]at h1;subst h1;obtain⟨_,cs,h3,hmk,hcs⟩:=hbox _ _ _ _ _ hmem;have h4:(S1.st.H id').c= .box (cs.map KV.pv):=by simp only[aS.st,cV.pv,h3,dz.pv]
    obtain⟨b,cur,T',h5,h6,h7,h8⟩:=h.nf (QJ hid' hN) h4;refine⟨b,cur,T',h5,h6,h8,?_,fun i y u hy hu=> ?_⟩
    ·have e1:=congrArg List.length (K.mZ T d);rw[QC]at e1;rw[QC,HL,e1,<-hcs.len,BD,h7.1,QC]
    ·rw[QT,Qb]at hy;obtain⟨z,hz,rfl⟩:=hy;rcases HM _ m hz with⟨rid,rver,hmm,rfl⟩|⟨hnm,hz⟩
     ·have hci:=Ia hmk hmm;have h9:=h7.2 i _ u (by rw[QT,hci];rfl) hu
      rw[KV.pv]at h9;obtain⟨h10,h11⟩:=h9.kR (show(S1.st.gh L).V rid=_ from rfl)
      have hmi:(It.box id' ar T m)∈J.items:=lf hmem;obtain⟨e,k,T2,hrm⟩:=IQ (QH.1 (hokm _ hmi) _ hmm);have hridlt:=hlt rid (tR hrm rfl)
      have hsl:∃ad n c,u= .slice ad n c:=by
       cases h9 with
       |own _ _ ad n c _ _ _=>exact⟨ad,n,c,rfl⟩
      obtain⟨ad,n,c,hv⟩:=hsl;rw[hv]at h11 ⊢;rw[KV.pv];refine .own _ _ _ _ _ (by simpa only[St.gh,aS.st,hN']using hridlt) ?_ (fun _=>h11)
      obtain⟨d2,hd2⟩:=Nt (v:=v) hrm;have h12:=DB (K:=K) (S0.base J.gP) J.items v hnd _ hd2 rid rfl;simp only[St.gh,aS.st,cV.pv,show(unpack K S0 J v).H rid=_ from h12,JE]
      exact QI _
     ·have hzp:(U.pv T d)[i]?=some z.pv:=by rw[<-K.mZ,QT,hz];rfl
      have hil:i<cs.length:=by
       have:=(Qw.1 hzp).1;rw[<-hcs.len,BD]at this;exact this
      have hci:cs[i]?=some cs[i]:=Qv hil;have hck:=hcs.get (by rw[Ht m cs hnm];exact hci) hzp
      have h9:=h7.2 i _ u (by rw[QT,hci];rfl) hu
      exact(hck.Yx h9).closed (hO (K.fp T d _ (Q7 hzp))) hM
   |eR id' ar e k T=>
    simp only[It.id,Qf]at h1;subst h1;have h3:=(hrowb _ _ _ _ _ _ hmem).1;have h4:(S1.st.H id').c= .row e k (d.map (U.pv T)):=by simp only[aS.st,cV.pv,h3,dz.pv]
    obtain⟨vs,h5,h6,h7⟩:=h.iI (QJ hid' hN) h4;refine⟨vs,h5,h6,aR.closed ?_ hM h7⟩;refine QH.2 fun y hy=> ?_
    obtain⟨u,hu,hyu⟩:=List.mem_flatten.1 hy;obtain⟨x,_,rfl⟩:=QP.1 hu;exact hO (K.fp T x y hyu)
  ·rw[h2,Qr hid',<-hH id hid' h1];have ho:=h.obj id (QJ hid' hN);have hc:=Jb hobj id hid';rw[Qn]at hc;have hc:=hc.resolve_left (fun e=>h1 (jq.1 e))
   rw[<-hH id hid' h1]at hc
   change uS _ _ _ _ _ ((S1.H id).c.pv)at ho
   cases hcc:(S1.H id).c with
   |dead=>trivial
   |box cs=>
    rw[hcc]at ho hc;obtain⟨b,cur,T',h5,h6,h7,h8⟩:=ho;refine⟨b,cur,T',h5,h6,h7,h8.1,fun i y u hy hu=> ?_⟩
    simp only[dz.lA,QH]at hc;rw[QT,Qb]at hy;obtain⟨z,hz,rfl⟩:=hy;refine aW.lA (by rw[Nf];exact hc z (Q7 hz)) hM hpok (h8.2 i z.pv u (by rw[QT,hz];rfl) hu)
   |raw e k es=>
    rw[hcc]at ho hc;obtain⟨vs,h5,h6,h7⟩:=ho;refine⟨vs,h5,h6,h7.1,fun i y u hy hu=> ?_⟩
    simp only[dz.lA,QH]at hc;obtain⟨l,hl,hyl⟩:=List.mem_flatten.1 (Q7 hy);obtain⟨c,hcm,rfl⟩:=QP.1 hl;obtain⟨z,hz,rfl⟩:=QP.1 hyl;exact aW.lA (by rw[Nf];exact hc c hcm z hz) hM hpok (h7.2 i _ u hy hu)
   |row e k T xs=>
    rw[hcc]at ho;obtain⟨vs,h5,h6,h7⟩:=ho;refine⟨vs,h5,h6,aR.closed ?_ hM h7⟩;refine QH.2 fun y hy=> ?_
    obtain⟨u,hu,hyu⟩:=List.mem_flatten.1 hy;obtain⟨x,_,rfl⟩:=QP.1 hu;exact hO (K.fp T x y hyu)
 ·have hi':i<S0.N:=by simpa only[aS.st,hN']using hi
  have hj':j<S0.N:=by simpa only[aS.st,hN']using hj
  exact h.apart i j b (QJ hi' hN) (QJ hj' hN) (hlive i hi' hli) (hlive j hj' hlj) hbi hbj
 ·have hid':S0.N<=id:=by simpa only[aS.st,hN']using hid
  rcases hHc id with⟨⟨i,d⟩,hmem,h1,h2⟩|⟨h1,h2⟩
  ·have:=hlt id (tR (lf hmem) h1);omega
  ·rw[Qs (by omega)]at h2
   simp only[aS.st,h2,cV.pv,dz.pv]
 ·by_cases h0:0<S0.N
  ·refine h.AV hb (hlive 0 h0 hlv) ?_;simp only[aS.st,cV.pv]at hvr ⊢;rcases hHc 0 with⟨⟨i,d⟩,hmem,h1,h2⟩|⟨h1,h2⟩
   ·rw[h2]at hvr
    cases i with
    |val t T=>cases h1
    |own t id' ar e k T=>
     simp only[It.id,Qf]at h1;subst h1;exact(hrow _ _ _ _ _ _ _ hmem).2.2 hvr
    |box id' ar T m=>
     simp only[It.id,Qf]at h1;subst h1;rw[(hbox _ _ _ _ _ hmem).1];exact hvr
    |eR id' ar e k T=>
     simp only[It.id,Qf]at h1;subst h1;exact(hrowb _ _ _ _ _ _ hmem).2 hvr
   ·rw[Qr h0]at h2;rw[hH 0 h0 h1,<-h2];exact hvr
  ·rcases hHc 0 with⟨⟨i,d⟩,hmem,h1,h2⟩|⟨h1,h2⟩
   ·exact absurd (hlt 0 (tR (lf hmem) h1)) h0
   ·rw[Qs h0]at h2;simp only[aS.st,cV.pv,h2,dz.pv]at hlv;cases hlv
end
end
section
open Go.RowKit
def nT{σ ρ:Type}(step:σ->Option (σ⊕ρ)):Nat->σ->Option ρ
 |0,_=>none
 |n+1,s=>match step s with
  |none=>none
  |some (.inr r)=>some r
  |some (.inl s')=>nT step n s'
theorem Ca{σ ρ:Type}{step:σ->Option (σ⊕ρ)}{r:ρ}:∀{n m:Nat} {s:σ},n<=m->nT step n s=some r->nT step m s=some r
 |0,_,_,_,h=>by cases h
 |n+1,0,_,hnm,_=>by omega
 |n+1,m+1,s,hnm,h=>by
  simp only[nT]at h ⊢;split at h
  ·cases h
  ·exact h
  ·exact Ca (by omega) h
theorem VN{σ ρ:Type}{step:σ->Option (σ⊕ρ)}{r r':ρ}{n m:Nat}{s:σ}(h:nT step n s=some r)(h':nT step m s=some r'):r=r':=by
 have h1:=Ca (Nat.le_max_left n m) h;have h2:=Ca (Nat.le_max_right n m) h';rw[h1]at h2;injection h2
open Classical in
 def aD{σ ρ:Type}(step:σ->Option (σ⊕ρ))(s:σ):Option ρ:=
 if h:∃r,∃n,nT step n s=some r then some (Classical.choose h)else none
theorem xL{σ ρ:Type}{step:σ->Option (σ⊕ρ)}{s:σ}{r:ρ}(h:aD step s=some r):∃n,nT step n s=some r:=by
 unfold aD at h;split at h
 ·rename_i hx;injection h with h
  obtain⟨n,hn⟩:=Classical.choose_spec hx;exact⟨n,by rw[hn,h]⟩
 ·cases h
theorem GN{σ ρ:Type}{step:σ->Option (σ⊕ρ)}{s:σ}{r:ρ}{n:Nat}(h:nT step n s=some r):aD step s=some r:=by
 unfold aD;have hx:∃r,∃n,nT step n s=some r:=⟨r,n,h⟩;rw[dif_pos hx];obtain⟨m,hm⟩:=Classical.choose_spec hx;rw[VN hm h]
theorem jr{σ ρ:Type}(step:σ->Option (σ⊕ρ))(s:σ):aD step s=match step s with|none=>none|some (.inr r)=>some r|some (.inl s')=>aD step s':=by
 cases hs:step s with
 |none=>
  cases h:aD step s with
  |none=>rfl
  |some r=>
   obtain⟨n,hn⟩:=xL h
   cases n with
   |zero=>cases hn
   |succ n=>simp[nT,hs]at hn
 |some x=>
  cases x with
  |inr r=>exact GN (n:=1) (by simp[nT,hs])
  |inl s'=>
   simp only
   cases h':aD step s' with
   |some r=>
    obtain⟨n,hn⟩:=xL h';exact GN (n:=n+1) (by simp only[nT,hs];exact hn)
   |none=>
    cases h:aD step s with
    |none=>rfl
    |some r=>
     obtain⟨n,hn⟩:=xL h
     cases n with
     |zero=>cases hn
     |succ n=>simp only[nT,hs]at hn;rw[GN hn]at h';cases h'
open Classical in
 def both{ρ:Type}(x y:Option ρ):Option ρ:=if x=y then x else none
theorem Wg{ρ:Type}{x y:Option ρ}{r:ρ}(h:both x y=some r):x=some r/\y=some r:=by
 unfold both at h;split at h
 ·rename_i e;exact⟨h,e▸h⟩
 ·cases h
@[simp] theorem aes {ρ:Type} (x:Option ρ):both x x=x:=Qr rfl
def bm{σ ρ:Type}(j:σ->Option ρ)(f:(σ->Option ρ)->Option ρ):Option ρ:=f j
section
variable {U : TU}
inductive SA (U:TU) where
 |skip
 |Dv (rs:RS U)
 |mm (un:List (Nat×Nat)) (rs:RS U)
 |seq (x y:SA U)
 |join (J:JS U) (x y:SA U)
 |cond (c:bg) (x y:SA U)
 |block (id:Nat) (x:SA U)
 |loop (J:JS U) (x:SA U)
 |Uz (n:Nat) (x:SA U)
 |exit (id:Nat)
 |ret
 |ps (p:Ps U) (x:SA U)
 |AY (p:Ps U) (x:SA U)
def SA.erase:SA U->SC
 | .skip=> .skip
 | .Dv rs=> .Dv rs.flat
 | .mm un rs=> .mm un rs.flat
 | .seq x y=> .seq x.erase y.erase
 | .join _ x y=> .seq x.erase y.erase
 | .cond c x y=> .cond c x.erase y.erase
 | .block id x=> .block id x.erase
 | .loop _ x=> .loop x.erase
 | .Uz _ x=> .loop x.erase
 | .exit id=> .exit id
 | .ret=> .ret
 | .ps _ x=>x.erase
 | .AY _ x=>x.erase
def SA.du:SA U->Bool
 | .Dv rs=>rs.du
 | .mm _ rs=>rs.du
 | .seq x y=>x.du&&y.du
 | .join _ x y=>x.du&&y.du
 | .cond c x y=>c.du&&x.du&&y.du
 | .block _ x=>x.du
 | .loop _ x=>x.du
 | .Uz _ x=>x.du
 | .ps _ x=>x.du
 | .AY _ x=>x.du
 |_=>true
variable (K : TK U)
def zG(Γ:List (dk U)){ρ:Type}(W:WS)(base:Nat):RS U->(i:Nat)->(S:aS U)->(k:aS U->List sx->Option ρ)->Option ρ
 | .nil,_,S,k=>k S []
 | .op o r,i,S,k=>TD K Γ W (base+i) S o fun x wr=>zG Γ W base r (i+1) (S.cZ o.d x wr) fun S' fs=>k S' (⟨o.d,o.bZ,Bg (base+i) S.st o,wr.map (·.1)⟩::fs)
 | .w4 t r,i,S,k=>(match S.env t with
  | .bool b=>bif b then zG Γ W base r i (S.cZ (some t) (.bool true) none) k else zG Γ W base r i (S.cZ (some t) (.bool false) none) k
  | .undef=>zG Γ W base r i S k
  |_=>none)
 |_,_,_,_=>none
def Ng(F:List Nat)(ds:List Nat):Bool:=ds.all fun t=> !jH t F
def aS.more(S:aS U)(n:Nat):aS U:={env:=S.env,H:=S.H,N:=S.N+n}
def MG{ρ:Type}(f:(aS U->Option ρ)->aS U->Option ρ):Nat->aS U->Option ρ
 |0,_=>none
 |n+1,S=>f (MG f n) S
 def pw(Γ:List (dk U)):SA U->{ρ:Type}->(F:List Nat)->(W:WS)->(k:Exit->aS U->Option ρ)->(S:aS U)->Option ρ
 | .skip,_,_,_,k,S=>k .normal S
 | .Dv rs,_,F,W,k,S=>(match Ng F rs.fK with
  |true=>ib K Γ rs W S.N (S.more rs.len) fun S'=>k .normal S'
  |false=>none)
 | .mm un rs,_,F,W,k,S=>(match Ng F rs.fK with
  |true=>zG K Γ W S.N rs 0 (S.more rs.len) fun S' fs=>(match un.all (fun p=>match fs[p.1]?,fs[p.2]? with|some a,some b=>yR a b|_,_=>false)with
   |true=>k .normal S'
   |false=>none)
  |false=>none)
 | .seq x y,_,F,W,k,S=>pw Γ x F W (fun e S'=>match e with
  | .normal=>pw Γ y F W k S'
  |e=>k e S') S
 | .join J x y,_,F,W,k,S=>(match AE S J F W with
  |true=>bm (fun v=>pw Γ y F W k (unpack K S J v)) fun j=>pw Γ x J.gP (some (S.N,gB J.items)) (fun e S'=>match e with
   | .normal=>(match pack K S' J.items with|some v=>j v|none=>none)
   |e=>k e S') S
  |false=>none)
 | .cond c x y,_,F,W,k,S=>(match c.cA S with
  | .bool b=>bif b then pw Γ x F W k S else pw Γ y F W k S
  | .fB=>both (pw Γ x F W k S) (pw Γ y F W k S)
  |_=>none)
 | .block id x,_,F,W,k,S=>pw Γ x F W (fun e S'=>match e with
  | .exit i=>(match Nat.beq i id with|true=>k .normal S'|false=>k (.exit i) S')
  |e=>k e S') S
 | .loop J x,_,F,W,k,S=>(match AE S J F W with
  |true=>(match pack K S J.items with
   |some v0=>aD (fun v=>pw Γ x J.gP (some (S.N,gB J.items)) (fun e S'=>match e with
    | .normal=>(match pack K S' J.items with|some v=>some (Sum.inl v)|none=>none)
    |e=>(k e S').map Sum.inr) (unpack K S J v)) v0
   |none=>none)
  |false=>none)
 | .Uz n x,_,F,W,k,S=>MG (fun ih S=>pw Γ x F W (fun e S'=>match e with| .normal=>ih S'|e=>k e S') S) n S
 | .exit id,_,_,_,k,S=>k (.exit id) S
 | .ret,_,_,_,k,S=>k .ret S
 | .ps p x,_,F,W,k,S=>(match(p.B0 S).all (okW W)&&Ng F p.tmps with
  |true=>(match p.run S with|some S'=>pw Γ x F W k S'|none=>none)
  |false=>none)
 | .AY p x,_,F,W,k,S=>pw Γ x F W (fun e S'=>match e with
  | .normal=>(match(p.B0 S').all (okW W)&&Ng F p.tmps with
   |true=>(match p.run S' with|some S1=>k .normal S1|none=>none)
   |false=>none)
  |e=>k e S') S
structure lp (F:List Nat) (W:WS) (S S':aS U):Prop where
 env:∀t∈F,S'.env t=S.env t
 H:∀id,okW W id=false->S'.H id=S.H id
 N:S.N<=S'.N
theorem lp.refl(F:List Nat)(W:WS)(S:aS U):lp F W S S:=⟨fun _ _=>rfl,fun _ _=>rfl,QI _⟩
theorem lp.trans{F:List Nat}{W:WS}{S S' S'':aS U}(h:lp F W S S')(h':lp F W S' S''):lp F W S S'':=
 ⟨fun t ht=>(h'.env t ht).trans (h.env t ht),fun id hid=>(h'.H id hid).trans (h.H id hid),QK h.N h'.N⟩
theorem xk.toC{D F:List Nat}{W:WS}{S S':aS U}(h:xk D W S S')(ho:Ng F D=true):lp F W S S':=
 ⟨fun t ht=>h.env t (fun hd=>by have h1:=QH.1 ho t hd;rw[jq.2 ht]at h1;cases h1),h.H,h.N⟩
theorem lp.more{F:List Nat}{W:WS}{S S':aS U}{n:Nat}(h:lp F W (S.more n) S'):lp F W S S':=
 ⟨h.env,h.H,QK (Nat.le_add_right _ _) h.N⟩
variable {K}
variable {P : Program} {nt : Nat}
theorem Sb{sc:SC}{Q:Exit->St->Prop}{S S':St}(hw:∀(E:En) (a:Act) (w:World) (L:Nat->Value),Rel E S a w L->∃L',Rel E S' a w L')(h:VS P nt sc Q S'):VS P nt sc Q S:=
 fun c hs hc E hE hk a w L hr=>by
  obtain⟨L',h'⟩:=hw E a w L hr;exact h c hs hc E hE hk a w L' h'
theorem aaR{sc:SC}{Q Q':Exit->St->Prop}{S:St}(h:VS P nt sc Q' S)(hq:∀e A,Q' e A->∃A',Q e A'/\∀(E:En) (a:Act) (w:World) (L:Nat->Value),Rel E A a w L->∃L',Rel E A' a w L'):VS P nt sc Q S:=
 fun c hs hc E hE hk a w L hr=>wpIn_mono (h c hs hc E hE hk a w L hr) fun _ _ _ ⟨S',L',h1,h2⟩=>by
  obtain⟨A',h3,h4⟩:=hq _ _ h2;obtain⟨L'',h5⟩:=h4 _ _ _ _ h1;exact⟨A',L'',h5,h3⟩
theorem aaQ{Γ:List (dk U)}(hΓ:tN P Γ){rs:RS U}{W:WS}{ρ:Type}{k:aS U->Option ρ}{r:ρ}{S:aS U}(hok:rs.du=true)(hr:ib K Γ rs W S.N (S.more rs.len) k=some r){Q:Exit->St->Prop}
  (h:∀S',xk rs.fK W (S.more rs.len) S'->k S'=some r->Q .normal S'.st):VS P nt (.Dv rs.flat) Q S.st:=by
 intro c hs hc
 cases c with
 |region id ops d=>
  cases d with
  |true=>simp only[bO]at hc;(try split at hc)<;>(try split at hc)<;>(try split at hc)<;>cases hc
  |false=>
   simp only[bO]at hc;split at hc
   ·rename_i gs' hgs;split at hc
    ·rename_i hd;injection hc with hc
     injection hc with hc
     subst hc;intro E hE hk a w L hrel;refine wpIn_region_list ?_;have h0:Rel E (S.more rs.len).st a w L:=hrel.room rs.len;have:=ki (K:=K) (E:=E) hΓ (ops:=ops) (Q:=fun e a' w'=>∃S' L',Rel E S' a' w' L'/\Q e S') rs W S.N (S.more rs.len) k r ops.toList [] a w L hok hgs h0 (QI _) (Wf hE hk (V4 hd)) hr (fun S' a' w' L' hf h' hk'=>⟨S'.st,L',h',h S' hf hk'⟩)
     simpa using this
    ·cases hc
   ·cases hc
 |seq x y=>simp only[bO]at hc;split at hc<;>cases hc
 |cond c x y=>simp only[bO]at hc;split at hc<;>cases hc
 |block id c=>simp only[bO,Qb]at hc;obtain⟨_,_,hc⟩:=hc;cases hc
 |loop c=>simp only[bO,Qb]at hc;obtain⟨_,_,hc⟩:=hc;cases hc
 |rangeFunc g ps x y=>simp only[bO]at hc;(try split at hc)<;>(try split at hc)<;>cases hc
 |_=>simp only[bO]at hc<;>cases hc
theorem HH{Γs Γs':Nat->nk}{base:Nat}:∀(l:List (Nat×SG)) (S:St),(∀p∈l,Γs p.1=Γs' p.1)->ma Γs base l S=ma Γs' base l S
 |[],_,_=>rfl
 |(i,g)::l,S,h=>by
  simp only[ma,h (i,g) (by simp)]
  split
  ·rfl
  ·rename_i p hp;rw[HH l _ fun q hq=>h q (Qy _ hq)]
theorem sF{Γ:List (dk U)}(hΓ:tN P Γ){W:WS}{base:Nat}{ρ:Type}{r:ρ}:∀(rs:RS U) (i:Nat) (S:aS U) (k:aS U->List sx->Option ρ),rs.du=true->zG K Γ W base rs i S k=some r->
  ∃(Γs:Nat->nk) (S':aS U) (fs:List sx),(∀j,nW P (Γs j))/\ma Γs base ((rs.flat.zipIdx i).map fun p=>(p.2,p.1)) S.st=some (S'.st,fs)/\xk rs.fK W S S'/\k S' fs=some r
 | .nil,i,S,k,_,h=>⟨fun _ _=>none,S,[],fun _=>S8,rfl,xk.refl _ _ _,h⟩
 | .op o rs,i,S,k,hok,h=>by
  simp only[RS.du,Qm]at hok;simp only[zG]at h;obtain⟨Γ',x,wr,h1,h2,h3,h4⟩:=I0 hΓ hok.1 h;obtain⟨Γs,S',fs,h5,h6,h7,h8⟩:=sF hΓ rs (i+1) _ _ hok.2 h4;refine⟨fun j=>if j=i then Γ' else Γs j,S',_,fun j=> ?_,?_,?_,h8⟩
  ·simp only;split
   ·exact h1
   ·exact h5 j
  ·simp only[RS.flat,List.zipIdx_cons,QD,ma,Qt,h2]
   have:ma (fun j=>if j=i then Γ' else Γs j) base ((rs.flat.zipIdx (i+1)).map fun p=>(p.2,p.1)) (S.st.cZ o.d x.pv (wr.map iA))=some (S'.st,fs):=by
    rw[<-w3,<-h6];refine HH _ _ fun p hp=> ?_
    obtain⟨q,hq,rfl⟩:=QP.1 hp;have:=List.mem_zipIdx hq;simp only;rw[Qs (by omega)]
   rw[this];simp only[Ay]
   cases wr with
   |none=>rfl
   |some p=>rfl
  ·refine(Br S W o.d x wr h3).trans h7 fun t ht=> ?_
   simp only[RS.fK]at ht
   cases hdd:o.d with
   |none=>rw[hdd]at ht;exact⟨by simp,ht⟩
   |some d=>rw[hdd]at ht;simp only[QA,not_or]at ht;exact⟨by simpa using fun e=>ht.1 e,ht.2⟩
 | .w4 t rs,i,S,k,hok,h=>by
  simp only[zG]at h;split at h
  ·rename_i b hb
   cases b with
   |true=>rw[Qk,zj hb]at h;exact sF hΓ rs i S k hok h
   |false=>rw[Ql,zj hb]at h;exact sF hΓ rs i S k hok h
  ·exact sF hΓ rs i S k hok h
  ·cases h
 | .ps _ _,_,_,_,_,h=>by cases h
 | .ite _ _ _ _ _ _ _ _,_,_,_,_,h=>by cases h
 | .two _ _ _ _ _,_,_,_,_,h=>by cases h
 | .pr _ _ _ _ _ _,_,_,_,_,h=>by cases h
theorem aaN{c:Code}{Q:Exit->St->Prop}{S:St}(I:Nat->St->Prop)(m0:Nat){S0:St}(hw0:∀(E:En) (a:Act) (w:World) (L:Nat->Value),Rel E S a w L->∃L',Rel E S0 a w L')(h0:I m0 S0)
  (hr:∀m S,I m S->V P nt c (fun e S'=>match e with| .normal=>∃m',m'<m/\∃S'',(∀(E:En) (a:Act) (w:World) (L:Nat->Value),Rel E S' a w L->∃L',Rel E S'' a w L')/\I m' S''|e=>Q e S') S):V P nt (.loop c) Q S:=fun E hE hk a w L hrel=>by
 refine wpIn_loop_ghost (fun m a w=>∃S L,I m S/\Rel E S a w L) m0 ?_ ?_
 ·obtain⟨L',h'⟩:=hw0 E a w L hrel;exact⟨S0,L',h0,h'⟩
 rintro m a w ⟨S1,L1,hI,h1⟩;refine wpIn_mono (hr m S1 hI E hE hk a w L1 h1) ?_;rintro e a' w' ⟨S',L',h2,h3⟩
 cases e with
 |normal=>
  obtain⟨m',hlt,S'',hw,hI'⟩:=h3;obtain⟨L'',h4⟩:=hw E a' w' L' h2;exact⟨m',hlt,S'',L'',hI',h4⟩
 |exit i=>exact⟨S',L',h2,h3⟩
 |goto l=>exact⟨S',L',h2,h3⟩
 |ret=>exact⟨S',L',h2,h3⟩
 |panic c=>exact⟨S',L',h2,h3⟩
 |outgrown=>exact⟨S',L',h2,h3⟩
theorem O7{x:SC}{Q:Exit->St->Prop}{S:St}(I:Nat->St->Prop)(m0:Nat){S0:St}(hw0:∀(E:En) (a:Act) (w:World) (L:Nat->Value),Rel E S a w L->∃L',Rel E S0 a w L')(h0:I m0 S0)
  (hr:∀m S,I m S->VS P nt x (fun e S'=>match e with| .normal=>∃m',m'<m/\∃S'',(∀(E:En) (a:Act) (w:World) (L:Nat->Value),Rel E S' a w L->∃L',Rel E S'' a w L')/\I m' S''|e=>Q e S') S):VS P nt (.loop x) Q S:=by
 intro c hs hc
 cases c with
 |loop p=>
  simp only[bO,Qb]at hc;obtain⟨x',hx,hc⟩:=hc;injection hc with h1
  subst h1;exact aaN I m0 hw0 h0 (fun m S hI=>hr m S hI p hs hx)
 |region id ops d=>cases d<;>simp only[bO]at hc<;>(try split at hc)<;>(try split at hc)<;>(try split at hc)<;>cases hc
 |seq x y=>simp only[bO]at hc;split at hc<;>cases hc
 |cond c x y=>simp only[bO]at hc;split at hc<;>cases hc
 |block id c=>simp only[bO,Qb]at hc;obtain⟨_,_,hc⟩:=hc;cases hc
 |rangeFunc g ps x y=>simp only[bO]at hc;(try split at hc)<;>(try split at hc)<;>cases hc
 |_=>simp only[bO]at hc<;>cases hc
theorem Nu{S:aS U}{J:JS U}{F:List Nat}{W:WS}(hchk:AE S J F W=true)(v:tI J.items):lp F W S (unpack K S J v):=by
 simp only[AE,Qm,QH]at hchk;obtain⟨⟨⟨⟨⟨⟨hnd,hids⟩,hokv⟩,hkeep⟩,hobj⟩,hF⟩,hW⟩:=hchk;refine⟨fun t ht=> ?_,fun id hid=> ?_,?_⟩
 ·have hk:=jq.1 (hF t ht);have hns:jH t (slotsOf J.items)=false:=by simpa using(hkeep t hk).2
  rcases zI (K:=K) (S.base J.gP) J.items v t with⟨⟨i,d⟩,hmem,h1,h2⟩|⟨_,h2⟩
  ·exact absurd (DK (lf hmem) h1) (oY hns)
  ·rw[show(unpack K S J v).env t=_ from h2,Hn,Qr hk]
 ·have hlt:id<S.N:=by
   cases W with
   |none=>cases hW
   |some q=>
    obtain⟨n,l⟩:=q;simp only at hW;simp only[okW,Qq73]at hid;have h1:=QG hW;have h2:¬n<=id:=fun hle=>by rw[Nat.ble_eq_true_of_le hle]at hid;cases hid.1
    omega
  rcases EZ (K:=K) (S.base J.gP) J.items v id hnd with⟨⟨i,d⟩,hmem,h1,h2⟩|⟨_,h2⟩
  ·have:=(hids id (tR (lf hmem) h1)).2;rw[hid]at this;cases this
  ·rw[show(unpack K S J v).H id=_ from h2,OZ,Qr hlt]
 ·rw[unpack,EY,OY];exact QI _
theorem KW{S S1:aS U}{J:JS U}{F:List Nat}{W:WS}(hchk:AE S J F W=true){v:tI J.items}(hp:pack K S1 J.items=some v)(hf:lp J.gP (some (S.N,gB J.items)) S S1):
  ∀(E:En) (a:Act) (w:World) (L:Nat->Value),Rel E S1.st a w L->∃L',Rel E (unpack K S J v).st a w L':=by
 intro E a w L h;refine⟨L,Rel.meet hchk hp hf.env (fun id hid hni=>hf.H id ?_) hf.N h⟩
 simp only[okW,Qq73];refine⟨?_,?_⟩
 ·cases hb:Nat.ble S.N id with
  |false=>rfl
  |true=>have:=QG hb;omega
 ·cases hb:jH id (gB J.items)with
  |false=>rfl
  |true=>exact absurd (jq.1 hb) hni
theorem fG{Γ:List (dk U)}(hΓ:tN P Γ):∀(sa:SA U) {ρ:Type} (F:List Nat) (W:WS) (k:Exit->aS U->Option ρ) (S:aS U) (r:ρ),sa.du=true->pw K Γ sa F W k S=some r->
  VS P nt sa.erase (fun e A=>∃S',A=S'.st/\lp F W S S'/\k e S'=some r) S.st
 | .skip,ρ,F,W,k,S,r,hok,h=>aaP ⟨S,rfl,lp.refl _ _ _,h⟩
 | .exit id,ρ,F,W,k,S,r,hok,h=>aaS ⟨S,rfl,lp.refl _ _ _,h⟩
 | .ret,ρ,F,W,k,S,r,hok,h=>acG ⟨S,rfl,lp.refl _ _ _,h⟩
 | .Dv rs,ρ,F,W,k,S,r,hok,h=>by
  simp only[pw]at h;split at h
  ·rename_i ho;exact aaQ hΓ hok h fun S' hf hk=>⟨S',rfl,(hf.toC ho).more,hk⟩
  ·cases h
 | .mm un rs,ρ,F,W,k,S,r,hok,h=>by
  simp only[pw]at h;split at h
  ·rename_i ho;obtain⟨Γs,S',fs,h1,h2,h3,h4⟩:=sF hΓ rs 0 _ _ hok h;split at h4
   ·rename_i hun;refine acH h1 (S':=S'.st) ?_ ⟨S',rfl,(h3.toC ho).more,h4⟩;rw[RS.qH];have e:({S.st with N:=S.st.N+rs.len}:St)=(S.more rs.len).st:=rfl
    rw[e,Jw];rw[show S.st.N=S.N from rfl,h2]
    exact Qr hun
   ·cases h4
  ·cases h
 | .seq x y,ρ,F,W,k,S,r,hok,h=>by
  simp only[SA.du,Qm]at hok;refine Wp ((fG hΓ x F W _ S r hok.1 h).mono ?_);rintro e A ⟨S',rfl,hf,hk⟩
  cases e with
  |normal=>exact(fG hΓ y F W k S' r hok.2 hk).mono fun e A ⟨S'',h1,h2,h3⟩=>⟨S'',h1,hf.trans h2,h3⟩
  |exit i=>exact⟨S',rfl,hf,hk⟩
  |goto l=>exact⟨S',rfl,hf,hk⟩
  |ret=>exact⟨S',rfl,hf,hk⟩
  |panic c=>exact⟨S',rfl,hf,hk⟩
  |outgrown=>exact⟨S',rfl,hf,hk⟩
 | .join J x y,ρ,F,W,k,S,r,hok,h=>by
  simp only[SA.du,Qm]at hok;simp only[pw]at h;split at h
  ·rename_i hchk;unfold bm at h
   have hsub:∀S',lp J.gP (some (S.N,gB J.items)) S S'->lp F W S S':=by
    intro S' hf;simp only[AE,Qm,QH]at hchk;obtain⟨⟨⟨⟨⟨⟨hnd,hids⟩,hokv⟩,hkeep⟩,hobj⟩,hF⟩,hW⟩:=hchk;refine⟨fun t ht=>hf.env t (jq.1 (hF t ht)),fun id hid=>hf.H id ?_,hf.N⟩
    simp only[okW,Qq73];refine⟨?_,?_⟩
    ·cases W with
     |none=>cases hW
     |some q=>
      obtain⟨n,l⟩:=q;simp only at hW;simp only[okW,Qq73]at hid;have h1:=QG hW
      cases hb:Nat.ble S.N id with
      |false=>rfl
      |true=>have:=QG hb;rw[Nat.ble_eq_true_of_le (QK h1 this)]at hid;cases hid.1
    ·cases hb:jH id (gB J.items)with
     |false=>rfl
     |true=>have:=(hids id (jq.1 hb)).2;rw[hid]at this;cases this
   refine Wp ((fG hΓ x J.gP _ _ S r hok.1 h).mono ?_);rintro e A ⟨S',rfl,hf,hk⟩
   cases e with
   |normal=>
    simp only at hk;split at hk
    ·rename_i v hv;refine Sb (KW hchk hv hf) ?_;exact(fG hΓ y F W k _ r hok.2 hk).mono fun e A ⟨S'',h1,h2,h3⟩=>⟨S'',h1,(Nu hchk v).trans h2,h3⟩
    ·cases hk
   |exit i=>exact⟨S',rfl,hsub S' hf,hk⟩
   |goto l=>exact⟨S',rfl,hsub S' hf,hk⟩
   |ret=>exact⟨S',rfl,hsub S' hf,hk⟩
   |panic c=>exact⟨S',rfl,hsub S' hf,hk⟩
   |outgrown=>exact⟨S',rfl,hsub S' hf,hk⟩
  ·cases h
 | .cond c x y,ρ,F,W,k,S,r,hok,h=>by
  simp only[SA.du,Qm]at hok;simp only[pw]at h;split at h
  ·rename_i b hb;have hv:c.val S.st= .bool b:=by rw[ou hok.1.1,hb];rfl
   refine aaT hv ?_
   cases b with
   |true=>exact fG hΓ x F W k S r hok.1.2 h
   |false=>exact fG hΓ y F W k S r hok.2 h
  ·rename_i hb;have hv:c.val S.st= .fB:=by rw[ou hok.1.1,hb];rfl
   obtain⟨h1,h2⟩:=Wg h;exact Yg hv (fG hΓ x F W k S r hok.1.2 h1) (fG hΓ y F W k S r hok.2 h2)
  ·cases h
 | .block id x,ρ,F,W,k,S,r,hok,h=>by
  refine Yh ((fG hΓ x F W _ S r hok h).mono ?_);rintro e A ⟨S',rfl,hf,hk⟩
  cases e with
  |exit i=>
   simp only at hk;simp only[Bq];split at hk
   ·rename_i hi;rw[Qr (QF hi)];exact⟨S',rfl,hf,hk⟩
   ·rename_i hi;rw[Qs (Nat.ne_of_beq_eq_false hi)];exact⟨S',rfl,hf,hk⟩
  |normal=>exact⟨S',rfl,hf,hk⟩
  |goto l=>exact⟨S',rfl,hf,hk⟩
  |ret=>exact⟨S',rfl,hf,hk⟩
  |panic c=>exact⟨S',rfl,hf,hk⟩
  |outgrown=>exact⟨S',rfl,hf,hk⟩
 | .loop J x,ρ,F,W,k,S,r,hok,h=>by
  simp only[pw]at h;split at h
  ·rename_i hchk;split at h
   ·rename_i v0 hv0
    have hsub:∀v S',lp J.gP (some (S.N,gB J.items)) (unpack K S J v) S'->lp F W S S':=by
     intro v S' hf;have hm:=Nu (K:=K) hchk v;refine hm.trans ?_;simp only[AE,Qm,QH]at hchk;obtain⟨⟨⟨⟨⟨⟨hnd,hids⟩,hokv⟩,hkeep⟩,hobj⟩,hF⟩,hW⟩:=hchk;refine⟨fun t ht=>hf.env t (jq.1 (hF t ht)),fun id hid=>hf.H id ?_,hf.N⟩
     simp only[okW,Qq73];refine⟨?_,?_⟩
     ·cases W with
      |none=>cases hW
      |some q=>
       obtain⟨n,l⟩:=q;simp only at hW;simp only[okW,Qq73]at hid;have h1:=QG hW
       cases hb:Nat.ble S.N id with
       |false=>rfl
       |true=>have:=QG hb;rw[Nat.ble_eq_true_of_le (QK h1 this)]at hid;cases hid.1
     ·cases hb:jH id (gB J.items)with
      |false=>rfl
      |true=>have:=(hids id (jq.1 hb)).2;rw[hid]at this;cases this
    have hself:∀v S',lp J.gP (some (S.N,gB J.items)) (unpack K S J v) S'->∀v',pack K S' J.items=some v'->∀(E:En) (a:Act) (w:World) (L:Nat->Value),Rel E S'.st a w L->∃L',Rel E (unpack K S J v').st a w L':=by
     intro v S' hf v' hv' E a w L hrel;have hc:=hchk;simp only[AE,Qm,QH]at hc;obtain⟨⟨⟨⟨⟨⟨hnd,hids⟩,hokv⟩,hkeep⟩,hobj⟩,hF⟩,hW⟩:=hc;refine⟨L,Rel.meet hchk hv' (fun t ht=>(hf.env t ht).trans ?_) (fun id hid hni=>(hf.H id ?_).trans ?_) (by have:=hf.N;rw[unpack,EY,OY]at this;exact this) hrel⟩
     ·have hns:jH t (slotsOf J.items)=false:=by simpa using(hkeep t ht).2
      rcases zI (K:=K) (S.base J.gP) J.items v t with⟨⟨i,d⟩,hmem,h1,h2⟩|⟨_,h2⟩
      ·exact absurd (DK (lf hmem) h1) (oY hns)
      ·rw[show(unpack K S J v).env t=_ from h2,Hn,Qr ht]
     ·simp only[okW,Qq73];refine⟨?_,?_⟩
      ·cases hb:Nat.ble S.N id with
       |false=>rfl
       |true=>have:=QG hb;omega
      ·cases hb:jH id (gB J.items)with
       |false=>rfl
       |true=>exact absurd (jq.1 hb) hni
     ·rcases EZ (K:=K) (S.base J.gP) J.items v id hnd with⟨⟨i,d⟩,hmem,h1,h2⟩|⟨_,h2⟩
      ·exact absurd (tR (lf hmem) h1) hni
      ·rw[show(unpack K S J v).H id=_ from h2,OZ,Qr hid]
    obtain⟨n,hn⟩:=xL h
    refine O7 (fun m A=>∃v,A=(unpack K S J v).st/\nT (fun v=>pw K Γ x J.gP (some (S.N,gB J.items)) (fun e S'=>match e with
     | .normal=>(match pack K S' J.items with|some v=>some (Sum.inl v)|none=>none)
     |e=>(k e S').map Sum.inr) (unpack K S J v)) m v=some r) n (KW hchk hv0 (lp.refl _ _ _)) ⟨v0,rfl,hn⟩ ?_
    rintro m A ⟨v,rfl,hm⟩
    cases m with
    |zero=>cases hm
    |succ m=>
     simp only[nT]at hm;split at hm
     ·cases hm
     ·rename_i r' hs;injection hm with hm
      subst hm;refine(fG hΓ x J.gP _ _ _ _ hok hs).mono ?_;rintro e A ⟨S',rfl,hf,hk⟩
      cases e with
      |normal=>
       simp only at hk;split at hk<;>cases hk
      |exit i=>simp only[Qb]at hk;obtain⟨q,hq,e⟩:=hk;injection e with e;subst e;exact⟨S',rfl,hsub v S' hf,hq⟩
      |goto l=>simp only[Qb]at hk;obtain⟨q,hq,e⟩:=hk;injection e with e;subst e;exact⟨S',rfl,hsub v S' hf,hq⟩
      |ret=>simp only[Qb]at hk;obtain⟨q,hq,e⟩:=hk;injection e with e;subst e;exact⟨S',rfl,hsub v S' hf,hq⟩
      |panic c=>simp only[Qb]at hk;obtain⟨q,hq,e⟩:=hk;injection e with e;subst e;exact⟨S',rfl,hsub v S' hf,hq⟩
      |outgrown=>simp only[Qb]at hk;obtain⟨q,hq,e⟩:=hk;injection e with e;subst e;exact⟨S',rfl,hsub v S' hf,hq⟩
     ·rename_i v' hs;refine(fG hΓ x J.gP _ _ _ _ hok hs).mono ?_;rintro e A ⟨S',rfl,hf,hk⟩
      cases e with
      |normal=>
       simp only at hk;split at hk
       ·rename_i v1 hv1;injection hk with hk
        injection hk with hk
        subst hk;exact⟨m,Nat.lt_succ_self m,_,hself v S' hf v1 hv1,v1,rfl,hm⟩
       ·cases hk
      |exit i=>simp only[Qb]at hk;obtain⟨q,hq,e⟩:=hk;cases e
      |goto l=>simp only[Qb]at hk;obtain⟨q,hq,e⟩:=hk;cases e
      |ret=>simp only[Qb]at hk;obtain⟨q,hq,e⟩:=hk;cases e
      |panic c=>simp only[Qb]at hk;obtain⟨q,hq,e⟩:=hk;cases e
      |outgrown=>simp only[Qb]at hk;obtain⟨q,hq,e⟩:=hk;cases e
   ·cases h
  ·cases h
 | .Uz n x,ρ,F,W,k,S,r,hok,h=>by
  simp only[pw]at h;have⟨g,hg,h⟩:=(⟨_,rfl,h⟩:∃g,g=_/\MG g n S=some r);refine O7 (fun m A=>∃S1:aS U,A=S1.st/\lp F W S S1/\MG g m S1=some r) n (fun E a w L h=>⟨L,h⟩) ⟨S,rfl,lp.refl _ _ _,h⟩ ?_
  rintro m A ⟨S1,rfl,hf1,hm⟩
  cases m with
  |zero=>cases hm
  |succ m=>
   simp only[MG]at hm;rw[hg]at hm;simp only at hm;rw[<-hg]at hm;refine(fG hΓ x F W _ S1 r hok hm).mono ?_;rintro e A ⟨S',rfl,hf,hk⟩
   cases e with
   |normal=>exact⟨m,Nat.lt_succ_self m,S'.st,fun E a w L h=>⟨L,h⟩,S',rfl,hf1.trans hf,hk⟩
   |exit i=>exact⟨S',rfl,hf1.trans hf,hk⟩
   |goto l=>exact⟨S',rfl,hf1.trans hf,hk⟩
   |ret=>exact⟨S',rfl,hf1.trans hf,hk⟩
   |panic c=>exact⟨S',rfl,hf1.trans hf,hk⟩
   |outgrown=>exact⟨S',rfl,hf1.trans hf,hk⟩
 | .ps p x,ρ,F,W,k,S,r,hok,h=>by
  simp only[pw]at h;split at h
  ·rename_i hW;simp only[Qm]at hW;split at h
   ·rename_i S1 hp;refine Sb (fun E a w L hr=>Ps.sound K hp hr) ((fG hΓ x F W k S1 r hok h).mono fun e A ⟨S'',h1,h2,h3⟩=>⟨S'',h1,lp.trans ?_ h2,h3⟩)
    exact(Ps.frm hp hW.1).toC hW.2
   ·cases h
  ·cases h
 | .AY p x,ρ,F,W,k,S,r,hok,h=>by
  refine aaR (fG hΓ x F W _ S r hok h) ?_;rintro e A ⟨S',rfl,hf,hk⟩
  cases e with
  |normal=>
   simp only at hk;split at hk
   ·rename_i hW;simp only[Qm]at hW;split at hk
    ·rename_i S1 hp;exact⟨S1.st,⟨S1,rfl,hf.trans ((Ps.frm hp hW.1).toC hW.2),hk⟩,fun E a w L hr=>Ps.sound K hp hr⟩
    ·cases hk
   ·cases hk
  |exit i=>exact⟨_,⟨S',rfl,hf,hk⟩,fun E a w L hr=>⟨L,hr⟩⟩
  |goto l=>exact⟨_,⟨S',rfl,hf,hk⟩,fun E a w L hr=>⟨L,hr⟩⟩
  |ret=>exact⟨_,⟨S',rfl,hf,hk⟩,fun E a w L hr=>⟨L,hr⟩⟩
  |panic c=>exact⟨_,⟨S',rfl,hf,hk⟩,fun E a w L hr=>⟨L,hr⟩⟩
  |outgrown=>exact⟨_,⟨S',rfl,hf,hk⟩,fun E a w L hr=>⟨L,hr⟩⟩
end
end
end Go.TQ
end
