/-
  Texts made small by a program (see NOTES). Conditions: those that each theorem names.
-/
import Derived.Test.YtkgenianmdfmdaaGreatMachineKeepsMe
set_option linter.unusedVariables false
set_option linter.unusedSimpArgs false
set_option linter.unusedSectionVars false
set_option maxHeartbeats 2000000
noncomputable section
namespace Go.Proofs.YtkgenianmdfmdaaGreat
open Go.TQ
def jq{A ρ:Type}(g:A->Int->A⊕ρ)(fin:A->Option ρ):List Int->A->Option ρ
 |[],a=>fin a
 |x::l,a=>match g a x with
  | .inl a'=>jq g fin l a'
  | .inr r=>some r
theorem uX{A σ ρ:Type}(b:List Int)(hb:b.length<=1000000)(st:A->Int->σ)(g:A->Int->A⊕ρ)(fin:A->Option ρ){step:σ->Option (σ⊕ρ)}
  (h1:∀(i:Nat) (x:Int) (a:A),idx b (i:Int)=some x->decide ((0:Int)<=(i:Int))=true->dz .i64 (i:Int) 1=(i:Int) - 1->step (st a (i:Int))=some (match g a x with| .inl a'=> .inl (st a' ((i:Int) - 1))| .inr r=> .inr r))
  (h2:∀a,decide ((0:Int)<=(-1:Int))=false->step (st a (-1))=Option.map Sum.inr (fin a)):∀n:Nat,n<=b.length->∀a:A,aE step (st a ((n:Int) - 1))=jq g fin (b.take n).reverse a
 |0,_,a=>by
  rw[show((0:Nat):Int) - 1= -1 by omega,ik,h2 a rfl,List.take_zero,List.reverse_nil,jq]
  cases fin a<;>rfl
 |n+1,hn,a=>by
  have hlt:n<b.length:=by omega
  have hs:=h1 n b[n] a (by rw[bz];exact Qv hlt) (Qg (by omega)) (tf (by omega) (by omega))
  rw[show((n+1:Nat):Int) - 1=(n:Int)by omega,List.take_succ_eq_append_getElem hlt,List.reverse_append,List.reverse_singleton,List.singleton_append,jq]
  cases hg:g a b[n]with
  |inl a'=>rw[hg]at hs;rw[bl hs,uX b hb st g fin h1 h2 n (by omega) a']
  |inr r=>rw[hg]at hs;rw[bU hs]
theorem Fh(b:List Int)(hb:b.length<=1000000):dz .i64 ((b.length:Nat):Int) 1=((b.length:Nat):Int) - 1:=tf (by omega) (by omega)
theorem zI{ρ:Type}(q:Int->Bool)(f:Int->ρ):∀(l:List Int) (lo:Int),jq (fun lo x=>if lo<=x then .inl lo else if q x then .inl x else .inr (f lo)) (fun lo=>some (f lo)) l lo=some (f (cm q l lo))
 |[],lo=>rfl
 |x::l,lo=>by
  rw[jq,cm]
  by_cases h1:lo<=x
  ·rw[Qr h1,Qr h1];exact zI q f l lo
  ·rw[Qs h1,Qs h1]
   cases hq:q x with
   |true=>rw[Qr rfl,Qr rfl];exact zI q f l x
   |false=>rw[Qs (by simp),Qs (by simp)]
theorem Me{A ρ:Type}(s:A)(c p:Int->Bool)(f:Int->ρ)(d:ρ)(g:A->Int->A⊕ρ)(fin:A->Option ρ)(hg:∀z,g s z=if c z then(if p z then .inr (f z)else .inl s)else .inr d)(hfin:fin s=some d)(hc:∀a b,b<a->c b=true->c a=true):
  ∀r:List Int,r.Pairwise (fun a b=>b<a)->jq g fin r s=some (match r.find? (fun n=>c n&&p n)with|some n=>f n|none=>d)
 |[],_=>hfin
 |z::r,h=>by
  rw[jq,hg,List.find?_cons];rw[Q4]at h
  cases hz:c z with
  |false=>
   have:r.find? (fun n=>c n&&p n)=none:=by
    rw[List.find?_eq_none];intro n hn hcn;rw[Qm]at hcn;rw[hc z n (h.1 n hn) hcn.1]at hz;cases hz
   simp[this]
  |true=>
   cases hp:p z with
   |true=>simp
   |false=>
    simp only[Qt,Bool.true_and];exact Me s c p f d g fin hg hfin hc r h.2
theorem I2{ρ:Type}(q:Int->Bool)(f:Int->ρ):∀(r:List Int) (lo:Int),(∀z∈r,z<lo)->r.Pairwise (fun a b=>b<a)->jq (fun lo z=>if q z then .inl z else .inr (f lo)) (fun lo=>some (f lo)) r lo=some (f (cm q r lo))
 |[],lo,_,_=>rfl
 |z::r,lo,h,hs=>by
  rw[Q4]at hs;have hz:=h z (by simp)
  have h0:¬lo<=z:=by omega
  rw[jq,cm,Qs h0]
  cases hq:q z with
  |true=>rw[Qr rfl,Qr rfl];exact I2 q f r z hs.1 hs.2
  |false=>rw[Qs (by simp),Qs (by simp)]
theorem J6{α B ρ:Type}(l:List α)(hl:l.length<=1000000)(f:B->α->B){step:Int×B×Unit->Option ((Int×B×Unit)⊕ρ)}{fin:B->Option ρ}
  (h1:∀(i:Nat) (x:α) (b:B),x∈l->decide ((i:Int)<((l.length:Nat):Int))=true->idx l (i:Int)=some x->aB .i64 (i:Int) 1=((i+1:Nat):Int)->step ((i:Int),b,())=some (.inl (((i+1:Nat):Int),f b x,())))
  (h2:∀b,decide (((l.length:Nat):Int)<((l.length:Nat):Int))=false->step (((l.length:Nat):Int),b,())=Option.map Sum.inr (fin b)) (b:B):aE step ((0:Int),b,())=fin (l.foldl f b):=by
 suffices key:∀(k i:Nat) (b:B),i+k=l.length->aE step ((i:Int),b,())=fin ((l.drop i).foldl f b)from key l.length 0 b (by omega)
 intro k
 induction k with
 |zero=>
  intro i b hi;obtain rfl:i=l.length:=by omega
  rw[ik,h2 b (Qh (Int.lt_irrefl _)),List.drop_length,List.foldl_nil];cases fin b<;>rfl
 |succ k ih=>
  intro i b hi;have hlt:i<l.length:=by omega
  rw[bl (h1 i l[i] b (Q0 hlt) (Qg (by omega)) (by rw[bz];exact Qv hlt) (bH (by omega) (by omega))),ih (i+1) _ (by omega),QM hlt,QU]
theorem GU(q:Int->Bool):∀(l r:List Int) (lo:Int),(∀x∈l,lo<=x)->cm q (l++r) lo=cm q r lo
 |[],r,lo,_=>rfl
 |x::l,r,lo,h=>by
  rw[List.cons_append,cm,Qr (h x (by simp))]
  exact GU q l r lo fun y hy=>h y (by simp[hy])
theorem CN(q:Int->Bool):∀(r:List Int) (lo:Int),(∀x∈r,0<=x/\x<=1000000)->0<=lo/\lo<=1000000->0<=cm q r lo/\cm q r lo<=1000000
 |[],lo,_,h=>h
 |x::r,lo,hx,h=>by
  rw[cm];split
  ·exact CN q r lo (fun y hy=>hx y (by simp[hy])) h
  ·split
   ·exact CN q r x (fun y hy=>hx y (by simp[hy])) (hx x (by simp))
   ·exact h
 def eQ(x:ByteArray->Int->Int->Bool)(p q:ae)(v:ByteArray)(s:Bool×ae)(n:Int):Bool×ae:=
 if bd s.2 ⟨n,v⟩&& !kK p q v n&&x v n n then(true,⟨n,v⟩)else s
 def fD(x:ByteArray->Int->Int->Bool)(l:List ai)(p q:ae):Bool×ae:=
 (eZ l).foldl (fun s v=>(bb l v).foldl (eQ x p q v) s) (false,⟨0,fb⟩)
 def mr(x:ByteArray->Int->Int->Bool)(l:List ai)(p q:ae)(s:Bool×ae):ByteArray×Int×Int×Bool×Unit:=
 if s.1 then(s.2.Value,cm (fun n=> !kK p q s.2.Value n&&x s.2.Value n s.2.aj) (bb l s.2.Value).reverse s.2.aj,s.2.aj,true,())else(fb,0,0,false,())
section
variable {S : fE} {x y : ByteArray -> Int -> Int -> Bool} (hx : ∀ v lo hi, gi S v lo hi = some (x v lo hi)) (hy : ∀ v lo hi, lv S v lo hi = some (y v lo hi))
section
 include hx
theorem W9(b:List Int)(lo:Int)(p q z:ae):iH b lo p q z S=some (cm (fun n=> !kK p q z.Value n&&x z.Value n z.aj) b.reverse lo):=by
 have:=yq (p:=fun e=>lg e p q z S) (q:=fun n=> !kK p q z.Value n&&x z.Value n z.aj) (fun e=>by
  simp only[lg,KB,hx,Qa,jB]
  cases kK p q z.Value e<;>simp) b.reverse lo
 simp only[iH,bR,aU,Qa];exact this
theorem W8(b:List Int)(lo:Int)(v:ByteArray)(hi:Int):iV b lo S v hi=some (cm (fun z=>x v z hi) b.reverse lo):=by
 have:=yq (p:=fun e=>n5 e S v hi) (q:=fun z=>x v z hi) (fun e=>by simp only[n5,hx,Qa]) b.reverse lo
 simp only[iV,bR,aU,Qa];exact this
theorem PC(b:List Int)(lo:Int)(v:ByteArray)(hi:Int):gk b lo S v hi=some (cm (fun z=>x v z hi) b.reverse lo):=by
 have:=yq (p:=fun e=>n4 e S v hi) (q:=fun z=>x v z hi) (fun e=>by simp only[n4,hx,Qa]) b.reverse lo
 simp only[gk,bR,aU,Qa];exact this
theorem MR(b:List Int)(v:ByteArray)(low bI:Int)(hb:∀x∈b,0<=x/\x<=1000000):∀r:List Int,(∀x∈r,x∈b)->kT (yp S b v) (Vu S b v) r (low,bI,())=
  some (match r.find? (fun n=>decide (bI<n)&&x v n n)with
   |none=>(cm (fun z=>x v z bI) b.reverse low,bI,())
   |some n=>(cm (fun z=>x v z n) b.reverse (if bI<cm (fun z=>x v z n) b.reverse n - 1\/cm (fun z=>x v z n) b.reverse n<low then cm (fun z=>x v z n) b.reverse n else low),n,()))
 |[],_=>by simp only[kT,Vu,PC hx,Qa,List.find?_nil]
 |e::r,hr=>by
  have ih:=MR b v low bI hb r (fun x hx=>hr x (by simp[hx]))
  rw[List.find?_cons,kT]
  by_cases hle:e<=bI
  ·have h2:decide (bI<e)=false:=Qh (by omega)
   have h1:decide (e<=bI)=true:=Qg hle;have hst:yp S b v r.length e (low,bI,())=some (.inl (low,bI,())):=by simp only[yp,h1,Qk,Qa]
   rw[hst,h2,Bool.false_and];exact ih
  ·have h2:decide (bI<e)=true:=Qg (by omega)
   have h1:decide (e<=bI)=false:=Qh hle;rw[h2,Bool.true_and]
   cases hr':x v e e with
   |false=>
    have hst:yp S b v r.length e (low,bI,())=some (.inl (low,bI,())):=by simp only[yp,h1,Ql,hx,hr',Qp,Qa,Qk]
    rw[hst];exact ih
   |true=>
    have hb9:=CN (fun z=>x v z e) b.reverse e (fun z hz=>hb z (by simpa using hz)) (hb e (hr e (by simp)))
    simp only[yp,h1,Ql,hx,hr',Qo,W8 hx,PC hx,Qa,aU,jB,Bool.cond_true_left,Qe];generalize cm (fun z=>x v z e) b.reverse e=bt at*
    have e3:dz .i64 bt 1=bt - 1:=tf (by omega) (by omega)
    rw[e3]
    by_cases hc:bI<bt - 1\/bt<low
    ·have:(decide (bI<bt - 1)||decide (bt<low))=true:=by rw[Qn];simpa using hc
     rw[this,Qr hc];rfl
    ·have:(decide (bI<bt - 1)||decide (bt<low))=false:=by
      rw[<-QX,Qn];simpa using hc
     rw[this,Qs hc];rfl
end
section
 include hy
theorem Zk(b:List Int)(lo:Int)(v:ByteArray)(hi:Int):iU b lo S v hi=some (cm (fun z=>y v z hi) b.reverse lo):=by
 have:=yq (p:=fun e=>pw e S v hi) (q:=fun z=>y v z hi) (fun e=>by simp only[pw,hy,Qa]) b.reverse lo
 simp only[iU,bR,aU,Qa];exact this
end
variable {ax : Int} {t : an} {l : List ai} (hl : oy l) (hlen : l.length <= 1000) (hL : eN ax t l = some S)
 include hl hlen hL
section
 include hx
theorem aaT(p q:ae):oG ax t l p q=some (mr x l p q (fD x l p q)):=by
 obtain⟨h1,_,h3,_⟩:=nc hl.aO hlen;unfold oG;simp only[an.eta,hL,h1,Qa];refine(J7 (eZ l) (by omega) (fun s v=>(bb l v).foldl (eQ x p q v) s) (fin:=fun s=>some (mr x l p q s)) (fun i v a b hv hd hx' hw=> ?_) (fun a b hd=> ?_) false ⟨0,ByteArray.mk #[]⟩)
 ·obtain⟨g1,_,g3,_⟩:=gB hl.aO hlen v;simp only[hd,hx',hw,Qk,Qa,g1];refine(J7 (bb l v) (by omega) (eQ x p q v) (fin:=fun s=>some (Sum.inl (s.1,((i+1:Nat):Int),s.2,()))) (fun i' n a' b' hv' hd' hx'' hw'=> ?_) (fun a' b' hd'=> ?_) a b)
  ·simp only[hd',hx'',hw',Qk,aU,Qa,iA,KB,hx,jB];unfold eQ;cases bd b' ⟨n,v⟩<;>cases kK p q v n<;>cases x v n n<;>simp
  ·simp only[hd',Ql]
 ·simp only[hd,Ql];obtain⟨g1,_,g3,_⟩:=gB hl.aO hlen b.Value;unfold mr;cases a
  ·rfl
  ·simp only[Qo,Ql,g1,Qa,W9 hx,Qt]
theorem ZL(v:ByteArray)(low bI:Int):nJ ax t l v low bI=some ((AM (bb l v) (x v) low bI).1,(AM (bb l v) (x v) low bI).2,()):=by
 obtain⟨h1,_,_,_⟩:=gB hl.aO hlen v;have hin:=Aa hl hlen v;unfold nJ;simp only[an.eta,hL,h1,Qa,bR];refine(MR hx (bb l v) v low bI (fun x hx=>by have:=hin x hx;omega) (bb l v).reverse (by simp)).trans ?_
 unfold AM;cases (bb l v).reverse.find? (fun n=>decide (bI<n)&&x v n n)<;>rfl
end
section
 include hy
theorem aaU(v:ByteArray):oH ax t l v=some (s8 (bb l v) (y v)):=by
 obtain⟨h1,_,_,_⟩:=gB hl.aO hlen v
 have:=SE (p:=fun e=>lv S v e e) (q:=fun e=>y v e e) (d:=fun e=>iU (bb l v) e S v e) (f:=fun e=>cm (fun z=>y v z e) (bb l v).reverse e)
  (fun e=>hy v e e) (fun e=>Zk hy (bb l v) e v e) (bb l v).reverse
 simp only[oH,an.eta,hL,h1,bR,Qa,s8];exact this
end
end
 def zH(x:ByteArray->Int->Int->Bool)(p q:ae)(v:ByteArray)(s:ae)(n:Int):ae:=if bd s ⟨n,v⟩&& !kK p q v n&&x v n n then⟨n,v⟩else s
theorem P6{x:ByteArray->Int->Int->Bool}{p q:ae}(v:ByteArray):∀(b:List Int),(∀n∈b,1<=n)->∀s:Bool×ae,s.1= !aA s.2->
  (b.foldl (eQ x p q v) s).2=b.foldl (zH x p q v) s.2/\(b.foldl (eQ x p q v) s).1= !aA (b.foldl (eQ x p q v) s).2
 |[],_,s,h=>⟨rfl,h⟩
 |n::b,hb,s,h=>by
  rw[QU,QU];have hn:=hb n (by simp)
  have h1:(eQ x p q v s n).2=zH x p q v s.2 n:=by unfold eQ zH;split<;>rfl
  have h2:(eQ x p q v s n).1= !aA (eQ x p q v s n).2:=by
   unfold eQ;split
   ·have:decide (n=0)=false:=Qh (by omega)
    simp[aA,this]
   ·exact h
  rw[<-h1];exact P6 v b (fun n hn=>hb n (by simp[hn])) _ h2
theorem P7{x:ByteArray->Int->Int->Bool}{p q:ae}{l:List ai}(hl:oy l)(hlen:l.length<=1000):∀(vs:List ByteArray) (s:Bool×ae),s.1= !aA s.2->
  (vs.foldl (fun s v=>(bb l v).foldl (eQ x p q v) s) s).2=vs.foldl (fun s v=>(bb l v).foldl (zH x p q v) s) s.2/\(vs.foldl (fun s v=>(bb l v).foldl (eQ x p q v) s) s).1= !aA (vs.foldl (fun s v=>(bb l v).foldl (eQ x p q v) s) s).2
 |[],s,h=>⟨rfl,h⟩
 |v::vs,s,h=>by
  rw[QU,QU];obtain⟨h1,h2⟩:=P6 (x:=x) (p:=p) (q:=q) v (bb l v) (fun n hn=>(Aa hl hlen v n hn).1) s h
  rw[<-h1];exact P7 hl hlen vs _ h2
section
variable {ax : Int} {t : an} {l : List ai} (hl : oy l) (hlen : l.length <= 1000) {x y : ByteArray -> Int -> Int -> Bool} (hx : ∀ v lo hi, iF ax t l v lo hi = some (x v lo hi)) (hy : ∀ v lo hi, kf ax t l v lo hi = some (y v lo hi))
 include hl hlen
section
 include hx
theorem Wn(v:ByteArray)(lo hi:Int):ri ax t l v lo hi=some (cm (fun z=>x v z hi) (bb l v).reverse lo):=by
 obtain⟨_,_,h3,_⟩:=gB hl.aO hlen v;unfold ri;simp only[an.eta,uU hl.aO hlen,Qa,Fh _ (by omega:(bb l v).length<=1000000),aU]
 refine(uX (bb l v) (by omega) (fun lo i=>(lo,i,())) (fun lo z=>if lo<=z then .inl lo else if x v z hi then .inl z else .inr lo) (fun lo=>some lo) (fun i z a hi' hd hs=> ?_) (fun a hd=> ?_) (bb l v).length (QI _) lo).trans ?_
 ·simp only[hi',hd,hs,Qk,Qa,hx]
  by_cases h1:a<=z
  ·simp[h1]
  ·cases x v z hi<;>simp[h1]
 ·simp only[hd,Ql]
 ·rw[List.take_length];exact zI (fun z=>x v z hi) (fun lo=>lo) _ _
theorem Wt(v:ByteArray)(low bI:Int):l9 ax t l v low bI=some ((AM (bb l v) (x v) low bI).1,(AM (bb l v) (x v) low bI).2,()):=by
 obtain⟨_,h2,h3,_⟩:=gB hl.aO hlen v;have hin:=Aa hl hlen v;unfold l9;simp only[an.eta,uU hl.aO hlen,Wn hl hlen hx,Qa,Fh _ (by omega:(bb l v).length<=1000000),aU]
 refine(uX (bb l v) (by omega) (fun(s:Int×Int) i=>(s.1,s.2,i,()))
  (fun s z=>if s.2<z then(if x v z z then .inr (cm (fun w=>x v w z) (bb l v).reverse (if s.2<cm (fun w=>x v w z) (bb l v).reverse z - 1\/cm (fun w=>x v w z) (bb l v).reverse z<s.1 then cm (fun w=>x v w z) (bb l v).reverse z else s.1),z,())else .inl s)
   else .inr (cm (fun w=>x v w s.2) (bb l v).reverse s.1,s.2,()))
  (fun s=>some (cm (fun w=>x v w s.2) (bb l v).reverse s.1,s.2,())) (fun i z s hi' hd hs=> ?_) (fun s hd=> ?_) (bb l v).length (QI _) (low,bI)).trans ?_
 ·have hz:z∈bb l v:=by rw[bz]at hi';exact List.mem_of_getElem? hi'
  have hb9:=CN (fun w=>x v w z) (bb l v).reverse z (fun w hw=>by have:=hin w (by simpa using hw);omega) (by have:=hin z hz;omega)
  simp only[hi',hd,hs,Qk,Qa,hx]
  by_cases h1:s.2<z
  ·simp only[h1,decide_true,Qk,Qt]
   cases hxz:x v z z with
   |false=>simp
   |true=>
    generalize cm (fun w=>x v w z) (bb l v).reverse z=bt at*
    have e3:dz .i64 bt 1=bt - 1:=tf (by omega) (by omega)
    simp only[Qo,Ql,e3,Qt]
    by_cases h4:s.2<bt - 1
    ·simp[h4]
    ·by_cases h5:bt<s.1
     ·simp[h4,h5,de]
     ·simp[h4,h5,de]
  ·simp[h1]
 ·simp only[hd,Ql,Qa]
 ·rw[List.take_length]
  refine(Me (low,bI) (fun z=>decide (bI<z)) (fun z=>x v z z) (fun z=>(cm (fun w=>x v w z) (bb l v).reverse (if bI<cm (fun w=>x v w z) (bb l v).reverse z - 1\/cm (fun w=>x v w z) (bb l v).reverse z<low then cm (fun w=>x v w z) (bb l v).reverse z else low),z,()))
   (cm (fun w=>x v w bI) (bb l v).reverse low,bI,()) _ _ (fun z=> ?_) rfl (fun a b h h'=> ?_) _ (List.pairwise_reverse.2 h2)).trans ?_
  ·by_cases h4:bI<z<;>simp[h4]
  ·simp only[Qi]at h' ⊢;omega
  ·unfold AM;cases (bb l v).reverse.find? (fun n=>decide (bI<n)&&x v n n)<;>rfl
 omit hl hlen hx in
theorem Sy(p q:ae)(n:Int)(v:ByteArray):rh p q n v=some (!kK p q v n):=by
  simp only[rh,xD,Qa,kK];cases dK p ⟨n,v⟩<;>cases dK q ⟨n,v⟩<;>rfl
theorem Ys(p q:ae):mZ ax t l p q=some (mr x l p q (fD x l p q)):=by
 obtain⟨_,_,h3,_⟩:=nc hl.aO hlen;obtain⟨e1,e2⟩:=P7 (x:=x) (p:=p) (q:=q) hl hlen (eZ l) (false,⟨0,fb⟩) rfl;unfold mZ;simp only[an.eta,Tv hl.aO hlen,Qa];refine(J6 (eZ l) (by omega) (fun s v=>(bb l v).foldl (zH x p q v) s) (fin:=fun s=>some (mr x l p q (!aA s,s))) (fun i v b hv hd hx' hw=> ?_) (fun b hd=> ?_) ⟨0,ByteArray.mk #[]⟩).trans ?_
 ·obtain⟨_,_,g3,_⟩:=gB hl.aO hlen v;simp only[hd,hx',hw,Qk,Qa,uU hl.aO hlen];refine(J6 (bb l v) (by omega) (zH x p q v) (fin:=fun s=>some (Sum.inl (((i+1:Nat):Int),s,()))) (fun i' n b' hv' hd' hx'' hw'=> ?_) (fun b' hd'=> ?_) b)
  ·simp only[hd',hx'',hw',Qk,aU,Qa,iG,Sy,hx,jB];unfold zH;cases bd b' ⟨n,v⟩<;>cases kK p q v n<;>cases x v n n<;>simp
  ·simp only[hd',Ql]
 ·obtain⟨_,_,g3,_⟩:=gB hl.aO hlen b.Value;simp only[hd,Ql,di,Qa];unfold mr
  cases aA b with
  |true=>rfl
  |false=>
   simp only[Qp,Qt,Ql,uU hl.aO hlen,Qa,aU,Fh _ (by omega:(bb l b.Value).length<=1000000)]
   refine congrArg (Option.map Sum.inr) ((uX (bb l b.Value) (by omega) (fun lo i=>(lo,i,())) (fun lo z=>if lo<=z then .inl lo else if !kK p q b.Value z&&x b.Value z b.aj then .inl z else .inr (b.Value,lo,b.aj,true,())) (fun lo=>some (b.Value,lo,b.aj,true,())) (fun i z a hi' hd hs=> ?_) (fun a hd=> ?_) (bb l b.Value).length (QI _) b.aj).trans ?_)
   ·simp only[hi',hd,hs,Qk,Qa,hx,Sy]
    by_cases h1:a<=z
    ·simp[h1]
    ·cases kK p q b.Value z<;>cases x b.Value z b.aj<;>simp[h1]
   ·simp only[hd,Ql]
   ·rw[List.take_length];exact zI (fun z=> !kK p q b.Value z&&x b.Value z b.aj) (fun lo=>(b.Value,lo,b.aj,true,())) _ _
 ·unfold fD;rw[show(eZ l).foldl (fun s v=>(bb l v).foldl (zH x p q v) s) ⟨0,ByteArray.mk #[]⟩=((eZ l).foldl (fun s v=>(bb l v).foldl (eQ x p q v) s) (false,⟨0,fb⟩)).2 from e1.symm,<-e2]
end
section
 include hy
theorem Yu(v:ByteArray):na ax t l v=some (s8 (bb l v) (y v)):=by
 obtain⟨_,h2,h3,_⟩:=gB hl.aO hlen v;unfold na;simp only[an.eta,uU hl.aO hlen,Qa,Fh _ (by omega:(bb l v).length<=1000000),aU]
 unfold s8;generalize bb l v=b at*
 suffices key:∀n:Nat,n<=b.length->aE _ (((n:Nat):Int) - 1,())=some (match(b.take n).reverse.find? (fun e=>y v e e)with|some e=>(cm (fun z=>y v z e) b.reverse e,e,true,())|none=>(0,0,false,()))by
  have:=key b.length (QI _);rw[List.take_length]at this;exact this
 intro n
 induction n with
 |zero=>
  intro _;rw[show((0:Nat):Int) - 1= -1 by omega]
  have hd:decide ((0:Int)<= -1)=false:=rfl;exact bU (by simp only[hd,Ql,Qe,List.take_zero,List.reverse_nil,List.find?_nil])
 |succ n ih=>
  intro hn;have hlt:n<b.length:=by omega
  have hxn:idx b (n:Int)=some b[n]:=by rw[bz];exact Qv hlt
  have hd:decide ((0:Int)<=(n:Int))=true:=Qg (by omega)
  have hs:dz .i64 (n:Int) 1=(n:Int) - 1:=tf (by omega) (by omega)
  rw[show((n+1:Nat):Int) - 1=(n:Int)by omega,List.take_succ_eq_append_getElem hlt,List.reverse_append,List.reverse_singleton,List.singleton_append,List.find?_cons]
  cases hyn:y v b[n] b[n]with
  |false=>
   rw[bl (s':=((n:Int) - 1,())) (by simp only[hd,hxn,hs,hy,hyn,Qk,Qa,Qp])]
   exact ih (by omega)
  |true=>
   have hb:b=b.take n++b[n]::b.drop (n+1):=by rw[<-QM hlt,List.take_append_drop]
   have hp:(b.take n++b[n]::b.drop (n+1)).Pairwise (·<·):=hb▸h2;rw[List.pairwise_append,Q4]at hp;obtain⟨p1,⟨p2,p3⟩,p4⟩:=hp;refine bU ?_;simp only[hd,hxn,hs,hy,hyn,Qk,Ql,Qa,Qo];refine(uX b (by omega) (fun lo i=>(lo,i,())) (fun lo z=>if y v z b[n]then .inl z else .inr (.inr (lo,b[n],true,()))) (fun lo=>some (.inr (lo,b[n],true,()))) (fun i z a hi' hd' hs'=> ?_) (fun a hd'=> ?_) n (by omega) b[n]).trans ?_
   ·simp only[hi',hd',hs',Qk,Qa];cases y v z b[n]<;>simp
   ·simp only[hd',Ql,Qe]
   ·rw[I2 (fun z=>y v z b[n]) (fun lo=>Sum.inr (lo,b[n],true,())) _ _ (fun z hz=>p4 z (List.mem_reverse.1 hz) _ (Qx ..)) (List.pairwise_reverse.2 p1)]
    have:cm (fun z=>y v z b[n]) b.reverse b[n]=cm (fun z=>y v z b[n]) (b.take n).reverse b[n]:=by
     have hr:b.reverse=((b.drop (n+1)).reverse++[b[n]])++(b.take n).reverse:=by
      rw[<-List.reverse_cons,<-List.reverse_append,<-hb]
     rw[hr];refine GU _ _ _ _ fun z hz=> ?_
     rw[Qz,List.mem_reverse,List.mem_singleton]at hz;rcases hz with hz|rfl
     ·exact Int.le_of_lt (p2 z hz)
     ·exact Int.le_refl _
    rw[this]
end
end
end Go.Proofs.YtkgenianmdfmdaaGreat
namespace Go.Proofs.YtkgenianmdfmdaaGreat
open Go.TQ
section
variable {ax : Nat} (hn : ax < 10) {t : an} (ht : dD t) {l : List ai} (hl : oy l) (hlen : l.length <= 1000)
 include hn ht hl hlen
theorem Z5(b:ae):nC ax t l b=some (jt ax t l b):=by
 have hin:=kF l;have hsm:=lh (ax:=ax) ht hl;simp only[nC,an.eta,L6 hl.aO hlen,yH hn hl,Qa,Bf hsm hn (kP hin) (kP hin)];rfl
theorem Yv(b:ae):mB ax t l b=some (iO ax t l b):=by
 have hin:=kF l;have hsm:=lh (ax:=ax) ht hl;simp only[mB,an.eta,L6 hl.aO hlen,yH hn hl,Qa,zL hsm hn (kP hin)];rfl
theorem Z9(b:ae):fS ⟨ax,⟨fj ax t l⟩,(bK l).map br.mk⟩ b=some (jt ax t l b):=by
 have hin:=kF l;have hsm:=lh (ax:=ax) ht hl;rw[Iz hl.len,Db hsm hn (kP hin) (kP hin)];rfl
theorem YH(b:ae):eo ⟨ax,⟨fj ax t l⟩,(bK l).map br.mk⟩ b=some (iO ax t l b):=by
 have hin:=kF l;have hsm:=lh (ax:=ax) ht hl;rw[Ha hl.len,BA hsm hn (kP hin)];rfl
 def gU(ax:Nat)(t:an)(l:List ai)(p q:ae)(v:ByteArray):ae:=((dP l).find? (tl (jt ax t l) p q v)).getD vD
 def tr(ax:Nat)(t:an)(l:List ai)(a:ae):ae:=((dP l).find? (tq (iO ax t l) a)).getD vD
theorem Yq(p q:ae)(v:ByteArray):oA ax t l p q v=some (gU ax t l p q v):=Wh hl hlen (Z5 hn ht hl hlen) p q v
theorem Yr(a:ae):kY ax t l a=some (tr ax t l a):=Wi hl hlen (Yv hn ht hl hlen) a
theorem YE(p q:ae)(v:ByteArray):mf ax t l p q v=some (gU ax t l p q v):=YN hl hlen (LN hn ht hl) (Z9 hn ht hl hlen) p q v
theorem YF(a:ae):jM ax t l a=some (tr ax t l a):=YZ hl hlen (LN hn ht hl) (YH hn ht hl hlen) a
end
end Go.Proofs.YtkgenianmdfmdaaGreat
namespace Go.Proofs.YtkgenianmdfmdaaGreat
open Go.TQ
theorem Sr{bytes n:Nat}(h:bytes<=200)(hn:n<=1000000):bx bytes n=true:=
 b0 ⟨QK (Nat.mul_le_mul hn h) (by decide),hn⟩
theorem xO{α ρ:Type}(l:List α)(hl:l.length<=1000000)(p:α->Bool){step:Int×Unit->Option ((Int×Unit)⊕ρ)}{fin:Option ρ}{f:Nat->α->Option ρ}
  (h1:∀(i:Nat) (x:α),i<l.length->l[i]?=some x->decide ((i:Int)<((l.length:Nat):Int))=true->idx l (i:Int)=some x->aB .i64 (i:Int) 1=((i+1:Nat):Int)->step ((i:Int),())=bif p x then Option.map Sum.inr (f i x)else some (.inl (((i+1:Nat):Int),())))
  (h2:(∀x∈l,p x=false)->decide (((l.length:Nat):Int)<((l.length:Nat):Int))=false->step (((l.length:Nat):Int),())=Option.map Sum.inr fin):
  aE step ((0:Int),())=match l.findIdx? p with|some i=>(l[i]?).bind (f i)|none=>fin:=by
 suffices key:∀(k i:Nat),i+k=l.length->(∀x∈l.take i,p x=false)->aE step ((i:Int),())=match(l.drop i).findIdx? p with|some j=>(l[i+j]?).bind (f (i+j))|none=>fin by
  have:=key l.length 0 (by omega) (by simp)
  rw[List.drop_zero]at this;simp only[Nat.zero_add]at this;exact this
 intro k
 induction k with
 |zero=>
  intro i hi hpre;obtain rfl:i=l.length:=by omega
  rw[List.take_length]at hpre;rw[ik,h2 hpre (Qh (Int.lt_irrefl _)),List.drop_length];cases fin<;>rfl
 |succ k ih=>
  intro i hi hpre;have hlt:i<l.length:=by omega
  have hx:l[i]?=some l[i]:=Qv hlt;have hs:=h1 i l[i] hlt hx (Qg (by omega)) (by rw[bz];exact hx) (bH (by omega) (by omega))
  rw[QM hlt,List.findIdx?_cons]
  cases hp:p l[i]with
  |true=>
   rw[hp]at hs;rw[ik,hs];simp only[Qk,Qt,Nat.add_zero,hx,Qa];cases f i l[i]<;>rfl
  |false=>
   rw[hp]at hs
   rw[bl hs,ih (i+1) (by omega) (fun x hx=>by
    rw[List.take_succ_eq_append_getElem hlt,Qz,List.mem_singleton]at hx;rcases hx with hx|rfl
    ·exact hpre x hx
    ·exact hp)]
   simp only[Qq,Qu]
   cases (l.drop (i+1)).findIdx? p with
   |none=>rfl
   |some j=>
    simp only[Qe];rw[show i+1+j=i+(j+1)by omega]
def Ab(l:List ai)(e:ai):Nat:=(l.findIdx? fun x=>decide (e.ar<x.ar)).getD l.length
 def mj(l:List ai)(e:ai):List ai×Bool×Unit:=
 if aL e then
  match l.findIdx? fun x=>decide (x.ar=e.ar)with
  |some i=>if e.aF<=((l[i]?).getD e).aF then(l,false,())else(l.set i e,true,())
  |none=>(l.take (Ab l e)++[e]++l.drop (Ab l e),true,())
 else(l,false,())
theorem abK(l:List ai)(e:ai):Ab l e<=l.length:=by
 unfold Ab
 cases h:l.findIdx? fun x=>decide (e.ar<x.ar)with
 |none=>exact QI _
 |some i=>exact Nat.le_of_lt ((List.findIdx?_eq_some_iff_getElem.1 h).1)
section
variable {l : List ai} (hl : ∀ x ∈ l, dD x.aa) (hlen : l.length <= 1000)
 include hlen
theorem V4(e:ai):dh l e=some (match l.findIdx? fun x=>decide (x.ar=e.ar)with|some i=>(i:Int)|none=> -1):=by
 unfold dh;refine(xO l (by omega) (fun x=>decide (x.ar=e.ar)) (f:=fun i _=>some (i:Int)) (fin:=some (-1)) (fun i x hi hx0 hd hx hw=> ?_) (fun hall hd=> ?_)).trans ?_
 ·simp only[hd,hx,hw,Qk,Qa,sI]
 ·simp only[hd,Ql]
 ·cases h:l.findIdx? fun x=>decide (x.ar=e.ar)with
  |none=>rfl
  |some i=>have:=(List.findIdx?_eq_some_iff_getElem.1 h).1;simp[Qv this]
theorem Xu(e:ai):dg l e=some (match l.findIdx? fun x=>decide (e.ar<x.ar)with|some i=>(i:Int)|none=> -1):=by
 unfold dg;refine(xO l (by omega) (fun x=>decide (e.ar<x.ar)) (f:=fun i _=>some (i:Int)) (fin:=some (-1)) (fun i x hi hx0 hd hx hw=> ?_) (fun hall hd=> ?_)).trans ?_
 ·simp only[hd,hx,hw,Qk,Qa,sH]
 ·simp only[hd,Ql]
 ·cases h:l.findIdx? fun x=>decide (e.ar<x.ar)with
  |none=>rfl
  |some i=>have:=(List.findIdx?_eq_some_iff_getElem.1 h).1;simp[Qv this]
 include hl
theorem V1:fg l=some l:=by
 unfold fg
 suffices key:∀(k i:Nat),i+k=l.length->aE _ ((i:Int),l.take i,())=some l from key l.length 0 (by omega)
 intro k
 induction k with
 |zero=>
  intro i hi;obtain rfl:i=l.length:=by omega
  have hd:decide (((l.length:Nat):Int)<((l.length:Nat):Int))=false:=Qh (Int.lt_irrefl _);exact bU (by simp only[hd,Ql,Qe,List.take_length])
 |succ k ih=>
  intro i hi;have hlt:i<l.length:=by omega
  have hd:decide ((i:Int)<((l.length:Nat):Int))=true:=Qg (by omega)
  have hw:aB .i64 (i:Int) 1=((i+1:Nat):Int):=bH (by omega) (by omega)
  have hx:idx l (i:Int)=some l[i]:=by rw[bz];exact Qv hlt
  have hc:iy l[i]=some l[i]:=by simp only[iy,an.eta,uB (hl _ (Q0 hlt)),Qa]
  refine(bl ?_).trans (ih (i+1) (by omega))
  simp only[hd,hx,hw,Qk,Qa,an.eta,ai.eta,hc];rw[Sr (by omega) (by simp;omega),List.take_succ_eq_append_getElem hlt]
  rfl
theorem aaO{e:ai}(he:dD e.aa):qp l e=some (mj l e):=by
 have hc:iy e=some e:=by simp only[iy,an.eta,uB he,Qa]
 have hat:=abK l e;unfold qp;simp only[V1 hl hlen,an.eta,ai.eta,nQ he,hc,V4 hlen,Xu hlen,Qa,aU];unfold mj
 cases aL e with
 |false=>rfl
 |true=>
  simp only[Qo,Ql,Qt]
  cases h:l.findIdx? fun x=>decide (x.ar=e.ar)with
  |some i=>
   have hi:=(List.findIdx?_eq_some_iff_getElem.1 h).1;have hd:decide ((0:Int)<=(i:Int))=true:=Qg (by omega)
   have hx:idx l (i:Int)=some l[i]:=by rw[bz];exact Qv hi
   simp only[hd,hx,Qk,Qa,QV,Qv hi,Q3]
   by_cases hs:e.aF<=l[i].aF<;>simp[hs]
  |none=>
   have hd:decide ((0:Int)<= -1)=false:=rfl;simp only[hd,Ql]
   have hins:∀a:Nat,a<=l.length->dS l (a:Int) [e]=some (l.take a++[e]++l.drop a):=fun a ha=>by
    unfold dS Pk;have h1:decide ((0:Int)<=(a:Int))=true:=Qg (by omega)
    have h2:decide ((a:Int)<=((l.length:Nat):Int))=true:=Qg (by omega)
    rw[h1,h2,Sr (by omega) (by simp;omega)]
    rfl
   unfold Ab at hat ⊢
   cases h':l.findIdx? fun x=>decide (e.ar<x.ar)with
   |none=>
    have hd2:decide ((-1:Int)<0)=true:=rfl;simp only[hd2,Qk,hins _ (QI _),Qa,Option.getD_none]
   |some j=>
    have hj:=(List.findIdx?_eq_some_iff_getElem.1 h').1;have hd2:decide ((j:Int)<0)=false:=Qh (by omega)
    simp only[hd2,Ql,hins _ (Nat.le_of_lt hj),Qa,Q3]
end
end Go.Proofs.YtkgenianmdfmdaaGreat
namespace Go.Proofs.YtkgenianmdfmdaaGreat
open Go.TQ
section
variable {l : List ai} (hlen : l.length <= 1000)
 include hlen
theorem Ej(e:ai){a b:Nat}(ha:a<=b)(hb:b<=l.length):cp (0:Int) (a:Int) l.length=true/\bx 176 (List.length ((l.take (Int.toNat (a:Int))).drop (Int.toNat (0:Int))))=true/\
  bx 176 (List.length ((l.take (Int.toNat (a:Int))).drop (Int.toNat (0:Int)))+List.length [e])=true/\cp (b:Int) (l.length:Int) l.length=true/\
  bx 176 (List.length (((l.take (Int.toNat (a:Int))).drop (Int.toNat (0:Int)))++[e])+List.length ((l.take (Int.toNat (l.length:Int))).drop (Int.toNat (b:Int))))=true/\
  (((l.take (Int.toNat (a:Int))).drop (Int.toNat (0:Int)))++[e])++((l.take (Int.toNat (l.length:Int))).drop (Int.toNat (b:Int)))=l.take a++[e]++l.drop b:=by
 refine⟨by simp[cp];omega,gM (by omega) (by simp;omega),gM (by omega) (by simp;omega),by simp[cp];omega,gM (by omega) (by simp;omega),?_⟩
 simp only[QV,Int.toNat_zero,List.drop_zero,List.take_length]
end
theorem Da{α:Type}{p q:α->Bool}:∀{l:List α},(∀x∈l,p x=q x)->l.findIdx? p=l.findIdx? q
 |[],_=>rfl
 |x::l,h=>by rw[List.findIdx?_cons,List.findIdx?_cons,h x (by simp),Da fun y hy=>h y (by simp[hy])]
theorem Yp{l:List ai}(hl:∀x∈l,dD x.aa)(hlen:l.length<=1000){e:ai}(he:dD e.aa):wN l e=some (mj l e):=by
 unfold wN;simp only[an.eta,ai.eta,gm he,Qa,aU];unfold mj
 cases aL e with
 |false=>rfl
 |true=>
  simp only[Qo,Ql,Qt];refine(xO l (by omega) (fun x=>decide (x.ar=e.ar)) (f:=fun i x=>if e.aF<=x.aF then some (l,false,())else some (l.take i++[e]++l.drop (i+1),true,())) (fin:=some (l.take (Ab l e)++[e]++l.drop (Ab l e),true,())) (fun i x hi hx0 hd hx hw=> ?_) (fun hall hd=> ?_)).trans ?_
  ·simp only[hd,hx,hw,Qk,Qa]
   cases decide (x.ar=e.ar)with
   |false=>rfl
   |true=>
    simp only[Qk];obtain⟨f1,f2,f3,f4,f5,f6⟩:=Ej hlen e (show i<=i+1 by omega) (show i+1<=l.length by omega)
    simp only[f1,f2,f3,f4,f5,f6,Qk]
    by_cases hs:e.aF<=x.aF<;>simp[hs]
  ·simp only[hd,Ql];refine congrArg (Option.map Sum.inr) ?_
   have hcg:(l.findIdx? fun x=> !decide (x.ar<e.ar))=l.findIdx? fun x=>decide (e.ar<x.ar):=Da fun x hx=>by
    have:=hall x hx;have hne:x.ar≠e.ar:=of_decide_eq_false this
    by_cases h:x.ar<e.ar
    ·have h':¬e.ar<x.ar:=by omega
     simp[h,h']
    ·have h':e.ar<x.ar:=by omega
     simp[h,h']
   refine(xO l (by omega) (fun x=> !decide (x.ar<e.ar)) (f:=fun i x=>some (l.take i++[e]++l.drop i,true,())) (fin:=some (l.take l.length++[e]++l.drop l.length,true,())) (fun i x hi hx0 hd hx hw=> ?_) (fun _ hd=> ?_)).trans ?_
   ·simp only[hd,hx,hw,Qk,Qa]
    cases decide (x.ar<e.ar)with
    |true=>rfl
    |false=>
     simp only[Ql,Qp,Qk];obtain⟨f1,f2,f3,f4,f5,f6⟩:=Ej hlen e (QI i) (show i<=l.length by omega)
     simp only[f1,f2,f3,f4,f5,f6,Qk]
   ·simp only[hd,Ql];obtain⟨f1,f2,f3,f4,f5,f6⟩:=Ej hlen e (QI l.length) (QI _);simp only[f1,f2,f3,f4,f5,f6,Qk]
   ·rw[hcg];unfold Ab
    cases h:l.findIdx? fun x=>decide (e.ar<x.ar)with
    |none=>rfl
    |some i=>
     have hi:=(List.findIdx?_eq_some_iff_getElem.1 h).1;simp only[Qv hi,Qa,Q3]
  ·cases h:l.findIdx? fun x=>decide (x.ar=e.ar)with
   |none=>rfl
   |some i=>
    have hi:=(List.findIdx?_eq_some_iff_getElem.1 h).1;simp only[Qv hi,Qa,Q3]
    by_cases hs:e.aF<=l[i].aF
    ·simp[hs]
    ·simp only[hs,Qu];rw[List.set_eq_take_append_cons_drop,Qr hi];simp
end Go.Proofs.YtkgenianmdfmdaaGreat
namespace Go.Proofs.YtkgenianmdfmdaaGreat
open Go.TQ
structure rA (m:af):Prop where
 n0:0<=m.ar
 n1:m.ar<10
 aO:dD m.aa
 len:m.az.length<=100
 sm:∀e∈m.az,dD e.aa
 valid:∀e∈m.az,aL e=true
theorem wv{m:af}{e:ai}(h:e∈aQ m):e∈m.az\/(aA m.ab=false/\e=gK m):=by
 unfold aQ at h;split at h
 ·exact .inl h
 ·rename_i hz;rw[(zW _ _).mem_iff,Qz,List.mem_singleton]at h;rcases h with h|h
  ·exact .inl h
  ·exact .inr ⟨by simpa using hz,h⟩
theorem Xs(m:af):(aQ m).length<=m.az.length+1:=by
 unfold aQ;split
 ·omega
 ·rw[(zW _ _).length_eq,QB,List.length_singleton];omega
theorem Cj(m:af):(gK m).aa=m.aa:=ku m
theorem rA.jX{m:af}(h:rA m):oy (aQ m)/\(aQ m).length<=1000:=by
 have h1:=Xs m;have h2:=h.len;refine⟨⟨by omega,fun e he=> ?_⟩,by omega⟩
 rcases wv he with he|⟨_,rfl⟩
 ·exact h.sm e he
 ·rw[Cj];exact h.aO
theorem rA.ax{m:af}(h:rA m):((m.ar.toNat:Nat):Int)=m.ar/\m.ar.toNat<10:=by
 have:=h.n0;have:=h.n1;omega
def c9(b:ae):ae:=if 1000<b.aj then⟨1000,b.Value⟩else b
theorem abJ(b:ae):oz b=some (c9 b):=WW b
def cu(p q b:ae):ae×ae:=
 if aA b=true then(p,q)else if aA p=true then(b,q)else if bd p b=true then(if bC p b=true then(b,if bC q b=true then bM else q)else(b,p))
 else if(bd b p&& !bC b p&&(aA q||bd q b))=true then(p,b)else(p,q)
theorem GW(a b:ae):bC a b=bC b a:=decide_eq_decide.2 ⟨Eq.symm,Eq.symm⟩
theorem aah(p q b:ae):vo p q b=some ((cu p q b).1,(cu p q b).2,()):=by
 unfold vo cu;simp only[di,iG,fu,Qa,aU];cases aA b<;>cases aA p<;>cases bd p b<;>cases bC p b<;>cases bC q b<;>cases bd b p<;>cases bC b p<;>cases aA q<;>cases bd q b<;>rfl
theorem Yy(p q b:ae):sf p q b=some ((cu p q b).1,(cu p q b).2,()):=by
 unfold sf cu;simp only[cx,iA,eL,Qa,aU,GW b p,GW b q];cases aA b<;>cases aA p<;>cases bd p b<;>cases bC p b<;>cases bC q b<;>cases bd b p<;>cases aA q<;>cases bd q b<;>rfl
def zG(m:af):ByteArray:=if m.aH=2 then m.ab.Value else fb
 def dJ(m:af):ae:=gU m.ar.toNat m.aa (aQ m) m.ao m.aw (zG m)
def oi(m:af)(p q:ae):Int:=
 if m.aH=1/\m.aI≠0 then(if er m<jr m.ab.Value m.aI p q then 0 else jr m.ab.Value m.aI p q)else m.aI
 def cy(m:af):af:=
 if m.aH=3\/aA m.ab=true then m else
  {m with ao:=(cu m.ao m.aw (c9 (dJ m))).1,aw:=(cu m.ao m.aw (c9 (dJ m))).2,aI:=oi m (cu m.ao m.aw (c9 (dJ m))).1 (cu m.ao m.aw (c9 (dJ m))).2}
theorem Z1{m:af}(h:rA m)(p q:ae)(v:ByteArray):oA m.ar m.aa (aQ m) p q v=some (gU m.ar.toNat m.aa (aQ m) p q v):=by
 have:=Yq h.ax.2 h.aO h.jX.1 h.jX.2 p q v
 rwa [h.ax.1]at this
theorem Z2{m:af}(h:rA m)(a:ae):kY m.ar m.aa (aQ m) a=some (tr m.ar.toNat m.aa (aQ m) a):=by
 have:=Yr h.ax.2 h.aO h.jX.1 h.jX.2 a
 rwa [h.ax.1]at this
theorem TF{m:af}(h:rA m):pn m=some (cy m):=by
 have hl:m.az.length<=1000:=by have:=h.len;omega
 unfold pn cy;simp only[af.eta,an.eta,di,Ks hl,Z1 h,abJ,aah,xY,O2,Qa,aU]
 by_cases h3:m.aH=3
 ·rw[Qg h3,Qr (.inl h3)];rfl
 ·rw[Qh h3]
  cases hz:aA m.ab with
  |true=>rw[Qr (.inr rfl)];rfl
  |false=>
   rw[Qs (by simp[h3])]
   simp only[Ql,Qa]
   by_cases h2:m.aH=2
   ·have h1:¬m.aH=1:=by omega
    simp only[Qg h2,Qh h1,Qk,Ql,Qa,oi,zG,dJ,Qr h2,h1,false_and,Qu];rfl
   ·simp only[Qh h2,Ql];have hv:ByteArray.mk #[]=zG m:=by simp only[zG,Qs h2];rfl
    rw[hv];have hn:gU m.ar.toNat m.aa (aQ m) m.ao m.aw (zG m)=dJ m:=rfl;simp only[hn]
    by_cases h1:m.aH=1
    ·have hh:∀p q:ae,(bO {m with ao:=p,aw:=q}).aR=er m:=fun p q=>by unfold bO;rw[Qr (show({m with ao:=p,aw:=q}:af).aH=1 from h1)];rfl
     simp only[Qg h1,Qk,Qa]
     by_cases hL:m.aI=0
     ·rw[Qg hL];unfold oi;rw[Qs (fun h=>h.2 hL)]
      rfl
     ·rw[Qh hL];unfold oi;rw[Qr ⟨h1,hL⟩];simp only[Qp,Qk];rw[show(bO (af.mk m.ar m.bp m.aF m.aa m.aH m.ab (cu m.ao m.aw (c9 (dJ m))).1 (cu m.ao m.aw (c9 (dJ m))).2 m.au m.aI m.aR m.aX m.az)).aR=er m from hh _ _]
      by_cases hlt:er m<jr m.ab.Value m.aI (cu m.ao m.aw (c9 (dJ m))).1 (cu m.ao m.aw (c9 (dJ m))).2
      ·rw[Qg hlt,Qr hlt];rfl
      ·rw[Qh hlt,Qs hlt];rfl
    ·rw[Qh h1];unfold oi;rw[Qs (fun h=>h1 h.1)]
     rfl
 def fh(m:af):ae:=tr m.ar.toNat m.aa (aQ m) m.au
def wZ(m:af)(b:ae):af:=
 if bd m.ab b=true then{m with au:=b,ab:=b,aI:=if bC m.ab b=true then m.aI else 0}else{m with au:=b}
def mI(m:af)(b:ae):af:=
 if m.aI=0/\bC m.ab b=true/\jr b.Value m.ab.aj m.ao m.aw<=b.aj then{m with aI:=jr b.Value m.ab.aj m.ao m.aw}else m
 def fX(m:af):af:=
 if m.aH≠1\/aA m.ab=true\/aA (fh m)=true then m else mI (wZ m (fh m)) (fh m)
theorem KG(m:af)(b:ae){α:Type}(j:af->Option α):
  ((bif decide (m.aI=(0:Int))then some (bC m.ab b)else some false).bind fun x=>bif x then(bif decide (jr b.Value m.ab.aj m.ao m.aw<=b.aj)then j {m with aI:=jr b.Value m.ab.aj m.ao m.aw}else j m)else j m)=j (mI m b):=by
 unfold mI
 by_cases hL:m.aI=0
 ·rw[Qg hL]
  cases hc:bC m.ab b with
  |true=>
   by_cases hle:jr b.Value m.ab.aj m.ao m.aw<=b.aj
   ·rw[Qr ⟨hL,rfl,hle⟩,Qg hle];rfl
   ·rw[Qs (fun h=>hle h.2.2),Qh hle];rfl
  |false=>
   rw[Qs (fun h=>by cases h.2.1)];rfl
 ·rw[Qh hL,Qs (fun h=>hL h.1)];rfl
theorem RT{m:af}(h:rA m):n2 m=some (fX m):=by
 have hl:m.az.length<=1000:=by have:=h.len;omega
 unfold n2 fX;simp only[af.eta,an.eta,di,Ks hl,Z2 h,O2,Qa,aU,fu,iG];have hb:tr m.ar.toNat m.aa (aQ m) m.au=fh m:=rfl;simp only[hb]
 by_cases h1:m.aH=1
 ·rw[Qg h1]
  cases hz:aA m.ab with
  |true=>rw[Qr (.inr (.inl rfl))];rfl
  |false=>
   cases hzb:aA (fh m)with
   |true=>rw[Qr (.inr (.inr rfl))];rfl
   |false=>
    rw[Qs (by simp[h1])]
    simp only[Qo,Ql,Qa];unfold wZ
    cases hlt:bd m.ab (fh m)with
    |true=>
     cases hcp:bC m.ab (fh m)with
     |true=>simp only[Qk,Qo,Ql,Qt];exact KG {m with au:=fh m,ab:=fh m} (fh m) some
     |false=>simp only[Qk,Qp,Qt,Qq,Qu];exact KG {m with au:=fh m,ab:=fh m,aI:=0} (fh m) some
    |false=>simp only[Ql,Qq,Qu];exact KG {m with au:=fh m} (fh m) some
 ·rw[Qh h1,Qr (.inl h1)];rfl
section
variable {ax : Nat} (hn : ax < 10) {t : an} (ht : dD t) {l : List ai} (hl : oy l) (hlen : l.length <= 1000)
 include hn ht hl hlen
theorem Sa(v:ByteArray)(lo hi:Int):iF ax t l v lo hi=some (jO ax t l v lo hi):=by
 have hin:=kF l;have hsm:=lh (ax:=ax) ht hl;simp only[iF,an.eta,L0 hl.aO hlen,yH hn hl,Qa,Bf hsm hn (kP hin) (kP hin)];rfl
theorem Wv(v:ByteArray)(lo hi:Int):kf ax t l v lo hi=some (pc ax t l v lo hi):=by
 have hin:=kF l;have hsm:=lh (ax:=ax) ht hl;simp only[kf,an.eta,L0 hl.aO hlen,yH hn hl,Qa,zL hsm hn (kP hin)];rfl
theorem Ws(p q:ae):mZ ax t l p q=some (mr (jO ax t l) l p q (fD (jO ax t l) l p q)):=Ys hl hlen (Sa hn ht hl hlen) p q
theorem Z4(v:ByteArray)(low bI:Int):l9 ax t l v low bI=some ((AM (bb l v) (jO ax t l v) low bI).1,(AM (bb l v) (jO ax t l v) low bI).2,()):=Wt hl hlen (Sa hn ht hl hlen) v low bI
theorem Z3(v:ByteArray):na ax t l v=some (s8 (bb l v) (pc ax t l v)):=Yu hl hlen (Wv hn ht hl hlen) v
end
 def fq(m:af):ByteArray->Int->Int->Bool:=jO m.ar.toNat m.aa (aQ m)
 def BX(m:af):ByteArray->Int->Int->Bool:=pc m.ar.toNat m.aa (aQ m)
 def ez(m:af):ByteArray×Int×Int×Bool×Unit:=mr (fq m) (aQ m) m.ao m.aw (fD (fq m) (aQ m) m.ao m.aw)
 def dG(m:af):Int×Int:=AM (bb (aQ m) m.ab.Value) (fq m m.ab.Value) m.aI m.aR
 def kH(m:af):Int×Int×Bool×Unit:=s8 (bb (aQ m) m.ab.Value) (BX m m.ab.Value)
theorem Yt{m:af}(h:rA m):mZ m.ar m.aa (aQ m) m.ao m.aw=some (ez m):=by
 have:=Ws h.ax.2 h.aO h.jX.1 h.jX.2 m.ao m.aw
 rwa [h.ax.1]at this
theorem abd{m:af}(h:rA m):l9 m.ar m.aa (aQ m) m.ab.Value m.aI m.aR=some ((dG m).1,(dG m).2,()):=by
 have:=Z4 h.ax.2 h.aO h.jX.1 h.jX.2 m.ab.Value m.aI m.aR
 rwa [h.ax.1]at this
theorem abc{m:af}(h:rA m):na m.ar m.aa (aQ m) m.ab.Value=some (kH m):=by
 have:=Z3 h.ax.2 h.aO h.jX.1 h.jX.2 m.ab.Value
 rwa [h.ax.1]at this
def EY(m:af)(v:ByteArray)(lo hi:Int):af:=
 {m with ab:=if(!bC m.ab ⟨hi,v⟩||bd m.ab ⟨hi,v⟩)=true then⟨bo m.ab.aj hi,v⟩else m.ab,ao:=if hZ m.ao ⟨hi,v⟩=true then m.ao else⟨hi,v⟩,aH:=2,aI:=lo,aR:=hi,au:=⟨hi,v⟩,aw:=bM}
def vJ(m:af)(lo hi:Int):af:=
 {m with ab:=⟨bo m.ab.aj hi,m.ab.Value⟩,ao:=⟨bo m.ao.aj hi,m.ao.Value⟩,au:=⟨bo m.au.aj hi,m.ab.Value⟩,aI:=lo,aR:=hi}
 def fl(m:af):af:=
 if m.aH=1 then(if(ez m).2.2.2.1=true then EY m (ez m).1 (ez m).2.1 (ez m).2.2.1 else m)
 else if m.aH=2 then vJ m (dG m).1 (dG m).2 else m
theorem RU{m:af}(h:rA m):n3 m=some (fl m):=by
 have hl:m.az.length<=1000:=by have:=h.len;omega
 unfold n3 fl;simp only[af.eta,an.eta,di,Ks hl,Yt h,abd h,Qa,aU,fu,iG,xC]
 by_cases h1:m.aH=1
 ·rw[Qg h1,Qr h1]
  cases hk:(ez m).2.2.2.1 with
  |false=>simp only[Qk,Qp,Qq,Qu]
  |true=>
   simp only[Qk,Qo,Ql,Qt];unfold EY;cases bC m.ab ⟨(ez m).2.2.1,(ez m).1⟩<;>cases bd m.ab ⟨(ez m).2.2.1,(ez m).1⟩<;>cases hZ m.ao ⟨(ez m).2.2.1,(ez m).1⟩<;>rfl
 ·rw[Qh h1,Qs h1]
  by_cases h2:m.aH=2
  ·rw[Qg h2,Qr h2];rfl
  ·rw[Qh h2,Qs h2];rfl
def FD(m:af)(lo hi:Int):af:={m with aH:=3,aI:=lo,aR:=hi,ab:=⟨hi,m.ab.Value⟩,ao:=bM,aw:=bM,au:=bM}
 def iW(m:af):af:=if m.aH=2/\(kH m).2.2.1=true then FD m (kH m).1 (kH m).2.1 else m
theorem Zf{m:af}(h:rA m):tB m=some (iW m):=by
 have hl:m.az.length<=1000:=by have:=h.len;omega
 unfold tB iW;simp only[af.eta,an.eta,Ks hl,abc h,Qa]
 by_cases h2:m.aH=2
 ·rw[Qg h2]
  cases hk:(kH m).2.2.1 with
  |false=>rw[Qs (fun h=>by cases h.2)];rfl
  |true=>rw[Qr ⟨h2,rfl⟩];rfl
 ·rw[Qh h2,Qs (fun h=>h2 h.1)];rfl
end Go.Proofs.YtkgenianmdfmdaaGreat
namespace Go.Proofs.YtkgenianmdfmdaaGreat
open Go.TQ
theorem z7{α β ρ:Type}(l:List α)(hl:l.length<=1000)(f:α->β){step:Int×List β×Unit->Option ((Int×List β×Unit)⊕ρ)}{fin:List β->Option ρ}
  (h1:∀(i:Nat) (e:α) (s:List β),s.length<=1000->e∈l->decide ((i:Int)<((l.length:Nat):Int))=true->idx l (i:Int)=some e->aB .i64 (i:Int) 1=((i+1:Nat):Int)->step ((i:Int),s,())=some (.inl (((i+1:Nat):Int),s++[f e],())))
  (h2:∀s,decide (((l.length:Nat):Int)<((l.length:Nat):Int))=false->step (((l.length:Nat):Int),s,())=Option.map Sum.inr (fin s)):aE step ((0:Int),[],())=fin (l.map f):=by
 suffices key:∀(k i:Nat) (s:List β),i+k=l.length->s.length=i->aE step ((i:Int),s,())=fin (s++(l.drop i).map f)by
  have:=key l.length 0 [] (by omega) rfl
  simpa using this
 intro k
 induction k with
 |zero=>
  intro i s hi hs;obtain rfl:i=l.length:=by omega
  have hd:decide (((l.length:Nat):Int)<((l.length:Nat):Int))=false:=Qh (Int.lt_irrefl _);have h:=h2 s hd;rw[List.drop_length,QO,List.append_nil]
  cases hf:fin s with
  |none=>rw[hf]at h;exact JA h
  |some r=>rw[hf]at h;exact bU h
 |succ k ih=>
  intro i s hi hs;have hlt:i<l.length:=by omega
  rw[bl (h1 i l[i] s (by omega) (Q0 hlt) (Qg (by omega)) (by rw[bz];exact Qv hlt) (bH (by omega) (by omega))),ih (i+1) (s++[f l[i]]) (by omega) (by simp;omega),
   QM hlt,QD,QL]
  rfl
theorem Vt{α β ρ:Type}(l:List α)(hl:l.length<=1000)(f:α->β){step:Int×List β×Unit->Option ((Int×List β×Unit)⊕ρ)}{fin:List β->Option ρ}
  (h1:∀(i:Nat) (e:α) (s:List β),s.length=l.length->e∈l->i<l.length->decide ((i:Int)<((l.length:Nat):Int))=true->idx l (i:Int)=some e->aB .i64 (i:Int) 1=((i+1:Nat):Int)->step ((i:Int),s,())=some (.inl (((i+1:Nat):Int),s.set i (f e),())))
  (h2:∀s,decide (((l.length:Nat):Int)<((l.length:Nat):Int))=false->step (((l.length:Nat):Int),s,())=Option.map Sum.inr (fin s)) {s0:List β} (hs0:s0.length=l.length):aE step ((0:Int),s0,())=fin (l.map f):=by
 suffices key:∀(k i:Nat) (s:List β),i+k=l.length->s.length=l.length->aE step ((i:Int),s,())=fin (s.take i++(l.drop i).map f)by
  have:=key l.length 0 s0 (by omega) hs0
  simpa using this
 intro k
 induction k with
 |zero=>
  intro i s hi hs;obtain rfl:i=l.length:=by omega
  have hd:decide (((l.length:Nat):Int)<((l.length:Nat):Int))=false:=Qh (Int.lt_irrefl _);have h:=h2 s hd;rw[List.drop_length,QO,List.append_nil,<-hs,List.take_length];rw[<-hs]at h
  cases hf:fin s with
  |none=>rw[hf]at h;exact JA h
  |some r=>rw[hf]at h;exact bU h
 |succ k ih=>
  intro i s hi hs;have hlt:i<l.length:=by omega
  rw[bl (h1 i l[i] s hs (Q0 hlt) hlt (Qg (by omega)) (by rw[bz];exact Qv hlt) (bH (by omega) (by omega))),ih (i+1) (s.set i (f l[i])) (by omega) (by simpa using hs),
   QM hlt,QD]
  congr 1;rw[List.take_add_one,List.take_set_of_le (QI i),List.getElem?_set_self (by omega)]
  simp
def EK(z:ae):List ae->ae
 |[]=>z
 |x::l=>l.foldl (fun a y=>if bd a y=true then y else a) x
theorem J4(l:List ae)(hl:l.length<=1000000)(z:ae){step:Int×ae×Unit->Option ((Int×ae×Unit)⊕ae)}
  (h1:∀(i:Nat) (x s:ae),decide ((i:Int)<((l.length:Nat):Int))=true->idx l (i:Int)=some x->aB .i64 (i:Int) 1=((i+1:Nat):Int)->step ((i:Int),s,())=some (.inl (((i+1:Nat):Int),(if i=0 then x else if bd s x=true then x else s),())))
  (h2:∀s,decide (((l.length:Nat):Int)<((l.length:Nat):Int))=false->step (((l.length:Nat):Int),s,())=some (.inr s)):aE step ((0:Int),z,())=some (EK z l):=by
 have hd:decide (((l.length:Nat):Int)<((l.length:Nat):Int))=false:=Qh (Int.lt_irrefl _)
 have key:∀(k i:Nat) (s:ae),i+k=l.length->1<=i->aE step ((i:Int),s,())=some ((l.drop i).foldl (fun a y=>if bd a y=true then y else a) s):=by
  intro k
  induction k with
  |zero=>
   intro i s hi h1i;obtain rfl:i=l.length:=by omega
   rw[List.drop_length];exact bU (h2 s hd)
  |succ k ih=>
   intro i s hi h1i;have hlt:i<l.length:=by omega
   rw[bl (h1 i l[i] s (Qg (by omega)) (by rw[bz];exact Qv hlt) (bH (by omega) (by omega))),ih (i+1) _ (by omega) (by omega),QM hlt,QU,Qs (by omega:¬i=0)]
 cases l with
 |nil=>exact bU (h2 z hd)
 |cons x l=>
  have hx:=h1 0 x z (Qg (by simp)) (by rw[bz];rfl) (bH (by omega) (by omega))
  rw[Qr rfl]at hx;exact(bl hx).trans (key l.length 1 x (by simp;omega) (by omega))
theorem Y2(l:List ae)(hl:l.length<=1000000):mC l=some (EK bM l):=by
 unfold mC;refine J4 l hl bM (fun i x s hd hx hw=> ?_) (fun s hd=> ?_)
 ·simp only[hd,hx,hw,Qk,aU,Qa,iG]
  by_cases hi:i=0
  ·subst hi;rfl
  ·have:decide ((i:Int)=0)=false:=Qh (by omega)
   rw[this,Qs hi];cases bd s x<;>rfl
 ·simp only[hd,Ql,Qe]
theorem Wz(l:List ae)(hl:l.length<=1000000):kN l=some (EK bM l):=by
 unfold kN;refine J4 l hl bM (fun i x s hd hx hw=> ?_) (fun s hd=> ?_)
 ·simp only[hd,hx,hw,Qk,aU,Qa,iA]
  by_cases hi:i=0
  ·subst hi;rfl
  ·have:decide ((i:Int)=0)=false:=Qh (by omega)
   rw[this,Qs hi];cases bd s x<;>rfl
 ·simp only[hd,Ql,Qe]
def da(m:af):ByteArray:=
 if aA m.au=false then m.au.Value else if m.aH≠1 then m.ab.Value else if m.aX≠fb then m.aX else(EK bM (m.az.map (·.ab))).Value
theorem KI{m:af}(h:rA m):lu m=some (da m):=by
 have hl:m.az.length<=1000:=by have:=h.len;omega
 unfold lu da;simp only[di,Qa]
 cases hz:aA m.au with
 |false=>rfl
 |true=>
  simp only[Qo,Ql,Bool.true_eq_false,Qu]
  by_cases h1:m.aH=1
  ·rw[Qg h1,Qs (fun h=>h h1)]
   simp only[Qo,Ql]
   by_cases hp:m.aX=fb
   ·have hp':decide (m.aX=ByteArray.mk #[])=true:=Qg hp;rw[hp',Qs (fun h=>h hp)]
    simp only[Qo,Ql]
    rw[z7 m.az hl (·.ab) (fin:=fun s=>Option.bind (mC s) fun r=>some r.Value) (fun i e s hs he hd hx hw=>by
     simp only[hd,hx,hw,Qk,Qa]
     rw[b0 (by simp;omega),Qk]) (fun s hd=>by simp only[hd,Ql]),Y2 _ (by simp;omega)]
    rfl
   ·have hp':decide (m.aX=ByteArray.mk #[])=false:=Qh hp;rw[hp',Qr hp];rfl
  ·rw[Qh h1,Qr h1];rfl
theorem OI{e:ai}(h:dD e.aa)(hv:aL e=true):nD e=some (dW e):=by
 simp only[nD,an.eta,ai.eta,gm h,Qa,hv,dW]
 by_cases h3:e.bs=3
 ·rw[Qg h3,Qr h3];rfl
 ·rw[Qh h3,Qs h3];rfl
theorem OT{e:ai}(h:dD e.aa)(hv:aL e=true):iK e=some (dW e):=by
 rw[Rl (R3 h)];have:fK (DB e.aa) e=true:=hv;rw[this,Qr rfl]
def zf(m:af)(n:Int):Nat:=c8 (fun e=>decide (n<dW e)) m.az
 def fW(m:af)(n:Int):Bool:=rX (fj m.ar.toNat m.aa (aQ m)) m.ar.toNat (zf m n)
theorem rA.Lv{m:af}(h:rA m):uD m.az:=fun e he=>iQ (h.valid e he)
theorem M7{m:af}(h:rA m)(n:Int):zf m n<1024:=kP h.Lv
theorem SY{m:af}(h:rA m)(n:Int):pI m n=some (fW m n):=by
 have hl:m.az.length<=1000:=by have:=h.len;omega
 unfold pI
 rw[z7 m.az hl (fun e=>decide (n<dW e)) (fin:=fun s=>Option.bind (ju m) fun r4=>Option.bind (jG m.ar m.aa r4) fun r5=>Option.bind (gf m.az s) fun r6=>Option.bind (me r5 m.ar r6) fun r7=>some r7)
  (fun i e s hs he hd hx hw=>by
   simp only[hd,hx,hw,Qk,Qa,an.eta,ai.eta,OI (h.sm e he) (h.valid e he)]
   rw[b0 (by simp;omega),Qk])
  (fun s hd=>by simp only[hd,Ql,af.eta,an.eta])]
 have hv:=yH h.ax.2 (t:=m.aa) h.jX.1;have hb:=Jb (lh (ax:=m.ar.toNat) h.aO h.jX.1) (v:=m.ar.toNat) (M7 h n);rw[h.ax.1]at hv hb;rw[Ks hl,Qa,hv,Qa,zg m.az hl _ (fun e he _=>h.Lv e he),Qa,show c8 (fun e=>decide (n<dW e)) m.az=zf m n from rfl,hb]
 rfl
 def kb(m:af)(E6:Int)(e:ai):Int:=
 if m.ab.aj<dW e/\dW e<E6/\fW m (dW e)=false then dW e else E6
 def fI(m:af):Int:=m.az.foldl (kb m) 1000000
 def ll(m:af):ByteArray:=if m.aH=1 then da m else m.ab.Value
 def eJ(m:af):af:=
 if m.aH=3\/fW m m.ab.aj=false then m
 else{m with aI:=if ll m=m.ab.Value then m.aI else 0,ab:=⟨bo m.ab.aj (de (fI m) 1000),ll m⟩}
open Classical in
theorem PU{m:af}(h:rA m){ρ:Type}{step:Int×Int×Unit->Option ((Int×Int×Unit)⊕ρ)}{fin:Int->Option ρ}
  (h1:∀(i:Nat) (e:ai) (s:Int),e∈m.az->decide ((i:Int)<((m.az.length:Nat):Int))=true->idx m.az (i:Int)=some e->aB .i64 (i:Int) 1=((i+1:Nat):Int)->step (s,(i:Int),())=some (.inl (kb m s e,((i+1:Nat):Int),())))
  (h2:∀s,decide (((m.az.length:Nat):Int)<((m.az.length:Nat):Int))=false->step (s,((m.az.length:Nat):Int),())=Option.map Sum.inr (fin s)):aE step ((1000000:Int),(0:Int),())=fin (fI m):=by
 have hl:=h.len
 have key:=gb m.az (by omega) (fun i s=>(s,i,())) (fun e s=>if e∈m.az then some (.inl (kb m s e))else none) fin (step:=step) (fun i x s hd hx hw=>by
  have hm:x∈m.az:=by rw[bz]at hx;exact List.mem_of_getElem? hx
  rw[h1 i x s hm hd hx hw,Qr hm]) (fun s hd=>h2 s hd) 1000000
 refine key.trans ?_;unfold fI
 suffices h3:∀(l:List ai),(∀e∈l,e∈m.az)->∀s,eG (fun e s=>if e∈m.az then some (Sum.inl (β:=ρ) (kb m s e))else none) fin l s=fin (l.foldl (kb m) s)from h3 _ (fun e he=>he) _
 intro l
 induction l with
 |nil=>intro _ s;rfl
 |cons x l ih=>
  intro hx s;rw[eG,Qr (hx x Qx),QU];exact ih (fun e he=>hx e (Qy _ he)) _
theorem Xk{m:af}(h:rA m):sd m=some (eJ m):=by
 unfold sd eJ;simp only[af.eta,an.eta,SY h,KI h,Qa]
 by_cases h3:m.aH=3
 ·rw[Qg h3,Qr (.inl h3)];rfl
 ·rw[Qh h3]
  cases ha:fW m m.ab.aj with
  |false=>rw[Qr (.inr rfl)];rfl
  |true=>
   rw[Qs (by simp[h3])]
   simp only[Ql,Qo];refine(PU h (fin:=fun c=>some {m with aI:=if ll m=m.ab.Value then m.aI else 0,ab:=⟨bo m.ab.aj (de c 1000),ll m⟩}) (fun i e s he hd hx hw=> ?_) (fun s hd=> ?_)).trans rfl
   ·simp only[hd,hx,hw,Qk,aU,Qa,an.eta,ai.eta,OI (h.sm e he) (h.valid e he),SY h];unfold kb
    by_cases c1:m.ab.aj<dW e
    ·by_cases c2:dW e<s
     ·rw[Qg c1,Qg c2]
      cases c3:fW m (dW e)with
      |true=>rw[Qs (by simp)];rfl
      |false=>rw[Qr ⟨c1,c2,rfl⟩];rfl
     ·rw[Qg c1,Qh c2,Qs (fun h=>c2 h.2.1)];rfl
    ·rw[Qh c1,Qs (fun h=>c1 h.1)];rfl
   ·simp only[hd,Ql,aU,Qa];unfold ll
    by_cases h1:m.aH=1
    ·rw[Qg h1,Qr h1]
     by_cases hv:da m=m.ab.Value
     ·simp only[Qk,Qg hv,Qo,Ql,Qr hv]
     ·simp only[Qk,Qh hv,Qp,Qs hv]
    ·rw[Qh h1,Qs h1];simp only[Ql,decide_true,Qo,Qt]
end Go.Proofs.YtkgenianmdfmdaaGreat
namespace Go.Proofs.YtkgenianmdfmdaaGreat
open Go.TQ
def cv(b:ae):Prop:=1<=b.aj/\b.aj<=1000/\1<=b.Value.size/\b.Value.size<=200
theorem cv.valid{b:ae}(h:cv b):cq b=true:=by
 obtain⟨h1,h2,h3,h4⟩:=h;simp only[cq,Qm,Qn,Qi];exact⟨⟨.inl ⟨h1,h2⟩,h3⟩,h4⟩
theorem cv.finite{b:ae}(h:cv b):finite b=true:=by
 unfold Go.Proofs.YtkgenianmdfmdaaGreat.finite;rw[h.valid,Qg h.2.1];rfl
theorem SF{b:ae}(h:cq b=true)(hc:b.aj<=1000):cv b:=by
 simp only[cq,Qm,Qn,Qi]at h;obtain⟨⟨h1,h2⟩,h3⟩:=h;exact⟨by omega,hc,h2,h3⟩
theorem cv.nz{b:ae}(h:cv b):aA b=false:=Jz h.1
theorem cv.ne{b:ae}(h:cv b):b.Value≠fb:=by
 intro e;have:=h.2.2.1;rw[e]at this;exact absurd this (by decide)
theorem ug{b:ae}:aA b=true↔b=bM:=by
 obtain⟨c,v⟩:=b;simp[aA,bM]
theorem bD:aA bM=true:=ug.2 rfl
structure P1 (m:af):Prop where
 aK:m.aH=1
 aJ:cv m.ab
 cY:m.ao=bM\/cv m.ao
 bJ:m.aw=bM\/(cv m.aw/\cv m.ao/\bd m.aw m.ao=true/\bC m.aw m.ao=false)
 dv:m.au=bM\/(cv m.au/\dt m.ao m.aw m.au=true)
 up:bd m.ab m.au=false
 bI:m.aR=0
 low:m.aI=0\/(1<=m.aI/\m.aI<=er m/\kK m.ao m.aw m.ab.Value m.aI=false)
structure P2 (m:af):Prop where
 aK:m.aH=2
 aJ:cv m.ab
 cY:cv m.ao/\m.ao.Value=m.ab.Value
 bJ:m.aw=bM
 dv:m.au=bM\/(cv m.au/\m.au.Value=m.ab.Value)
 range:1<=m.aI/\m.aI<=m.aR/\m.aR<=m.ao.aj
structure P3 (m:af):Prop where
 aK:m.aH=3
 aJ:cv m.ab
 cY:m.ao=bM
 bJ:m.aw=bM
 dv:m.au=bM
 range:1<=m.aI/\m.aI<=m.aR/\m.aR<=1000
structure P0 (m:af):Prop where
 aK:m.aH=1
 aJ:m.ab=bM
 cY:m.ao=bM
 bJ:m.aw=bM
 dv:m.au=bM
 low:m.aI=0
 bI:m.aR=0
structure ba (m:af):Prop where
 n0:0<=m.ar
 n1:m.ar<10
 bB:1<=m.bp/\m.bp<=1000000
 seq:0<=m.aF/\m.aF<=1000000
 aO:gC m.aa
 oh:m.aX.size<=200
 hv:∀e∈m.az,aL e=true/\gC e.aa/\e.bp=m.bp/\e.ar≠m.ar
 ob:m.az.Pairwise (fun a b=>a.ar<b.ar)
 body:P0 m\/P1 m\/P2 m\/P3 m
theorem Iy:∀(l:List ai) (k:Nat),k<=10->(∀e∈l,(k:Int)<=e.ar/\e.ar<10)->l.Pairwise (fun a b=>a.ar<b.ar)->l.length+k<=10
 |[],k,hk,_,_=>by simpa using hk
 |x::l,k,hk,h,hp=>by
  rw[Q4]at hp;have hx:=h x Qx;have:=Iy l (k+1) (by omega) (fun e he=>⟨by have:=hp.1 e he;omega,(h e (Qy _ he)).2⟩) hp.2
  rw[QE];omega
theorem ba.len{m:af}(h:ba m):m.az.length<=10:=by
 have:=Iy m.az 0 (by omega) (fun e he=>by have:=iQ (h.hv e he).1;omega) h.ob
 omega
theorem ba.ev{m:af}(h:ba m):rA m:=
 ⟨h.n0,h.n1,h.aO.sm,by have:=h.len;omega,fun e he=>(h.hv e he).2.1.sm,fun e he=>(h.hv e he).1⟩
theorem JW{m:af}(h:P1 m):0<=er m/\er m<=m.ab.aj/\(er m=0\/(cv m.au/\m.au.Value=m.ab.Value/\er m=m.au.aj)):=by
 unfold er;split
 ·rename_i hc;simp only[Qm,Bool.not_eq_true',bC,Qi]at hc;rcases h.dv with e|⟨hf,_⟩
  ·rw[e,bD]at hc;cases hc.1
  ·have hup:=h.up;unfold bd at hup;split at hup
   ·rename_i e;exact⟨by have:=hf.1;omega,by omega,.inr ⟨hf,hc.2,rfl⟩⟩
   ·simp only[Qj]at hup;exact⟨by have:=hf.1;omega,by omega,.inr ⟨hf,hc.2,rfl⟩⟩
 ·exact⟨Int.le_refl _,by have:=h.aJ.1;omega,.inl rfl⟩
theorem MB{m:af}(h:ba m)(hz:aA m.ab=false):aL (gK m)=true:=by
 have hseq:1<=(gK m).aF/\(gK m).aF<=1000000:=by
  have h1:(gK m).aF=bo m.aF 1:=by show bo (bO m).aF 1=_;rw[qU]
  have:=h.seq;rw[h1];unfold bo;split<;>omega
 have hnode:(gK m).ar=m.ar:=qV m;have hslot:(gK m).bp=m.bp:=w6 m
 have hhead:vi (gK m)=true:=by
  unfold vi;rw[hnode,hslot];simp only[Qm,Qi];exact⟨⟨⟨⟨⟨h.n0,h.n1⟩,h.bB.1⟩,h.bB.2⟩,hseq.1⟩,hseq.2⟩
 unfold aL;rw[Cj,LW h.aO];unfold fK;rw[hhead];have hkind:(gK m).bs=m.aH:=Vw m;rw[hkind];rcases h.body with h0|h1|h2|h3
 ·rw[h0.aJ,bD]at hz;cases hz
 ·rw[Qr h1.aK];have hh:=JW h1;have e:gK m=⟨m.ar,m.bp,bo (bO m).aF 1,m.aa,m.aH,m.ab,m.ao,m.aw,m.aI,er m⟩:=by unfold gK bO;rw[Qr h1.aK]
  have hp:(aA m.ao||cq m.ao)=true:=by
   rcases h1.cY with e|hf
   ·rw[e,bD];rfl
   ·rw[hf.valid,Bool.or_true]
  have hq:(aA m.aw||cq m.aw)=true:=by
   rcases h1.bJ with e|hf
   ·rw[e,bD];rfl
   ·rw[hf.1.valid,Bool.or_true]
  have hpo:yh (gK m)=true:=by
   rw[e];unfold yh;rcases h1.bJ with e|⟨_,hf,hl,hc⟩
   ·simp only[e,bD,Bool.true_or]
   ·simp only[hf.nz,hl,hc,Qp,Bool.and_self,Bool.or_true]
  have hhp:(decide (er m=0)||dt m.ao m.aw ⟨er m,m.ab.Value⟩)=true:=by
   rcases hh.2.2 with e|⟨hf,hv,e⟩
   ·rw[Qg e];rfl
   ·rw[e,<-hv];rcases h1.dv with e2|⟨_,hp⟩
    ·have:=hf.nz;rw[e2,bD]at this;cases this
    ·rw[hp,Bool.or_true]
  have hlow:0<=m.aI/\m.aI<=er m/\(decide (m.aI=0)||(!dK m.ao ⟨m.aI,m.ab.Value⟩&& !dK m.aw ⟨m.aI,m.ab.Value⟩))=true:=by
   rcases h1.low with e|⟨h5,h6,h7⟩
   ·rw[e];exact⟨Int.le_refl _,hh.1,rfl⟩
   ·refine⟨by omega,h6,?_⟩
    unfold kK at h7;rw[Bool.or_eq_false_iff]at h7;rw[h7.1,h7.2];simp
  unfold fL;rw[hpo];rw[e];unfold at_
  simp only[h1.aJ.finite,hp,hq,Qg hlow.1,Qg hlow.2.1,Qg hh.2.1,hhp,hlow.2.2,Bool.and_self,decide_true]
 ·rw[Qs (by rw[h2.aK];decide),Qr h2.aK]
  have e:gK m=⟨m.ar,m.bp,bo (bO m).aF 1,m.aa,m.aH,m.ab,m.ao,bM,m.aI,m.aR⟩:=by unfold gK bO;rw[Qs (by rw[h2.aK];decide),Qr h2.aK]
  have hc:m.aR<=1000:=by have:=h2.range.2.2;have:=h2.cY.1.2.1;omega
  unfold qX pB;rw[e];simp only[h2.aJ.finite,h2.cY.1.valid,bC,Qg h2.cY.2,bD,Qg h2.range.1,Qg h2.range.2.1,Qg h2.range.2.2,Qg hc,Bool.and_self,decide_true]
 ·rw[Qs (by rw[h3.aK];decide),Qs (by rw[h3.aK];decide),Qr h3.aK]
  have e:gK m=⟨m.ar,m.bp,bo (bO m).aF 1,m.aa,m.aH,m.ab,bM,bM,m.aI,m.aR⟩:=by unfold gK bO;rw[Qs (by rw[h3.aK];decide),Qs (by rw[h3.aK];decide)]
  unfold wJ pB;rw[e];simp only[h3.aJ.valid,bD,Qg h3.range.1,Qg h3.range.2.1,Qg h3.range.2.2,Bool.and_self,decide_true]
theorem ba.jP{m:af}(h:ba m):∀e∈aQ m,aL e=true:=by
 intro e he;rcases wv he with he|⟨hz,rfl⟩
 ·exact(h.hv e he).1
 ·exact MB h hz
theorem ba.YI{m:af}(h:ba m){e:ai}(he:e∈aQ m)(hn:e.ar.toNat=m.ar.toNat):aA m.ab=false/\e=gK m:=by
 rcases wv he with he|⟨hz,rfl⟩
 ·have h1:=(h.hv e he).2.2.2;have h2:=iQ (h.hv e he).1;have:=h.n0;omega
 ·exact⟨hz,rfl⟩
end Go.Proofs.YtkgenianmdfmdaaGreat
namespace Go.Proofs.YtkgenianmdfmdaaGreat
open Go.TQ
theorem uv(a b:ae):bd a b=true↔a.aj<b.aj\/(a.aj=b.aj/\jm a.Value b.Value=true):=by
 unfold bd;split
 ·rename_i e;rw[e];simp
 ·rename_i e;simp only[Qi];constructor
  ·exact .inl
  ·rintro(h|h)
   ·exact h
   ·exact absurd h.1 e
theorem kr{a b c:ae}(h:bd a b=true)(h':bd b c=true):bd a c=true:=wz.trans _ _ _ h h'
theorem Vg(a:ae):bd a a=false:=wz.irrefl a
theorem Ex{a b:ae}(h:bd a b=false)(h':a≠b):bd b a=true:=by
 cases h1:bd b a with
 |true=>rfl
 |false=>exact absurd (wz.total a b h h1) h'
theorem gH{a b:ae}(h:bd a b=true):a.aj<=b.aj:=by
 rw[uv]at h;omega
theorem HH{a b:ae}(h:bd a b=false):b.aj<=a.aj:=by
 rcases Int.lt_or_le a.aj b.aj with h1|h1
 ·rw[(uv a b).2 (.inl h1)]at h;cases h
 ·exact h1
theorem Ve(v:ByteArray):jm v v=false:=wy.irrefl v
theorem Cv{a b:ae}(hv:a.Value=b.Value):bd a b=decide (a.aj<b.aj):=by
 unfold bd;split
 ·rename_i e;rw[hv,Ve,e];simp
 ·rfl
theorem EX{p x:ae}(h:hZ p x=true):bd p x=false:=by
 obtain⟨_,h2,h3⟩:=(jA p x).1 h;rw[Cv h2,Qj];omega
theorem MY{p x q:ae}(h:hZ p x=true)(hq:bd p q=true):bd x q=true:=by
 by_cases e:x=p
 ·rw[e];exact hq
 ·exact kr (Ex (EX h) (fun h=>e h.symm)) hq
theorem gW{a b:ae}:bC a b=true↔a.Value=b.Value:=decide_eq_true_iff
theorem gR{a b:ae}:bC a b=false↔a.Value≠b.Value:=Qj
theorem yL(p q x:ae):dt p q x=true↔hZ p x=true\/hZ q x=true\/(aA q=false/\bd x q=true):=by
 unfold dt;simp only[Qn,Qm,Bool.not_eq_true'];exact⟨fun h=>by rcases h with(h|h)|h<;>simp[h],fun h=>by rcases h with h|h|h<;>simp[h]⟩
def pH(p q:ae):Prop:=(p=bM\/cv p)/\(q=bM\/(cv q/\cv p/\bd q p=true/\bC q p=false))
theorem P1.fL{m:af}(h:P1 m):pH m.ao m.aw:=⟨h.cY,h.bJ⟩
theorem H3{b:ae}(h:cv b):b≠bM:=fun e=>by have:=h.nz;rw[e,bD]at this;cases this
inductive rZ (p q b:ae):ae->ae->Prop where
 |same:rZ p q b p q
 |first (hp:p=bM) (hq:q=bM):rZ p q b b bM
 |up (hp:cv p) (hl:bd p b=true) (hc:p.Value=b.Value):rZ p q b b q
 |Ar (hp:cv p) (hl:bd p b=true) (hc:p.Value≠b.Value):rZ p q b b p
 |under (hp:cv p) (hl:bd b p=true) (hc:b.Value≠p.Value) (hq:q=bM\/bd q b=true):rZ p q b p b
theorem YT{p q b:ae}(h:pH p q)(hb:b=bM\/cv b):rZ p q b (cu p q b).1 (cu p q b).2:=by
 unfold cu;rcases hb with rfl|hb
 ·rw[Qr bD];exact .same
 rw[Qs (by rw[hb.nz];decide)]
 rcases h.1 with rfl|hp
 ·have hq:q=bM:=by
   rcases h.2 with e|⟨_,e,_⟩
   ·exact e
   ·exact absurd rfl (H3 e)
  rw[Qr bD,hq];exact .first rfl rfl
 rw[Qs (by rw[hp.nz];decide)]
 by_cases hl:bd p b=true
 ·rw[Qr hl]
  by_cases hc:bC p b=true
  ·rw[Qr hc]
   have hcq:bC q b=false:=by
    rw[gW]at hc;rw[gR];rcases h.2 with rfl|⟨_,_,_,e⟩
    ·exact fun e=>hb.ne e.symm
    ·rw[gR]at e;rw[<-hc];exact e
   rw[Qs (by rw[hcq];decide)]
   exact .up hp hl (gW.1 hc)
  ·rw[Qs hc];exact .Ar hp hl (gR.1 (by simpa using hc))
 ·rw[Qs hl];split
  ·rename_i hu;simp only[Qm,Qn,Bool.not_eq_true']at hu;refine .under hp hu.1.1 (gR.1 hu.1.2) ?_;rcases hu.2 with e|e
   ·exact .inl (ug.1 e)
   ·exact .inr e
  ·exact .same
theorem rZ.ok{p q b p' q':ae}(h:pH p q)(hb:b=bM\/cv b)(hj:rZ p q b p' q'):pH p' q':=by
 have hbf:∀{x:ae},bd x b=true\/cv b\/(cv x/\bd b x=true)->True:=fun _=>trivial
 cases hj with
 |same=>exact h
 |first hp hq=>exact⟨hb,.inl rfl⟩
 |up hp hl hc=>
  have hb':cv b:=by
   rcases hb with rfl|hb
   ·have h1:=gH hl;have h2:=hp.1;have:(bM:ae).aj=0:=rfl;omega
   ·exact hb
  refine⟨.inr hb',?_⟩;rcases h.2 with e|⟨h1,h2,h3,h4⟩
  ·exact .inl e
  ·refine .inr ⟨h1,hb',kr h3 hl,?_⟩;rw[gR]at h4 ⊢;rw[<-hc];exact h4
 |Ar hp hl hc=>
  have hb':cv b:=by
   rcases hb with rfl|hb
   ·have h1:=gH hl;have h2:=hp.1;have:(bM:ae).aj=0:=rfl;omega
   ·exact hb
  exact⟨.inr hb',.inr ⟨hp,hb',hl,gR.2 hc⟩⟩
 |under hp hl hc hq=>
  refine⟨.inr hp,?_⟩;rcases hb with e|hb
  ·exact .inl e
  ·exact .inr ⟨hb,hp,hl,gR.2 hc⟩
theorem rZ.mono{p q b p' q':ae}(h:pH p q)(hj:rZ p q b p' q'){x:ae}(hx:dt p q x=true):dt p' q' x=true:=by
 rw[yL]at hx ⊢
 have hqp:aA q=false->bd q p=true:=fun hz=>by
  rcases h.2 with e|⟨_,_,e,_⟩
  ·rw[e,bD]at hz;cases hz
  ·exact e
 have hcq:hZ q x=true->aA q=false:=fun hc=>((jA q x).1 hc).1
 cases hj with
 |same=>exact hx
 |first hp hq=>
  subst hp hq;rcases hx with hx|hx|hx
  ·have:=((jA _ _).1 hx).1;rw[bD]at this;cases this
  ·have:=((jA _ _).1 hx).1;rw[bD]at this;cases this
  ·rw[bD]at hx;cases hx.1
 |up hp hl hc=>
  rcases hx with hx|hx|hx
  ·obtain⟨h1,h2,h3⟩:=(jA _ _).1 hx;refine .inl ((jA _ _).2 ⟨?_,hc.symm.trans h2,Int.le_trans h3 (gH hl)⟩);have:=hp.1;have:=gH hl;exact Jz (by omega)
  ·exact .inr (.inl hx)
  ·exact .inr (.inr hx)
 |Ar hp hl hc=>
  rcases hx with hx|hx|hx
  ·exact .inr (.inl hx)
  ·exact .inr (.inr ⟨hp.nz,MY hx (hqp (hcq hx))⟩)
  ·exact .inr (.inr ⟨hp.nz,kr hx.2 (hqp hx.1)⟩)
 |under hp hl hc hq=>
  have hbz:aA q=false->bd q b=true:=fun hz=>by
   rcases hq with e|e
   ·rw[e,bD]at hz;cases hz
   ·exact e
  have hbn:aA q=false->aA b=false:=fun hz=>by
   have h1:=gH (hbz hz);rcases h.2 with e|⟨e,_⟩
   ·rw[e,bD]at hz;cases hz
   ·have:=e.1;exact Jz (by omega)
  rcases hx with hx|hx|hx
  ·exact .inl hx
  ·exact .inr (.inr ⟨hbn (hcq hx),MY hx (hbz (hcq hx))⟩)
  ·exact .inr (.inr ⟨hbn hx.1,kr hx.2 (hbz hx.1)⟩)
theorem VU{p:ae}{v:ByteArray}{n k:Int}(h:dK p ⟨n,v⟩=false)(hk:n<=k):dK p ⟨k,v⟩=false:=RY hk h
theorem Oh{v:ByteArray}{n:Int}{x:ae}(hx:x=bM\/cq x=true):n<=ti v n x/\dK x ⟨ti v n x,v⟩=false:=by
 unfold ti;split
 ·rename_i hc;rw[Qm]at hc;have ha:=hc.2;unfold dK at ha;rw[Qm,Qm]at ha;have hle:n<=x.aj:=gH ha.2;split
  ·refine⟨by omega,?_⟩
   unfold dK;rw[Bool.and_eq_false_iff];right
   cases hl:bd ⟨x.aj+1,v⟩ x with
   |false=>rfl
   |true=>have:=gH hl;simp only at this;omega
  ·rename_i hn;exact⟨hle,by simpa using hn⟩
 ·rename_i hc;refine⟨Int.le_refl _,?_⟩;rcases hx with rfl|hv
  ·unfold dK;rw[bD];rfl
  ·rw[hv,Bool.true_and]at hc;simpa using hc
theorem Sp{v:ByteArray}{n:Int}{p q:ae}(hp:p=bM\/cq p=true)(hq:q=bM\/cq q=true):n<=jr v n p q/\1<=jr v n p q/\kK p q v (jr v n p q)=false:=by
 unfold jr;obtain⟨h1,h2⟩:=Oh (v:=v) (n:=bo n 1) hp;obtain⟨h3,h4⟩:=Oh (v:=v) (n:=ti v (bo n 1) p) hq;have hm:n<=bo n 1/\1<=bo n 1:=by unfold bo;split<;>omega
 refine⟨by omega,by omega,?_⟩
 unfold kK;rw[h4,Bool.or_false];exact VU h2 h3
theorem Is{v:ByteArray}{n:Int}{x:ae}(h:dK x ⟨n,v⟩=false):ti v n x=n:=by
 unfold ti;rw[h,Bool.and_false];rfl
theorem Vc{v:ByteArray}{n:Int}{p q:ae}(h1:1<=n)(h:kK p q v n=false):jr v n p q=n:=by
 unfold kK at h;rw[Bool.or_eq_false_iff]at h;have hm:bo n 1=n:=by unfold bo;split<;>omega
 unfold jr;rw[hm,Is h.1,Is h.2]
theorem pH.valid{p q:ae}(h:pH p q):(p=bM\/cq p=true)/\(q=bM\/cq q=true):=
 ⟨h.1.imp id cv.valid,h.2.imp id fun h=>h.1.valid⟩
theorem Tj{e:ai}(hv:aL e=true){x:ae}(hx:x∈said e)(hz:aA x=false):cq x=true:=by
 have hv':=hv;unfold aL fK at hv';unfold said at hx;rw[Qr hv]at hx;rw[Qm,Qm]at hv';have hb:=hv'.2
 by_cases h1:e.bs=1
 ·rw[Qr h1]at hb hx;unfold fL at hb;simp only[Qm,Qn]at hb;obtain⟨⟨⟨⟨⟨⟨⟨⟨hf,hp⟩,hq⟩,_⟩,_⟩,_⟩,_⟩,_⟩,_⟩:=hb;simp only[QA,QR,or_false]at hx;rcases hx with rfl|rfl|rfl
  ·unfold finite at hf;rw[Qm]at hf;exact hf.1
  ·rcases hp with hp|hp
   ·rw[hp]at hz;cases hz
   ·exact hp
  ·rcases hq with hq|hq
   ·rw[hq]at hz;cases hz
   ·exact hq
 ·rw[Qs h1]at hb hx
  have hinf:∀{b:ae},cq b=true->cq ⟨1000000,b.Value⟩=true:=by
   intro b hb;simp only[cq,Qm,Qn,Qi]at hb ⊢;exact⟨⟨.inr trivial,hb.1.2⟩,hb.2⟩
  by_cases h2:e.bs=2
  ·rw[Qr h2]at hb hx;unfold qX at hb;simp only[Qm]at hb;obtain⟨⟨⟨⟨⟨hf,hp⟩,hc⟩,_⟩,_⟩,_⟩:=hb;simp only[QA,QR,or_false]at hx;rcases hx with rfl|rfl
   ·exact hp
   ·unfold finite at hf;rw[Qm]at hf;exact hinf hf.1
  ·rw[Qs h2]at hb hx;simp only[QA,QR,or_false]at hx;subst hx
   by_cases h3:e.bs=3
   ·rw[Qr h3]at hb;unfold wJ at hb;simp only[Qm]at hb;exact hinf hb.1.1.1
   ·rw[Qs h3]at hb;cases hb
theorem Gz{e:ai}(hv:aL e=true):1<=e.ab.Value.size/\e.ab.Value.size<=200:=by
 have hv':=hv;unfold aL fK at hv';rw[Qm,Qm]at hv';have hb:=hv'.2
 have go:∀{b:ae},cq b=true->1<=b.Value.size/\b.Value.size<=200:=by
  intro b hb;simp only[cq,Qm,Qn,Qi]at hb;exact⟨hb.1.2,hb.2⟩
 have gof:∀{b:ae},finite b=true->1<=b.Value.size/\b.Value.size<=200:=by
  intro b hb;unfold finite at hb;rw[Qm]at hb;exact go hb.1
 by_cases h1:e.bs=1
 ·rw[Qr h1]at hb;unfold fL at hb;simp only[Qm]at hb;exact gof hb.1.1.1.1.1.1.1.1
 ·rw[Qs h1]at hb
  by_cases h2:e.bs=2
  ·rw[Qr h2]at hb;unfold qX at hb;simp only[Qm]at hb;exact gof hb.1.1.1.1.1
  ·rw[Qs h2]at hb
   by_cases h3:e.bs=3
   ·rw[Qr h3]at hb;unfold wJ at hb;simp only[Qm]at hb;exact go hb.1.1.1
   ·rw[Qs h3]at hb;cases hb
theorem Zz{b:ae}(h:cq b=true):cv (c9 b):=by
 simp only[cq,Qm,Qn,Qi]at h;obtain⟨⟨h1,h2⟩,h3⟩:=h;unfold c9;split
 ·exact⟨(by decide:(1:Int)<=1000),(by decide:(1000:Int)<=1000),h2,h3⟩
 ·exact⟨by omega,by omega,h2,h3⟩
theorem Px{α:Type}{l:List α}{p:α->Bool}{z:α}:(l.find? p).getD z=z\/((l.find? p).getD z∈l/\p ((l.find? p).getD z)=true):=by
 cases h:l.find? p with
 |none=>exact .inl rfl
 |some x=>exact .inr ⟨List.mem_of_find?_eq_some h,List.find?_some h⟩
theorem Dc{m:af}(h:ba m){x:ae}(hx:x∈dP (aQ m)):cq x=true:=by
 obtain⟨e,he,h1,h2⟩:=((kv h.ev.jX.1.aO h.ev.jX.2).2.2.2 x).1 hx;exact Tj (h.jP e he) h1 h2
theorem MD{m:af}(h:ba m):dJ m=bM\/(cq (dJ m)=true/\(zG m=fb\/(dJ m).Value=zG m)/\dt (ou m.ao) (ou m.aw) (dJ m)=false/\jt m.ar.toNat m.aa (aQ m) (dJ m)=true):=by
 unfold dJ gU;rcases Px (l:=dP (aQ m)) (p:=tl (jt m.ar.toNat m.aa (aQ m)) m.ao m.aw (zG m)) (z:=vD)with e|⟨h1,h2⟩
 ·exact .inl e
 ·right;unfold tl at h2;simp only[Qm,Qn,Bool.not_eq_true',Qi]at h2;exact⟨Dc h h1,h2.1.1,h2.1.2,h2.2⟩
theorem vn{m:af}(h:ba m):c9 (dJ m)=bM\/cv (c9 (dJ m)):=by
 rcases MD h with e|⟨h1,_⟩
 ·left;rw[e];decide
 ·exact .inr (Zz h1)
theorem Fq{m:af}(h:ba m)(h1:pH m.ao m.aw):rZ m.ao m.aw (c9 (dJ m)) (cu m.ao m.aw (c9 (dJ m))).1 (cu m.ao m.aw (c9 (dJ m))).2:=YT h1 (vn h)
theorem P2.fL{m:af}(h:P2 m):pH m.ao m.aw:=⟨.inr h.cY.1,.inl h.bJ⟩
theorem YA{m:af}(h:ba m)(h1:P1 m):P1 (cy m):=by
 unfold cy;rw[Qs (by rw[h1.aK,h1.aJ.nz];decide)]
 have hj:=Fq h h1.fL;generalize (cu m.ao m.aw (c9 (dJ m))).1=p at hj;generalize (cu m.ao m.aw (c9 (dJ m))).2=q at hj;have hok:=hj.ok h1.fL (vn h);refine⟨h1.aK,h1.aJ,hok.1,hok.2,?_,h1.up,h1.bI,?_⟩
 ·rcases h1.dv with e|⟨hf,hp⟩
  ·exact .inl e
  ·exact .inr ⟨hf,hj.mono h1.fL hp⟩
 ·show oi m p q=0\/(1<=oi m p q/\oi m p q<=er m/\kK p q m.ab.Value (oi m p q)=false);unfold oi
  by_cases hL:m.aI=0
  ·rw[Qs (fun h=>h.2 hL)];exact .inl hL
  ·rw[Qr ⟨h1.aK,hL⟩];split
   ·exact .inl rfl
   ·rename_i hlt;obtain⟨h2,h3,h4⟩:=Sp (v:=m.ab.Value) (n:=m.aI) hok.valid.1 hok.valid.2;exact .inr ⟨h3,by omega,h4⟩
theorem Sd{m:af}(h:ba m)(h2:P2 m):P2 (cy m)/\m.ao.aj<=(cy m).ao.aj/\(cy m).aw=bM:=by
 unfold cy;rw[Qs (by rw[h2.aK,h2.aJ.nz];decide)]
 have hv:c9 (dJ m)=bM\/(c9 (dJ m)).Value=m.ab.Value:=by
  rcases MD h with e|⟨h3,h4,_⟩
  ·left;rw[e];decide
  ·right;have hc:(c9 (dJ m)).Value=(dJ m).Value:=by unfold c9;split<;>rfl
   have hvo:zG m=m.ab.Value:=Qr h2.aK;rw[hvo]at h4;rw[hc];exact h4.resolve_left h2.aJ.ne
 have hj:=Fq h h2.fL;have hlow:∀p q,oi m p q=m.aI:=fun p q=>Qs (fun h=>by have:=h.1;rw[h2.aK]at this;cases this)
 simp only[hlow];have hok:=hj.ok h2.fL (vn h);generalize (cu m.ao m.aw (c9 (dJ m))).1=p at hj hok;generalize (cu m.ao m.aw (c9 (dJ m))).2=q at hj hok;generalize hb:c9 (dJ m)=b at hj hv
 have key:cv p/\p.Value=m.ab.Value/\m.ao.aj<=p.aj/\q=bM:=by
  cases hj with
  |same=>exact⟨h2.cY.1,h2.cY.2,Int.le_refl _,h2.bJ⟩
  |first hp hq=>exact absurd hp (H3 h2.cY.1)
  |up hp hl hc=>exact⟨hok.1.resolve_left (fun e=>by have:=gH hl;rw[e]at this;have h9:=h2.cY.1.1;have:(bM:ae).aj=0:=rfl;omega),hc.symm.trans h2.cY.2,gH hl,h2.bJ⟩
  |Ar hp hl hc=>
   exfalso;rcases hv with e|e
   ·have:=gH hl;rw[e]at this;have h9:=h2.cY.1.1;have:(bM:ae).aj=0:=rfl;omega
   ·exact hc (h2.cY.2.trans e.symm)
  |under hp hl hc hq=>
   rcases hv with e|e
   ·exact⟨h2.cY.1,h2.cY.2,Int.le_refl _,e⟩
   ·exact absurd (e.trans h2.cY.2.symm) hc
 exact⟨⟨h2.aK,h2.aJ,⟨key.1,key.2.1⟩,key.2.2.2,h2.dv,⟨h2.range.1,h2.range.2.1,Int.le_trans h2.range.2.2 key.2.2.1⟩⟩,key.2.2.1,key.2.2.2⟩
theorem Ms{m:af}(h:ba m):ba (cy m):=by
 have hid:m.aH=3\/aA m.ab=true->cy m=m:=fun hc=>Qr hc
 have mk:(P0 (cy m)\/P1 (cy m)\/P2 (cy m)\/P3 (cy m))->ba (cy m):=by
  intro hb;unfold cy at hb ⊢;split at hb
  ·rename_i hc;rw[Qr hc];exact h
  ·rename_i hc;rw[Qs hc];exact⟨h.n0,h.n1,h.bB,h.seq,h.aO,h.oh,h.hv,h.ob,hb⟩
 rcases h.body with h0|h1|h2|h3
 ·rw[hid (.inr (by rw[h0.aJ];exact bD))];exact h
 ·exact mk (.inr (.inl (YA h h1)))
 ·exact mk (.inr (.inr (.inl (Sd h h2).1)))
 ·rw[hid (.inl h3.aK)];exact h
end Go.Proofs.YtkgenianmdfmdaaGreat
namespace Go.Proofs.YtkgenianmdfmdaaGreat
open Go.TQ
end Go.Proofs.YtkgenianmdfmdaaGreat
namespace Go.Proofs.YtkgenianmdfmdaaGreat
open Go.TQ
theorem qW(q:Int->Bool):∀(r:List Int) (lo:Int),cm q r lo<=lo
 |[],lo=>Int.le_refl _
 |e::r,lo=>by
  rw[cm];split
  ·exact qW q r lo
  ·split
   ·exact Int.le_trans (qW q r e) (by omega)
   ·exact Int.le_refl _
theorem y2(q:Int->Bool):∀(r:List Int) (lo:Int),cm q r lo=lo\/q (cm q r lo)=true/\cm q r lo∈r
 |[],lo=> .inl rfl
 |e::r,lo=>by
  rw[cm];split
  ·exact(y2 q r lo).imp id fun h=>⟨h.1,by simp[h.2]⟩
  ·split
   ·rename_i hq;rcases y2 q r e with h|h
    ·exact .inr ⟨by rw[h];exact hq,by rw[h];simp⟩
    ·exact .inr ⟨h.1,by simp[h.2]⟩
   ·exact .inl rfl
theorem y3(q:Int->Bool)(r:List Int)(lo:Int)(h:∀x∈r,1<=x)(h1:1<=lo):1<=cm q r lo:=by
 rcases y2 q r lo with e|⟨_,e⟩
 ·omega
 ·exact h _ e
section
variable {ax : Nat} {t : an} {l : List ai} (p q : ae)
end
end Go.Proofs.YtkgenianmdfmdaaGreat
namespace Go.Proofs.YtkgenianmdfmdaaGreat
open Go.TQ
theorem Ya{m:af}(h:ba m){p:ai->Bool}(hb:(c8 p (bK (aQ m))).testBit m.ar.toNat=true):aA m.ab=false/\p (gK m)=true:=by
 rw[tD,List.any_eq_true]at hb;obtain⟨e,he,hp⟩:=hb;rw[Qm,Qi]at hp;obtain⟨h1,h2⟩:=h.YI ((List.mem_filter.1 he).1) hp.2;rw[<-h2];exact⟨h1,hp.1⟩
theorem PM{m:af}(h:ba m){b:ae}(hc:iO m.ar.toNat m.aa (aQ m) b=true):aA m.ab=false/\cD (gK m) b=true:=by
 have hsm:=lh (ax:=m.ar.toNat) h.aO.sm h.ev.jX.1;have hg:=zX hsm (kP (p:=(cD · b)) (kF (aQ m)));exact Ya h (hg.inside _ hc).1
theorem RE{m:af}(h1:m.aH=1){b:ae}(ha:cD (gK m) b=true):aA b=false/\dt m.ao m.aw b=true:=by
 have e:gK m=⟨m.ar,m.bp,bo (bO m).aF 1,m.aa,m.aH,m.ab,m.ao,m.aw,m.aI,er m⟩:=by unfold gK bO;rw[Qr h1]
 rw[e]at ha;unfold cD at ha;rw[Qm,Qr h1]at ha;simpa using ha
theorem Vm{m:af}(h:ba m)(h1:P1 m):fh m=bM\/(cv (fh m)/\bd m.au (fh m)=true/\dt m.ao m.aw (fh m)=true):=by
 unfold fh tr;rcases Px (l:=dP (aQ m)) (p:=tq (iO m.ar.toNat m.aa (aQ m)) m.au) (z:=vD)with e|⟨h2,h3⟩
 ·exact .inl e
 ·right;unfold tq at h3;simp only[Qm,Qi]at h3;exact⟨SF (Dc h h2) h3.1.2,h3.1.1,(RE h1.aK (PM h h3.2).2).2⟩
theorem YS{p q b:ae}{v:ByteArray}{n:Int}(hok:pH p q)(hb:dt p q b=true)(hv:b.Value≠v)(ha:kK p q v n=false):b.aj<=n:=by
 unfold kK at ha;rw[Bool.or_eq_false_iff]at ha
 have key:∀x:ae,aA x=false->x.Value≠v->dK x ⟨n,v⟩=false->x.aj<=n:=by
  intro x hz hx h;unfold dK at h;rw[hz,(gR (a:=x) (b:=⟨n,v⟩)).2 hx,Qp,Bool.and_self,Bool.true_and]at h;exact HH h
 have hqp:aA q=false->cv q/\cv p/\bd q p=true/\q.Value≠p.Value:=fun hz=>by
  rcases hok.2 with e|⟨e1,e2,e3,e4⟩
  ·rw[e,bD]at hz;cases hz
  ·exact⟨e1,e2,e3,gR.1 e4⟩
 rw[yL]at hb;rcases hb with hb|hb|⟨hz,hl⟩
 ·obtain⟨h1,h2,h3⟩:=(jA _ _).1 hb;have:=key p h1 (by rw[h2];exact hv) ha.1
  omega
 ·obtain⟨h1,h2,h3⟩:=(jA _ _).1 hb;have:=key q h1 (by rw[h2];exact hv) ha.2
  omega
 ·obtain⟨e1,e2,e3,e4⟩:=hqp hz;have h5:=gH hl
  by_cases hqv:q.Value=v
  ·have:=key p e2.nz (by rw[<-hqv];exact fun e=>e4 e.symm) ha.1
   have:=gH e3;omega
  ·have:=key q hz hqv ha.2;omega
theorem abp{m:af}(h1:P1 m){b:ae}(hb:cv b)(hl:bd m.au b=true)(hp:dt m.ao m.aw b=true):P1 (wZ m b)/\(wZ m b).ao=m.ao/\(wZ m b).aw=m.aw/\(wZ m b).au=b/\m.ab.aj<=(wZ m b).ab.aj:=by
 unfold wZ;have hh:=JW h1;split
 ·rename_i hlt
  have hhigh:∀L:Int,er {m with au:=b,ab:=b,aI:=L}=b.aj:=by
   intro L;unfold er;rw[Qr];rw[hb.nz,gW.2 rfl];rfl
  refine⟨⟨h1.aK,hb,h1.cY,h1.bJ,.inr ⟨hb,hp⟩,Vg b,h1.bI,?_⟩,rfl,rfl,rfl,gH hlt⟩;show(if bC m.ab b=true then m.aI else 0)=0\/(1<=(if bC m.ab b=true then m.aI else 0)/\(if bC m.ab b=true then m.aI else 0)<=er {m with au:=b,ab:=b,aI:=if bC m.ab b=true then m.aI else 0}/\kK m.ao m.aw b.Value (if bC m.ab b=true then m.aI else 0)=false)
  rw[hhigh];split
  ·rename_i hc;rw[gW]at hc;rcases h1.low with e|⟨h2,h3,h4⟩
   ·exact .inl e
   ·refine .inr ⟨h2,?_,by rw[<-hc];exact h4⟩
    have:=gH hlt;omega
  ·exact .inl rfl
 ·rename_i hlt;have hlt:bd m.ab b=false:=by simpa using hlt
  refine⟨⟨h1.aK,h1.aJ,h1.cY,h1.bJ,.inr ⟨hb,hp⟩,hlt,h1.bI,?_⟩,rfl,rfl,rfl,Int.le_refl _⟩;rcases h1.low with e|⟨h2,h3,h4⟩
  ·exact .inl e
  ·refine .inr ⟨h2,?_,h4⟩;show m.aI<=er {m with au:=b}
   have hv:b.Value=m.ab.Value:=by
    refine Classical.byContradiction fun hv=> ?_
    have h5:=YS h1.fL hp hv h4;have h6:=gH hl;rcases hh.2.2 with e|⟨e1,e2,e3⟩
    ·omega
    ·
     have e4:bd b m.au=false:=wz.asymm hl;have e5:=hl;rw[uv]at e5;have hbc:b.aj=m.au.aj:=by omega
     have hlow:m.aI=m.au.aj:=by omega
     have e6:bd ⟨m.aI,m.ab.Value⟩ b=true:=by
      have:(⟨m.aI,m.ab.Value⟩:ae)=m.au:=by rw[hlow,<-e2]
      rw[this];exact hl
     unfold kK at h4;rw[Bool.or_eq_false_iff]at h4
     have key:∀x:ae,aA x=false->x.Value≠m.ab.Value->dK x ⟨m.aI,m.ab.Value⟩=false->bd ⟨m.aI,m.ab.Value⟩ x=false:=by
      intro x hz hx h;unfold dK at h;rw[hz,(gR (a:=x) (b:=⟨m.aI,m.ab.Value⟩)).2 hx,Qp,Bool.and_self,Bool.true_and]at h;exact h
     rw[yL]at hp;rcases hp with hp|hp|⟨hz,hq⟩
     ·obtain⟨g1,g2,g3⟩:=(jA _ _).1 hp;have g4:=key _ g1 (by rw[g2];exact hv) h4.1
      have g5:bd ⟨m.aI,m.ab.Value⟩ m.ao=true:=by
       by_cases e:b=m.ao
       ·rw[<-e];exact e6
       ·exact kr e6 (Ex (EX hp) (fun e'=>e e'.symm))
      rw[g5]at g4;cases g4
     ·obtain⟨g1,g2,g3⟩:=(jA _ _).1 hp;have g4:=key _ g1 (by rw[g2];exact hv) h4.2
      have g5:bd ⟨m.aI,m.ab.Value⟩ m.aw=true:=by
       by_cases e:b=m.aw
       ·rw[<-e];exact e6
       ·exact kr e6 (Ex (EX hp) (fun e'=>e e'.symm))
      rw[g5]at g4;cases g4
     ·rcases h1.bJ with e|⟨f1,f2,f3,f4⟩
      ·rw[e,bD]at hz;cases hz
      ·by_cases hqv:m.aw.Value=m.ab.Value
       ·have g4:=key _ f2.nz (by rw[<-hqv];exact fun e=>(gR.1 f4) e.symm) h4.1
        rw[kr e6 (kr hq f3)]at g4;cases g4
       ·have g4:=key _ hz hqv h4.2;rw[kr e6 hq]at g4;cases g4
   have hhigh:er {m with au:=b}=b.aj:=by
    unfold er;rw[Qr];show(!aA b&&bC b m.ab)=true;rw[hb.nz,gW.2 hv];rfl
   rw[hhigh];rcases hh.2.2 with e|⟨e1,e2,e3⟩
   ·omega
   ·have:=gH hl;omega
theorem Yc{m:af}(h1:P1 m){b:ae}(hb:cv b)(hc:m.au=b):P1 (mI m b):=by
 unfold mI;split
 ·rename_i hv;obtain⟨hL,hcp,hle⟩:=hv;rw[gW]at hcp;refine⟨h1.aK,h1.aJ,h1.cY,h1.bJ,h1.dv,h1.up,h1.bI,?_⟩;obtain⟨h2,h3,h4⟩:=Sp (v:=b.Value) (n:=m.ab.aj) h1.fL.valid.1 h1.fL.valid.2;refine .inr ⟨h3,?_,by show kK m.ao m.aw m.ab.Value _=false;rw[hcp];exact h4⟩
  show jr b.Value m.ab.aj m.ao m.aw<=er {m with aI:=jr b.Value m.ab.aj m.ao m.aw}
  have hhigh:er {m with aI:=jr b.Value m.ab.aj m.ao m.aw}=b.aj:=by
   unfold er;rw[Qr]
   ·show m.au.aj=_;rw[hc]
   ·show(!aA m.au&&bC m.au m.ab)=true;rw[hc,hb.nz,gW.2 hcp.symm];rfl
  rw[hhigh];exact hle
 ·exact h1
theorem Td(m:af)(b:ae):(mI m b).ao=m.ao/\(mI m b).aw=m.aw/\(mI m b).au=m.au/\(mI m b).ab=m.ab:=by
 unfold mI;split<;>exact⟨rfl,rfl,rfl,rfl⟩
theorem oQ{m:af}(h:m.aH≠1\/aA m.ab=true\/aA (fh m)=true):fX m=m:=Qr h
theorem zS{m m':af}(h:ba m)(he:m'.ar=m.ar/\m'.bp=m.bp/\m'.aF=m.aF/\m'.aa=m.aa/\m'.aX=m.aX/\m'.az=m.az)(hb:P0 m'\/P1 m'\/P2 m'\/P3 m'):ba m':=by
 obtain⟨e1,e2,e3,e4,e5,e6⟩:=he;exact⟨by rw[e1];exact h.n0,by rw[e1];exact h.n1,by rw[e2];exact h.bB,by rw[e3];exact h.seq,by rw[e4];exact h.aO,by rw[e5];exact h.oh,by rw[e6,e1,e2];exact h.hv,by rw[e6];exact h.ob,hb⟩
structure ff (m m':af):Prop where
 ax:m'.ar=m.ar
 bB:m'.bp=m.bp
 seq:m'.aF=m.aF
 aO:m'.aa=m.aa
 oh:m'.aX=m.aX
 heard:m'.az=m.az
theorem ff.refl(m:af):ff m m:=⟨rfl,rfl,rfl,rfl,rfl,rfl⟩
theorem ff.all{m m':af}(h:ff m m'):m'.ar=m.ar/\m'.bp=m.bp/\m'.aF=m.aF/\m'.aa=m.aa/\m'.aX=m.aX/\m'.az=m.az:=⟨h.ax,h.bB,h.seq,h.aO,h.oh,h.heard⟩
theorem ur(m:af):ff m (cy m):=by unfold cy;split<;>exact⟨rfl,rfl,rfl,rfl,rfl,rfl⟩
theorem Y4(m:af)(b:ae):ff m (wZ m b):=by unfold wZ;split<;>exact⟨rfl,rfl,rfl,rfl,rfl,rfl⟩
theorem UB(m:af)(b:ae):ff m (mI m b):=by unfold mI;split<;>exact⟨rfl,rfl,rfl,rfl,rfl,rfl⟩
theorem qB(m:af):ff m (fX m):=by
 unfold fX;split
 ·exact .refl m
 ·have h1:=UB (wZ m (fh m)) (fh m);have h2:=Y4 m (fh m);exact⟨h1.ax.trans h2.ax,h1.bB.trans h2.bB,h1.seq.trans h2.seq,h1.aO.trans h2.aO,h1.oh.trans h2.oh,h1.heard.trans h2.heard⟩
theorem qD(m:af):ff m (fl m):=by
 unfold fl EY vJ;split
 ·split<;>exact⟨rfl,rfl,rfl,rfl,rfl,rfl⟩
 ·split<;>exact⟨rfl,rfl,rfl,rfl,rfl,rfl⟩
theorem qC(m:af):ff m (iW m):=by unfold iW FD;split<;>exact⟨rfl,rfl,rfl,rfl,rfl,rfl⟩
theorem wR(m:af):ff m (eJ m):=by unfold eJ;split<;>exact⟨rfl,rfl,rfl,rfl,rfl,rfl⟩
theorem Ld{m:af}(h:ba m)(h1:P1 m):P1 (fX m)/\(fX m=m\/((fX m).ao=m.ao/\(fX m).aw=m.aw/\bd m.au (fX m).au=true/\m.ab.aj<=(fX m).ab.aj)):=by
 unfold fX;split
 ·exact⟨h1,.inl rfl⟩
 ·rename_i hc;rcases Vm h h1 with e|⟨hf,hl,hp⟩
  ·exact absurd (.inr (.inr (by rw[e];exact bD))) hc
  ·obtain⟨g1,g2,g3,g4,g5⟩:=abp h1 hf hl hp;obtain⟨v1,v2,v3,v4⟩:=Td (wZ m (fh m)) (fh m);exact⟨Yc g1 hf g4,.inr ⟨v1.trans g2,v2.trans g3,by rw[v3,g4];exact hl,by rw[v4];exact g5⟩⟩
theorem Mq{m:af}(h:ba m):ba (fX m):=by
 rcases h.body with h0|h1|h2|h3
 ·rw[oQ (.inr (.inl (by rw[h0.aJ];exact bD)))];exact h
 ·exact zS h (qB m).all (.inr (.inl (Ld h h1).1))
 ·rw[oQ (.inl (by rw[h2.aK];decide))];exact h
 ·rw[oQ (.inl (by rw[h3.aK];decide))];exact h
theorem wo{m:af}(h:ba m)(v:ByteArray):∀x∈bb (aQ m) v,1<=x/\x<=1000:=Aa h.ev.jX.1 h.ev.jX.2 v
theorem V6{m:af}(h:ba m):∀v∈eZ (aQ m),1<=v.size/\v.size<=200:=by
 intro v hv;obtain⟨e,he,h1,h2⟩:=((nc h.ev.jX.1.aO h.ev.jX.2).2.2.2 v).1 hv;rw[h2];exact Gz h1
theorem Um{m:af}(h:ba m){x:ByteArray->Int->Int->Bool}{p q:ae}:(fD x (aQ m) p q).1=false\/(cv (fD x (aQ m) p q).2/\(fD x (aQ m) p q).2.Value∈eZ (aQ m)/\(fD x (aQ m) p q).2.aj∈bb (aQ m) (fD x (aQ m) p q).2.Value/\
  kK p q (fD x (aQ m) p q).2.Value (fD x (aQ m) p q).2.aj=false/\x (fD x (aQ m) p q).2.Value (fD x (aQ m) p q).2.aj (fD x (aQ m) p q).2.aj=true):=by
 let G:Bool×ae->Prop:=fun s=>s.1=false\/(cv s.2/\s.2.Value∈eZ (aQ m)/\s.2.aj∈bb (aQ m) s.2.Value/\kK p q s.2.Value s.2.aj=false/\x s.2.Value s.2.aj s.2.aj=true)
 have inner:∀(v:ByteArray),v∈eZ (aQ m)->∀(b:List Int),(∀n∈b,n∈bb (aQ m) v)->∀s,G s->G (b.foldl (eQ x p q v) s):=by
  intro v hv b
  induction b with
  |nil=>intro _ s hs;exact hs
  |cons n b ih=>
   intro hb s hs;rw[QU];refine ih (fun k hk=>hb k (Qy _ hk)) _ ?_
   unfold eQ;split
   ·rename_i hc;simp only[Qm,Bool.not_eq_true']at hc;have hn:=hb n Qx;have h1:=wo h v n hn;have h2:=V6 h v hv;exact .inr ⟨⟨h1.1,h1.2,h2.1,h2.2⟩,hv,hn,hc.1.2,hc.2⟩
   ·exact hs
 have outer:∀(vs:List ByteArray),(∀v∈vs,v∈eZ (aQ m))->∀s,G s->G (vs.foldl (fun s v=>(bb (aQ m) v).foldl (eQ x p q v) s) s):=by
  intro vs
  induction vs with
  |nil=>intro _ s hs;exact hs
  |cons v vs ih=>
   intro hv s hs;rw[QU];exact ih (fun u hu=>hv u (Qy _ hu)) _ (inner v (hv v Qx) _ (fun n hn=>hn) s hs)
 exact outer _ (fun v hv=>hv) (false,⟨0,fb⟩) (.inl rfl)
structure abV (m:af) (v:ByteArray) (lo hi:Int):Prop where
 fin:cv ⟨hi,v⟩
 lo1:1<=lo
 le:lo<=hi
 val:v∈eZ (aQ m)
 top:fq m v hi hi=true
 all:fq m v lo hi=true
theorem EL{m:af}(h:ba m)(hk:(ez m).2.2.2.1=true):abV m (ez m).1 (ez m).2.1 (ez m).2.2.1:=by
 rcases Um (x:=fq m) (p:=m.ao) (q:=m.aw) h with e|⟨h1,h2,h3,h4,h5⟩
 ·unfold ez mr at hk;rw[e]at hk;cases hk
 ·have hb:(fD (fq m) (aQ m) m.ao m.aw).1=true:=by
   unfold ez mr at hk;split at hk
   ·assumption
   ·cases hk
  have e:ez m=((fD (fq m) (aQ m) m.ao m.aw).2.Value,cm (fun n=> !kK m.ao m.aw (fD (fq m) (aQ m) m.ao m.aw).2.Value n&&fq m (fD (fq m) (aQ m) m.ao m.aw).2.Value n (fD (fq m) (aQ m) m.ao m.aw).2.aj) (bb (aQ m) (fD (fq m) (aQ m) m.ao m.aw).2.Value).reverse (fD (fq m) (aQ m) m.ao m.aw).2.aj,(fD (fq m) (aQ m) m.ao m.aw).2.aj,true,()):=by
   unfold ez mr;rw[Qr hb]
  rw[e];refine⟨h1,y3 _ _ _ (fun x hx=>(wo h _ x (List.mem_reverse.1 hx)).1) h1.1,qW _ _ _,h2,h5,?_⟩
  simp only;rcases y2 (fun n=> !kK m.ao m.aw (fD (fq m) (aQ m) m.ao m.aw).2.Value n&&fq m (fD (fq m) (aQ m) m.ao m.aw).2.Value n (fD (fq m) (aQ m) m.ao m.aw).2.aj) (bb (aQ m) (fD (fq m) (aQ m) m.ao m.aw).2.Value).reverse (fD (fq m) (aQ m) m.ao m.aw).2.aj with e|⟨e,_⟩
  ·rw[e];exact h5
  ·rw[Qm]at e;exact e.2
theorem PN{m:af}(hb0:m.ab=bM\/cv m.ab)(hp0:m.ao=bM\/cv m.ao){v:ByteArray}{lo hi:Int}(hf:cv ⟨hi,v⟩)(hlo:1<=lo)(hle:lo<=hi):P2 (EY m v lo hi):=by
 unfold EY
 have hmax:cv ⟨bo m.ab.aj hi,v⟩:=by
  rcases hb0 with e|h2
  ·have:bo m.ab.aj hi=hi:=by
    have h3:=hf.1;simp only at h3;have h4:m.ab.aj=0:=by rw[e];rfl
    unfold bo;split<;>omega
   rw[this];exact hf
  ·have:bo m.ab.aj hi=m.ab.aj\/bo m.ab.aj hi=hi:=by unfold bo;split<;>simp
   rcases this with e|e<;>rw[e]
   ·exact⟨h2.1,h2.2.1,hf.2.2⟩
   ·exact hf
 have hbv:∀b:ae,b=(if(!bC m.ab ⟨hi,v⟩||bd m.ab ⟨hi,v⟩)=true then⟨bo m.ab.aj hi,v⟩else m.ab)->cv b/\b.Value=v:=by
  intro b hb;split at hb
  ·rw[hb];exact⟨hmax,rfl⟩
  ·rename_i hc;rw[hb];simp only[Qn,Bool.not_eq_true',not_or,Bool.not_eq_false]at hc;refine⟨hb0.resolve_left (fun e=> ?_),gW.1 hc.1⟩
   have:=gW.1 hc.1;rw[e]at this;exact hf.ne this.symm
 obtain⟨b1,b2⟩:=hbv _ rfl
 have hpv:∀p:ae,p=(if hZ m.ao ⟨hi,v⟩=true then m.ao else⟨hi,v⟩)->cv p/\p.Value=v/\hi<=p.aj:=by
  intro p hp;split at hp
  ·rename_i hc;rw[hp];obtain⟨g1,g2,g3⟩:=(jA _ _).1 hc;refine⟨?_,g2,g3⟩;rcases hp0 with e|e
   ·rw[e,bD]at g1;cases g1
   ·exact e
  ·rw[hp];exact⟨hf,rfl,Int.le_refl _⟩
 obtain⟨p1,p2,p3⟩:=hpv _ rfl;exact⟨rfl,b1,⟨p1,p2.trans b2.symm⟩,rfl,.inr ⟨hf,b2.symm⟩,⟨hlo,hle,p3⟩⟩
theorem Pz{m:af}(h:ba m)(h2:P2 m):1<=(dG m).1/\(dG m).1<=(dG m).2/\(dG m).2<=1000/\(((dG m).2=m.aR/\(dG m).1<=m.aI)\/m.aR<(dG m).2):=by
 have hr:=h2.range;have hH:m.aR<=1000:=by have:=h2.cY.1.2.1;omega
 have hb:∀x∈(bb (aQ m) m.ab.Value).reverse,1<=x:=fun x hx=>(wo h _ x (List.mem_reverse.1 hx)).1
 unfold dG AM;split
 ·refine⟨y3 _ _ _ hb hr.1,?_,hH,.inl ⟨rfl,qW _ _ _⟩⟩;exact Int.le_trans (qW _ _ _) hr.2.1
 ·rename_i n hn;have hnb:=wo h _ n (List.mem_reverse.1 (List.mem_of_find?_eq_some hn));have hnp:=List.find?_some hn;simp only[Qm,Qi]at hnp;have h5:1<=cm (fun x=>fq m m.ab.Value x n) (bb (aQ m) m.ab.Value).reverse n:=y3 _ _ _ hb hnb.1
  have h6:=qW (fun x=>fq m m.ab.Value x n) (bb (aQ m) m.ab.Value).reverse n
  simp only;refine⟨y3 _ _ _ hb ?_,?_,hnb.2,.inr hnp.1⟩
  ·split
   ·exact h5
   ·exact hr.1
  ·refine Int.le_trans (qW _ _ _) ?_;split
   ·exact h6
   ·omega
theorem T6{m:af}(h2:P2 m){lo hi:Int}(hlo:1<=lo)(hle:lo<=hi)(hhi:hi<=1000):P2 (vJ m lo hi):=by
 unfold vJ;have hb:=h2.aJ;have hp:=h2.cY;have e1:∀c:Int,bo c hi=c\/bo c hi=hi:=fun c=>by unfold bo;split<;>simp
 have e2:∀c:Int,hi<=bo c hi:=fun c=>by unfold bo;split<;>omega
 have mx:∀c:Int,c<=1000->cv ⟨bo c hi,m.ab.Value⟩:=by
  intro c hc;refine⟨by have:=e2 c;simp only;omega,?_,hb.2.2.1,hb.2.2.2⟩
  rcases e1 c with e|e<;>simp only[e]<;>omega
 refine⟨h2.aK,mx _ hb.2.1,⟨?_,?_⟩,h2.bJ,.inr ⟨mx _ ?_,rfl⟩,⟨hlo,hle,e2 _⟩⟩
 ·show cv ⟨bo m.ao.aj hi,m.ao.Value⟩;rw[hp.2];exact mx _ hp.1.2.1
 ·exact hp.2
 ·rcases h2.dv with e|e
  ·rw[e];decide
  ·exact e.1.2.1
theorem Mz{m:af}(h:ba m):ba (fl m):=by
 refine zS h (qD m).all ?_;unfold fl;rcases h.body with h0|h1|h2|h3
 ·rw[Qr h0.aK];split
  ·rename_i hk;have hf:=EL h hk;exact .inr (.inr (.inl (PN (.inl h0.aJ) (.inl h0.cY) hf.fin hf.lo1 hf.le)))
  ·exact .inl h0
 ·rw[Qr h1.aK];split
  ·rename_i hk;have hf:=EL h hk;exact .inr (.inr (.inl (PN (.inr h1.aJ) h1.cY hf.fin hf.lo1 hf.le)))
  ·exact .inr (.inl h1)
 ·rw[Qs (by rw[h2.aK];decide),Qr h2.aK]
  have:=Pz h h2;exact .inr (.inr (.inl (T6 h2 this.1 this.2.1 this.2.2.1)))
 ·rw[Qs (by rw[h3.aK];decide),Qs (by rw[h3.aK];decide)]
  exact .inr (.inr (.inr h3))
theorem aaw{m:af}(h:ba m)(hk:(kH m).2.2.1=true):1<=(kH m).1/\(kH m).1<=(kH m).2.1/\(kH m).2.1<=1000/\BX m m.ab.Value (kH m).1 (kH m).2.1=true:=by
 unfold kH s8 at hk ⊢;split at hk
 ·rename_i n hn;have hnb:=wo h _ n (List.mem_reverse.1 (List.mem_of_find?_eq_some hn));have hs:=List.find?_some hn;simp only;refine⟨y3 _ _ _ (fun x hx=>(wo h _ x (List.mem_reverse.1 hx)).1) hnb.1,qW _ _ _,hnb.2,?_⟩
  rcases y2 (fun x=>BX m m.ab.Value x n) (bb (aQ m) m.ab.Value).reverse n with e|⟨e,_⟩
  ·rw[e];exact hs
  ·exact e
 ·cases hk
theorem Sf{m:af}(h:ba m)(h2:P2 m)(hk:(kH m).2.2.1=true):P3 (FD m (kH m).1 (kH m).2.1):=by
 obtain⟨g1,g2,g3,_⟩:=aaw h hk;unfold FD;exact⟨rfl,⟨by simp only;omega,g3,h2.aJ.2.2.1,h2.aJ.2.2.2⟩,rfl,rfl,rfl,⟨g1,g2,g3⟩⟩
theorem Mx{m:af}(h:ba m):ba (iW m):=by
 refine zS h (qC m).all ?_;unfold iW;split
 ·rename_i hc;rcases h.body with h0|h1|h2|h3
  ·have:=h0.aK;have:=hc.1;omega
  ·have:=h1.aK;have:=hc.1;omega
  ·exact .inr (.inr (.inr (Sf h h2 hc.2)))
  ·have:=h3.aK;have:=hc.1;omega
 ·exact h.body
theorem TW{z:ae}:∀{l:List ae},l≠[]->EK z l∈l
 |[],h=>absurd rfl h
 |x::l,_=>by
  show l.foldl (fun a y=>if bd a y=true then y else a) x∈x::l
  suffices key:∀(l:List ae) (a:ae),l.foldl (fun a y=>if bd a y=true then y else a) a=a\/l.foldl (fun a y=>if bd a y=true then y else a) a∈l by
   rcases key l x with e|e
   ·rw[e];exact Qx
   ·exact Qy _ e
  intro l
  induction l with
  |nil=>intro a;exact .inl rfl
  |cons y l ih=>
   intro a;rw[QU];rcases ih (if bd a y=true then y else a)with e|e
   ·rw[e];split
    ·exact .inr Qx
    ·exact .inl rfl
   ·exact .inr (Qy _ e)
theorem Yl{t:an}(h:gC t){s:Nat}(hs:∀k,k<10->s.testBit k=true):jw s t=true:=by
 have hn:∀x:Int,0<=x->x<10->jR s x=true:=by
  intro x h0 h1;unfold jR dV;rw[Qg h0,Qg h1,hs _ (by omega)]
  rfl
 have hc:t.bm.countP (jR s)=t.bm.length:=List.countP_eq_length.2 fun x hx=>hn x (h.nodes x hx).1 (h.nodes x hx).2
 have hi:tG s t.aN=t.aN.length:=by
  rcases h.inner with e|⟨x,h0,h1,e⟩
  ·rw[e];rfl
  ·rw[e]
   have:jw s ⟨1,[x],[]⟩=true:=by
    rw[Fj];simp[List.countP_cons,hn x h0 h1,tG]
   simp[tG,this]
 rw[Fj,hc,hi,Qi];have:=h.th.2;omega
theorem Ku{m:af}(h:ba m){n:Int}(ha:fW m n=true):∃e∈m.az,n<dW e:=by
 refine Classical.byContradiction fun hno=> ?_
 have hz:zf m n=0:=by
  refine ym fun k=> ?_
  unfold zf;rw[tD,Nat.zero_testBit,List.any_eq_false];intro e he;have:¬n<dW e:=fun hlt=>hno ⟨e,he,hlt⟩
  simp[this]
 unfold fW rX at ha;rw[hz,Qm]at ha
 have hown:j0 (fj m.ar.toNat m.aa (aQ m)) m.ar.toNat=m.aa:=by
  unfold j0;rw[Dy h.ev.ax.2 m.aa (aQ m) h.ev.ax.2,Qr rfl];rfl
 rw[hown,Yl h.aO (fun k hk=>by rw[xP (by omega)];simp[hk])]at ha
 cases ha.2
theorem R2{m:af}(h:ba m)(h1:m.aH=1)(hc:m.au=bM\/cv m.au)(hh:m.az≠[]\/m.aX≠fb\/m.au≠bM):1<=(da m).size/\(da m).size<=200:=by
 unfold da;split
 ·rename_i hz;rcases hc with e|e
  ·rw[e,bD]at hz;cases hz
  ·exact e.2.2
 ·rename_i hz;have hz:aA m.au=true:=by simpa using hz
  rw[Qs (fun h=>h h1)]
  split
  ·rename_i hp;refine⟨?_,h.oh⟩;rcases Nat.eq_zero_or_pos m.aX.size with e|e
   ·exfalso;apply hp;have:m.aX.data=#[]:=Array.eq_empty_of_size_eq_zero e
    cases hm:m.aX with
    |mk d=>rw[hm]at this;simp only at this;rw[this];rfl
   ·exact e
  ·rename_i hp
   have hne:m.az≠[]:=by
    rcases hh with e|e|e
    ·exact e
    ·exact absurd e hp
    ·exact absurd (ug.1 hz) e
   have hm:=TW (z:=bM) (l:=m.az.map (·.ab)) (by simpa using hne)
   obtain⟨e,he,heq⟩:=QP.1 hm;rw[<-heq];exact Gz (h.hv e he).1
theorem VC{e:ai}(hv:aL e=true):1<=dW e/\(dW e<=1000\/dW e=1000000):=by
 unfold dW;split
 ·exact⟨by decide,.inr rfl⟩
 ·rename_i h3;have hv':=hv;unfold aL fK at hv';rw[Qm,Qm]at hv';have hb:=hv'.2
  have gof:∀{b:ae},finite b=true->1<=b.aj/\b.aj<=1000:=by
   intro b hb;unfold finite at hb;rw[Qm,Qi]at hb;have:=(SF hb.1 hb.2);exact⟨this.1,this.2.1⟩
  by_cases h1:e.bs=1
  ·rw[Qr h1]at hb;unfold fL at hb;simp only[Qm]at hb;have:=gof hb.1.1.1.1.1.1.1.1;exact⟨this.1,.inl this.2⟩
  ·rw[Qs h1]at hb
   by_cases h2:e.bs=2
   ·rw[Qr h2]at hb;unfold qX at hb;simp only[Qm]at hb;have:=gof hb.1.1.1.1.1;exact⟨this.1,.inl this.2⟩
   ·rw[Qs h2,Qs h3]at hb;cases hb
theorem VJ(m:af):fI m=1000000\/(m.ab.aj<fI m/\fI m<1000000/\fW m (fI m)=false/\∃e∈m.az,fI m=dW e):=by
 unfold fI
 suffices key:∀(l:List ai),(∀e∈l,e∈m.az)->∀s,(s=1000000\/(m.ab.aj<s/\s<1000000/\fW m s=false/\∃e∈m.az,s=dW e))->
   (l.foldl (kb m) s=1000000\/(m.ab.aj<l.foldl (kb m) s/\l.foldl (kb m) s<1000000/\fW m (l.foldl (kb m) s)=false/\∃e∈m.az,l.foldl (kb m) s=dW e))from key _ (fun e he=>he) _ (.inl rfl)
 intro l
 induction l with
 |nil=>intro _ s hs;exact hs
 |cons x l ih=>
  intro hm s hs;rw[QU];refine ih (fun e he=>hm e (Qy _ he)) _ ?_
  unfold kb;split
  ·rename_i hc;exact .inr ⟨hc.1,by rcases hs with e|e<;>omega,hc.2.2,x,hm x Qx,rfl⟩
  ·exact hs
theorem E0{m:af}(h:ba m)(hb:0<=m.ab.aj/\m.ab.aj<=1000):m.ab.aj<=bo m.ab.aj (de (fI m) 1000)/\bo m.ab.aj (de (fI m) 1000)<=1000/\1<=bo m.ab.aj (de (fI m) 1000)/\
  (bo m.ab.aj (de (fI m) 1000)=m.ab.aj->m.ab.aj=1000)/\bo m.ab.aj (de (fI m) 1000)=de (fI m) 1000:=by
 have hmin:de (fI m) 1000<=1000/\1<=de (fI m) 1000/\(m.ab.aj<de (fI m) 1000\/de (fI m) 1000=1000):=by
  rcases VJ m with e|⟨g1,g2,_,x,hx,g4⟩
  ·rw[e];exact⟨by decide,by decide,.inr (by decide)⟩
  ·have hc:=VC (h.hv x hx).1;rw[<-g4]at hc;have:fI m<=1000:=by omega
   have e:de (fI m) 1000=fI m:=by unfold de;split<;>omega
   rw[e];omega
 unfold bo;split<;>omega
theorem Le{m:af}(h:ba m)(h1:P0 m\/P1 m)(ha:fW m m.ab.aj=true):P1 (eJ m):=by
 have hph:m.aH=1:=by rcases h1 with h|h<;>exact h.aK
 have hbc:0<=m.ab.aj/\m.ab.aj<=1000:=by
  rcases h1 with h|h
  ·rw[h.aJ];decide
  ·have:=h.aJ;exact⟨by have:=this.1;omega,this.2.1⟩
 obtain⟨c1,c2,c3,_⟩:=E0 h hbc;obtain⟨e0,he0,_⟩:=Ku h ha
 have hconf:m.au=bM\/cv m.au:=by
  rcases h1 with h|h
  ·exact .inl h.dv
  ·exact h.dv.imp id (·.1)
 have hv:=R2 h hph hconf (.inl (List.ne_nil_of_mem he0));unfold eJ;rw[Qs (by rw[hph,ha];decide)]
 have hnv:ll m=da m:=Qr hph;rw[hnv];generalize hn:bo m.ab.aj (de (fI m) 1000)=n at c1 c2 c3 ⊢
 have hpo:pH m.ao m.aw:=by
  rcases h1 with h|h
  ·exact⟨.inl h.cY,.inl h.bJ⟩
  ·exact h.fL
 refine⟨hph,⟨c3,c2,hv.1,hv.2⟩,hpo.1,hpo.2,?_,?_,?_,?_⟩
 ·rcases h1 with h|h
  ·exact .inl h.dv
  ·exact h.dv
 ·show bd ⟨n,da m⟩ m.au=false;rcases hconf with e|e
  ·rw[e]
   cases hl:bd ⟨n,da m⟩ bM with
   |false=>rfl
   |true=>have:=gH hl;have h0:(bM:ae).aj=0:=rfl;simp only at this;omega
  ·have hvc:da m=m.au.Value:=by unfold da;rw[Qr e.nz]
   rw[Cv (show(⟨n,da m⟩:ae).Value=m.au.Value from hvc),Qj]
   rcases h1 with h|h
   ·exact absurd h.dv (H3 e)
   ·have:=HH h.up;simp only;omega
 ·rcases h1 with h|h<;>exact h.bI
 ·show(if da m=m.ab.Value then m.aI else 0)=0\/(1<=(if da m=m.ab.Value then m.aI else 0)/\_<=_/\kK m.ao m.aw (da m) (if da m=m.ab.Value then m.aI else 0)=false)
  split
  ·rename_i hve;rcases h1 with h|h
   ·exact .inl h.low
   ·rcases h.low with e|⟨g1,g2,g3⟩
    ·exact .inl e
    ·refine .inr ⟨g1,?_,by rw[hve];exact g3⟩
     have:er {m with aI:=m.aI,ab:=⟨n,da m⟩}=er m:=by
      unfold er bC;simp only[hve]
     show m.aI<=er {m with aI:=m.aI,ab:=⟨n,da m⟩}
     rw[this];exact g2
  ·exact .inl rfl
theorem Se{m:af}(h:ba m)(h2:P2 m):P2 (eJ m):=by
 unfold eJ;split
 ·exact h2
 ·obtain⟨c1,c2,c3,_⟩:=E0 h ⟨by have:=h2.aJ.1;omega,h2.aJ.2.1⟩
  have hnv:ll m=m.ab.Value:=Qs (by rw[h2.aK];decide)
  rw[hnv,Qr rfl];exact⟨h2.aK,⟨c3,c2,h2.aJ.2.2⟩,h2.cY,h2.bJ,h2.dv,h2.range⟩
theorem Mu{m:af}(h:ba m):ba (eJ m):=by
 have hid:m.aH=3\/fW m m.ab.aj=false->eJ m=m:=fun hc=>Qr hc
 cases ha:fW m m.ab.aj with
 |false=>rw[hid (.inr ha)];exact h
 |true=>
  refine zS h (wR m).all ?_;rcases h.body with h0|h1|h2|h3
  ·exact .inr (.inl (Le h (.inl h0) ha))
  ·exact .inr (.inl (Le h (.inr h1) ha))
  ·exact .inr (.inr (.inl (Se h h2)))
  ·rw[hid (.inl h3.aK)];exact .inr (.inr (.inr h3))
end Go.Proofs.YtkgenianmdfmdaaGreat
namespace Go.Proofs.YtkgenianmdfmdaaGreat
open Go.TQ
theorem lexLt{a a' b b' B:Nat}(hb:b<B)(h:a<a'):a*B+b<a'*B+b':=by
 have h1:(a+1)*B<=a'*B:=Nat.mul_le_mul_right B h;rw[Nat.add_mul]at h1;omega
theorem wG{a a' b b' B:Nat}(h:a=a')(hb:b<b'):a*B+b<a'*B+b':=by rw[h];omega
theorem Cu{a b A B:Nat}(ha:a<A)(hb:b<B):a*B+b<A*B:=by
 have h1:(a+1)*B<=A*B:=Nat.mul_le_mul_right B ha;rw[Nat.add_mul]at h1;omega
theorem cv.sm{b:ae}(h:cv b):Sm b:=⟨by have:=h.1;omega,h.2.1,h.2.2.2⟩
theorem U8:Sm bM:=⟨by decide,by decide,by decide⟩
theorem oO{b:ae}(h:b=bM\/cv b):Sm b:=by
 rcases h with rfl|h
 ·exact U8
 ·exact h.sm
theorem LC{b:ae}(h:cv b):lN bM<lN b:=qJ U8 h.sm ((uv _ _).2 (.inl h.1))
 def t1(m:af):Nat:=2*m.ab.aj.toNat+(if m.ab.Value=ll m then 1 else 0)
 def pq(m:af):Nat:=lN m.ao*WB+lN m.aw
 def r1(m:af):Nat:=(pq m*WB+lN m.au)*2002+t1 m
def K1:Nat:=(WB*WB)*WB*2002
 def r2(m:af):Nat:=(((m.aR.toNat*1001+(1000 - m.aI).toNat)*WB+lN m.ao)*WB+lN m.au)*1001+m.ab.aj.toNat
def K2:Nat:=((1001*1001)*WB*WB)*1001
 def iN(m:af):Nat:=if m.aH=1 then r1 m else if m.aH=2 then K1+r2 m else K1+K2
def wE(m:af):Prop:=(m.ao=bM\/cv m.ao)/\(m.aw=bM\/cv m.aw)/\(m.au=bM\/cv m.au)/\(m.ab=bM\/cv m.ab)
theorem P0.ok{m:af}(h:P0 m):wE m:=⟨.inl h.cY,.inl h.bJ,.inl h.dv,.inl h.aJ⟩
theorem P1.ok{m:af}(h:P1 m):wE m:=⟨h.cY,h.bJ.imp id (·.1),h.dv.imp id (·.1),.inr h.aJ⟩
theorem P2.ok{m:af}(h:P2 m):wE m:=⟨.inr h.cY.1,.inl h.bJ,h.dv.imp id (·.1),.inr h.aJ⟩
theorem Tg{m:af}(h:wE m):t1 m<2002:=by
 have:m.ab.aj<=1000:=by
  rcases h.2.2.2 with e|e
  ·rw[e];decide
  ·exact e.2.1
 unfold t1;split<;>omega
theorem abg{m:af}(h:wE m):pq m<WB*WB:=Cu (mW (oO h.1)) (mW (oO h.2.1))
theorem Tx{m:af}(h:wE m):r1 m<K1:=Cu (Cu (abg h) (mW (oO h.2.2.1))) (Tg h)
theorem P2.bI{m:af}(h:P2 m):m.aR<=1000:=by have:=h.range.2.2;have:=h.cY.1.2.1;omega
theorem XP{m:af}(h:P2 m):r2 m<K2:=by
 have h1:=h.range;have h2:=h.bI;refine Cu (Cu (Cu (Cu (A:=1001) ?_ ?_) (mW h.cY.1.sm)) (mW (oO h.ok.2.2.1))) ?_
 ·omega
 ·omega
 ·have:=h.aJ.2.1;omega
theorem uT{m:af}(h:m.aH=1):iN m=r1 m:=Qr h
theorem uR{m:af}(h:m.aH=2):iN m=K1+r2 m:=by unfold iN;rw[Qs (by omega),Qr h]
theorem US{m:af}(h:m.aH=3):iN m=K1+K2:=by unfold iN;rw[Qs (by omega),Qs (by omega)]
theorem R9{m:af}(h:ba m):iN m<=K1+K2:=by
 rcases h.body with h0|h1|h2|h3
 ·rw[uT h0.aK];have:=Tx h0.ok;omega
 ·rw[uT h1.aK];have:=Tx h1.ok;omega
 ·rw[uR h2.aK];have:=XP h2;omega
 ·rw[US h3.aK];exact QI _
theorem rZ.up_{p q b p' q':ae}(h:pH p q)(hb:b=bM\/cv b)(hj:rZ p q b p' q'):(p'=p/\q'=q)\/lN p*WB+lN q<lN p'*WB+lN q':=by
 have hok:=hj.ok h hb;have hp:=oO h.1;have hq:Sm q:=oO (h.2.imp id (·.1))
 cases hj with
 |same=>exact .inl ⟨rfl,rfl⟩
 |first h1 h2=>
  subst h1 h2;rcases hb with e|e
  ·exact .inl ⟨e,rfl⟩
  ·exact .inr (lexLt (mW hq) (LC e))
 |up h1 hl hc=>exact .inr (lexLt (mW hq) (qJ hp (oO hb) hl))
 |Ar h1 hl hc=>exact .inr (lexLt (mW hq) (qJ hp (oO hb) hl))
 |under h1 hl hc hq'=>
  rcases hq' with e|e
  ·subst e;rcases hb with e2|e2
   ·exact .inl ⟨rfl,e2⟩
   ·exact .inr (wG rfl (LC e2))
  ·exact .inr (wG rfl (qJ hq (oO hb) e))
theorem tL{m m':af}(he:ff m m')(h1:m'.aH=m.aH)(h2:m'.ab=m.ab)(h3:m'.ao=m.ao)(h4:m'.aw=m.aw)(h5:m'.au=m.au)(h6:m'.aI=m.aI)(h7:m'.aR=m.aR):m'=m:=by
 obtain⟨e1,e2,e3,e4,e5,e6⟩:=he;cases m;cases m';simp only at*;subst e1 e2 e3 e4 e5 e6 h1 h2 h3 h4 h5 h6 h7;rfl
theorem Ol{m m':af}(he:ff m m')(h:lM m m'=true):m'=m:=by
 unfold lM at h;simp only[Qm,Qi,qw]at h;obtain⟨⟨⟨⟨⟨⟨h1,h2⟩,h3⟩,h4⟩,h5⟩,h6⟩,h7⟩:=h;exact tL he h1.symm h2.symm h3.symm h4.symm h5.symm h6.symm h7.symm
theorem oP(m:af):lM m m=true:=by
 unfold lM;simp only[decide_true,qw.2 rfl,Bool.and_self]
theorem abe{m m':af}(h:wE m)(hlt:pq m<pq m'):r1 m<r1 m':=lexLt (Tg h) (lexLt (mW (oO h.2.2.1)) hlt)
theorem acF{m m':af}(h:wE m)(hpq:pq m=pq m')(hlt:lN m.au<lN m'.au):r1 m<r1 m':=lexLt (Tg h) (wG hpq hlt)
theorem acE{m m':af}(hpq:pq m=pq m')(hc:m.au=m'.au)(hlt:t1 m<t1 m'):r1 m<r1 m':=wG (by rw[hpq,hc]) hlt
theorem Jf{m:af}(h1:P1 m):oi m m.ao m.aw=m.aI:=by
 unfold oi;split
 ·rename_i hc;rcases h1.low with e|⟨g1,g2,g3⟩
  ·exact absurd e hc.2
  ·rw[Vc g1 g3,Qs (by omega)]
 ·rfl
theorem acs{m:af}(h:ba m):cy m=m\/iN m<iN (cy m):=by
 have hid:m.aH=3\/aA m.ab=true->cy m=m:=fun hc=>Qr hc
 rcases h.body with h0|h1|h2|h3
 ·exact .inl (hid (.inr (by rw[h0.aJ];exact bD)))
 ·have hj:=(Fq h h1.fL).up_ h1.fL (vn h);have he:cy m={m with ao:=(cu m.ao m.aw (c9 (dJ m))).1,aw:=(cu m.ao m.aw (c9 (dJ m))).2,aI:=oi m (cu m.ao m.aw (c9 (dJ m))).1 (cu m.ao m.aw (c9 (dJ m))).2}:=Qs (by rw[h1.aK,h1.aJ.nz];decide)
  rcases hj with⟨e1,e2⟩|hlt
  ·left;rw[he,e1,e2,Jf h1]
  ·right;rw[uT h1.aK,uT (by rw[he];exact h1.aK)]
   exact abe h1.ok (by rw[he];exact hlt)
 ·have hj:=(Fq h h2.fL).up_ h2.fL (vn h);have hk:=Sd h h2;have he:cy m={m with ao:=(cu m.ao m.aw (c9 (dJ m))).1,aw:=(cu m.ao m.aw (c9 (dJ m))).2,aI:=oi m (cu m.ao m.aw (c9 (dJ m))).1 (cu m.ao m.aw (c9 (dJ m))).2}:=Qs (by rw[h2.aK,h2.aJ.nz];decide)
  have hlow:∀p q,oi m p q=m.aI:=fun p q=>Qs (fun h=>by have:=h.1;rw[h2.aK]at this;cases this)
  rcases hj with⟨e1,e2⟩|hlt
  ·left;rw[he,e1,e2,hlow]
  ·right;rw[uR h2.aK,uR (by rw[he];exact h2.aK)]
   have e2:(cu m.ao m.aw (c9 (dJ m))).2=m.aw:=by
    have h3:=hk.2.2;rw[he]at h3;exact h3.trans h2.bJ.symm
   have hp:lN m.ao<lN (cy m).ao:=by
    rw[he];simp only;rw[e2]at hlt;refine Nat.lt_of_not_le fun hle=> ?_
    have:=Nat.mul_le_mul_right WB hle;omega
   have e3:(cy m).aR=m.aR/\(cy m).aI=m.aI/\(cy m).au=m.au/\(cy m).ab=m.ab:=by rw[he];exact⟨rfl,hlow _ _,rfl,rfl⟩
   have:r2 m<r2 (cy m):=by
    unfold r2;rw[e3.1,e3.2.1,e3.2.2.1,e3.2.2.2];exact lexLt (by have:=h2.aJ.2.1;omega) (lexLt (mW (oO h2.ok.2.2.1)) (wG rfl hp))
   omega
 ·exact .inl (hid (.inl h3.aK))
theorem acr{m:af}(h:ba m):fX m=m\/iN m<iN (fX m):=by
 rcases h.body with h0|h1|h2|h3
 ·exact .inl (oQ (.inr (.inl (by rw[h0.aJ];exact bD))))
 ·obtain⟨g1,g2⟩:=Ld h h1;rcases g2 with e|⟨e1,e2,e3,_⟩
  ·exact .inl e
  ·right;rw[uT h1.aK,uT g1.aK];exact acF h1.ok (by unfold pq;rw[e1,e2]) (qJ (oO h1.ok.2.2.1) (oO g1.ok.2.2.1) e3)
 ·exact .inl (oQ (.inl (by rw[h2.aK];decide)))
 ·exact .inl (oQ (.inl (by rw[h3.aK];decide)))
theorem Jv(a b:Int):(bo a b=a/\b<=a)\/(bo a b=b/\a<b):=by unfold bo;split<;>omega
theorem lP{a b:ae}(h1:a.aj=b.aj)(h2:a.Value=b.Value):a=b:=by cases a;cases b;simp only at h1 h2;rw[h1,h2]
theorem acw{m:af}(h:ba m):fl m=m\/iN m<iN (fl m):=by
 have hC:m.aH=1->wE m->fl m=m\/iN m<iN (fl m):=by
  intro hp hok
  by_cases hk:(ez m).2.2.2.1=true
  ·right;have e:fl m=EY m (ez m).1 (ez m).2.1 (ez m).2.2.1:=by unfold fl;rw[Qr hp,Qr hk]
   rw[uT hp,uR (by rw[e];rfl)]
   have:=Tx hok;omega
  ·left;unfold fl;rw[Qr hp,Qs hk]
 rcases h.body with h0|h1|h2|h3
 ·exact hC h0.aK h0.ok
 ·exact hC h1.aK h1.ok
 ·have e:fl m=vJ m (dG m).1 (dG m).2:=by unfold fl;rw[Qs (by rw[h2.aK];decide),Qr h2.aK]
  obtain⟨g1,g2,g3,g4⟩:=Pz h h2;have h2':=T6 h2 g1 g2 g3;rw[e]
  have hr:m.aR.toNat<=1000/\(1000 - m.aI).toNat<1001/\m.ab.aj.toNat<1001:=by
   have:=h2.bI;have:=h2.range;have:=h2.aJ.2.1;omega
  have hcB:m.au=(vJ m (dG m).1 (dG m).2).au\/lN m.au<lN (vJ m (dG m).1 (dG m).2).au:=by
   rcases h2.dv with e|⟨hf,hv⟩
   ·right;rw[e]
    exact LC (h2'.dv.resolve_left (fun e=>by
     have h1:=h2'.range;have h3:(vJ m (dG m).1 (dG m).2).au.aj=bo m.au.aj (dG m).2:=rfl;rw[e]at h3;have h4:=Jv m.au.aj (dG m).2;have h5:(bM:ae).aj=0:=rfl
     omega)).1
   ·rcases Jv m.au.aj (dG m).2 with⟨e1,_⟩|⟨e1,e2⟩
    ·exact .inl (lP e1.symm hv)
    ·right;refine qJ hf.sm (oO h2'.ok.2.2.1) ((uv _ _).2 (.inl ?_));show m.au.aj<bo m.au.aj (dG m).2;omega
  have hpB:m.ao=(vJ m (dG m).1 (dG m).2).ao\/lN m.ao<lN (vJ m (dG m).1 (dG m).2).ao:=by
   rcases Jv m.ao.aj (dG m).2 with⟨e1,_⟩|⟨e1,e2⟩
   ·exact .inl (lP e1.symm rfl)
   ·right;refine qJ h2.cY.1.sm h2'.cY.1.sm ((uv _ _).2 (.inl ?_));show m.ao.aj<bo m.ao.aj (dG m).2;omega
  have hbB:m.ab=(vJ m (dG m).1 (dG m).2).ab\/m.ab.aj<(vJ m (dG m).1 (dG m).2).ab.aj:=by
   rcases Jv m.ab.aj (dG m).2 with⟨e1,_⟩|⟨e1,e2⟩
   ·exact .inl (lP e1.symm rfl)
   ·right;show m.ab.aj<bo m.ab.aj (dG m).2;omega
  rw[uR h2.aK,uR h2'.aK];have hPs:=mW h2.cY.1.sm;have hCs:=mW (oO h2.ok.2.2.1);have hHi:(vJ m (dG m).1 (dG m).2).aR=(dG m).2:=rfl;have hLo:(vJ m (dG m).1 (dG m).2).aI=(dG m).1:=rfl;have fin:r2 m<r2 (vJ m (dG m).1 (dG m).2)->K1+r2 m<K1+r2 (vJ m (dG m).1 (dG m).2):=fun h=>by omega
  have hrng:=h2.range;rcases g4 with⟨e1,e2⟩|e1
  ·rcases Int.lt_or_eq_of_le e2 with e3|e3
   ·
    refine .inr (fin (lexLt hr.2.2 (lexLt hCs (lexLt hPs (wG ?_ ?_)))))
    ·rw[hHi,e1]
    ·rw[hLo];omega
   ·rcases hpB with hp|hp
    ·rcases hcB with hc|hc
     ·rcases hbB with hb|hb
      ·left;exact tL ⟨rfl,rfl,rfl,rfl,rfl,rfl⟩ rfl hb.symm hp.symm rfl hc.symm e3 e1
      ·refine .inr (fin (wG ?_ (by have:=h2.aJ.1;omega)))
       rw[hHi,hLo,<-hp,<-hc,e1,e3]
     ·refine .inr (fin (lexLt hr.2.2 (wG ?_ hc)));rw[hHi,hLo,<-hp,e1,e3]
    ·refine .inr (fin (lexLt hr.2.2 (lexLt hCs (wG ?_ hp))));rw[hHi,hLo,e1,e3]
  ·refine .inr (fin (lexLt hr.2.2 (lexLt hCs (lexLt hPs (lexLt hr.2.1 ?_)))));rw[hHi];omega
 ·left;unfold fl;rw[Qs (by rw[h3.aK];decide),Qs (by rw[h3.aK];decide)]
theorem acv{m:af}(h:ba m):iW m=m\/iN m<iN (iW m):=by
 by_cases hc:m.aH=2/\(kH m).2.2.1=true
 ·right;have e:iW m=FD m (kH m).1 (kH m).2.1:=Qr hc;rw[uR hc.1,US (by rw[e];rfl)]
  rcases h.body with h0|h1|h2|h3
  ·have:=h0.aK;have:=hc.1;omega
  ·have:=h1.aK;have:=hc.1;omega
  ·have:=XP h2;omega
  ·have:=h3.aK;have:=hc.1;omega
 ·exact .inl (Qs hc)
theorem acu{m:af}(h:ba m):eJ m=m\/iN m<iN (eJ m):=by
 have hid:m.aH=3\/fW m m.ab.aj=false->eJ m=m:=fun hc=>Qr hc
 cases ha:fW m m.ab.aj with
 |false=>exact .inl (hid (.inr ha))
 |true=>
  have hC:m.aH=1->wE m->0<=m.ab.aj/\m.ab.aj<=1000->eJ m=m\/iN m<iN (eJ m):=by
   intro hp hok hb;obtain⟨c1,c2,c3,c4,_⟩:=E0 h hb;have e:eJ m={m with aI:=if ll m=m.ab.Value then m.aI else 0,ab:=⟨bo m.ab.aj (de (fI m) 1000),ll m⟩}:=Qs (by rw[hp,ha];decide)
   have hnv:ll (eJ m)=ll m:=by
    unfold ll da;rw[e];simp only[hp,Qt,not_true_eq_false,Qu,ne_eq]
   by_cases hs:bo m.ab.aj (de (fI m) 1000)=m.ab.aj/\ll m=m.ab.Value
   ·left;rw[e];refine tL ⟨rfl,rfl,rfl,rfl,rfl,rfl⟩ rfl (lP hs.1 hs.2) rfl rfl rfl ?_ rfl;exact Qr hs.2
   ·right;rw[uT hp,uT (by rw[e];exact hp)]
    refine acE (by rw[e];rfl) (by rw[e]) ?_
    unfold t1;rw[hnv];have hb':(eJ m).ab=⟨bo m.ab.aj (de (fI m) 1000),ll m⟩:=by rw[e]
    rw[hb',Qr rfl];simp only
    by_cases hv:ll m=m.ab.Value
    ·rw[Qr hv.symm];have:bo m.ab.aj (de (fI m) 1000)≠m.ab.aj:=fun e=>hs ⟨e,hv⟩
     omega
    ·rw[Qs (fun e=>hv e.symm)]
     omega
  rcases h.body with h0|h1|h2|h3
  ·exact hC h0.aK h0.ok (by rw[h0.aJ];decide)
  ·exact hC h1.aK h1.ok ⟨by have:=h1.aJ.1;omega,h1.aJ.2.1⟩
  ·obtain⟨c1,c2,c3,c4,_⟩:=E0 h ⟨by have:=h2.aJ.1;omega,h2.aJ.2.1⟩
   have hnv:ll m=m.ab.Value:=Qs (by rw[h2.aK];decide)
   have e:eJ m={m with ab:=⟨bo m.ab.aj (de (fI m) 1000),m.ab.Value⟩}:=by
    unfold eJ;rw[Qs (by rw[h2.aK,ha];decide),hnv,Qr rfl]
   rw[e]
   by_cases hs:bo m.ab.aj (de (fI m) 1000)=m.ab.aj
   ·left;exact tL ⟨rfl,rfl,rfl,rfl,rfl,rfl⟩ rfl (lP hs rfl) rfl rfl rfl rfl rfl
   ·right;rw[uR h2.aK,uR (show({m with ab:=⟨bo m.ab.aj (de (fI m) 1000),m.ab.Value⟩}:af).aH=2 from h2.aK)]
    have:r2 m<r2 {m with ab:=⟨bo m.ab.aj (de (fI m) 1000),m.ab.Value⟩}:=by
     refine wG rfl ?_;have:=h2.aJ.1;show m.ab.aj.toNat<(bo m.ab.aj (de (fI m) 1000)).toNat;omega
    omega
  ·exact .inl (hid (.inl h3.aK))
end Go.Proofs.YtkgenianmdfmdaaGreat
namespace Go.Proofs.YtkgenianmdfmdaaGreat
open Go.TQ
def abS(p:ai->Bool):Prop:=∀e s,p {e with aF:=s}=p e
structure Alike (l l':List ai):Prop where
 view:∀ax,ax<10->∀t,fj ax t l=fj ax t l'
 R1:∀p,abS p->c8 p (bK l)=c8 p (bK l')
 bal:dP l=dP l'
 val:eZ l=eZ l'
 ib:∀v,bb l v=bb l' v
section
variable {l l' : List ai} (h : Alike l l')
 include h
theorem Alike.acc{ax:Nat}(hn:ax<10)(t:an):jt ax t l=jt ax t l':=by
 funext b
 unfold jt;rw[h.view ax hn t,h.R1 _ (fun e s=>rfl),h.R1 _ (fun e s=>rfl)]
theorem Alike.dv{ax:Nat}(hn:ax<10)(t:an):iO ax t l=iO ax t l':=by
 funext b
 unfold iO;rw[h.view ax hn t,h.R1 _ (fun e s=>rfl)]
theorem Alike.ready{ax:Nat}(hn:ax<10)(t:an):jO ax t l=jO ax t l':=by
 funext v lo hi
 unfold jO;rw[h.view ax hn t,h.R1 _ (fun e s=>rfl),h.R1 _ (fun e s=>rfl)]
theorem Alike.sure{ax:Nat}(hn:ax<10)(t:an):pc ax t l=pc ax t l':=by
 funext v lo hi
 unfold pc;rw[h.view ax hn t,h.R1 _ (fun e s=>rfl)]
theorem Alike.next{ax:Nat}(hn:ax<10)(t:an)(p q:ae)(v:ByteArray):gU ax t l p q v=gU ax t l' p q v:=by
 unfold gU;rw[h.bal,h.acc hn t]
theorem Alike.bI{ax:Nat}(hn:ax<10)(t:an)(a:ae):tr ax t l a=tr ax t l' a:=by
 unfold tr;rw[h.bal,h.dv hn t]
theorem Alike.E6(x:ByteArray->Int->Int->Bool)(p q:ae):fD x l p q=fD x l' p q:=by
 unfold fD;rw[h.val];congr 1
 funext s v
 rw[h.ib]
theorem Alike.first(x:ByteArray->Int->Int->Bool)(p q:ae)(s:Bool×ae):mr x l p q s=mr x l' p q s:=by
 unfold mr;rw[h.ib]
end
theorem Kt{l l':List ai}(hl:oy l)(hn:l.length<=1000)(hl':oy l')(hn':l'.length<=1000)
  (h1:∀x,(∃e∈l,x∈said e/\aA x=false)↔∃e∈l',x∈said e/\aA x=false) (h2:∀x,(∃e∈l,aL e=true/\x=e.ab.Value)↔∃e∈l',aL e=true/\x=e.ab.Value)
  (h3:∀v x,x∈ends v l↔x∈ends v l'):dP l=dP l'/\eZ l=eZ l'/\∀v,bb l v=bb l' v:=by
 obtain⟨_,a2,_,a4⟩:=kv hl.aO hn;obtain⟨_,b2,_,b4⟩:=kv hl'.aO hn';obtain⟨_,c2,_,c4⟩:=nc hl.aO hn;obtain⟨_,d2,_,d4⟩:=nc hl'.aO hn';refine⟨wz.flip.unique a2 b2 fun x=> ?_,wy.unique c2 d2 fun x=> ?_,fun v=> ?_⟩
 ·rw[a4,b4];exact h1 x
 ·rw[c4,d4];exact h2 x
 ·obtain⟨_,e2,_,e4⟩:=gB hl.aO hn v;obtain⟨_,f2,_,f4⟩:=gB hl'.aO hn' v;refine yc.unique (e2.imp fun h=>Qg h) (f2.imp fun h=>Qg h) fun x=> ?_
  rw[e4,f4];exact h3 v x
theorem Uq{l l':List ai}(hl:oy l)(hn:l.length<=1000)(ha:wO l)(h:l.Perm l'):Alike l l':=by
 have hl':oy l':=⟨by rw[<-h.length_eq];exact hl.len,fun e he=>hl.aO e (h.mem_iff.2 he)⟩
 have hm:∀(P:ai->Prop),(∃e∈l,P e)↔∃e∈l',P e:=fun P=>⟨fun⟨e,he,hp⟩=>⟨e,h.mem_iff.1 he,hp⟩,fun⟨e,he,hp⟩=>⟨e,h.mem_iff.2 he,hp⟩⟩
 obtain⟨a,b,c⟩:=Kt hl hn hl' (by rw[<-h.length_eq];exact hn) (fun x=>hm _) (fun x=>hm _) (fun v x=>by rw[vU,vU];exact hm _)
 exact⟨fun ax hn t=>Te hn t ha h,fun p _=>Uz (Rz h) p,a,b,c⟩
theorem VQ{l:List ai}(hl:oy l)(hn:l.length<=1000)(f:ai->ai)(hf:∀e∈l,f e={e with aF:=(f e).aF}/\aL (f e)=aL e):Alike l (l.map f):=by
 have e1:∀e∈l,(f e).ar=e.ar/\(f e).aa=e.aa/\(f e).ab=e.ab/\(f e).bs=e.bs/\(f e).ao=e.ao/\(f e).aw=e.aw/\(f e).aI=e.aI/\(f e).aR=e.aR:=fun e he=>by
  have:=(hf e he).1;rw[this];exact⟨rfl,rfl,rfl,rfl,rfl,rfl,rfl,rfl⟩
 have hl':oy (l.map f):=⟨by rw[QC];exact hl.len,fun e he=>by
  obtain⟨x,hx,rfl⟩:=QP.1 he
  rw[(e1 x hx).2.1];exact hl.aO x hx⟩
 have hm:∀(P:ai->Prop),(∀e∈l,P e↔P (f e))->((∃e∈l,P e)↔∃e∈l.map f,P e):=fun P hP=>⟨fun⟨e,he,hp⟩=>⟨f e,QP.2 ⟨e,he,rfl⟩,(hP e he).1 hp⟩,fun⟨e,he,hp⟩=>by
  obtain⟨x,hx,rfl⟩:=QP.1 he
  exact⟨x,hx,(hP x hx).2 hp⟩⟩
 have hsaid:∀e∈l,said (f e)=said e:=fun e he=>by
  obtain⟨g1,g2,g3,g4,g5,g6,g7,g8⟩:=e1 e he;unfold said at_
  rw[(hf e he).2,g4,g3,g5,g6]
 have hbnd:∀v,∀e∈l,gp v (f e)=gp v e:=fun v e he=>by
  obtain⟨g1,g2,g3,g4,g5,g6,g7,g8⟩:=e1 e he;unfold gp;simp only[(hf e he).2,g4,g3,g7,g8]
 obtain⟨a,b,c⟩:=Kt hl hn hl' (by rw[QC];exact hn) (fun x=>hm _ fun e he=>by rw[hsaid e he]) (fun x=>hm _ fun e he=>by rw[(hf e he).2,(e1 e he).2.2.1])
  (fun v x=>by rw[vU,vU];exact hm _ fun e he=>by rw[hbnd v e he,(e1 e he).2.2.2.2.2.2.1,(e1 e he).2.2.2.2.2.2.2])
 refine⟨fun ax hn t=> ?_,fun p hp=> ?_,a,b,c⟩
 ·unfold fj;generalize (List.replicate 10 ft).set ax ⟨true,t⟩=ms
  suffices key:∀(k:List ai) (ms:List bg),(∀e∈k,e∈l)->k.foldl c5 ms=(k.map f).foldl c5 ms from key l ms fun e he=>he
  intro k
  induction k with
  |nil=>intro ms _;rfl
  |cons x k ih=>
   intro ms hk;have hx:=hk x Qx
   have:c5 ms (f x)=c5 ms x:=by
    unfold c5;rw[(hf x hx).2,(e1 x hx).1,(e1 x hx).2.1]
   rw[QD,QU,QU,this];exact ih _ fun e he=>hk e (Qy _ he)
 ·unfold bK
  suffices key:∀(k:List ai),(∀e∈k,e∈l)->c8 p (k.filter aL)=c8 p ((k.map f).filter aL)from key l fun e he=>he
  intro k
  induction k with
  |nil=>intro _;rfl
  |cons x k ih=>
   intro hk;have hx:=hk x Qx
   have hpx:p (f x)=p x:=by
    rw[(hf x hx).1];exact hp x _
   rw[QD,List.filter_cons,List.filter_cons,(hf x hx).2];split
   ·rw[c8,c8,hpx,(e1 x hx).1,ih fun e he=>hk e (Qy _ he)]
   ·exact ih fun e he=>hk e (Qy _ he)
structure fZ (m:af):Prop where
 zero:aA m.ab=true->m.aF=0
 pos:aA m.ab=false->1<=m.aF
def Er(m:af):ai:=⟨m.ar,m.bp,m.aF,m.aa,m.aH,m.ab,m.ao,m.aw,m.aI,if m.aH=1 then er m else m.aR⟩
theorem wS(m:af):dm m=some (Er m):=by
 unfold dm Er er;simp only[aU,an.eta,cx,eL,Qa]
 by_cases h1:m.aH=1
 ·rw[Qg h1,Qr h1];cases aA m.au<;>cases bC m.au m.ab<;>rfl
 ·rw[Qh h1,Qs h1];rfl
theorem Bm{m:af}(h:ba m):Er m=bO m:=by
 unfold Er bO;rcases h.body with h0|h1|h2|h3
 ·rw[Qr h0.aK,Qr h0.aK]
 ·rw[Qr h1.aK,Qr h1.aK]
 ·rw[Qs (by rw[h2.aK];decide),Qs (by rw[h2.aK];decide),Qr h2.aK,h2.bJ]
 ·rw[Qs (by rw[h3.aK];decide),Qs (by rw[h3.aK];decide),Qs (by rw[h3.aK];decide),h3.bJ,h3.cY]
theorem Sg{m:af}(hs:fZ m)(hz:aA m.ab=false):gK m=bO m:=by
 unfold gK
 have:bo (bO m).aF 1=(bO m).aF:=by
  have:=hs.pos hz;rw[qU];unfold bo;split<;>omega
 rw[this]
def rL(m:af):List ai:=if aA m.ab=true then m.az else m.az++[Er m]
theorem VH{l:List ai}(hl:l.length<=1000):dZ l=some l:=by
 unfold dZ;have h1:bx 176 (List.length ([]:List ai)+List.length l)=true:=b0 (by simp;omega)
 rw[h1]
 cases l with
 |nil=>simp
 |cons x l=>rfl
theorem Eo{m:af}(h:m.az.length<=100):cO ⟨m⟩=some (rL m,⟨m⟩):=by
 unfold cO rL;simp only[af.eta,an.eta,ai.eta,ay.eta,cx,wS,Qa,VH (show m.az.length<=1000 by omega)]
 cases aA m.ab with
 |true=>rfl
 |false=>
  simp only[Ql,Qq,Qu];rw[b0 (by simp;omega)]
  rfl
theorem ba.apart{m:af}(h:ba m):wO (aQ m):=by
 have hs:∀a∈m.az,∀b∈m.az,a.ar=b.ar->a=b:=by
  have:=h.ob;revert this;generalize m.az=l;intro hp
  induction l with
  |nil=>intro a ha;cases ha
  |cons x l ih=>
   rw[Q4]at hp;intro a ha b hb e;rcases QA.1 ha with ha'|ha'<;>rcases QA.1 hb with hb'|hb'
   ·rw[ha',hb']
   ·have:=hp.1 b hb';rw[ha']at e;omega
   ·have:=hp.1 a ha';rw[hb']at e;omega
   ·exact ih hp.2 a ha' b hb' e
 intro a ha b hb e;rcases wv ha with ha|⟨_,rfl⟩<;>rcases wv hb with hb|⟨_,rfl⟩
 ·exact hs a ha b hb e
 ·exact absurd (e.trans (qV m)) (h.hv a ha).2.2.2
 ·exact absurd (e.symm.trans (qV m)) (h.hv b hb).2.2.2
 ·rfl
theorem MA{m:af}(h:ba m)(hs:fZ m):(aQ m).Perm (rL m):=by
 unfold aQ rL;split
 ·exact .refl _
 ·rename_i hz;rw[Bm h,<-Sg hs (by simpa using hz)]
  exact zW _ _
theorem kq{m:af}(h:ba m)(hs:fZ m):Alike (aQ m) (rL m):=Uq h.ev.jX.1 h.ev.jX.2 h.apart (MA h hs)
theorem oR{m:af}(h:ba m)(hs:fZ m):oy (rL m)/\(rL m).length<=1000:=by
 have hp:=MA h hs;have:=h.ev.jX;exact⟨⟨by rw[<-hp.length_eq];exact this.1.len,fun e he=>this.1.aO e (hp.mem_iff.2 he)⟩,by rw[<-hp.length_eq];exact this.2⟩
section
variable {m : af} (h : ba m) (hs : fZ m)
 include h hs
theorem Z7(p q:ae)(v:ByteArray):mf m.ar m.aa (rL m) p q v=some (gU m.ar.toNat m.aa (aQ m) p q v):=by
 have:=YE h.ev.ax.2 h.ev.aO (oR h hs).1 (oR h hs).2 p q v
 rwa [h.ev.ax.1,<-(kq h hs).next h.ev.ax.2]at this
theorem Z8(a:ae):jM m.ar m.aa (rL m) a=some (tr m.ar.toNat m.aa (aQ m) a):=by
 have:=YF h.ev.ax.2 h.ev.aO (oR h hs).1 (oR h hs).2 a
 rwa [h.ev.ax.1,<-(kq h hs).bI h.ev.ax.2]at this
theorem YG:oG m.ar m.aa (rL m) m.ao m.aw=some (ez m):=by
 have hl:=oR h hs;have:=aaT (OE h.ev.ax.2 h.ev.aO hl.1) hl.1 hl.2 (look_eq h.ev.ax.2 h.ev.aO hl.1) m.ao m.aw;rw[h.ev.ax.1,<-(kq h hs).ready h.ev.ax.2,<-(kq h hs).E6,<-(kq h hs).first]at this
 exact this
theorem abi:nJ m.ar m.aa (rL m) m.ab.Value m.aI m.aR=some ((dG m).1,(dG m).2,()):=by
 have hl:=oR h hs;have:=ZL (OE h.ev.ax.2 h.ev.aO hl.1) hl.1 hl.2 (look_eq h.ev.ax.2 h.ev.aO hl.1) m.ab.Value m.aI m.aR;rw[h.ev.ax.1,<-(kq h hs).ready h.ev.ax.2,<-(kq h hs).ib]at this;exact this
theorem abh:oH m.ar m.aa (rL m) m.ab.Value=some (kH m):=by
 have hl:=oR h hs;have:=aaU (Yi h.ev.ax.2 h.ev.aO hl.1) hl.1 hl.2 (look_eq h.ev.ax.2 h.ev.aO hl.1) m.ab.Value;rw[h.ev.ax.1,<-(kq h hs).sure h.ev.ax.2,<-(kq h hs).ib]at this;exact this
end
theorem Mn(v:ByteArray)(n:Int)(p q:ae):mH v n p q=some (jr v n p q):=by
 unfold mH jr;generalize bo n 1=k
 have hst:∀(i:Nat) (x:ae) (k:Int),i<2->[p,q][i]?=some x->
   (fun(v1:Int×Int×Unit)=>
    bif (decide (v1.2.1<((List.length [p,q]:Nat):Int)))then
    bj (fun(v2:Int×Unit)=>some (Sum.inl (v2.1,(aB .i64 v1.2.1 (1:Int)),()))) fun j3=>
    Option.bind (idx [p,q] v1.2.1) fun x4=>
    Option.bind (fH x4) fun r5=>
    Option.bind (bif (!r5)then some true else Option.bind (dC x4 (ae.mk v1.1 v)) fun r6=>some (!r6)) fun b7=>
    bif b7 then j3 (v1.1,())
    else Option.bind (dC x4 (ae.mk x4.aj v)) fun r8=>
     bif r8 then j3 ((aB .i64 x4.aj (1:Int)),())else j3 (x4.aj,())
    else(Option.map Sum.inr (some v1.1):Option ((Int×Int×Unit)⊕Int))) (k,(i:Int),())=some (Sum.inl (ti v k x,((i+1:Nat):Int),())):=by
  intro i x k hi hx;have hd:decide ((i:Int)<((List.length [p,q]:Nat):Int))=true:=Qg (by simp;omega)
  have hw:aB .i64 (i:Int) 1=((i+1:Nat):Int):=bH (by omega) (by omega)
  have hx':idx [p,q] (i:Int)=some x:=by rw[bz];exact hx
  simp only[hd,hw,hx',Qk,aU,Qa,rq,qc];unfold ti
  cases hv:cq x with
  |false=>simp
  |true=>
   have hc:aB .i64 x.aj 1=x.aj+1:=by
    have:1<=x.aj/\x.aj<=1000000:=by
     simp only[cq,Qm,Qn,Qi]at hv;omega
    exact bH (by omega) (by omega)
   cases h1:dK x ⟨k,v⟩with
   |false=>simp
   |true=>cases h2:dK x ⟨x.aj,v⟩<;>simp[hc]
 refine(bl (hst 0 p k (by omega) rfl)).trans ((bl (hst 1 q _ (by omega) rfl)).trans (bU ?_))
 rfl
theorem WK(b:ae):(⟨de b.aj 1000,b.Value⟩:ae)=c9 b:=by
 unfold de c9;split<;>rfl
section
variable {m : af} (h : ba m) (hs : fZ m)
 include h
theorem TG(hz:aA (dJ m)=true):cy m=m:=by
 have hid:m.aH=3\/aA m.ab=true->cy m=m:=fun hc=>Qr hc
 have hj:cu m.ao m.aw (c9 (dJ m))=(m.ao,m.aw):=by
  have:c9 (dJ m)=bM:=by rw[ug.1 hz];decide
  rw[this];exact Qr bD
 have he:¬(m.aH=3\/aA m.ab=true)->oi m m.ao m.aw=m.aI->cy m=m:=by
  intro hc hl;unfold cy;rw[Qs hc,hj];simp only;rw[hl]
 rcases h.body with h0|h1|h2|h3
 ·exact hid (.inr (by rw[h0.aJ];exact bD))
 ·exact he (by rw[h1.aK,h1.aJ.nz];decide) (Jf h1)
 ·exact he (by rw[h2.aK,h2.aJ.nz];decide) (Qs (fun h=>by have:=h.1;rw[h2.aK]at this;cases this))
 ·exact hid (.inl h3.aK)
 include hs
theorem TE:jo ⟨m⟩=some ((),⟨cy m⟩):=by
 have hl:m.az.length<=100:=by have:=h.len;omega
 unfold jo;simp only[af.eta,an.eta,ay.eta,cx,Eo hl,Z7 h hs,Yy,Mn,wS,Qa,aU,WK]
 by_cases h3:m.aH=3\/aA m.ab=true
 ·have e:cy m=m:=Qr h3;rw[e];rcases h3 with h3|h3
  ·rw[Qg h3];cases aA m.ab<;>rfl
  ·rw[h3];rfl
 ·have hz:aA m.ab=false:=by
   cases hz:aA m.ab with
   |true=>exact absurd (.inr hz) h3
   |false=>rfl
  have h3':¬m.aH=3:=fun e=>h3 (.inl e)
  rw[hz,Qh h3'];simp only[Ql,Qa]
  have hmain:∀v:ByteArray,v=zG m->(bif aA (gU m.ar.toNat m.aa (aQ m) m.ao m.aw v)then some ((),(⟨m⟩:ay))else
    Option.bind (bif decide (m.aH=1)then some (!decide (m.aI=0))else some false) fun b9=>
    bif b9 then
     bif decide ((Er ⟨m.ar,m.bp,m.aF,m.aa,m.aH,m.ab,(cu m.ao m.aw (c9 (gU m.ar.toNat m.aa (aQ m) m.ao m.aw v))).1,(cu m.ao m.aw (c9 (gU m.ar.toNat m.aa (aQ m) m.ao m.aw v))).2,m.au,jr m.ab.Value m.aI (cu m.ao m.aw (c9 (gU m.ar.toNat m.aa (aQ m) m.ao m.aw v))).1 (cu m.ao m.aw (c9 (gU m.ar.toNat m.aa (aQ m) m.ao m.aw v))).2,m.aR,m.aX,m.az⟩).aR<jr m.ab.Value m.aI (cu m.ao m.aw (c9 (gU m.ar.toNat m.aa (aQ m) m.ao m.aw v))).1 (cu m.ao m.aw (c9 (gU m.ar.toNat m.aa (aQ m) m.ao m.aw v))).2)then
      some ((),(⟨⟨m.ar,m.bp,m.aF,m.aa,m.aH,m.ab,(cu m.ao m.aw (c9 (gU m.ar.toNat m.aa (aQ m) m.ao m.aw v))).1,(cu m.ao m.aw (c9 (gU m.ar.toNat m.aa (aQ m) m.ao m.aw v))).2,m.au,0,m.aR,m.aX,m.az⟩⟩:ay))
     else some ((),(⟨⟨m.ar,m.bp,m.aF,m.aa,m.aH,m.ab,(cu m.ao m.aw (c9 (gU m.ar.toNat m.aa (aQ m) m.ao m.aw v))).1,(cu m.ao m.aw (c9 (gU m.ar.toNat m.aa (aQ m) m.ao m.aw v))).2,m.au,jr m.ab.Value m.aI (cu m.ao m.aw (c9 (gU m.ar.toNat m.aa (aQ m) m.ao m.aw v))).1 (cu m.ao m.aw (c9 (gU m.ar.toNat m.aa (aQ m) m.ao m.aw v))).2,m.aR,m.aX,m.az⟩⟩:ay))
    else some ((),(⟨⟨m.ar,m.bp,m.aF,m.aa,m.aH,m.ab,(cu m.ao m.aw (c9 (gU m.ar.toNat m.aa (aQ m) m.ao m.aw v))).1,(cu m.ao m.aw (c9 (gU m.ar.toNat m.aa (aQ m) m.ao m.aw v))).2,m.au,m.aI,m.aR,m.aX,m.az⟩⟩:ay)))=some ((),(⟨cy m⟩:ay)):=by
   intro v hv;subst hv;rw[show gU m.ar.toNat m.aa (aQ m) m.ao m.aw (zG m)=dJ m from rfl]
   cases hzn:aA (dJ m)with
   |true=>rw[TG h hzn];rfl
   |false=>
    simp only[Ql];have e:cy m={m with ao:=(cu m.ao m.aw (c9 (dJ m))).1,aw:=(cu m.ao m.aw (c9 (dJ m))).2,aI:=oi m (cu m.ao m.aw (c9 (dJ m))).1 (cu m.ao m.aw (c9 (dJ m))).2}:=Qs h3
    rw[e];unfold oi
    by_cases hc:m.aH=1/\m.aI≠0
    ·rw[Qg hc.1,Qh hc.2,Qr hc];simp only[Qk,Qa,Qp];have hh:∀(p q:ae) (L:Int),(Er {m with ao:=p,aw:=q,aI:=L}).aR=er m:=fun p q L=>by unfold Er;exact Qr hc.1
     rw[hh];split
     ·rename_i hlt;rw[Qg hlt];rfl
     ·rename_i hlt;rw[Qh hlt];rfl
    ·rw[Qs hc]
     by_cases h1:m.aH=1
     ·rw[Qg h1,Qg (show m.aI=0 from Classical.byContradiction fun hn=>hc ⟨h1,hn⟩)];rfl
     ·rw[Qh h1];rfl
  by_cases h2:m.aH=2
  ·rw[Qg h2];exact hmain _ (Qr h2).symm
  ·rw[Qh h2];exact hmain _ (Qs h2).symm
end
theorem UJ(m:af)(b:ae):jj ⟨m⟩ b=some ((),⟨{m with aI:=bif bC m.ab b then m.aI else 0,ab:=b}⟩):=by
 unfold jj;simp only[af.eta,an.eta,ay.eta,eL,Qa,aU];cases bC m.ab b<;>rfl
theorem HC(m:af)(b:ae){α:Type}(j:af->Option α):
  (bif decide (m.aI=(0:Int))then(bif bC m.ab b then(bif decide (jr b.Value m.ab.aj m.ao m.aw<=b.aj)then j {m with aI:=jr b.Value m.ab.aj m.ao m.aw}else j m)else j m)else(bif false then(bif decide (jr b.Value m.ab.aj m.ao m.aw<=b.aj)then j {m with aI:=jr b.Value m.ab.aj m.ao m.aw}else j m)else j m))=j (mI m b):=by
 unfold mI
 by_cases hL:m.aI=0
 ·rw[Qg hL]
  cases hc:bC m.ab b with
  |true=>
   by_cases hle:jr b.Value m.ab.aj m.ao m.aw<=b.aj
   ·rw[Qr ⟨hL,rfl,hle⟩,Qg hle];rfl
   ·rw[Qs (fun h=>hle h.2.2),Qh hle];rfl
  |false=>
   rw[Qs (fun h=>by cases h.2.1)];rfl
 ·rw[Qh hL,Qs (fun h=>hL h.1)];rfl
section
variable {m : af} (h : ba m) (hs : fZ m)
 include h hs
theorem ZP:k8 ⟨m⟩=some ((),⟨fX m⟩):=by
 have hl:m.az.length<=100:=by have:=h.len;omega
 unfold k8;simp only[af.eta,an.eta,ay.eta,cx,Eo hl,Z8 h hs,Mn,UJ,eL,iA,Qa,aU];have hb:tr m.ar.toNat m.aa (aQ m) m.au=fh m:=rfl;simp only[hb];unfold fX
 cases hz:aA m.ab with
 |true=>rw[Qr (.inr (.inl rfl))];rfl
 |false=>
  by_cases h1:m.aH=1
  ·rw[Qg h1]
   cases hzb:aA (fh m)with
   |true=>rw[Qr (.inr (.inr rfl))];rfl
   |false=>
    rw[Qs (by simp[h1])]
    simp only[Qo,Ql,Qa];unfold wZ
    cases hlt:bd m.ab (fh m)with
    |true=>
     simp only[Qk,Qt]
     cases hcp:bC m.ab (fh m)with
     |true=>exact HC {m with au:=fh m,ab:=fh m} (fh m) (fun x=>some ((),(⟨x⟩:ay)))
     |false=>exact HC {m with au:=fh m,ab:=fh m,aI:=0} (fh m) (fun x=>some ((),(⟨x⟩:ay)))
    |false=>
     simp only[Ql,Qq,Qu];exact HC {m with au:=fh m} (fh m) (fun x=>some ((),(⟨x⟩:ay)))
  ·rw[Qh h1,Qr (.inl h1)];rfl
theorem VF:jI ⟨m⟩=some ((),⟨fl m⟩):=by
 have hl:m.az.length<=100:=by have:=h.len;omega
 unfold jI;simp only[af.eta,an.eta,ay.eta,Eo hl,YG h hs,abi h hs,eL,iA,Qa,aU];unfold fl
 by_cases h1:m.aH=1
 ·rw[Qg h1,Qr h1];simp only[Qk]
  cases hk:(ez m).2.2.2.1 with
  |false=>rfl
  |true=>
   have hf:=EL h hk
   have hcov:hZ m.ao ⟨(ez m).2.2.1,(ez m).1⟩= !(bd m.ao ⟨(ez m).2.2.1,(ez m).1⟩|| !bC m.ao ⟨(ez m).2.2.1,(ez m).1⟩):=by
    cases hc:bC m.ao ⟨(ez m).2.2.1,(ez m).1⟩with
    |false=>unfold hZ;rw[hc];simp
    |true=>
     have hv:=gW.1 hc
     have hnz:aA m.ao=false:=by
      cases hz:aA m.ao with
      |false=>rfl
      |true=>rw[ug.1 hz]at hv;exact absurd hv.symm hf.fin.ne
     unfold hZ;rw[hc,hnz,Cv hv,Qo,Bool.or_false,Qp,Bool.and_self,Bool.true_and];rw[QW];simp only[Qi,Bool.not_eq_true',Qj];omega
   simp only[Qo,Ql,Qt];unfold EY;rw[hcov];cases bC m.ab ⟨(ez m).2.2.1,(ez m).1⟩<;>cases bd m.ab ⟨(ez m).2.2.1,(ez m).1⟩<;>cases bd m.ao ⟨(ez m).2.2.1,(ez m).1⟩<;>cases bC m.ao ⟨(ez m).2.2.1,(ez m).1⟩<;>rfl
 ·rw[Qh h1,Qs h1]
  by_cases h2:m.aH=2
  ·rw[Qg h2,Qr h2];rcases h.body with k|k|k|k
   ·exact absurd k.aK h1
   ·exact absurd k.aK h1
   ·unfold vJ;rw[k.cY.2];rfl
   ·have:=k.aK;omega
  ·rw[Qh h2,Qs h2];rfl
theorem Xa:jV ⟨m⟩=some ((),⟨iW m⟩):=by
 have hl:m.az.length<=100:=by have:=h.len;omega
 unfold jV iW;simp only[af.eta,an.eta,ay.eta,Eo hl,abh h hs,Qa]
 by_cases h2:m.aH=2
 ·rw[Qg h2]
  cases hk:(kH m).2.2.1 with
  |false=>rw[Qs (fun h=>by cases h.2)];rfl
  |true=>rw[Qr ⟨h2,rfl⟩];rfl
 ·rw[Qh h2,Qs (fun h=>h2 h.1)];rfl
end
theorem ON{m:af}(h:rA m):gg ⟨m⟩=some (da m):=by
 have hl:m.az.length<=1000:=by have:=h.len;omega
 unfold gg da;simp only[cx,Qa]
 cases hz:aA m.au with
 |false=>rfl
 |true=>
  simp only[Qo,Ql,Bool.true_eq_false,Qu]
  by_cases h1:m.aH=1
  ·rw[Qg h1,Qs (fun h=>h h1)]
   simp only[Qo,Ql]
   by_cases hp:m.aX=fb
   ·have hp':decide (m.aX=ByteArray.mk #[])=true:=Qg hp;rw[hp',Qs (fun h=>h hp)]
    simp only[Qo,Ql]
    rw[z7 m.az hl (·.ab) (fin:=fun s=>Option.bind (kN s) fun r=>some r.Value) (fun i e s hs he hd hx hw=>by
     simp only[hd,hx,hw,Qk,Qa]
     rw[b0 (by simp;omega),Qk]) (fun s hd=>by simp only[hd,Ql]),Wz _ (by simp;omega)]
    rfl
   ·have hp':decide (m.aX=ByteArray.mk #[])=false:=Qh hp;rw[hp',Qr hp];rfl
  ·rw[Qh h1,Qr h1];rfl
theorem YC(l:List ai)(hlen:l.length<=1000)(p:ai->Bool)(hp:∀e∈l,p e=true->0<=e.ar/\e.ar<10):nH l (l.map p)=some ((c8 p l:Nat):Int):=by
 unfold nH
 suffices key:∀(k i s:Nat),i+k=l.length->s<1024->aE _ ((s:Int),(i:Int),())=some ((s|||c8 p (l.drop i):Nat):Int)by
  have:=key l.length 0 0 (by omega) (by omega)
  rw[Nat.zero_or,List.drop_zero]at this;exact this
 intro k
 induction k with
 |zero=>
  intro i s hi hs;obtain rfl:i=l.length:=by omega
  have hd:decide (((l.length:Nat):Int)<((l.length:Nat):Int))=false:=Qh (Int.lt_irrefl _);rw[bU (r:=(s:Int)) (by simp only[hd,Ql,Qe]),List.drop_length,c8]
  simp
 |succ k ih=>
  intro i s hi hs;have hlt:i<l.length:=by omega
  have hd:decide ((i:Int)<((l.length:Nat):Int))=true:=Qg (by omega)
  have hd2:decide ((i:Int)<(((l.map p).length:Nat):Int))=true:=Qg (by rw[QC];omega)
  have hw:aB .i64 (i:Int) 1=((i+1:Nat):Int):=bH (by omega) (by omega)
  have hx:idx l (i:Int)=some l[i]:=by rw[bz];exact Qv hlt
  have hx2:idx (l.map p) (i:Int)=some (p l[i]):=by rw[bz,QT,Qv hlt];rfl
  rw[QM hlt,c8]
  cases hpe:p l[i]with
  |false=>
   rw[bl (s':=((s:Int),((i+1:Nat):Int),())) (by simp only[hd,hd2,hx,hx2,hw,hpe,Qk,Ql,aU,Qa]),ih (i+1) s (by omega) hs]
   simp
  |true=>
   obtain⟨h0,h1⟩:=hp _ (Q0 hlt) hpe;have hn0:¬l[i].ar<0:=by omega
   have d1:decide ((0:Int)<=l[i].ar)=true:=Qg h0;have d2:decide (l[i].ar<(10:Int))=true:=Qg (by omega)
   rw[bl (s':=(((s|||2 ^ l[i].ar.toNat:Nat):Int),((i+1:Nat):Int),())) (by
    simp only[hd,hd2,hx,hx2,hw,hpe,Qk,aU,Qa,d1,d2,hn0,Qu]
    rw[yj hs h0 h1]),ih (i+1) _ (by omega) (Jh hs h1)]
   simp[Nat.or_assoc]
theorem WC{m:af}(h:rA m)(n:Int):kE ⟨m⟩ n=some ((zf m n:Nat):Int):=by
 have hl:m.az.length<=1000:=by have:=h.len;omega
 unfold kE;have d1:decide (((m.az.length:Nat):Int)=((m.az.length:Nat):Int))=true:=Qg rfl;have d2:decide (0<=((m.az.length:Nat):Int))=true:=Qg (Int.natCast_nonneg _);have d3:bx 1 m.az.length=true:=b0 (by omega)
 simp only[d1,d2,d3,QV,Bool.and_self,Qk]
 rw[Vt m.az hl (fun e=>decide (n<dW e)) (fin:=fun s=>Option.bind (nH m.az s) fun r=>some r)
  (fun i e s hsl he hi hd hx hw=>by
   have h1:idx s (i:Int)=some s[i]:=by rw[bz];exact Qv (by omega)
   have h2:s[i]?=some s[i]:=Qv (by omega)
   simp only[hd,hx,hw,h1,h2,Qk,Qa,an.eta,ai.eta,OT (h.sm e he) (h.valid e he),QV])
  (fun s hd=>by simp only[hd,Ql]) (by simp),YC m.az hl _ (fun e he _=>h.Lv e he)]
 rfl
section
variable {m : af} (h : ba m) (hs : fZ m)
 include h hs
theorem MN(n:Int):gD n ⟨fj m.ar.toNat m.aa (rL m)⟩ ⟨m⟩=some (fW m n):=by
 unfold gD;simp only[af.eta,an.eta,ay.eta,WC h.ev,Qa];have hb:=Na (lh (ax:=m.ar.toNat) h.ev.aO (oR h hs).1) (v:=m.ar.toNat) (M7 h.ev n);rw[h.ev.ax.1]at hb;rw[hb,Qa];unfold fW;rw[(kq h hs).view _ h.ev.ax.2]
theorem WT:jU ⟨m⟩=some ((),⟨eJ m⟩):=by
 have hl:m.az.length<=100:=by have:=h.len;omega
 have hv:=SZ h.ev.ax.2 h.ev.aO (oR h hs).1;rw[h.ev.ax.1]at hv;unfold jU eJ;simp only[af.eta,an.eta,ay.eta,cx,Eo hl,hv,MN h hs,ON h.ev,UJ,Qa,aU]
 by_cases h3:m.aH=3
 ·rw[Qg h3,Qr (.inl h3)];rfl
 ·rw[Qh h3]
  cases ha:fW m m.ab.aj with
  |false=>rw[Qr (.inr rfl)];rfl
  |true=>
   rw[Qs (by simp[h3])]
   simp only[Ql,Qo]
   have hbc:0<=m.ab.aj/\m.ab.aj<=1000:=by
    rcases h.body with k|k|k|k
    ·rw[k.aJ];decide
    ·exact⟨by have:=k.aJ.1;omega,k.aJ.2.1⟩
    ·exact⟨by have:=k.aJ.1;omega,k.aJ.2.1⟩
    ·exact absurd k.aK h3
   have hz1:aA m.ab=true->m.aH=1:=by
    intro hz;rcases h.body with k|k|k|k
    ·exact k.aK
    ·exact k.aK
    ·rw[k.aJ.nz]at hz;cases hz
    ·exact absurd k.aK h3
   refine(PU h.ev (fin:=fun c=>some ((),(⟨{m with aI:=bif bC m.ab ⟨de c 1000,ll m⟩then m.aI else 0,ab:=⟨de c 1000,ll m⟩}⟩:ay))) (fun i e s he hd hx hw=> ?_) (fun s hd=> ?_)).trans ?_
   ·simp only[hd,hx,hw,Qk,aU,Qa,an.eta,ai.eta,OT (h.ev.sm e he) (h.ev.valid e he),MN h hs];unfold kb
    by_cases c1:m.ab.aj<dW e
    ·by_cases c2:dW e<s
     ·rw[Qg c1,Qg c2]
      cases c3:fW m (dW e)with
      |true=>rw[Qs (by simp)];rfl
      |false=>rw[Qr ⟨c1,c2,rfl⟩];rfl
     ·rw[Qg c1,Qh c2,Qs (fun h=>c2 h.2.1)];rfl
    ·rw[Qh c1,Qs (fun h=>c1 h.1)];rfl
   ·simp only[hd,Ql,aU,Qa];unfold ll
    by_cases h1:m.aH=1
    ·rw[Qg h1,Qr h1];cases aA m.ab<;>rfl
    ·rw[Qh h1,Qs h1]
     cases hz:aA m.ab with
     |true=>exact absurd (hz1 hz) h1
     |false=>rfl
   ·have hm:=(E0 h hbc).2.2.2.2;rw[hm]
    have hcp:(bif bC m.ab ⟨de (fI m) 1000,ll m⟩then m.aI else 0)=(if ll m=m.ab.Value then m.aI else 0):=by
     by_cases e:ll m=m.ab.Value
     ·rw[Qr e,(gW (a:=m.ab) (b:=⟨de (fI m) 1000,ll m⟩)).2 e.symm];rfl
     ·rw[Qs e,(gR (a:=m.ab) (b:=⟨de (fI m) 1000,ll m⟩)).2 (fun hc=>e hc.symm)];rfl
    rw[hcp]
end
end Go.Proofs.YtkgenianmdfmdaaGreat
namespace Go.Proofs.YtkgenianmdfmdaaGreat
open Go.TQ
theorem Q6{m:af}(h:ba m)(s:Int):aQ {m with aF:=s}=(aQ m).map (fun e=>if e.ar=m.ar then{e with aF:=bo s 1}else e):=by
 have hf:∀e∈m.az,(if e.ar=m.ar then{e with aF:=bo s 1}else e)=e:=fun e he=>Qs (h.hv e he).2.2.2
 have hmap:m.az.map (fun e=>if e.ar=m.ar then{e with aF:=bo s 1}else e)=m.az:=by
  rw[List.map_congr_left hf];simp
 have hown:gK {m with aF:=s}={gK m with aF:=bo s 1}:=by
  unfold gK bO er;split
  ·rfl
  ·split<;>rfl
 unfold aQ;split
 ·exact hmap.symm
 ·rw[hown];have hn:(gK m).ar=m.ar:=qV m
  suffices key:∀l:List ai,(∀e∈l,(if e.ar=m.ar then{e with aF:=bo s 1}else e)=e)->vh {gK m with aF:=bo s 1} l=(vh (gK m) l).map (fun e=>if e.ar=m.ar then{e with aF:=bo s 1}else e)from key _ hf
  intro l
  induction l with
  |nil=>
   intro _;simp only[vh,QD,QO,hn,Qt]
  |cons x l ih=>
   intro hx;unfold vh;simp only;split
   ·rw[QD,QD,hn,Qr rfl,hx x Qx,List.map_congr_left (fun e he=>hx e (Qy _ he))]
    simp
   ·rw[QD,hx x Qx,ih fun e he=>hx e (Qy _ he)]
theorem Lu{m:af}(h:ba m){s:Int}(hs:0<=s/\s<=1000000):ba {m with aF:=s}:=by
 refine⟨h.n0,h.n1,h.bB,hs,h.aO,h.oh,h.hv,h.ob,?_⟩;rcases h.body with k|k|k|k
 ·exact .inl ⟨k.aK,k.aJ,k.cY,k.bJ,k.dv,k.low,k.bI⟩
 ·exact .inr (.inl ⟨k.aK,k.aJ,k.cY,k.bJ,k.dv,k.up,k.bI,k.low⟩)
 ·exact .inr (.inr (.inl ⟨k.aK,k.aJ,k.cY,k.bJ,k.dv,k.range⟩))
 ·exact .inr (.inr (.inr ⟨k.aK,k.aJ,k.cY,k.bJ,k.dv,k.range⟩))
theorem nB{m:af}(h:ba m){s:Int}(hs:0<=s/\s<=1000000):Alike (aQ m) (aQ {m with aF:=s}):=by
 rw[Q6 h s];refine VQ h.ev.jX.1 h.ev.jX.2 _ fun e he=> ?_
 split
 ·rename_i hn;refine⟨rfl,?_⟩;rw[h.jP e he];have hv:=h.jP e he
  have hm:{e with aF:=bo s 1}∈aQ {m with aF:=s}:=by
   rw[Q6 h s];exact QP.2 ⟨e,he,Qr hn⟩
  exact(Lu h hs).jP _ hm
 ·exact⟨rfl,rfl⟩
theorem Y3(m:af)(s:Int)(b:ae):wZ {m with aF:=s} b={wZ m b with aF:=s}:=by
 unfold wZ
 by_cases h:bd m.ab b=true
 ·simp only[Qr h]
 ·simp only[Qs h]
theorem UA(m:af)(s:Int)(b:ae):mI {m with aF:=s} b={mI m b with aF:=s}:=by
 unfold mI
 by_cases h:m.aI=0/\bC m.ab b=true/\jr b.Value m.ab.aj m.ao m.aw<=b.aj
 ·simp only[Qr h]
 ·simp only[Qs h]
section
variable {m : af} (h : ba m) {s : Int} (hs : 0 <= s /\ s <= 1000000)
 include h hs
theorem YL:dJ {m with aF:=s}=dJ m:=((nB h hs).next h.ev.ax.2 m.aa _ _ _).symm
theorem Y0:fh {m with aF:=s}=fh m:=((nB h hs).bI h.ev.ax.2 m.aa _).symm
theorem Mi:fq {m with aF:=s}=fq m:=((nB h hs).ready h.ev.ax.2 m.aa).symm
theorem Wa:BX {m with aF:=s}=BX m:=((nB h hs).sure h.ev.ax.2 m.aa).symm
theorem Zd:ez {m with aF:=s}=ez m:=by
 unfold ez;rw[Mi h hs];simp only;rw[<-(nB h hs).E6,<-(nB h hs).first]
theorem Zh:dG {m with aF:=s}=dG m:=by
 unfold dG;rw[Mi h hs];simp only;rw[<-(nB h hs).ib]
theorem Zg:kH {m with aF:=s}=kH m:=by
 unfold kH;rw[Wa h hs];simp only;rw[<-(nB h hs).ib]
theorem M6(n:Int):fW {m with aF:=s} n=fW m n:=by
 unfold fW;simp only;rw[<-(nB h hs).view _ h.ev.ax.2];rfl
theorem Zy:fI {m with aF:=s}=fI m:=by
 unfold fI;simp only;congr 1
 funext b e
 unfold kb;simp only[M6 h hs]
theorem Mr:cy {m with aF:=s}={cy m with aF:=s}:=by
 unfold cy;simp only[YL h hs];split<;>rfl
theorem Mp:fX {m with aF:=s}={fX m with aF:=s}:=by
 unfold fX;simp only[Y0 h hs];split
 ·rfl
 ·rw[Y3,UA]
theorem My:fl {m with aF:=s}={fl m with aF:=s}:=by
 unfold fl;simp only[Zd h hs,Zh h hs];split
 ·split<;>rfl
 ·split<;>rfl
theorem Mw:iW {m with aF:=s}={iW m with aF:=s}:=by
 unfold iW;simp only[Zg h hs];split<;>rfl
theorem Mt:eJ {m with aF:=s}={eJ m with aF:=s}:=by
 unfold eJ;simp only[M6 h hs,Zy h hs];split<;>rfl
end
open Classical in
 def cg(m:af):af:=
 if cy m=m then(if fX m=m then(if fl m=m then(if iW m=m then eJ m else iW m)else fl m)else fX m)else cy m
structure zj (m:af):Prop where
 p:cy m=m
 s:fX m=m
 c:fl m=m
 f:iW m=m
 k:eJ m=m
theorem Wb{m:af}(h:cg m=m):zj m:=by
 unfold cg at h;split at h
 ·split at h
  ·split at h
   ·split at h
    ·exact⟨by assumption,by assumption,by assumption,by assumption,h⟩
    ·contradiction
   ·contradiction
  ·contradiction
 ·contradiction
theorem Pw{m:af}(h:zj m):cg m=m:=by
 unfold cg;rw[Qr h.p,Qr h.s,Qr h.c,Qr h.f,h.k]
theorem BY{m:af}{Q:af->Prop}(h1:Q (cy m))(h2:Q (fX m))(h3:Q (fl m))(h4:Q (iW m))(h5:Q (eJ m)):Q (cg m):=by
 unfold cg;split
 ·split
  ·split
   ·split
    ·exact h5
    ·exact h4
   ·exact h3
  ·exact h2
 ·exact h1
theorem wP{m:af}(h:ba m):ba (cg m):=BY (Ms h) (Mq h) (Mz h) (Mx h) (Mu h)
theorem um(m:af):ff m (cg m):=BY (ur m) (qB m) (qD m) (qC m) (wR m)
theorem Og{m:af}(h:ba m):cg m=m\/iN m<iN (cg m):=BY (Q:=fun x=>x=m\/iN m<iN x) (acs h) (acr h) (acw h) (acv h) (acu h)
theorem acH(m:af):(cy m).ab=m.ab:=by unfold cy;split<;>rfl
theorem G8{m:af}(h:ba m)(hz:aA m.ab=false):aA (cg m).ab=false:=by
 have hb:P1 m\/P2 m\/P3 m:=h.body.resolve_left fun k=>by rw[k.aJ,bD]at hz;cases hz
 refine BY (Q:=fun x=>aA x.ab=false) (by rw[acH];exact hz) ?_ ?_ ?_ ?_
 ·rcases hb with k|k|k
  ·exact(Ld h k).1.aJ.nz
  ·rw[oQ (.inl (by rw[k.aK];decide))];exact hz
  ·rw[oQ (.inl (by rw[k.aK];decide))];exact hz
 ·unfold fl;rcases hb with k|k|k
  ·rw[Qr k.aK];split
   ·rename_i hk;have hf:=EL h hk;exact(PN (.inr k.aJ) k.cY hf.fin hf.lo1 hf.le).aJ.nz
   ·exact hz
  ·rw[Qs (by rw[k.aK];decide),Qr k.aK]
   obtain⟨g1,g2,g3,_⟩:=Pz h k;exact(T6 k g1 g2 g3).aJ.nz
  ·rw[Qs (by rw[k.aK];decide),Qs (by rw[k.aK];decide)];exact hz
 ·unfold iW;split
  ·rename_i hc;rcases hb with k|k|k
   ·have:=k.aK;have:=hc.1;omega
   ·exact(Sf h k hc.2).aJ.nz
   ·have:=k.aK;have:=hc.1;omega
  ·exact hz
 ·cases ha:fW m m.ab.aj with
  |false=>
   have:eJ m=m:=Qr (.inr ha);rw[this];exact hz
  |true=>
   rcases hb with k|k|k
   ·exact(Le h (.inr k) ha).aJ.nz
   ·exact(Se h k).aJ.nz
   ·have:eJ m=m:=Qr (.inl k.aK);rw[this];exact hz
def cj(m:af):af:=if aA m.ab=false then{m with aF:=bo m.aF 1}else m
theorem Si{m:af}(h:ba m):0<=bo m.aF 1/\bo m.aF 1<=1000000:=by
 have:=h.seq;unfold bo;split<;>omega
theorem Cq{m:af}(h:ba m):ba (cj m):=by
 unfold cj;split
 ·exact Lu h (Si h)
 ·exact h
theorem Ft{m:af}(h:aA m.ab=true->m.aF=0):fZ (cj m):=by
 unfold cj;split
 ·rename_i hz;exact⟨fun e=>(by rw[show({m with aF:=bo m.aF 1}:af).ab=m.ab from rfl,hz]at e;cases e),fun _=>by show 1<=bo m.aF 1;unfold bo;split<;>omega⟩
 ·rename_i hz;exact⟨h,fun e=>absurd e hz⟩
theorem SD{m:af}(h:ba m)(hf:zj m){s:Int}(hs:0<=s/\s<=1000000):zj {m with aF:=s}:=
 ⟨by rw[Mr h hs,hf.p],by rw[Mp h hs,hf.s],by rw[My h hs,hf.c],by rw[Mw h hs,hf.f],by rw[Mt h hs,hf.k]⟩
theorem WI{m:af}(h:ba m)(hf:zj m):zj (cj m):=by
 unfold cj;split
 ·exact SD h hf (Si h)
 ·exact hf
theorem Sj{m:af}(hs:fZ m):cj m=m:=by
 unfold cj;split
 ·rename_i hz;have:=hs.pos hz;have e:bo m.aF 1=m.aF:=by unfold bo;split<;>omega
  rw[e]
 ·rfl
theorem Wo(m:af):iN (cj m)=iN m:=by
 unfold cj;split<;>rfl
theorem OW{m:af}(h:0<=m.aF):cW ⟨m⟩=some ((),⟨cj m⟩):=by
 unfold cW cj;simp only[af.eta,an.eta,ay.eta,cx,Qa]
 cases hz:aA m.ab with
 |true=>rfl
 |false=>
  simp only[Qp,Qk,Qa,Qt]
  by_cases hs:m.aF=0
  ·have e:bo m.aF 1=1:=by unfold bo;split<;>omega
   rw[Qg hs,e];rfl
  ·have e:bo m.aF 1=m.aF:=by unfold bo;split<;>omega
   rw[Qh hs,e];rfl
theorem sV{m m':af}(he:ff m m'):
  (decide (m'.aH=m.aH)&&(decide (m'.aI=m.aI)&&(decide (m'.aR=m.aR)&&(decide (m'.ab.aj=m.ab.aj)&&(decide (m'.ab.Value=m.ab.Value)&&(decide (m'.ao.aj=m.ao.aj)&&(decide (m'.ao.Value=m.ao.Value)&&(decide (m'.aw.aj=m.aw.aj)&&(decide (m'.aw.Value=m.aw.Value)&&(decide (m'.au.aj=m.au.aj)&&(decide (m'.au.Value=m.au.Value)&&true)))))))))))=true↔m'=m:=by
 simp only[Qm,Qi];constructor
 ·rintro⟨h1,h2,h3,h4,h5,h6,h7,h8,h9,h10,h11,_⟩;exact tL he h1 (lP h4 h5) (lP h6 h7) (lP h8 h9) (lP h10 h11) h2 h3
 ·rintro rfl;simp
open Classical in
theorem ZR{m:af}(h:ba m)(hs:fZ m):k9 ⟨m⟩=some (if cg m=m then(false,⟨m⟩)else(true,⟨cj (cg m)⟩)):=by
 have hnum:∀{x:af},ba x->cW ⟨x⟩=some ((),⟨cj x⟩):=fun hx=>OW hx.seq.1
 unfold k9;simp only[af.eta,an.eta,ay.eta,eR,Qa,TE h hs]
 by_cases hP:cy m=m
 ·simp only[(sV (ur m)).2 hP,Bool.xor_true,Qo,Ql,show xor true true=false from rfl]
  rw[hP,ZP h hs];simp only[Qa]
  by_cases hS:fX m=m
  ·simp only[(sV (qB m)).2 hS,Ql,show xor true true=false from rfl]
   rw[hS,VF h hs];simp only[Qa]
   by_cases hC:fl m=m
   ·simp only[(sV (qD m)).2 hC,Ql,show xor true true=false from rfl]
    rw[hC,Xa h hs];simp only[Qa]
    by_cases hF:iW m=m
    ·simp only[(sV (qC m)).2 hF,Ql,show xor true true=false from rfl]
     rw[hF,WT h hs];simp only[Qa];have e:cg m=eJ m:=by unfold cg;rw[Qr hP,Qr hS,Qr hC,Qr hF]
     rw[e]
     by_cases hK:eJ m=m
     ·simp only[(sV (wR m)).2 hK,Ql,show xor true true=false from rfl]
      rw[Qr hK,hK]
     ·have hb:=mt (sV (wR m)).1 hK;rw[QX]at hb;simp only[hb,Qk,show xor true false=true from rfl]
      rw[hnum (Mu h),Qs hK];rfl
    ·have e:cg m=iW m:=by unfold cg;rw[Qr hP,Qr hS,Qr hC,Qs hF]
     have hb:=mt (sV (qC m)).1 hF;rw[QX]at hb;simp only[hb,Qk,show xor true false=true from rfl]
     rw[hnum (Mx h),e,Qs hF];rfl
   ·have e:cg m=fl m:=by unfold cg;rw[Qr hP,Qr hS,Qs hC]
    have hb:=mt (sV (qD m)).1 hC;rw[QX]at hb;simp only[hb,Qk,show xor true false=true from rfl]
    rw[hnum (Mz h),e,Qs hC];rfl
  ·have e:cg m=fX m:=by unfold cg;rw[Qr hP,Qs hS]
   have hb:=mt (sV (qB m)).1 hS;rw[QX]at hb;simp only[hb,Qk,show xor true false=true from rfl]
   rw[hnum (Mq h),e,Qs hS];rfl
 ·have e:cg m=cy m:=by unfold cg;rw[Qs hP]
  have hb:=mt (sV (ur m)).1 hP;rw[QX]at hb;simp only[hb,Qk,show xor true false=true from rfl]
  rw[hnum (Ms h),e,Qs hP];rfl
structure AV (R:af->Prop) (m m':af):Prop where
 inv:ba m'
 seq:fZ m'
 env:m'.ar=m.ar/\m'.bp=m.bp/\m'.aa=m.aa/\m'.aX=m.aX/\m'.az=m.az
 num:m'.aF=m.aF\/(m.aF=0/\m'.aF=1)
 nz:aA m.ab=false->aA m'.ab=false
 rel:R m'
 fix:zj m'
theorem M8{R:af->Prop}(hR1:∀m,ba m->R m->R (cg m))(hR2:∀m,R m->R (cj m)){m:af}(h:ba m)(hs:aA m.ab=true->m.aF=0)(hr:R m):Yd (eD ⟨m⟩) fun q=>∃m',q=((),⟨m'⟩)/\AV R m m':=by
 unfold eD;simp only[af.eta,an.eta,ay.eta,OW h.seq.1,Qa]
 have num1:∀{x:af},ba x->(cj x).aF=x.aF\/(x.aF=0/\(cj x).aF=1):=fun{x} hx=>by
  have:=hx.seq;unfold cj;split
  ·show bo x.aF 1=x.aF\/(x.aF=0/\bo x.aF 1=1);unfold bo;split<;>omega
  ·exact .inl rfl
 have env1:∀x:af,(cj x).ar=x.ar/\(cj x).bp=x.bp/\(cj x).aa=x.aa/\(cj x).aX=x.aX/\(cj x).az=x.az/\(cj x).ab=x.ab:=fun x=>by
  unfold cj;split<;>exact⟨rfl,rfl,rfl,rfl,rfl,rfl⟩
 refine Yd.down (fun s=>∃x,s=((⟨x⟩:ay),())/\ba x/\fZ x/\R x/\(x.ar=m.ar/\x.bp=m.bp/\x.aa=m.aa/\x.aX=m.aX/\x.az=m.az)/\(x.aF=m.aF\/(m.aF=0/\x.aF=1))/\(aA m.ab=false->aA x.ab=false)) (fun s=>K1+K2 - iN s.1.al) ?_ ⟨cj m,rfl,Cq h,Ft hs,hR2 _ hr,⟨(env1 m).1,(env1 m).2.1,(env1 m).2.2.1,(env1 m).2.2.2.1,(env1 m).2.2.2.2.1⟩,num1 h,fun hz=>by rw[(env1 m).2.2.2.2.2];exact hz⟩
 rintro s ⟨x,rfl,hx,hsx,hrx,hex,hnx,hzx⟩;simp only[ZR hx hsx,Qa]
 by_cases hst:cg x=x
 ·rw[Qr hst];exact .some ⟨x,rfl,⟨hx,hsx,hex,hnx,hzx,hrx,Wb hst⟩⟩
 ·rw[Qs hst];have hi:=wP hx;have hv:=um x;have hup:=(Og hx).resolve_left hst;refine .some ⟨⟨cj (cg x),rfl,Cq hi,Ft ?_,hR2 _ (hR1 _ hx hrx),?_,?_,?_⟩,?_⟩
  ·intro hz;rw[hv.seq];refine hsx.zero ?_
   cases hzz:aA x.ab with
   |true=>rfl
   |false=>rw[G8 hx hzz]at hz;cases hz
  ·obtain⟨e1,e2,e3,e4,e5,_⟩:=env1 (cg x);exact⟨e1.trans (hv.ax.trans hex.1),e2.trans (hv.bB.trans hex.2.1),e3.trans (hv.aO.trans hex.2.2.1),e4.trans (hv.oh.trans hex.2.2.2.1),e5.trans (hv.heard.trans hex.2.2.2.2)⟩
  ·have h1:=num1 hi;rw[hv.seq]at h1;rcases h1 with e|⟨e1,e2⟩
   ·rw[e];exact hnx
   ·right;rcases hnx with e3|⟨_,e3⟩
    ·exact⟨by rw[<-e3];exact e1,e2⟩
    ·omega
  ·intro hz;rw[(env1 (cg x)).2.2.2.2.2];exact G8 hx (hzx hz)
  ·have h1:=R9 hi;show K1+K2 - iN (cj (cg x))<K1+K2 - iN x;rw[Wo];omega
end Go.Proofs.YtkgenianmdfmdaaGreat
namespace Go.Proofs.YtkgenianmdfmdaaGreat
open Go.TQ
theorem Xt{α:Type}{s t:List α}(hl:s.length=t.length)(hn:s.length<=1000000){step:Int×Unit->Option ((Int×Unit)⊕Bool)}
  (h1:∀(i:Nat) (h:i<s.length) (h':i<t.length),decide ((i:Int)<((s.length:Nat):Int))=true->idx s (i:Int)=some s[i]->idx t (i:Int)=some t[i]->aB .i64 (i:Int) 1=((i+1:Nat):Int)->∃b:Bool,step ((i:Int),())=some (bif b then .inl (((i+1:Nat):Int),())else .inr false)/\(b=true↔s[i]=t[i]))
  (h2:decide (((s.length:Nat):Int)<((s.length:Nat):Int))=false->step (((s.length:Nat):Int),())=some (.inr true)):∃b,aE step (0,())=some b/\(b=true↔s=t):=by
 suffices key:∀(k i:Nat),i+k=s.length->∃b,aE step ((i:Int),())=some b/\(b=true↔s.drop i=t.drop i)from by simpa using key s.length 0 (by omega)
 intro k
 induction k with
 |zero=>
  intro i hi;obtain rfl:i=s.length:=by omega
  refine⟨true,bU (h2 (Qh (Int.lt_irrefl _))),?_⟩;rw[List.drop_eq_nil_of_le (by omega),List.drop_eq_nil_of_le (by omega)]
  simp
 |succ k ih=>
  intro i hi;have hi':i<s.length:=by omega
  have hi'':i<t.length:=by omega
  obtain⟨b,h3,h4⟩:=h1 i hi' hi'' (Qg (by omega)) (by rw[bz];exact Qv hi') (by rw[bz];exact Qv hi'') (bH (by omega) (by omega))
  rw[QM hi',QM hi'',List.cons.injEq]
  cases b with
  |false=>
   refine⟨false,bU h3,?_⟩;simp only[Qq,false_iff]at h4 ⊢;exact fun h=>h4 h.1
  |true=>
   obtain⟨b,h5,h6⟩:=ih (i+1) (by omega)
   refine⟨b,(bl h3).trans h5,?_⟩;rw[h6];exact⟨fun h=>⟨h4.1 rfl,h⟩,fun h=>h.2⟩
theorem Vh{α:Type}{s t:List α}(h:s.length≠t.length):(false=true↔s=t):=by
 simp only[Qq,false_iff];exact fun h1=>h (by rw[h1])
 def X2(a0:List Int)(a1:List Int):Option Bool:=
 bif (!decide (((List.length a0:Nat):Int)=((List.length a1:Nat):Int)))then
 some false
 else
 aE (fun(v1:Int×Unit)=>
 bif (decide (v1.1<((List.length a0:Nat):Int)))then
 Option.bind (idx a0 v1.1) fun x2=>
 Option.bind (idx a1 v1.1) fun x3=>
 bif (!decide (x2=x3))then
 Option.map Sum.inr (some false)
 else
 some (Sum.inl ((aB .i64 v1.1 (1:Int)),()))
 else
 Option.map Sum.inr (some true)) ((0:Int),())
theorem XX(s t:List Int)(h:s.length<=1000000):∃b,X2 s t=some b/\(b=true↔s=t):=by
 unfold X2
 by_cases hl:s.length=t.length
 ·rw[Qg (by omega:((s.length:Nat):Int)=((t.length:Nat):Int)),Qo,Ql]
  refine Xt hl h (fun i hi hi' hd hx hy hw=> ?_) (fun hd=> ?_)
  ·refine⟨decide (s[i]=t[i]),?_,by simp⟩
   simp only[hd,hx,hy,hw,Qk,Qa];cases decide (s[i]=t[i])<;>rfl
  ·simp only[hd,Ql];rfl
 ·rw[Qh (by omega:¬((s.length:Nat):Int)=((t.length:Nat):Int)),Qp,Qk]
  exact⟨false,rfl,Vh hl⟩
theorem aai(s t:List Int)(h:s.length<=1000000):∃b,rp s t=some b/\(b=true↔s=t):=XX s t h
theorem abm(s t:List Int)(h:s.length<=1000000):∃b,nT s t=some b/\(b=true↔s=t):=XX s t h
theorem LX(a b:an):a=b↔a.aP=b.aP/\a.bm=b.bm/\a.aN=b.aN:=by
 cases a;cases b;simp
theorem aaS{n:Nat}:∀{a b:an},SizeOf.sizeOf a<n->dD a->∃r,q9 n (a,b,())=some r/\(r=true↔a=b):=by
 induction n with
 |zero=>intro a b h;omega
 |succ n ih=>
  intro a b hs hm;show∃r,oL (q9 n) a b=some r/\(r=true↔a=b);have hl:=hm.len;have hns:=hm.nodes;obtain⟨r,h1,h2⟩:=aai a.bm b.bm hns;rw[LX];unfold oL
  by_cases ht:a.aP=b.aP
  ·rw[Qg ht];simp only[Qo,Ql,h1,Qa]
   cases r with
   |false=>
    simp only[Qp,Qk,Qa];refine⟨false,rfl,?_⟩;simp only[Qq,false_iff]at h2 ⊢;exact fun h=>h2 h.2.1
   |true=>
    simp only[Qo,Ql,Qa]
    by_cases hi:a.aN.length=b.aN.length
    ·rw[Qg (by omega:((a.aN.length:Nat):Int)=((b.aN.length:Nat):Int)),Qo,Ql]
     have key:∀step:Int×Unit->Option ((Int×Unit)⊕Bool),(∃r,aE step (0,())=some r/\(r=true↔a.aN=b.aN))->∃r,aE step (0,())=some r/\(r=true↔a.aP=b.aP/\a.bm=b.bm/\a.aN=b.aN):=by
      rintro step ⟨r,h3,h4⟩;exact⟨r,h3,by rw[h4];exact⟨fun h=>⟨ht,h2.1 rfl,h⟩,fun h=>h.2.2⟩⟩
     refine key _ (Xt hi hl (fun i hi hi' hd hx hy hw=> ?_) (fun hd=> ?_))
     ·have hu:=Q0 hi;obtain⟨r,h3,h4⟩:=ih (a:=a.aN[i]) (b:=b.aN[i]) (by have:=qP hu;omega) (hm.inner _ hu)
      refine⟨r,?_,h4⟩;simp only[hd,hx,hy,hw,Qk,Qa,an.eta,h3];cases r<;>rfl
     ·simp only[hd,Ql];rfl
    ·rw[Qh (by omega:¬((a.aN.length:Nat):Int)=((b.aN.length:Nat):Int)),Qp,Qk]
     refine⟨false,rfl,?_⟩;simp only[Qq,false_iff];exact fun h=>hi (by rw[h.2.2])
  ·rw[Qh ht];refine⟨false,rfl,?_⟩;simp only[Qq,false_iff];exact fun h=>ht h.1
theorem acN{a b:an}(h:dD a):∃r,rn a b=some r/\(r=true↔a=b):=aaS (by omega) h
theorem abU{n:Nat}:∀{a b:an},SizeOf.sizeOf a<n->dD a->∃r,ub n (a,b,())=some r/\(r=true↔a=b):=by
 induction n with
 |zero=>intro a b h;omega
 |succ n ih=>
  intro a b hs hm;show∃r,py (ub n) a b=some r/\(r=true↔a=b);have hl:=hm.len;have hns:=hm.nodes;obtain⟨r,h1,h2⟩:=abm a.bm b.bm hns;rw[LX];unfold py
  by_cases ht:a.aP=b.aP
  ·rw[Qg ht];simp only[Qk,h1,Qa]
   cases r with
   |false=>
    simp only[Ql,Qa];refine⟨false,rfl,?_⟩;simp only[Qq,false_iff]at h2 ⊢;exact fun h=>h2 h.2.1
   |true=>
    simp only[Qk,Qa]
    have key:∀o:Option Bool,(∃r,o=some r/\(r=true↔a.aN=b.aN))->∃r,(Option.bind (Option.bind o fun r3=>some r3) fun b4=>some b4)=some r/\(r=true↔a.aP=b.aP/\a.bm=b.bm/\a.aN=b.aN):=by
     rintro o ⟨r,rfl,h4⟩;exact⟨r,rfl,by rw[h4];exact⟨fun h=>⟨ht,h2.1 rfl,h⟩,fun h=>h.2.2⟩⟩
    refine key _ ?_;unfold cZ
    by_cases hi:a.aN.length=b.aN.length
    ·rw[Qg (by omega:((a.aN.length:Nat):Int)=((b.aN.length:Nat):Int)),Qo,Ql]
     refine Xt hi hl (fun i hi hi' hd hx hy hw=> ?_) (fun hd=> ?_)
     ·have hu:=Q0 hi;obtain⟨r,h3,h4⟩:=ih (a:=a.aN[i]) (b:=b.aN[i]) (by have:=qP hu;omega) (hm.inner _ hu)
      refine⟨r,?_,h4⟩;simp only[hd,hx,hy,hw,Qk,Qa,an.eta,h3];cases r<;>rfl
     ·simp only[hd,Ql];rfl
    ·rw[Qh (by omega:¬((a.aN.length:Nat):Int)=((b.aN.length:Nat):Int)),Qp,Qk]
     exact⟨false,rfl,Vh hi⟩
  ·rw[Qh ht];refine⟨false,rfl,?_⟩;simp only[Qq,false_iff];exact fun h=>ht h.1
theorem eqT{a b:an}(h:dD a):∃r,ud a b=some r/\(r=true↔a=b):=abU (by omega) h
theorem SH(a b:Int)(s t:ByteArray):jz false a b s t=(decide (a=b)&&decide (s=t)):=by
 simp
theorem Ko(a b:ae):a=b↔a.aj=b.aj/\a.Value=b.Value:=by
 cases a;cases b;simp
theorem FB(a b:ai):a=b↔a.ar=b.ar/\a.bp=b.bp/\a.aF=b.aF/\a.aa=b.aa/\a.bs=b.bs/\a.ab=b.ab/\a.ao=b.ao/\a.aw=b.aw/\a.aI=b.aI/\a.aR=b.aR:=by
 cases a;cases b;simp
theorem SO(a b:Bool):(bif a then some b else some false)=some (a&&b):=by cases a<;>rfl
theorem acM{a b:ai}(h:dD a.aa):∃r,jH a b=some r/\(r=true↔a=b):=by
 obtain⟨r,h1,h2⟩:=acN (a:=a.aa) (b:=b.aa) h;have hc:∀x:Bool,(bif x then some r else some false)=some (x&&r):=fun x=>by cases x<;>rfl
 refine⟨_,by simp only[jH,an.eta,h1,Qa,SO,hc,SH];rfl,?_⟩
 rw[FB];simp only[Qm,Qi,h2,Ko];constructor
 ·rintro⟨⟨⟨⟨⟨⟨⟨⟨⟨h1,h2⟩,h3⟩,h4⟩,h5⟩,h6⟩,h7⟩,h8⟩,h9⟩,h10⟩;exact⟨h1,h2,h3,h4,h5,h6,h7,h8,h9,h10⟩
 ·rintro⟨h1,h2,h3,h4,h5,h6,h7,h8,h9,h10⟩;exact⟨⟨⟨⟨⟨⟨⟨⟨⟨h1,h2⟩,h3⟩,h4⟩,h5⟩,h6⟩,h7⟩,h8⟩,h9⟩,h10⟩
end Go.Proofs.YtkgenianmdfmdaaGreat
namespace Go.Proofs.YtkgenianmdfmdaaGreat
open Go.TQ
theorem JX{m:af}(h:ba m){ρ:Type}{step:Int×Unit->Option ((Int×Unit)⊕ρ)}{fin:Option ρ}
  (h1:∀(i:Nat) (e:ai),e∈m.az->decide ((i:Int)<((m.az.length:Nat):Int))=true->idx m.az (i:Int)=some e->aB .i64 (i:Int) 1=((i+1:Nat):Int)->
   (i=0\/(decide ((0:Int)<(i:Int))=true/\∃x,idx m.az (dz .i64 (i:Int) 1)=some x/\decide (e.ar<=x.ar)=false))->step ((i:Int),())=some (.inl (((i+1:Nat):Int),())))
  (h2:decide (((m.az.length:Nat):Int)<((m.az.length:Nat):Int))=false->step (((m.az.length:Nat):Int),())=Option.map Sum.inr fin):aE step (0,())=fin:=by
 have hl:=h.len;refine Mg m.az.length (by omega) (fun i hi hd hw=> ?_) h2
 have hx:idx m.az (i:Int)=some m.az[i]:=by rw[bz];exact Qv hi
 refine h1 i m.az[i] (Q0 hi) hd hx hw ?_
 cases i with
 |zero=>exact .inl rfl
 |succ i=>
  refine .inr ⟨Qg (by omega),m.az[i],?_,?_⟩
  ·have:dz .i64 ((i+1:Nat):Int) 1=(i:Int):=by rw[tf (by omega) (by omega)];omega
   rw[this,bz];exact Qv (by omega)
  ·have:=List.pairwise_iff_getElem.1 h.ob i (i+1) (by omega) hi (by omega)
   exact Qh (by omega)
theorem Y1{m:af}(h:ba m):qo m=some true:=by
 unfold qo;refine JX h (fun i e he hd hx hw hi=> ?_) (fun hd=>by simp only[hd,Ql])
 obtain⟨g1,g2,g3,g4⟩:=h.hv e he;simp only[hd,hx,hw,Qk,Qa,aU,an.eta,ai.eta,nQ g2.sm,g1,Qo,Ql,Qg g3,Qh g4];rcases hi with rfl|⟨hi,x,hx2,hn⟩
 ·rfl
 ·rw[hi,hx2];simp only[Qk,Qa,hn,Ql]
theorem Bk{m:af}(h:ba m)(hs:fZ m)(hz:aA m.ab=false):aL (bO m)=true:=by
 rw[<-Sg hs hz];exact MB h hz
theorem YM:jz false bM.aj (0:Int) bM.Value (ByteArray.mk #[])=true:=by decide
theorem wi{m:af}(h:ba m)(hs:fZ m):gE m=some true:=by
 have d1:decide (m.ar<0)=false:=Qh (by have:=h.n0;omega)
 have d2:decide ((10:Int)<=m.ar)=false:=Qh (by have:=h.n1;omega)
 have d3:decide (m.bp<1)=false:=Qh (by have:=h.bB;omega)
 have d4:decide ((1000000:Int)<m.bp)=false:=Qh (by have:=h.bB;omega)
 have d5:decide (m.aF<0)=false:=Qh (by have:=h.seq;omega)
 have d6:decide ((1000000:Int)<m.aF)=false:=Qh (by have:=h.seq;omega)
 have d7:decide ((200:Int)<((m.aX.size:Nat):Int))=false:=Qh (by have:=h.oh;omega)
 have hm:dD (bO m).aa:=by rw[ku];exact h.aO.sm
 unfold gE;simp only[d1,d2,d3,d4,d5,d6,d7,Ql,Qa,an.eta,af.eta,ai.eta,nS h.aO,decide_true,Qo,Y1 h,cx,wS,Bm h,nQ hm]
 cases hz:aA m.ab with
 |true=>
  have h0:P0 m:=by
   rcases h.body with k|k|k|k
   ·exact k
   ·rw[k.aJ.nz]at hz;cases hz
   ·rw[k.aJ.nz]at hz;cases hz
   ·rw[k.aJ.nz]at hz;cases hz
  unfold vu;simp only[h0.aK,hs.zero hz,h0.cY,h0.bJ,h0.dv,h0.low,h0.bI,YM,decide_true,Qk,Qa]
 |false=>
  have hv:=Bk h hs hz;simp only[hv,Ql,Qk]
  have hconf:mM m=some true:=by
   unfold mM;simp only[cx,rq,oJ,eL,Qa]
   have fin:∀(hf:cv m.au) (hp:(dt m.ao m.aw m.au||(!decide (m.aH=1)&&bC m.au m.ab))=true),_:=fun hf hp=>(show(bif aA m.au then some true else
     (bif !cq m.au then some true else some (decide (1000<m.au.aj))).bind fun b3=>bif b3 then some false else
     (bif dt m.ao m.aw m.au then some true else(bif !decide (m.aH=1)then some (bC m.au m.ab)else some false).bind fun b6=>some b6).bind fun b7=>some b7)=some true by
    rw[hf.nz,hf.valid,Qh (show¬1000<m.au.aj by have:=hf.2.1;omega)]
    revert hp
    cases dt m.ao m.aw m.au<;>cases decide (m.aH=1)<;>cases bC m.au m.ab<;>simp)
   have nob:m.au=bM->(bif aA m.au then some true else
     (bif !cq m.au then some true else some (decide (1000<m.au.aj))).bind fun b3=>bif b3 then some false else
     (bif dt m.ao m.aw m.au then some true else(bif !decide (m.aH=1)then some (bC m.au m.ab)else some false).bind fun b6=>some b6).bind fun b7=>some b7)=some true:=fun e=>by rw[e,bD];rfl
   rcases h.body with k|k|k|k
   ·exact nob k.dv
   ·rcases k.dv with e|⟨hf,hp⟩
    ·exact nob e
    ·exact fin hf (by rw[hp];rfl)
   ·rcases k.dv with e|⟨hf,hp⟩
    ·exact nob e
    ·exact fin hf (by rw[gW.2 hp,Qh (show¬m.aH=1 by have:=k.aK;omega)];simp)
   ·exact nob k.dv
  rw[hconf];simp only[Qa,Qk];rcases h.body with k|k|k|k
  ·rw[k.aJ,bD]at hz;cases hz
  ·simp only[k.aK,k.bI,decide_true,Qo,Ql,Qa,Qp,Qk,show decide ((1:Int)=3)=false from rfl]
  ·simp only[k.aK,k.bJ,bD,show decide ((2:Int)=1)=false from rfl,show decide ((2:Int)=3)=false from rfl,Qo,Ql,Qa,Qp,Qk]
  ·simp only[k.aK,k.bJ,k.cY,bD,show decide ((3:Int)=1)=false from rfl,decide_true,Qo,Ql,Qa,Qp,Qk]
theorem yr{m:af}(h:ba m)(hs:fZ m):jQ m=some true:=by
 have d1:decide (m.ar<0)=false:=Qh (by have:=h.n0;omega)
 have d2:decide ((9:Int)<m.ar)=false:=Qh (by have:=h.n1;omega)
 have d3:decide (m.bp<1)=false:=Qh (by have:=h.bB;omega)
 have d4:decide ((1000000:Int)<m.bp)=false:=Qh (by have:=h.bB;omega)
 have d5:decide (m.aF<0)=false:=Qh (by have:=h.seq;omega)
 have d6:decide ((1000000:Int)<m.aF)=false:=Qh (by have:=h.seq;omega)
 have d7:decide ((200:Int)<((m.aX.size:Nat):Int))=false:=Qh (by have:=h.oh;omega)
 have hm:dD (bO m).aa:=by rw[ku];exact h.aO.sm
 unfold jQ;simp only[d1,d2,d3,d4,d5,d6,d7,Ql,Qa,an.eta,nG h.aO,decide_true,Qo];refine JX h (fun i e he hd hx hw hi=> ?_) (fun hd=> ?_)
 ·obtain⟨g1,g2,g3,g4⟩:=h.hv e he;simp only[hd,hx,hw,Qk,Qa,aU,an.eta,ai.eta,gm g2.sm,g1,Qo,Ql,Qg g3,Qh g4];rcases hi with rfl|⟨hi,x,hx2,hn⟩
  ·rfl
  ·rw[hi,hx2];simp only[Qk,Qa,hn,Ql]
 ·simp only[hd,Ql];congr 1;simp only[di,zk,qa,fu,Qa,an.eta,af.eta,ai.eta,xY,gm hm]
  cases hz:aA m.ab with
  |true=>
   have h0:P0 m:=by
    rcases h.body with k|k|k|k
    ·exact k
    ·rw[k.aJ.nz]at hz;cases hz
    ·rw[k.aJ.nz]at hz;cases hz
    ·rw[k.aJ.nz]at hz;cases hz
   simp only[h0.aK,hs.zero hz,h0.cY,h0.bJ,h0.dv,h0.low,h0.bI,bD,decide_true,Qk,Qa]
  |false=>
   have hv:=Bk h hs hz;simp only[hv,Ql,Qo];rcases h.body with k|k|k|k
   ·rw[k.aJ,bD]at hz;cases hz
   ·simp only[k.aK,k.bI,decide_true,Qo,Ql,Qa,Qp,Qk,show decide ((1:Int)=3)=false from rfl,show decide ((1:Int)=2)=false from rfl]
    rcases k.dv with e|⟨hf,hp⟩
    ·rw[e,bD];rfl
    ·rw[hf.nz,hf.valid,Qh (show¬1000<m.au.aj by have:=hf.2.1;omega),hp];rfl
   ·simp only[k.aK,k.bJ,bD,show decide ((2:Int)=1)=false from rfl,show decide ((2:Int)=3)=false from rfl,decide_true,Qo,Ql,Qa,Qp,Qk]
    rcases k.dv with e|⟨hf,hp⟩
    ·rw[e,bD];rfl
    ·rw[hf.nz,hf.valid,Qh (show¬1000<m.au.aj by have:=hf.2.1;omega),gW.2 hp];rfl
   ·simp only[k.aK,k.bJ,k.cY,k.dv,bD,show decide ((3:Int)=1)=false from rfl,show decide ((3:Int)=2)=false from rfl,decide_true,Qo,Ql,Qa,Qp,Qk]
end Go.Proofs.YtkgenianmdfmdaaGreat
namespace Go.Proofs.YtkgenianmdfmdaaGreat
open Go.TQ
theorem vS(x:af):(cj x).ar=x.ar/\(cj x).bp=x.bp/\(cj x).aa=x.aa/\(cj x).aX=x.aX/\(cj x).az=x.az/\(cj x).ab=x.ab:=by
 unfold cj;split<;>exact⟨rfl,rfl,rfl,rfl,rfl,rfl⟩
theorem WH{x:af}(hx:ba x):(cj x).aF=x.aF\/(x.aF=0/\(cj x).aF=1):=by
 have:=hx.seq;unfold cj;split
 ·show bo x.aF 1=x.aF\/(x.aF=0/\bo x.aF 1=1);unfold bo;split<;>omega
 ·exact .inl rfl
theorem vT{m m':af}(he:ff m m')(h:¬m'=m):lM m m'=false:=by
 cases hs:lM m m' with
 |false=>rfl
 |true=>exact absurd (Ol he hs) h
theorem VR{R:af->Prop}(hR1:∀m,ba m->R m->R (cg m))(hR2:∀m,R m->R (cj m)){m:af}(h:ba m)(hs:fZ m)(hr:R m):Yd (ql m) (AV R m):=by
 unfold ql;simp only[af.eta,an.eta,yr h hs,Qa,Qo,Ql];refine Yd.down (fun s=>ba s.1/\R s.1/\ff m s.1/\(aA m.ab=false->aA s.1.ab=false)) (fun s=>K1+K2 - iN s.1) ?_ ⟨h,hr,ff.refl m,id⟩
 rintro⟨x,z,_⟩ ⟨hx,hrx,hex,hzx⟩;simp only at hx hrx hex hzx;simp only[af.eta,aU,TF hx.ev,Qa,UN]
 have hgo:∀{y:af},y=cg x->¬y=x->(ba y/\R y/\ff m y/\(aA m.ab=false->aA y.ab=false))/\K1+K2 - iN y<K1+K2 - iN x:=by
  rintro y rfl hne;have hv:=um x;have hup:=(Og hx).resolve_left hne;have h1:=R9 (wP hx);exact⟨⟨wP hx,hR1 _ hx hrx,⟨hv.ax.trans hex.ax,hv.bB.trans hex.bB,hv.seq.trans hex.seq,hv.aO.trans hex.aO,hv.oh.trans hex.oh,hv.heard.trans hex.heard⟩,fun hz=>G8 hx (hzx hz)⟩,by omega⟩
 by_cases hP:cy x=x
 ·simp only[hP,oP,Qk,RT hx.ev,Qa]
  by_cases hS:fX x=x
  ·simp only[hS,oP,Qk,RU hx.ev,Qa]
   by_cases hC:fl x=x
   ·simp only[hC,oP,Qk,Zf hx.ev,Qa]
    by_cases hF:iW x=x
    ·simp only[hF,oP,Qk,Xk hx.ev,Qa];have e:cg x=eJ x:=by unfold cg;rw[Qr hP,Qr hS,Qr hC,Qr hF]
     by_cases hK:eJ x=x
     ·simp only[hK,oP,Qk,di,Qa]
      have hnum:(bif !aA x.ab then Option.map Sum.inr (some (⟨x.ar,x.bp,bo x.aF (1:Int),x.aa,x.aH,x.ab,x.ao,x.aw,x.au,x.aI,x.aR,x.aX,x.az⟩:af))else Option.map (Sum.inr (α:=af×af×Unit)) (some x))=some (Sum.inr (cj x)):=by
       unfold cj;cases aA x.ab<;>rfl
      rw[hnum];obtain⟨e1,e2,e3,e4,e5,e6⟩:=vS x;refine .some ⟨Cq hx,Ft fun hz=> ?_,⟨e1.trans hex.ax,e2.trans hex.bB,e3.trans hex.aO,e4.trans hex.oh,e5.trans hex.heard⟩,?_,fun hz=>by rw[e6];exact hzx hz,hR2 _ hrx,WI hx ⟨hP,hS,hC,hF,hK⟩⟩
      ·rw[hex.seq];refine hs.zero ?_
       cases hzz:aA m.ab with
       |true=>rfl
       |false=>rw[hzx hzz]at hz;cases hz
      ·have:=WH hx;rw[hex.seq]at this;exact this
     ·simp only[vT (wR x) hK,Ql];exact .some (hgo e.symm hK)
    ·simp only[vT (qC x) hF,Ql];have e:cg x=iW x:=by unfold cg;rw[Qr hP,Qr hS,Qr hC,Qs hF]
     exact .some (hgo e.symm hF)
   ·simp only[vT (qD x) hC,Ql];have e:cg x=fl x:=by unfold cg;rw[Qr hP,Qr hS,Qs hC]
    exact .some (hgo e.symm hC)
  ·simp only[vT (qB x) hS,Ql];have e:cg x=fX x:=by unfold cg;rw[Qr hP,Qs hS]
   exact .some (hgo e.symm hS)
 ·simp only[vT (ur x) hP,Ql];have e:cg x=cy x:=by unfold cg;rw[Qs hP]
  exact .some (hgo e.symm hP)
open Classical in
 def fY(m m2:af):af:=if aA m.ab=false/\{bO m with aF:=0}≠{bO m2 with aF:=0}then{m2 with aF:=de (m2.aF+1) 1000000}else m2
theorem PX(m m2:af):∃s,fY m m2={m2 with aF:=s}/\(s=m2.aF\/s=de (m2.aF+1) 1000000):=by
 unfold fY;split
 ·exact⟨_,rfl,.inr rfl⟩
 ·exact⟨m2.aF,rfl,.inl rfl⟩
theorem AR{m m2:af}(h:ba m2):∃s,fY m m2={m2 with aF:=s}/\m2.aF<=s/\0<=s/\s<=1000000:=by
 obtain⟨s,h1,h2⟩:=PX m m2;have:=h.seq;refine⟨s,h1,?_⟩;rcases h2 with rfl|rfl
 ·omega
 ·unfold de;split<;>omega
theorem PY{m m2:af}(h:ba m2):ba (fY m m2):=by
 obtain⟨s,h1,h2⟩:=AR (m:=m) h;rw[h1];exact Lu h h2.2
theorem Xm{m m2:af}(h:ba m2)(hf:zj m2):zj (fY m m2):=by
 obtain⟨s,h1,h2⟩:=AR (m:=m) h;rw[h1];exact SD h hf h2.2
theorem SS{m m2:af}(h:ba m2)(hs:fZ m2)(hnz:aA m.ab=false->aA m2.ab=false):fZ (fY m m2):=by
 unfold fY;split
 ·rename_i hc;have:=hs.pos (hnz hc.1);refine⟨fun hz=> ?_,fun _=> ?_⟩
  ·rw[show({m2 with aF:=de (m2.aF+1) 1000000}:af).ab=m2.ab from rfl,hnz hc.1]at hz
   cases hz
  ·show 1<=de (m2.aF+1) 1000000;unfold de;split<;>omega
 ·exact hs
def G2(R:af->Prop)(m m1:af)(q:af×Int×Unit):Prop:=∃m2,q=(fY m m2,(0:Int),())/\AV R (cj m1) m2
theorem ZC{R:af->Prop}{m1 m2:af}(h1:ba m1)(h:AV R m1 m2):AV R (cj m1) m2:=by
 obtain⟨e1,e2,e3,e4,e5,e6⟩:=vS m1;refine⟨h.inv,h.seq,?_,?_,fun hz=>h.nz (by rw[e6]at hz;exact hz),h.rel,h.fix⟩
 ·obtain⟨a1,a2,a3,a4,a5⟩:=h.env;exact⟨a1.trans e1.symm,a2.trans e2.symm,a3.trans e3.symm,a4.trans e4.symm,a5.trans e5.symm⟩
 ·have hn:=h.num;have hq:=h1.seq
  cases hz:aA m1.ab with
  |true=>
   have:cj m1=m1:=Qs (by rw[hz];decide)
   rw[this];exact hn
  |false=>
   have h3:=h.seq.pos (h.nz hz);have:(cj m1).aF=bo m1.aF 1:=by unfold cj;rw[Qr hz]
   rw[this];left;unfold bo;split<;>omega
theorem Zj{m:af}(h:ba m):dD ({bO m with aF:=0}:ai).aa:=by rw[show({bO m with aF:=0}:ai).aa=(bO m).aa from rfl,ku];exact h.aO.sm
theorem xR{R:af->Prop}(hR1:∀m,ba m->R m->R (cg m))(hR2:∀m,R m->R (cj m)){m m1:af}(h:ba m)(h1:ba m1)(hz1:aA m1.ab=true->m1.aF=0)(hnz:aA m.ab=false->aA m1.ab=false)(hr:R m1):
  Yd (fR m (cj m1)) fun q=>∃m2,q=fY m m2/\AV R (cj m1) m2:=by
 unfold fR;simp only[af.eta,an.eta];refine Yd.bind (VR hR1 hR2 (Cq h1) (Ft hz1) (hR2 _ hr)) fun m2 ha=> ?_
 have hq:=ha.inv.seq;obtain⟨r,g1,g2⟩:=acM (a:={bO m with aF:=0}) (b:={bO m2 with aF:=0}) (Zj h)
 have hadd:aB .i64 m2.aF 1=m2.aF+1:=bH (by omega) (by omega)
 simp only[di,Qa,xY,aU,g1,hadd]
 cases hz2:aA m2.ab with
 |true=>
  have hz:aA m.ab=true:=by
   cases hc:aA m.ab with
   |true=>rfl
   |false=>rw[ha.nz (by rw[(vS m1).2.2.2.2.2];exact hnz hc)]at hz2;cases hz2
  refine .some ⟨m2,?_,ha⟩;unfold fY;rw[Qs (by rw[hz];rintro⟨e,_⟩;cases e)]
 |false=>
  refine Yd.of_eq (x:=fY m m2) ?_ ⟨m2,rfl,ha⟩;unfold fY
  cases hz:aA m.ab with
  |true=>rw[Qs (by rintro⟨e,_⟩;cases e)];rfl
  |false=>
   cases r with
   |true=>rw[Qs (fun e=>e.2 (g2.1 rfl))];rfl
   |false=>rw[Qr ⟨rfl,fun e=>by have:=g2.2 e;cases this⟩];rfl
theorem ZY(a b:ai)(h:dD a.aa)(hn:a.ar=b.ar)(hs:a.bp=b.bp):∃r,mg a b=some r/\(r=true↔{a with aF:=0}={b with aF:=0}):=by
 obtain⟨r,h1,h2⟩:=eqT (a:=a.aa) (b:=b.aa) h;refine⟨r&&decide (a.bs=b.bs)&&decide (a.ab=b.ab)&&decide (a.ao=b.ao)&&decide (a.aw=b.aw)&&decide (a.aI=b.aI)&&decide (a.aR=b.aR),?_,?_⟩
 ·unfold mg;simp only[an.eta,h1,Qa,SO,SH,<-Bool.decide_and,<-Ko,Qa]
 ·rw[FB];simp only[Qm,Qi,hn,hs,h2,true_and];simp only[and_assoc]
theorem y6{m:af}(h:ba m):je m=some m:=by
 unfold je;simp only[an.eta,uB h.aO.sm,Qa];rw[V1 (fun e he=>(h.hv e he).2.1.sm) (by have:=h.len;omega)]
 rfl
theorem Ml{l:List ai}{e:ai}(hv:aL e=true):
  (∃x∈l,x.ar=e.ar/\e.aF<=x.aF/\mj l e=(l,false,()))\/
  (∃a b,((∃x,l=a++x::b/\x.ar=e.ar/\x.aF<e.aF)\/(l=a++b/\(∀x∈l,x.ar≠e.ar)/\(∀x∈a,¬e.ar<x.ar)/\(∀x,b.head?=some x->e.ar<x.ar)))/\mj l e=(a++e::b,true,())):=by
 unfold mj;rw[Qr hv]
 cases hf:l.findIdx? (fun x=>decide (x.ar=e.ar))with
 |some i=>
  obtain⟨hi,h2,_⟩:=List.findIdx?_eq_some_iff_getElem.1 hf;have hx:l[i]?=some l[i]:=Qv hi;have h2:=of_decide_eq_true h2;simp only[hx,Q3]
  by_cases hle:e.aF<=l[i].aF
  ·left;rw[Qr hle];exact⟨l[i],Q0 hi,h2,hle,rfl⟩
  ·right;rw[Qs hle];refine⟨l.take i,l.drop (i+1),.inl ⟨l[i],?_,h2,by omega⟩,?_⟩
   ·rw[List.getElem_cons_drop];exact(List.take_append_drop i l).symm
   ·rw[List.set_eq_take_append_cons_drop,Qr hi]
 |none=>
  right
  have hne:∀x∈l,x.ar≠e.ar:=fun x hx he=>by
   have:=List.findIdx?_eq_none_iff.1 hf x hx;rw[he]at this;simp at this
  refine⟨l.take (Ab l e),l.drop (Ab l e),.inr ⟨(List.take_append_drop _ l).symm,hne,?_,?_⟩,by rw[QL];rfl⟩
  ·intro x hx hlt;obtain⟨j,hj,rfl⟩:=List.getElem_of_mem hx;rw[List.getElem_take]at hlt;rw[List.length_take]at hj;unfold Ab at hj
   cases hg:l.findIdx? (fun x=>decide (e.ar<x.ar))with
   |none=>
    have:=List.findIdx?_eq_none_iff.1 hg _ (Q0 (show j<l.length by omega))
    simp[hlt]at this
   |some k=>
    obtain⟨_,_,h3⟩:=List.findIdx?_eq_some_iff_getElem.1 hg;rw[hg,Q3]at hj;have:=h3 j (by omega)
    simp[hlt]at this
  ·intro x hx;rw[List.head?_drop]at hx;unfold Ab at hx
   cases hg:l.findIdx? (fun x=>decide (e.ar<x.ar))with
   |none=>rw[hg,Option.getD_none,List.getElem?_eq_none (QI _)]at hx;cases hx
   |some k=>
    obtain⟨hk,h2,_⟩:=List.findIdx?_eq_some_iff_getElem.1 hg;rw[hg,Q3,Qv hk]at hx;obtain rfl:=Option.some.inj hx;exact of_decide_eq_true h2
theorem Sb{l:List ai}{e:ai}{y:ai}(hy:y∈(mj l e).1):y=e\/y∈l:=by
 by_cases hv:aL e=true
 ·rcases Ml (l:=l) hv with⟨x,_,_,_,h⟩|⟨a,b,h1,h⟩
  ·rw[h]at hy;exact .inr hy
  ·rw[h]at hy;rcases Qz.1 hy with hy|hy
   ·rcases h1 with⟨x,rfl,_⟩|⟨rfl,_⟩
    ·exact .inr (List.mem_append_left _ hy)
    ·exact .inr (List.mem_append_left _ hy)
   ·rcases QA.1 hy with hy|hy
    ·exact .inl hy
    ·rcases h1 with⟨x,rfl,_⟩|⟨rfl,_⟩
     ·exact .inr (List.mem_append_right _ (Qy _ hy))
     ·exact .inr (List.mem_append_right _ hy)
 ·unfold mj at hy;rw[Qs hv]at hy;exact .inr hy
theorem TC{l:List ai}{e:ai}(hl:l.Pairwise (fun a b=>a.ar<b.ar)):(mj l e).1.Pairwise (fun a b=>a.ar<b.ar):=by
 by_cases hv:aL e=true
 ·rcases Ml (l:=l) hv with⟨x,_,_,_,h⟩|⟨a,b,h1,h⟩
  ·rw[h];exact hl
  ·rw[h];show(a++e::b).Pairwise _;rcases h1 with⟨x,rfl,hn,_⟩|⟨rfl,hne,ha,hb⟩
   ·rw[List.pairwise_append,Q4]at hl ⊢;obtain⟨g1,⟨g2,g3⟩,g4⟩:=hl;refine⟨g1,⟨fun y hy=> ?_,g3⟩,fun y hy z hz=> ?_⟩
    ·rw[<-hn];exact g2 y hy
    ·rcases QA.1 hz with rfl|hz
     ·rw[<-hn];exact g4 y hy x Qx
     ·exact g4 y hy z (Qy _ hz)
   ·rw[List.pairwise_append]at hl;rw[List.pairwise_append,Q4];obtain⟨g1,g3,g4⟩:=hl
    have hbe:∀y∈b,e.ar<y.ar:=by
     intro y hy
     cases b with
     |nil=>cases hy
     |cons z b=>
      have:=hb z rfl;rcases QA.1 hy with rfl|hy
      ·exact this
      ·have:=(Q4.1 g3).1 y hy;omega
    refine⟨g1,⟨hbe,g3⟩,fun y hy z hz=> ?_⟩
    rcases QA.1 hz with rfl|hz
    ·have h2:=ha y hy;have h3:=hne y (List.mem_append_left _ hy);omega
    ·exact g4 y hy z hz
 ·unfold mj;rw[Qs hv];exact hl
structure BO (m:af) (e:ai):Prop where
 valid:aL e=true
 aO:gC e.aa
 bB:e.bp=m.bp
 ax:e.ar≠m.ar
 def nu(m:af)(e:ai):af:={m with az:=(mj m.az e).1}
theorem CI{m:af}(h:ba m){e:ai}(he:BO m e):ba (nu m e):=by
 refine⟨h.n0,h.n1,h.bB,h.seq,h.aO,h.oh,fun y hy=> ?_,TC h.ob,?_⟩
 ·rcases Sb hy with rfl|hy
  ·exact⟨he.valid,he.aO,he.bB,he.ax⟩
  ·exact h.hv y hy
 ·rcases h.body with k|k|k|k
  ·exact .inl ⟨k.aK,k.aJ,k.cY,k.bJ,k.dv,k.low,k.bI⟩
  ·exact .inr (.inl ⟨k.aK,k.aJ,k.cY,k.bJ,k.dv,k.up,k.bI,k.low⟩)
  ·exact .inr (.inr (.inl ⟨k.aK,k.aJ,k.cY,k.bJ,k.dv,k.range⟩))
  ·exact .inr (.inr (.inr ⟨k.aK,k.aJ,k.cY,k.bJ,k.dv,k.range⟩))
def z6(m:af)(t:an):af:={m with aa:=t}
theorem PE{m:af}(h:ba m){t:an}(ht:gC t):ba (z6 m t):=by
 refine⟨h.n0,h.n1,h.bB,h.seq,ht,h.oh,h.hv,h.ob,?_⟩;rcases h.body with k|k|k|k
 ·exact .inl ⟨k.aK,k.aJ,k.cY,k.bJ,k.dv,k.low,k.bI⟩
 ·exact .inr (.inl ⟨k.aK,k.aJ,k.cY,k.bJ,k.dv,k.up,k.bI,k.low⟩)
 ·exact .inr (.inr (.inl ⟨k.aK,k.aJ,k.cY,k.bJ,k.dv,k.range⟩))
 ·exact .inr (.inr (.inr ⟨k.aK,k.aJ,k.cY,k.bJ,k.dv,k.range⟩))
def dF(m:af)(v:ByteArray):af:=if aA m.ab=true then{m with aX:=v,ab:=⟨1,da {m with aX:=v}⟩}else{m with aX:=v}
theorem Yk{v:ByteArray}(h:1<=v.size):v≠fb:=by
 rintro rfl;exact absurd h (by decide)
theorem N8{m:af}(h:P0 m){v:ByteArray}(hv:1<=v.size):da {m with aX:=v}=v:=by
 unfold da;rw[Qs (by rw[show({m with aX:=v}:af).au=m.au from rfl,h.dv,bD];decide),Qs (by rw[show({m with aX:=v}:af).aH=m.aH from rfl,h.aK];decide),Qr (Yk hv)]
theorem yK{m:af}(h:ba m){v:ByteArray}(hv:1<=v.size/\v.size<=200):ba (dF m v):=by
 unfold dF;rcases h.body with k|k|k|k
 ·rw[Qr (by rw[k.aJ];exact bD),N8 k hv.1]
  refine⟨h.n0,h.n1,h.bB,h.seq,h.aO,hv.2,h.hv,h.ob,.inr (.inl ⟨k.aK,⟨by show(1:Int)<=1;omega,by show(1:Int)<=1000;omega,hv.1,hv.2⟩,.inl k.cY,.inl k.bJ,.inl k.dv,?_,k.bI,.inl k.low⟩)⟩
  show bd _ m.au=false;rw[k.dv]
  cases hl:bd (⟨1,v⟩:ae) bM with
  |false=>rfl
  |true=>have:=gH hl;exact absurd (show(1:Int)<=0 from this) (by decide)
 ·rw[Qs (by rw[k.aJ.nz];decide)]
  exact⟨h.n0,h.n1,h.bB,h.seq,h.aO,hv.2,h.hv,h.ob,.inr (.inl ⟨k.aK,k.aJ,k.cY,k.bJ,k.dv,k.up,k.bI,k.low⟩)⟩
 ·rw[Qs (by rw[k.aJ.nz];decide)]
  exact⟨h.n0,h.n1,h.bB,h.seq,h.aO,hv.2,h.hv,h.ob,.inr (.inr (.inl ⟨k.aK,k.aJ,k.cY,k.bJ,k.dv,k.range⟩))⟩
 ·rw[Qs (by rw[k.aJ.nz];decide)]
  exact⟨h.n0,h.n1,h.bB,h.seq,h.aO,hv.2,h.hv,h.ob,.inr (.inr (.inr ⟨k.aK,k.aJ,k.cY,k.bJ,k.dv,k.range⟩))⟩
def kQ(m:af):af:={m with aI:=if da m=m.ab.Value then m.aI else 0,ab:=⟨m.ab.aj+1,da m⟩}
theorem V7{m:af}(h:ba m)(h3:m.aH≠3)(hv:da m≠fb):1<=(da m).size/\(da m).size<=200:=by
 have h1:m.aH=1->(m.au=bM\/cv m.au)->1<=(da m).size/\(da m).size<=200:=fun hp hc=>by
  refine R2 h hp hc ?_;refine Classical.byContradiction fun hn=>hv ?_
  simp only[not_or,Classical.not_not]at hn;obtain⟨a1,a2,a3⟩:=hn;unfold da;rw[Qs (by rw[a3,bD];decide),Qs (by rw[hp];decide),Qs (by rw[a2];exact fun e=>e rfl),a1]
  rfl
 rcases h.body with k|k|k|k
 ·exact h1 k.aK (.inl k.dv)
 ·exact h1 k.aK (k.dv.imp_right And.left)
 ·unfold da;rcases k.dv with e|⟨hf,_⟩
  ·rw[Qs (by rw[e,bD];decide),Qr (by rw[k.aK];decide)]
   exact k.aJ.2.2
  ·rw[Qr hf.nz];exact hf.2.2
 ·exact absurd k.aK h3
theorem aa1{m:af}(k:P2 m):da m=m.ab.Value:=by
 unfold da;rcases k.dv with e|⟨hf,he⟩
 ·rw[Qs (by rw[e,bD];decide),Qr (by rw[k.aK];decide)]
 ·rw[Qr hf.nz,he]
theorem Oe{m:af}(h:ba m)(h3:m.aH≠3)(hv:da m≠fb)(hc:m.ab.aj<1000):ba (kQ m):=by
 have hsz:=V7 h h3 hv;refine⟨h.n0,h.n1,h.bB,h.seq,h.aO,h.oh,h.hv,h.ob,?_⟩;have hfin:0<=m.ab.aj->cv (kQ m).ab:=fun h0=>⟨by show 1<=m.ab.aj+1;omega,by show m.ab.aj+1<=1000;omega,hsz⟩
 rcases h.body with k|k|k|k
 ·have h0:m.ab.aj=0:=by rw[k.aJ];rfl
  refine .inr (.inl ⟨k.aK,hfin (by omega),.inl k.cY,.inl k.bJ,.inl k.dv,?_,k.bI,.inl ?_⟩)
  ·show bd (⟨m.ab.aj+1,da m⟩:ae) m.au=false;rw[k.dv]
   cases hl:bd (⟨m.ab.aj+1,da m⟩:ae) bM with
   |false=>rfl
   |true=>have:=gH hl;exact absurd (show m.ab.aj+1<=0 from this) (by omega)
  ·show(if da m=m.ab.Value then m.aI else 0)=0
   rw[k.low,ite_self]
 ·have hb:=k.aJ;have h0:0<=m.ab.aj:=by have:=hb.1;omega
  refine .inr (.inl ⟨k.aK,hfin h0,k.cY,k.bJ,k.dv,?_,k.bI,?_⟩)
  ·show bd (⟨m.ab.aj+1,da m⟩:ae) m.au=false
   cases hl:bd (⟨m.ab.aj+1,da m⟩:ae) m.au with
   |false=>rfl
   |true=>
    have h1:=gH hl;have h2:=HH k.up;exact absurd (show m.ab.aj+1<=m.au.aj from h1) (by omega)
  ·show(if da m=m.ab.Value then m.aI else 0)=0\/_
   by_cases he:da m=m.ab.Value
   ·have hlow:(kQ m).aI=m.aI:=by show(if da m=m.ab.Value then m.aI else 0)=m.aI;rw[Qr he]
    have hhigh:er (kQ m)=er m:=by
     show(if(!aA m.au&&bC m.au ⟨m.ab.aj+1,da m⟩)=true then m.au.aj else 0)=er m
     rw[he];rfl
    rw[Qr he,hlow,hhigh];rcases k.low with e|⟨g1,g2,g3⟩
    ·exact .inl e
    ·refine .inr ⟨g1,g2,?_⟩;show kK m.ao m.aw (da m) m.aI=false;rw[he];exact g3
   ·rw[Qs he];exact .inl rfl
 ·have hb:=k.aJ;have h0:0<=m.ab.aj:=by have:=hb.1;omega
  have hv2:=aa1 k;have hval:(kQ m).ab.Value=m.ab.Value:=hv2;have hlow:(kQ m).aI=m.aI:=by show(if da m=m.ab.Value then m.aI else 0)=m.aI;rw[Qr hv2]
  refine .inr (.inr (.inl ⟨k.aK,hfin h0,?_,k.bJ,?_,?_⟩))
  ·rw[hval];exact k.cY
  ·rw[hval];exact k.dv
  ·rw[hlow];exact k.range
 ·exact absurd k.aK h3
end Go.Proofs.YtkgenianmdfmdaaGreat
namespace Go.Proofs.YtkgenianmdfmdaaGreat
open Go.TQ
def aaY:an:=⟨0,[],[]⟩
def BR:af:=⟨0,0,0,aaY,0,bM,bM,bM,bM,0,0,fb,[]⟩
theorem Jr{m m1:af}(hs:fZ m)(hb:aA m1.ab=aA m.ab)(hq:m1.aF=m.aF):cj m1=m1:=by
 refine Sj ⟨fun hz=> ?_,fun hz=> ?_⟩
 ·rw[hq];exact hs.zero (by rw[<-hb];exact hz)
 ·rw[hq];exact hs.pos (by rw[<-hb];exact hz)
theorem j1{m:af}{v:ByteArray}:(aA m.ab=false->aA (dF m v).ab=false)/\(dF m v).aF=m.aF:=by
 unfold dF;split
 ·rename_i hz;refine⟨fun e=> ?_,rfl⟩
  rw[hz]at e;cases e
 ·exact⟨fun e=>e,rfl⟩
theorem OQ{m:af}(h:ba m){v:ByteArray}(hv:1<=v.size/\v.size<=200):aA (dF m v).ab=false:=by
 rcases h.body with k|k|k|k
 ·unfold dF;rw[Qr (by rw[k.aJ];exact bD),N8 k hv.1]
  exact cv.nz ⟨by show(1:Int)<=1;omega,by show(1:Int)<=1000;omega,hv.1,hv.2⟩
 ·exact j1.1 k.aJ.nz
 ·exact j1.1 k.aJ.nz
 ·exact j1.1 k.aJ.nz
theorem Fg{m:af}(h:ba m):aA (kQ m).ab=false:=by
 have:0<=m.ab.aj:=by
  rcases h.body with k|k|k|k
  ·rw[k.aJ];decide
  ·have:=k.aJ.1;omega
  ·have:=k.aJ.1;omega
  ·have:=k.aJ.1;omega
 cases hz:aA (kQ m).ab with
 |false=>rfl
 |true=>
  have:=ug.1 hz;have h2:m.ab.aj+1=0:=congrArg ae.aj this;omega
section
variable {R : af -> Prop} (hR1 : ∀ m, ba m -> R m -> R (cg m)) (hR2 : ∀ m, R m -> R (cj m)) {m : af} (h : ba m) (hs : fZ m)
 include hR1 hR2 h hs
theorem Wr{v:ByteArray}(hv:1<=v.size/\v.size<=200)(hr:R (dF m v)):Yd (qj m v) (G2 R m (dF m v)):=by
 have d1:decide (((ByteArray.size v:Nat):Int)<(1:Int))=false:=Qh (by omega)
 have d2:decide ((200:Int)<((ByteArray.size v:Nat):Int))=false:=Qh (by omega)
 have hi:=yK h hv;have hval:lu {m with aX:=v}=some (da {m with aX:=v}):=KI (m:={m with aX:=v}) ⟨h.ev.n0,h.ev.n1,h.ev.aO,h.ev.len,h.ev.sm,h.ev.valid⟩
 unfold qj;simp only[af.eta,an.eta,yr h hs,Qa,Qo,Ql,d1,d2,di,aU]
 have key:Yd ((fR m (cj (dF m v))).bind fun r5=>some (r5,(0:Int),())) (G2 R m (dF m v)):=
  Yd.bind (xR hR1 hR2 h hi (fun hz=>by rw[j1.2];exact hs.zero (by cases hc:aA m.ab with|true=>rfl|false=>rw[j1.1 hc]at hz;cases hz)) j1.1 hr) fun q hq=>by
   obtain⟨m2,rfl,ha⟩:=hq;exact .some ⟨m2,rfl,ha⟩
 cases hz:aA m.ab with
 |true=>
  have hsq:=hs.zero hz
  have he:cj (dF m v)=⟨m.ar,m.bp,1,m.aa,m.aH,⟨1,da {m with aX:=v}⟩,m.ao,m.aw,m.au,m.aI,m.aR,v,m.az⟩:=by
   unfold cj;rw[Qr (OQ h hv),j1.2,hsq];unfold dF;rw[Qr hz];rfl
  rw[he]at key;simp only[Qk];rw[show(⟨m.ar,m.bp,m.aF,m.aa,m.aH,m.ab,m.ao,m.aw,m.au,m.aI,m.aR,v,m.az⟩:af)={m with aX:=v}from rfl,hval]
  exact key
 |false=>
  have he:cj (dF m v)=⟨m.ar,m.bp,m.aF,m.aa,m.aH,m.ab,m.ao,m.aw,m.au,m.aI,m.aR,v,m.az⟩:=by
   rw[Jr hs (by rw[j1.1 hz,hz]) j1.2]
   unfold dF;rw[Qs (by rw[hz];decide)]
  rw[he]at key;exact key
theorem Wq{e:ai}(he:BO m e)(hr:R (nu m e)):Yd (kX m e) fun q=>(G2 R m (nu m e) q/\(mj m.az e).2.1=true)\/(q=(BR,(9:Int),())/\(mj m.az e).2.1=false):=by
 have hi:=CI h he;have hlen:=h.len;have hput:=Yp (l:=m.az) (fun x hx=>(h.hv x hx).2.1.sm) (by omega) (e:=e) he.aO.sm
 have hid:cj (nu m e)=nu m e:=Jr hs rfl rfl;unfold kX;simp only[af.eta,an.eta,ai.eta,yr h hs,Qa,Qo,Ql,gm he.aO.sm,he.valid,Qh he.ax,Qg he.bB,hput]
 cases hp:(mj m.az e).2.1 with
 |false=>exact .some (.inr ⟨rfl,rfl⟩)
 |true=>
  have:=xR hR1 hR2 h hi hs.zero (fun e=>e) hr
  rw[hid]at this;refine Yd.bind this fun q hq=> ?_
  obtain⟨m2,rfl,ha⟩:=hq;exact .some (.inl ⟨⟨m2,rfl,by rw[hid];exact ha⟩,rfl⟩)
theorem Wp(hr:R (kQ m)):Yd (qi m) fun q=>(G2 R m (kQ m) q/\m.aH≠3/\da m≠fb/\m.ab.aj<1000)\/(q=(BR,(62:Int),())/\(m.aH=3\/da m=fb))\/(q=(BR,(3:Int),())/\1000<=m.ab.aj):=by
 unfold qi;simp only[af.eta,an.eta,yr h hs,Qa,Qo,Ql,KI h.ev,aU]
 by_cases h3:m.aH=3
 ·rw[Qg h3];exact .some (.inr (.inl ⟨rfl,.inl h3⟩))
 ·rw[Qh h3]
  by_cases hv:da m=ByteArray.mk #[]
  ·rw[Qg hv];exact .some (.inr (.inl ⟨rfl,.inr hv⟩))
  ·rw[Qh hv]
   by_cases hc:(1000:Int)<=m.ab.aj
   ·rw[Qg hc];exact .some (.inr (.inr ⟨rfl,hc⟩))
   ·rw[Qh hc];have hi:=Oe h h3 hv (by omega)
    have hb0:0<=m.ab.aj:=by
     rcases h.body with k|k|k|k
     ·rw[k.aJ];decide
     ·have:=k.aJ.1;omega
     ·have:=k.aJ.1;omega
     ·have:=k.aJ.1;omega
    have hadd:aB .i64 m.ab.aj 1=m.ab.aj+1:=bH (by omega) (by omega)
    have key:Yd ((fR m (cj (kQ m))).bind fun r5=>some (r5,(0:Int),())) (G2 R m (kQ m)):=
     Yd.bind (xR hR1 hR2 h hi (fun hz=>by rw[Fg h]at hz;cases hz) (fun _=>Fg h) hr) fun q hq=>by
      obtain⟨m2,rfl,ha⟩:=hq;exact .some ⟨m2,rfl,ha⟩
    have he:cj (kQ m)=⟨m.ar,m.bp,bo m.aF 1,m.aa,m.aH,⟨m.ab.aj+1,da m⟩,m.ao,m.aw,m.au,(if da m=m.ab.Value then m.aI else 0),m.aR,m.aX,m.az⟩:=by
     unfold cj;rw[Qr (Fg h)];rfl
    rw[he]at key;simp only[hadd,Ql,Qk]
    by_cases hev:da m=m.ab.Value
    ·simp only[Qg hev,Qo,Ql];rw[Qr hev]at key;exact key.mono fun q hq=> .inl ⟨hq,h3,hv,by omega⟩
    ·simp only[Qh hev,Qp,Qk];rw[Qs hev]at key;exact key.mono fun q hq=> .inl ⟨hq,h3,hv,by omega⟩
theorem Wu{t:an}(ht:gC t)(hr:R (z6 m t)):Yd (qk m t) (G2 R m (z6 m t)):=by
 have hi:=PE h ht;have hid:cj (z6 m t)=z6 m t:=Jr hs rfl rfl;unfold qk;simp only[af.eta,an.eta,yr h hs,Qa,Qo,Ql,nG ht,decide_true];have:=xR hR1 hR2 h hi hs.zero (fun e=>e) hr
 rw[hid]at this;refine Yd.bind this fun q hq=> ?_
 obtain⟨m2,rfl,ha⟩:=hq;exact .some ⟨m2,rfl,by rw[hid];exact ha⟩
end
def gL(ax bB:Int)(t:an):af:=⟨ax,bB,0,t,1,bM,bM,bM,bM,0,0,fb,[]⟩
theorem acD{ax bB:Int}{t:an}(h0:0<=ax)(h1:ax<10)(h2:1<=bB)(h3:bB<=1000000)(ht:gC t):wM ax bB t=some (gL ax bB t,(0:Int),()):=by
 unfold wM;simp only[an.eta,Qh (show¬ax<0 by omega),Qh (show¬(9:Int)<ax by omega),Qh (show¬bB<1 by omega),Qh (show¬(1000000:Int)<bB by omega),Ql,Qa,nG ht,decide_true,Qo]
 rfl
theorem acG{ax bB:Int}{t:an}(h0:0<=ax)(h1:ax<10)(h2:1<=bB)(h3:bB<=1000000)(ht:gC t):pM ax bB t=some (gL ax bB t,(0:Int),()):=by
 unfold pM;simp only[an.eta,Qh (show¬ax<0 by omega),Qh (show¬(10:Int)<=ax by omega),Qh (show¬bB<1 by omega),Qh (show¬(1000000:Int)<bB by omega),Ql,Qa,nS ht,decide_true,Qo,uB ht.sm]
 rfl
theorem Sl{ax bB:Int}{t:an}(h0:0<=ax)(h1:ax<10)(h2:1<=bB)(h3:bB<=1000000)(ht:gC t):ba (gL ax bB t)/\fZ (gL ax bB t):=
 ⟨⟨h0,h1,⟨h2,h3⟩,⟨by show(0:Int)<=0;omega,by show(0:Int)<=1000000;omega⟩,ht,(by show fb.size<=200;decide),(fun e he=>absurd he QR),List.Pairwise.nil,.inl ⟨rfl,rfl,rfl,rfl,rfl,rfl,rfl⟩⟩,⟨fun _=>rfl,fun hz=>absurd (show aA bM=false from hz) (by rw[bD];decide)⟩⟩
theorem YO{ax bB:Int}{t:an}(h:ba (gL ax bB t)):zj (gL ax bB t):=by
 have hz:aA (gL ax bB t).ab=true:=bD;have hall:aQ (gL ax bB t)=[]:=Qr hz;refine⟨Qr (.inr hz),oQ (.inr (.inl hz)),?_,Qs (fun e=>by have:=e.1;exact absurd (show(1:Int)=2 from this) (by decide)),?_⟩
 ·unfold fl;rw[Qr (show(gL ax bB t).aH=1 from rfl)]
  rw[Qs];intro hk;have:=(EL h hk).val;rw[hall]at this;have hv:=((nc (l:=[]) (fun e he=>by cases he) (by decide)).2.2.2 _).1 this
  obtain⟨e,he,_⟩:=hv;cases he
 ·cases ha:fW (gL ax bB t) (gL ax bB t).ab.aj with
  |false=>exact Qr (.inr ha)
  |true=>
   obtain⟨e,he,_⟩:=Ku h ha;cases he
section
variable {R : af -> Prop} (hR1 : ∀ m, ba m -> R m -> R (cg m)) (hR2 : ∀ m, R m -> R (cj m)) {m : af} (h : ba m) (hs : fZ m)
 include hR1 hR2 h hs
theorem PT{m1:af}(h1:ba m1)(hz1:aA m1.ab=true->m1.aF=0)(hnz:aA m.ab=false->aA m1.ab=false)(hn:m1.ar=m.ar)(hsl:m1.bp=m.bp)(hr:R m1):
  Yd (Option.bind (eD ⟨m1⟩) fun p4=>
   bj (fun(v5:ay×Unit)=>some (v5.1.al,(0:Int),())) fun j6=>
   bj (fun(v7:Bool×Unit)=>
   bif v7.1 then
   j6 ((ay.mk (af.mk p4.2.al.ar p4.2.al.bp (de (aB .i64 p4.2.al.aF (1:Int)) (1000000:Int)) p4.2.al.aa p4.2.al.aH p4.2.al.ab p4.2.al.ao p4.2.al.aw p4.2.al.au p4.2.al.aI p4.2.al.aR p4.2.al.aX p4.2.al.az)),())
   else
   j6 (p4.2,())) fun j8=>
   Option.bind (bh m.ab) fun r9=>
   bif (!r9)then
   Option.bind (dm m) fun r10=>
   Option.bind (dm p4.2.al) fun r11=>
   Option.bind (mg r10 r11) fun r12=>
   j8 ((!r12),())
   else
   j8 (false,())) (G2 R m m1):=by
 refine Yd.bind (M8 hR1 hR2 h1 hz1 hr) fun q hq=> ?_
 obtain⟨m2,rfl,ha⟩:=hq;have hq:=ha.inv.seq;have hadd:aB .i64 m2.aF 1=m2.aF+1:=bH (by omega) (by omega)
 obtain⟨r,g1,g2⟩:=ZY (bO m) (bO m2) (by rw[ku];exact h.aO.sm) (by rw[qV,qV,ha.env.1,hn]) (by rw[w6,w6,ha.env.2.1,hsl])
 simp only[aU,cx,Qa,wS,Bm h,Bm ha.inv,hadd,g1];have hb:=ZC h1 ha;refine Yd.of_eq (x:=(fY m m2,(0:Int),())) ?_ ⟨m2,rfl,hb⟩;unfold fY
 cases hz:aA m.ab with
 |true=>rw[Qs (by rintro⟨e,_⟩;cases e)];rfl
 |false=>
  cases r with
  |true=>rw[Qs (fun e=>e.2 (g2.1 rfl))];rfl
  |false=>rw[Qr ⟨rfl,fun e=>by have:=g2.2 e;cases this⟩];rfl
theorem WE{v:ByteArray}(hv:1<=v.size/\v.size<=200)(hr:R (dF m v)):Yd (iw m v) (G2 R m (dF m v)):=by
 have d1:decide (((ByteArray.size v:Nat):Int)<(1:Int))=false:=Qh (by omega)
 have d2:decide ((200:Int)<((ByteArray.size v:Nat):Int))=false:=Qh (by omega)
 have hi:=yK h hv;have hval:gg ⟨{m with aX:=v}⟩=some (da {m with aX:=v}):=ON (m:={m with aX:=v}) ⟨h.ev.n0,h.ev.n1,h.ev.aO,h.ev.len,h.ev.sm,h.ev.valid⟩
 have hdo:mN ⟨m⟩ v=some ((0:Int),⟨dF m v⟩):=by
  unfold mN dF;simp only[af.eta,ay.eta,d1,d2,Ql,Qa,cx,aU]
  cases hz:aA m.ab with
  |true=>
   simp only[Qk,Qt,an.eta];rw[show(⟨m.ar,m.bp,m.aF,m.aa,m.aH,m.ab,m.ao,m.aw,m.au,m.aI,m.aR,v,m.az⟩:af)={m with aX:=v}from rfl,hval]
   rfl
  |false=>simp only[Ql,Qq,Qu,an.eta]
 unfold iw pr;simp only[af.eta,an.eta,ai.eta,ay.eta,wi h hs,y6 h,hdo,Qa,Qo,Ql,decide_true];refine Yd.bind (PT hR1 hR2 h hs hi (fun hz=>by rw[j1.2];exact hs.zero (by cases hc:aA m.ab with|true=>rfl|false=>rw[j1.1 hc]at hz;cases hz)) j1.1 (by unfold dF;split<;>rfl) (by unfold dF;split<;>rfl) hr) fun q hq=> ?_
 obtain⟨m2,rfl,ha⟩:=hq;exact .some ⟨m2,rfl,ha⟩
theorem WD{e:ai}(he:BO m e)(hr:R (nu m e)):Yd (iv m e) fun q=>(G2 R m (nu m e) q/\(mj m.az e).2.1=true)\/(q=(BR,(9:Int),())/\(mj m.az e).2.1=false):=by
 have hi:=CI h he;have hlen:=h.len;have hput:=aaO (l:=m.az) (fun x hx=>(h.hv x hx).2.1.sm) (by omega) (e:=e) he.aO.sm
 have hdo:iI ⟨m⟩ e=some (bif (mj m.az e).2.1 then((0:Int),⟨nu m e⟩)else((9:Int),⟨m⟩)):=by
  unfold iI;simp only[af.eta,ay.eta,ai.eta,an.eta,aU,nQ he.aO.sm,he.valid,Qa,Qo,Ql,Qh he.ax,Qg he.bB,hput];cases (mj m.az e).2.1<;>rfl
 unfold iv lR;simp only[af.eta,an.eta,ai.eta,ay.eta,wi h hs,y6 h,hdo,Qa,Qo,Ql]
 cases hp:(mj m.az e).2.1 with
 |false=>exact .some (.inr ⟨rfl,rfl⟩)
 |true=>
  simp only[Qk,decide_true,Qo,Ql];refine Yd.bind (PT hR1 hR2 h hs hi hs.zero (fun e=>e) rfl rfl hr) fun q hq=> ?_
  obtain⟨m2,rfl,ha⟩:=hq;exact .some (.inl ⟨⟨m2,rfl,ha⟩,trivial⟩)
end
theorem HG{m:af}(h:ba m)(hs:fZ m):∃e,jN m=some (e,!aA m.ab,())/\(aA m.ab=false->e=bO m):=by
 unfold jN;simp only[af.eta,an.eta,ai.eta,cx,wi h hs,y6 h,wS,Bm h,Qa]
 cases aA m.ab with
 |true=>exact⟨_,rfl,fun e=>by cases e⟩
 |false=>exact⟨_,rfl,fun _=>rfl⟩
theorem WG{m:af}(h:ba m)(hs:fZ m):lH m=some (bif decide (m.aH=3)then m.ab.Value else fb,decide (m.aH=3),()):=by
 unfold lH;simp only[af.eta,an.eta,wi h hs,Qa];cases decide (m.aH=3)<;>rfl
theorem YD{m:af}(h:ba m)(hs:fZ m){e:ai}(ht:dD e.aa)(hbad:aL e=false\/e.ar=m.ar\/e.bp≠m.bp):iv m e=some (BR,(61:Int),()):=by
 have hdo:iI ⟨m⟩ e=some ((61:Int),⟨m⟩):=by
  unfold iI;simp only[af.eta,ay.eta,ai.eta,an.eta,aU,nQ ht,Qa]
  cases hv:aL e with
  |false=>rfl
  |true=>
   by_cases hn:e.ar=m.ar
   ·rw[Qg hn];rfl
   ·have hsl:e.bp≠m.bp:=(hbad.resolve_left (by rw[hv];decide)).resolve_left hn
    rw[Qh hn,Qh hsl];rfl
 unfold iv lR;simp only[af.eta,an.eta,ai.eta,ay.eta,wi h hs,y6 h,hdo,Qa,Qo,Ql];rfl
end Go.Proofs.YtkgenianmdfmdaaGreat
end
noncomputable section
namespace Go.Proofs.YtkgenianmdfmdaaGreat
open Go.TQ
def gT(n:Nat)(k:Int)(i s:Nat):Bool:=s.testBit i&&decide (k<=(((sK n).countP (jR s):Nat):Int))
def bT(n:Nat)(k:Int)(i s:Nat):Bool:= !decide (k<=(((sK n).countP (jR (vQ s i)):Nat):Int))
structure nZ (n:Nat) (k:Int) (m:af):Prop where
 n10:n<=10
 k1:1<=k
 kn:k<=n
 aO:m.aa=flat n k
 heard:∀e∈m.az,e.aa=flat n k
theorem nZ.all{n:Nat}{k:Int}{m:af}(hf:nZ n k m){e:ai}(he:e∈aQ m):e.aa=flat n k:=by
 rcases wv he with he|⟨_,rfl⟩
 ·exact hf.heard e he
 ·rw[Cj];exact hf.aO
section
variable {n : Nat} {k : Int} {m : af} (h : ba m) (hf : nZ n k m)
 include h
theorem vO:bK (aQ m)=aQ m:=I8 h.jP
 include hf
theorem Oj{j:Nat}(hj:j<10)(hs:j=m.ar.toNat\/∃e∈aQ m,e.ar.toNat=j):lA (fj m.ar.toNat m.aa (aQ m)) j=true/\j0 (fj m.ar.toNat m.aa (aQ m)) j=flat n k:=
 UC h.ev.ax.2 (fun _=>flat n k) hf.aO.symm (fun e he=>by rw[vO h]at he;exact hf.all he) hj (by rw[vO h];exact hs)
theorem TX{s:Nat}(hs:∀j,s.testBit j=true->∃e∈aQ m,e.ar.toNat=j):(gq (fj m.ar.toNat m.aa (aQ m)) s).testBit m.ar.toNat=gT n k m.ar.toNat s:=by
 have hs10:∀j,s.testBit j=true->j<10:=fun j hj=>by
  obtain⟨e,he,rfl⟩:=hs j hj;have:=iQ (h.jP e he);omega
 have hg:=zX (lh (ax:=m.ar.toNat) h.aO.sm h.ev.jX.1) (Bn hs10);have hi:=Oj h hf h.ev.ax.2 (.inl rfl);unfold gT;rw[QW,Qm,Qi];constructor
 ·intro hb;have h1:=hg.inside _ hb;refine⟨h1.1,?_⟩;have h3:=h1.2.2;rw[hi.2,Hc]at h3;have h3:=of_decide_eq_true h3;have h2:=Uf (s':=s) (fun j hj=>(hg.inside j hj).1) (sK n)
  omega
 ·rintro⟨hb,hc⟩;refine hg.max s (fun j hj=> ?_) _ hb
  obtain⟨g1,g2⟩:=Oj h hf (hs10 j hj) (.inr (hs j hj));exact⟨hj,g1,by rw[g2,Hc];exact Qg hc⟩
theorem Xn(s:Nat):rX (fj m.ar.toNat m.aa (aQ m)) m.ar.toNat s=bT n k m.ar.toNat s:=by
 obtain⟨g1,g2⟩:=Oj h hf h.ev.ax.2 (.inl rfl);unfold rX bT;rw[g1,g2,Hc,Bool.true_and]
end
theorem Fe{p:ai->Bool}{l:List ai}{j:Nat}(hb:(c8 p l).testBit j=true):∃e∈l,e.ar.toNat=j:=by
 rw[tD,List.any_eq_true]at hb;obtain⟨e,he,hp⟩:=hb;rw[Qm,Qi]at hp;exact⟨e,he,hp.2⟩
theorem N6{p q:ai->Bool}{l:List ai}{j:Nat}(hb:(c8 p l|||c8 q l).testBit j=true):∃e∈l,e.ar.toNat=j:=by
 rw[Nat.testBit_or,Qn]at hb;rcases hb with hb|hb
 ·exact Fe hb
 ·exact Fe hb
def Q7(n:Nat)(k:Int)(i:Nat)(l:List ai)(b:ae):Bool:=bT n k i (c8 (cD · b) l)||gT n k i (c8 (fun e=>nb e b||cD e b) l|||c8 (cD · b) l)
def Kf(n:Nat)(k:Int)(i:Nat)(l:List ai)(b:ae):Bool:=gT n k i (c8 (cD · b) l)
def qy(n:Nat)(k:Int)(i:Nat)(l:List ai)(v:ByteArray)(lo hi:Int):Bool:=bT n k i (c8 (eK · v lo hi) l)||gT n k i (c8 (fun e=>pz e v lo hi||eK e v lo hi) l|||c8 (eK · v lo hi) l)
def Iq(n:Nat)(k:Int)(i:Nat)(l:List ai)(v:ByteArray)(lo hi:Int):Bool:=gT n k i (c8 (eK · v lo hi) l)
def XK(e:ai):List ae:=if e.bs=1 then[e.ab,e.ao,e.aw]else if e.bs=2 then[e.ao,at_ e 1000000]else[at_ e 1000000]
def q7(l:List ai):List ae:=((l.flatMap XK).filter fun b=> !aA b).foldl (fun l x=>ew (fun x y=>bd y x) x l) []
def KH(l:List ai):List ByteArray:=(l.map (·.ab.Value)).foldl (fun l x=>ew jm x l) []
def N1(v:ByteArray)(e:ai):List Int:=if e.ab.Value=v/\e.aI≠0 then[e.aI,e.aR]else[]
def pU(l:List ai)(v:ByteArray):List Int:=(l.flatMap (N1 v)).foldl (fun l x=>ew (fun a b=>decide (a<b)) x l) []
section
variable {l : List ai} (hv : ∀ e ∈ l, aL e = true) (hsm : ∀ e ∈ l, dD e.aa) (hlen : l.length <= 1000)
 include hv hsm hlen
theorem M3:dP l=q7 l:=by
 obtain⟨_,h2,_,h4⟩:=kv hsm hlen;obtain⟨h5,h6⟩:=yY wz.flip ((l.flatMap XK).filter fun b=> !aA b) [] .nil
 refine wz.flip.unique h2 h5 fun x=> ?_
 unfold q7;rw[h4,h6];simp only[List.mem_filter,QQ,QR,or_false,Bool.not_eq_true'];constructor
 ·rintro⟨e,he,hx,hz⟩;refine⟨⟨e,he,?_⟩,hz⟩;unfold said at hx;rw[hv e he]at hx;exact hx
 ·rintro⟨⟨e,he,hx⟩,hz⟩;refine⟨e,he,?_,hz⟩;unfold said;rw[hv e he];exact hx
theorem V5:eZ l=KH l:=by
 obtain⟨_,h2,_,h4⟩:=nc hsm hlen;obtain⟨h5,h6⟩:=yY wy (l.map (·.ab.Value)) [] .nil;refine wy.unique h2 h5 fun x=> ?_
 unfold KH;rw[h4,h6];simp only[QP,QR,or_false];constructor
 ·rintro⟨e,he,_,rfl⟩;exact⟨e,he,rfl⟩
 ·rintro⟨e,he,rfl⟩;exact⟨e,he,hv e he,rfl⟩
theorem Ig:bb l=pU l:=by
 funext v
 obtain⟨_,h2,_,h4⟩:=gB hsm hlen v;obtain⟨h5,h6⟩:=yY yc (l.flatMap (N1 v)) [] .nil;refine yc.unique (h2.imp fun hab=>Qg hab) h5 fun x=> ?_
 unfold pU;rw[h4,h6,vU];simp only[QQ,QR,or_false];constructor
 ·rintro⟨e,he,hb,hx⟩;refine⟨e,he,?_⟩;simp only[gp,Qm,Qi,Bool.not_eq_true',Qj]at hb;unfold N1;rw[Qr ⟨hb.1.2,hb.2⟩];simpa using hx
 ·rintro⟨e,he,hx⟩;unfold N1 at hx;split at hx
  ·rename_i hc;refine⟨e,he,?_,by simpa using hx⟩
   simp only[gp,Qm,Qi,Bool.not_eq_true',Qj];exact⟨⟨hv e he,hc.1⟩,hc.2⟩
  ·cases hx
end
section
variable {n : Nat} {k : Int} {m : af} (h : ba m) (hf : nZ n k m)
 include h hf
theorem abM:jt m.ar.toNat m.aa (aQ m)=Q7 n k m.ar.toNat (aQ m):=by
 funext b
 unfold jt nv Q7;rw[vO h,Xn h hf,TX h hf fun j hj=>N6 hj]
theorem aaD:iO m.ar.toNat m.aa (aQ m)=Kf n k m.ar.toNat (aQ m):=by
 funext b
 unfold iO Kf;rw[vO h,TX h hf fun j hj=>Fe hj]
theorem R8:fq m=qy n k m.ar.toNat (aQ m):=by
 funext v lo hi
 unfold fq jO nv qy;rw[vO h,Xn h hf,TX h hf fun j hj=>N6 hj]
theorem ZQ:BX m=Iq n k m.ar.toNat (aQ m):=by
 funext v lo hi
 unfold BX pc Iq;rw[vO h,TX h hf fun j hj=>Fe hj]
end
def VN(x:ByteArray->Int->Int->Bool)(p q:ae)(v:ByteArray)(s:Bool×ae)(n:Int):Bool×ae:=
 if bd s.2 ⟨n,v⟩&& !kK p q v n&&x v n n then(true,⟨n,v⟩)else s
def N5(x:ByteArray->Int->Int->Bool)(l:List ai)(p q:ae):Bool×ae:=
 (KH l).foldl (fun s v=>(pU l v).foldl (VN x p q v) s) (false,⟨0,fb⟩)
def J8(x:ByteArray->Int->Int->Bool)(l:List ai)(p q:ae)(s:Bool×ae):ByteArray×Int×Int×Bool×Unit:=
 if s.1 then(s.2.Value,cm (fun n=> !kK p q s.2.Value n&&x s.2.Value n s.2.aj) (pU l s.2.Value).reverse s.2.aj,s.2.aj,true,())else(fb,0,0,false,())
def WX(b:List Int)(ready:Int->Int->Bool)(low bI:Int):Int×Int:=
 match b.reverse.find? (fun n=>decide (bI<n)&&ready n n)with
 |none=>(cm (fun x=>ready x bI) b.reverse low,bI)
 |some n=>
  let bottom:=cm (fun x=>ready x n) b.reverse n
  (cm (fun x=>ready x n) b.reverse (if bI<bottom - 1\/bottom<low then bottom else low),n)
def U2(nx:ae)(m:af):af:=
 if m.aH=3\/aA m.ab=true then m else
  {m with ao:=(cu m.ao m.aw (c9 nx)).1,aw:=(cu m.ao m.aw (c9 nx)).2,aI:=oi m (cu m.ao m.aw (c9 nx)).1 (cu m.ao m.aw (c9 nx)).2}
def U1(hg:ae)(m:af):af:=if m.aH≠1\/aA m.ab=true\/aA hg=true then m else mI (wZ m hg) hg
def U4(fs:ByteArray×Int×Int×Bool×Unit)(ex:Int×Int)(m:af):af:=
 if m.aH=1 then(if fs.2.2.2.1=true then EY m fs.1 fs.2.1 fs.2.2.1 else m)
 else if m.aH=2 then vJ m ex.1 ex.2 else m
def U3(fn:Int×Int×Bool×Unit)(m:af):af:=if m.aH=2/\fn.2.2.1=true then FD m fn.1 fn.2.1 else m
def Xl(ah:Int->Bool)(m:af):Int:=m.az.foldl (fun E6 e=>if m.ab.aj<dW e/\dW e<E6/\ah (dW e)=false then dW e else E6) 1000000
def XS(m:af):ByteArray:=if m.aH=1 then da m else m.ab.Value
def OS(ah:Int->Bool)(m:af):af:=
 if m.aH=3\/ah m.ab.aj=false then m
 else{m with aI:=if XS m=m.ab.Value then m.aI else 0,ab:=⟨bo m.ab.aj (de (Xl ah m) 1000),XS m⟩}
def Kv(n:Nat)(k:Int)(m:af)(c:Int):Bool:=bT n k m.ar.toNat (zf m c)
def Fp(m p r:af):af:=bif lM m p then r else p
def stepT(n:Nat)(k:Int)(m:af):af:=
 Fp m (U2 (((q7 (aQ m)).find? (tl (Q7 n k m.ar.toNat (aQ m)) m.ao m.aw (zG m))).getD vD) m)<|
 Fp m (U1 (((q7 (aQ m)).find? (tq (Kf n k m.ar.toNat (aQ m)) m.au)).getD vD) m)<|
 Fp m (U4 (J8 (qy n k m.ar.toNat (aQ m)) (aQ m) m.ao m.aw (N5 (qy n k m.ar.toNat (aQ m)) (aQ m) m.ao m.aw)) (WX (pU (aQ m) m.ab.Value) (qy n k m.ar.toNat (aQ m) m.ab.Value) m.aI m.aR) m)<|
 Fp m (U3 (s8 (pU (aQ m) m.ab.Value) (Iq n k m.ar.toNat (aQ m) m.ab.Value)) m)<|
 OS (Kv n k m) m
open Classical in
theorem Fo{m m' r:af}(he:ff m m'):Fp m m' r=if m'=m then r else m':=by
 unfold Fp
 by_cases h:m'=m
 ·rw[Qr h,h,oP];rfl
 ·rw[Qs h,vT he h];rfl
section
variable {n : Nat} {k : Int} {m : af} (h : ba m) (hf : nZ n k m)
 include h hf
theorem abk:dJ m=((q7 (aQ m)).find? (tl (Q7 n k m.ar.toNat (aQ m)) m.ao m.aw (zG m))).getD vD:=by
 unfold dJ gU;rw[abM h hf,M3 h.jP h.ev.jX.1.aO h.ev.jX.2]
theorem abo:fh m=((q7 (aQ m)).find? (tq (Kf n k m.ar.toNat (aQ m)) m.au)).getD vD:=by
 unfold fh tr;rw[aaD h hf,M3 h.jP h.ev.jX.1.aO h.ev.jX.2]
theorem abC:ez m=J8 (qy n k m.ar.toNat (aQ m)) (aQ m) m.ao m.aw (N5 (qy n k m.ar.toNat (aQ m)) (aQ m) m.ao m.aw):=by
 unfold ez mr fD J8 N5;rw[R8 h hf,Ig h.jP h.ev.jX.1.aO h.ev.jX.2,V5 h.jP h.ev.jX.1.aO h.ev.jX.2];rfl
theorem abG:dG m=WX (pU (aQ m) m.ab.Value) (qy n k m.ar.toNat (aQ m) m.ab.Value) m.aI m.aR:=by
 unfold dG;rw[R8 h hf,Ig h.jP h.ev.jX.1.aO h.ev.jX.2];rfl
theorem abF:kH m=s8 (pU (aQ m) m.ab.Value) (Iq n k m.ar.toNat (aQ m) m.ab.Value):=by
 unfold kH;rw[ZQ h hf,Ig h.jP h.ev.jX.1.aO h.ev.jX.2]
theorem SX:fW m=Kv n k m:=by
 funext c
 exact Xn h hf _
theorem YB:eJ m=OS (Kv n k m) m:=by
 have e:fI m=Xl (Kv n k m) m:=by
  unfold fI Xl kb;rw[SX h hf]
 unfold eJ OS;rw[SX h hf,e];rfl
theorem ZS:cg m=stepT n k m:=by
 have eP:U2 (((q7 (aQ m)).find? (tl (Q7 n k m.ar.toNat (aQ m)) m.ao m.aw (zG m))).getD vD) m=cy m:=by rw[<-abk h hf];rfl
 have eS:U1 (((q7 (aQ m)).find? (tq (Kf n k m.ar.toNat (aQ m)) m.au)).getD vD) m=fX m:=by rw[<-abo h hf];rfl
 have eC:U4 (J8 (qy n k m.ar.toNat (aQ m)) (aQ m) m.ao m.aw (N5 (qy n k m.ar.toNat (aQ m)) (aQ m) m.ao m.aw)) (WX (pU (aQ m) m.ab.Value) (qy n k m.ar.toNat (aQ m) m.ab.Value) m.aI m.aR) m=fl m:=by rw[<-abC h hf,<-abG h hf];rfl
 have eF:U3 (s8 (pU (aQ m) m.ab.Value) (Iq n k m.ar.toNat (aQ m) m.ab.Value)) m=iW m:=by rw[<-abF h hf];rfl
 unfold cg stepT;rw[eP,eS,eC,eF,<-YB h hf,Fo (ur m),Fo (qB m),Fo (qD m),Fo (qC m)]
end
 def uz:Nat->af->af
 |0,m=>m
 |j+1,m=>uz j (cg m)
theorem HV:∀(j:Nat) (m:af),uz (j+1) m=cg (uz j m)
 |0,_=>rfl
 |j+1,m=>HV j (cg m)
theorem Ls{m:af}(h:ba m):∀j,ba (uz j m)
 |0=>h
 |j+1=>by rw[HV];exact wP (Ls h j)
theorem HW{m:af}(h:cg m=m):∀j,uz j m=m
 |0=>rfl
 |j+1=>by rw[uz,h];exact HW h j
theorem Lt:∀(i j:Nat) (m:af),uz (i+j) m=uz j (uz i m)
 |0,j,m=>by rw[Nat.zero_add];rfl
 |i+1,j,m=>by rw[show i+1+j=(i+j)+1 by omega,uz,Lt i j];rfl
theorem YU{m:af}{i j:Nat}(hi:cg (uz i m)=uz i m)(hj:cg (uz j m)=uz j m):uz i m=uz j m:=by
 rcases Nat.le_total i j with hl|hl
 ·have:=Lt i (j - i) m;rw[HW hi]at this;rw[<-this,show i+(j - i)=j by omega]
 ·have:=Lt j (i - j) m;rw[HW hj]at this;rw[<-this,show j+(i - j)=i by omega]
theorem DH{m m':af}(he:ff m m')(s:Int):({m' with aF:=s}:af)={m with aF:=s}↔m'=m:=by
 constructor
 ·intro h;have e1:m'.aH=m.aH:=(congrArg af.aH h:_);have e2:m'.ab=m.ab:=(congrArg af.ab h:_);have e3:m'.ao=m.ao:=(congrArg af.ao h:_);have e4:m'.aw=m.aw:=(congrArg af.aw h:_);have e5:m'.au=m.au:=(congrArg af.au h:_);have e6:m'.aI=m.aI:=(congrArg af.aI h:_);have e7:m'.aR=m.aR:=(congrArg af.aR h:_);exact tL he e1 e2 e3 e4 e5 e6 e7
 ·rintro rfl;rfl
open Classical in
theorem LY{m:af}(h:ba m){s:Int}(hs:0<=s/\s<=1000000):cg {m with aF:=s}={cg m with aF:=s}:=by
 unfold cg;rw[Mr h hs,Mp h hs,My h hs,Mw h hs,Mt h hs];simp only[DH (ur m),DH (qB m),DH (qD m),DH (qC m)]
 by_cases hP:cy m=m
 ·by_cases hS:fX m=m
  ·by_cases hC:fl m=m
   ·by_cases hF:iW m=m
    ·simp only[Qr hP,Qr hS,Qr hC,Qr hF]
    ·simp only[Qr hP,Qr hS,Qr hC,Qs hF]
   ·simp only[Qr hP,Qr hS,Qs hC]
  ·simp only[Qr hP,Qs hS]
 ·simp only[Qs hP]
def Reach(m x:af):Prop:=∃j s,(0<=s/\s<=1000000)/\x={uz j m with aF:=s}
theorem yf{m:af}(h:ba m):∀x,ba x->Reach m x->Reach m (cg x):=by
 rintro x _ ⟨j,s,hs,rfl⟩;exact⟨j+1,s,hs,by rw[LY (Ls h j) hs,HV]⟩
theorem ye{m:af}:∀x,Reach m x->Reach m (cj x):=by
 rintro x ⟨j,s,hs,rfl⟩;unfold cj;split
 ·exact⟨j,bo s 1,by unfold bo;split<;>omega,rfl⟩
 ·exact⟨j,s,hs,rfl⟩
theorem yg{m:af}(h:ba m):Reach m m:=⟨0,m.aF,h.seq,rfl⟩
def runT(n:Nat)(k:Int):Nat->af->Option af
 |0,_=>none
 |f+1,m=>if lM m (stepT n k m)=true then some m else runT n k f (stepT n k m)
theorem nZ.step{n:Nat}{k:Int}{m m':af}(hf:nZ n k m)(he:ff m m'):nZ n k m':=⟨hf.n10,hf.k1,hf.kn,by rw[he.aO];exact hf.aO,by rw[he.heard];exact hf.heard⟩
theorem Ov{n:Nat}{k:Int}:∀{f:Nat} {m z:af},ba m->nZ n k m->runT n k f m=some z->∃j,uz j m=z/\cg z=z
 |0,m,z,_,_,e=>by cases e
 |f+1,m,z,h,hf,e=>by
  rw[runT,<-ZS h hf]at e;split at e
  ·rename_i hs;obtain rfl:=Option.some.inj e;exact⟨0,rfl,Ol (um m) hs⟩
  ·obtain⟨j,h1,h2⟩:=Ov (wP h) (hf.step (um m)) e;exact⟨j+1,h1,h2⟩
theorem X6{n:Nat}{k:Int}{f:Nat}{m1 z m m2:af}(h:ba m1)(hf:nZ n k m1)(hz:runT n k f m1=some z)(ha:AV (Reach m1) m m2):m2={z with aF:=m2.aF}:=by
 obtain⟨j,s,hs,e⟩:=ha.rel;obtain⟨i,h1,h2⟩:=Ov h hf hz;have h3:=Pw ha.fix;rw[e,LY (Ls h j) hs]at h3;have h4:=(DH (um (uz j m1)) s).1 h3;rw[<-h1]at h2;have h5:=YU h2 h4;rw[e,<-h5,h1]
def Lc(l:List ai)(e:ai):List ai×Bool:=
 match l.findIdx? fun x=>decide (x.ar=e.ar)with
 |some i=>if e.aF<=((l[i]?).getD e).aF then(l,false)else(l.set i e,true)
 |none=>(l.take (Ab l e)++[e]++l.drop (Ab l e),true)
theorem abf{l:List ai}{e:ai}(hv:aL e=true):(mj l e).1=(Lc l e).1/\(mj l e).2.1=(Lc l e).2:=by
 unfold mj Lc;rw[Qr hv]
 cases l.findIdx? (fun x=>decide (x.ar=e.ar))with
 |none=>exact⟨rfl,rfl⟩
 |some i=>
  by_cases hc:e.aF<=((l[i]?).getD e).aF
  ·simp only[Qr hc];exact⟨trivial,trivial⟩
  ·simp only[Qs hc];exact⟨trivial,trivial⟩
def NP(a b:ai):Bool:=decide (a.bs=b.bs)&&wA a.ab b.ab&&wA a.ao b.ao&&wA a.aw b.aw&&decide (a.aI=b.aI)&&decide (a.aR=b.aR)
def N4(m m2:af):af:=if NP (bO m) (bO m2)=true then m2 else{m2 with aF:=de (m2.aF+1) 1000000}
theorem aaF{m m2:af}(hz:aA m.ab=false)(hn:m2.ar=m.ar)(hs:m2.bp=m.bp)(ht:m2.aa=m.aa):fY m m2=N4 m m2:=by
 have key:(NP (bO m) (bO m2)=true)↔({bO m with aF:=0}:ai)={bO m2 with aF:=0}:=by
  rw[FB];unfold NP;simp only[Qm,Qi,qw,qV,w6,ku,hn,hs,ht,true_and,and_assoc]
 unfold fY N4
 by_cases hk:NP (bO m) (bO m2)=true
 ·rw[Qr hk,Qs (fun e=>e.2 (key.1 hk))]
 ·rw[Qs hk,Qr ⟨hz,fun e=>hk (key.2 e)⟩]
structure pj (n:Nat) (k:Int) (m:af):Prop where
 inv:ba m
 seq:fZ m
 flat:nZ n k m
 nz:aA m.ab=false
 bB:m.bp=1
theorem pj.env{n:Nat}{k:Int}{m:af}(h:pj n k m):aL (bO m)=true/\(bO m).aa=Go.Proofs.YtkgenianmdfmdaaGreat.flat n k/\(bO m).bp=1:=⟨Bk h.inv h.seq h.nz,by rw[ku];exact h.flat.aO,by rw[w6];exact h.bB⟩
def Tq(n:Nat)(k:Int)(m:af)(e:ai):Option af:=
 if e.ar=m.ar then some m else
 if(Lc m.az e).2=false then some m else
 (runT n k 20 {m with az:=(Lc m.az e).1}).map fun z=>N4 m {z with aF:=m.aF}
theorem WL{n:Nat}{k:Int}{m m1 m2:af}{R:af->Prop}(h:pj n k m)(hf:nZ n k m1)(hnz:aA m1.ab=false)(hsl:m1.bp=1)(ha:AV R m1 m2):pj n k (fY m m2):=by
 have hz2:=ha.nz hnz;obtain⟨s,e,hs⟩:=AR (m:=m) ha.inv;refine⟨PY ha.inv,SS ha.inv ha.seq (fun _=>hz2),?_,by rw[e];exact hz2,by rw[e];exact ha.env.2.1.trans hsl⟩
 rw[e];exact⟨hf.n10,hf.k1,hf.kn,ha.env.2.2.1.trans hf.aO,fun x hx=>hf.heard x (by have:x∈m2.az:=hx;rw[ha.env.2.2.2.2]at this;exact this)⟩
theorem UQ{n:Nat}{k:Int}{m x:af}{e:ai}(h:pj n k m)(hv:aL e=true)(ht:e.aa=flat n k)(hsl:e.bp=1)(hx:Tq n k m e=some x):
  ∃y c,iv m e=some (y,c,())/\((c=0/\y=x)\/(c≠0/\x=m))/\pj n k x:=by
 have hgood:gC e.aa:=by rw[ht];exact z1 n h.flat.n10 k h.flat.k1 h.flat.kn
 unfold Tq at hx;split at hx
 ·rename_i hn;obtain rfl:=Option.some.inj hx;exact⟨_,_,YD h.inv h.seq hgood.sm (.inr (.inl hn)),.inr ⟨by decide,rfl⟩,h⟩
 ·rename_i hn;have he:BO m e:=⟨hv,hgood,by rw[hsl,h.bB],hn⟩
  have hi:=CI h.inv he;have hp:=abf (l:=m.az) hv;have hm1:nu m e={m with az:=(Lc m.az e).1}:=by unfold nu;rw[hp.1]
  obtain⟨q,hq,hq2⟩:=WD (R:=Reach (nu m e)) (yf hi) ye h.inv h.seq he (yg hi);rcases hq2 with⟨⟨m2,rfl,ha⟩,hok⟩|⟨rfl,hok⟩
  ·rw[hp.2]at hok;rw[Qs (by rw[hok];decide),<-hm1]at hx
   obtain⟨z,hz,rfl⟩:=Qb.1 hx
   have hf1:nZ n k (nu m e):=⟨h.flat.n10,h.flat.k1,h.flat.kn,h.flat.aO,fun y hy=>by
    rcases Sb hy with rfl|hy
    ·exact ht
    ·exact h.flat.heard y hy⟩
   have e2:=X6 hi hf1 hz ha;have hid:cj (nu m e)=nu m e:=Jr h.seq rfl rfl;rw[hid]at ha
   have hsq:m2.aF=m.aF:=by
    rcases ha.num with g|⟨g,_⟩
    ·exact g
    ·have:=h.seq.pos h.nz;have g:m.aF=0:=g;omega
   have hb:fY m m2=N4 m {z with aF:=m.aF}:=by
    rw[aaF h.nz ha.env.1 ha.env.2.1 ha.env.2.2.1,<-hsq,<-e2]
   refine⟨_,_,hq,.inl ⟨rfl,hb⟩,?_⟩;rw[<-hb];exact WL h hf1 h.nz h.bB ha
  ·rw[hp.2]at hok;rw[Qr hok]at hx;obtain rfl:=Option.some.inj hx;exact⟨_,_,hq,.inr ⟨by decide,rfl⟩,h⟩
end Go.Proofs.YtkgenianmdfmdaaGreat
namespace Go.Proofs.YtkgenianmdfmdaaGreat
open Go.TQ
theorem Vr{σ ρ:Type}(n:Nat)(P:Nat->σ->Prop)(r:ρ->Prop){step:Int×σ×Unit->Option ((Int×σ×Unit)⊕ρ)}
  (h1:∀(i:Nat) (s:σ),i<n->P i s->∃s',step ((i:Int),s,())=some (.inl (((i+1:Nat):Int),s',()))/\P (i+1) s')
  (h2:∀s,P n s->Yd (step ((n:Int),s,())) fun y=>match y with| .inl _=>False| .inr q=>r q):∀s0,P 0 s0->Yd (aE step ((0:Int),s0,())) r:=by
 suffices key:∀(d i:Nat),i+d=n->∀s,P i s->Yd (aE step ((i:Int),s,())) r from fun s0 h=>key n 0 (by omega) s0 h
 intro d
 induction d with
 |zero=>
  intro i hi s hs;obtain rfl:i=n:=by omega
  refine Yd.loop ((h2 s hs).mono fun y hy=> ?_)
  cases y with
  |inl _=>exact hy.elim
  |inr q=>exact hy
 |succ d ih=>
  intro i hi s hs;obtain⟨s',e,hs'⟩:=h1 i s (by omega) hs
  exact Yd.loop (Yd.of_eq e (ih (i+1) (by omega) s' hs'))
theorem aa0{α:Type}{o:Option α}{x:α}(h:Yd o fun q=>q=x):o=some x:=by
 obtain⟨q,rfl,rfl⟩:=h;rfl
theorem aaZ{α β:Type}{o:Option β}{f:α->β}{P:α->Prop}(h:Yd o fun q=>∃s,q=f s/\P s):∃s,o=some (f s)/\P s:=by
 obtain⟨q,rfl,s,rfl,hp⟩:=h;exact⟨s,rfl,hp⟩
def uo(n:Nat)(k:Int):af->List ai->Option af
 |m,[]=>some m
 |m,e::es=>(Tq n k m e).bind fun x=>uo n k x es
def Ef(n:Nat)(k:Int)(es:List ai):List af->Option (List af)
 |[]=>some []
 |m::ms=>(uo n k m es).bind fun x=>(Ef n k es ms).map (x::·)
theorem OA{n:Nat}{k:Int}{es:List ai}:∀{ms ms':List af},Ef n k es ms=some ms'->ms'.length=ms.length/\∀(t:Nat) (m:af),ms[t]?=some m->∃x,ms'[t]?=some x/\uo n k m es=some x
 |[],ms',h=>by
  obtain rfl:=Option.some.inj h;exact⟨rfl,fun t m e=>by simp at e⟩
 |m::ms,ms',h=>by
  rw[Ef]at h;obtain⟨x,h1,h2⟩:=Qc.1 h;obtain⟨r,h3,rfl⟩:=Qb.1 h2;obtain⟨g1,g2⟩:=OA h3;refine⟨by simp[g1],fun t y e=> ?_⟩
  cases t with
  |zero=>exact⟨x,rfl,by rw[List.getElem?_cons_zero]at e;rw[<-Option.some.inj e];exact h1⟩
  |succ t=>exact g2 t y (by rw[List.getElem?_cons_succ]at e;exact e)
section
variable {n : Nat} {k : Int}
theorem Eh:∀{es:List ai} {m x:af},pj n k m->(∀e∈es,aL e=true/\e.aa=flat n k/\e.bp=1)->uo n k m es=some x->pj n k x
 |[],m,x,h,_,e=>by rw[<-Option.some.inj e];exact h
 |e::es,m,x,h,he,hx=>by
  rw[uo]at hx;obtain⟨y,h1,h2⟩:=Qc.1 hx;obtain⟨g1,g2,g3⟩:=he e Qx;obtain⟨_,_,_,_,hl⟩:=UQ h g1 g2 g3 h1;exact Eh hl (fun e he'=>he e (Qy _ he')) h2
theorem yd{ms ms':List af}(hl:ms.length<=10)(h:∀m∈ms,pj n k m)(hr:Ef n k (ms.map bO) ms=some ms'):tC ms=some ms'/\(∀m∈ms',pj n k m)/\ms'.length=ms.length:=by
 obtain⟨hlen,hat⟩:=OA hr
 have hes:∀e∈ms.map bO,aL e=true/\e.aa=flat n k/\e.bp=1:=fun e he=>by
  obtain⟨m,hm,rfl⟩:=QP.1 he;exact(h m hm).env
 refine⟨?_,fun m hm=> ?_,hlen⟩
 ·have hlo:∀{b c:Nat},b<=240->c<=1000000->bx b c=true:=fun hb hc=>b0 ⟨QK (Nat.mul_le_mul hc hb) (by decide),hc⟩
  unfold tC;refine Eq.trans (z7 ms (by omega) bO (fin:= ?fin) (fun i m s hs hm hd hx hw=> ?h1) (fun s hd=> ?h2)) ?h3
  case h2=>
   simp only[hd,Ql];exact rfl
  case h1=>
   obtain⟨e,he1,he2⟩:=HG (h m hm).inv (h m hm).seq;have hz:=(h m hm).nz;rw[he2 hz]at he1;have hlo1:bx 176 (s.length+[bO m].length)=true:=hlo (by omega) (by simp only[List.length_singleton];omega)
   simp only[hd,hx,hw,Qk,aU,Qa,af.eta,an.eta,ai.eta,he1,hz,Qp,hlo1]
  case h3=>
   rw[hlo (b:=240) (c:=ms.length) (by omega) (by omega)]
   simp only[Qk];refine aa0 (Vr ms.length (fun i out=>out.length=ms.length/\(∀t,t<i->out[t]?=ms'[t]?)/\∀t,i<=t->out[t]?=ms[t]?) (fun q=>q=ms') (fun i out hi ho=> ?_) (fun out ho=> ?_) ms ⟨rfl,fun t ht=>by omega,fun t _=>rfl⟩)
   ·
    obtain⟨ho1,ho2,ho3⟩:=ho;have hd6:decide ((i:Int)<((ms.length:Nat):Int))=true:=Qg (by omega)
    have hm:ms[i]?=some ms[i]:=Qv hi;obtain⟨x,hx1,hx2⟩:=hat i ms[i] hm;have hw6:aB .i64 (i:Int) 1=((i+1:Nat):Int):=bH (by omega) (by omega)
    simp only[hd6,Qk]
    suffices hin:∃o:List af,_=some (Sum.inl (((i+1:Nat):Int),o,()))/\(o.length=ms.length/\(∀t,t≠i->o[t]?=out[t]?)/\o[i]?=some x)by
     obtain⟨o,hq,g1,g2,g3⟩:=hin;refine⟨o,hq,g1,fun t ht=> ?_,fun t ht=> ?_⟩
     ·by_cases hti:t=i
      ·rw[hti,g3,hx1]
      ·rw[g2 t hti];exact ho2 t (by omega)
     ·rw[g2 t (by omega)];exact ho3 t (by omega)
    refine aaZ (f:=fun o:List af=>Sum.inl (((i+1:Nat):Int),o,())) (Vr (ms.map bO).length
     (fun j o=>o.length=ms.length/\(∀t,t≠i->o[t]?=out[t]?)/\∃y,o[i]?=some y/\pj n k y/\uo n k y ((ms.map bO).drop j)=some x) _ (fun j o hj ho=> ?_) (fun o ho=> ?_) out ⟨ho1,fun t _=>rfl,ms[i],by rw[ho3 i (QI i)];exact hm,h _ (Q0 hi),hx2⟩)
    ·obtain⟨g1,g2,y,g3,g4,g5⟩:=ho;have hd7:decide ((j:Int)<(((ms.map bO).length:Nat):Int))=true:=Qg (by omega)
     have hw7:aB .i64 (j:Int) 1=((j+1:Nat):Int):=bH (by omega) (by rw[QC]at hj;omega)
     have he:(ms.map bO)[j]?=some (ms.map bO)[j]:=Qv hj;have hdrop:(ms.map bO).drop j=(ms.map bO)[j]::(ms.map bO).drop (j+1):=(QM hj);rw[hdrop,uo]at g5;obtain⟨z,h1,h2⟩:=Qc.1 g5;obtain⟨a1,a2,a3⟩:=hes _ (Q0 hj);obtain⟨w,c,b1,b2,b3⟩:=UQ g4 a1 a2 a3 h1;have hxj:idx (ms.map bO) (j:Int)=some (ms.map bO)[j]:=by rw[bz];exact he
     have hxi:idx o (i:Int)=some y:=by rw[bz];exact g3
     simp only[hd7,Qk,aU,af.eta,an.eta,ai.eta,hxj,QV,he,Qa,hxi,g3,b1,hw7];rcases b2 with⟨rfl,rfl⟩|⟨hc,rfl⟩
     ·refine⟨o.set i w,by rw[Qg rfl];rfl,by rw[QY];exact g1,fun t ht=>by rw[List.getElem?_set_ne (Ne.symm ht)];exact g2 t ht,w,by rw[List.getElem?_set_self (by omega)],b3,h2⟩
     ·exact⟨o,by rw[Qh hc];rfl,g1,g2,z,g3,b3,h2⟩
    ·obtain⟨g1,g2,y,g3,g4,g5⟩:=ho;have hd7:decide ((((ms.map bO).length:Nat):Int)<(((ms.map bO).length:Nat):Int))=false:=Qh (by omega)
     rw[List.drop_length,uo]at g5;obtain rfl:=Option.some.inj g5;simp only[hd7,Ql,hw6];exact .some ⟨o,rfl,g1,g2,g3⟩
   ·obtain⟨ho1,ho2,ho3⟩:=ho;have hd6:decide (((ms.length:Nat):Int)<((ms.length:Nat):Int))=false:=Qh (by omega)
    simp only[hd6,Ql];refine .some (List.ext_getElem? fun t=> ?_)
    by_cases ht:t<ms.length
    ·exact ho2 t ht
    ·rw[List.getElem?_eq_none (by omega),List.getElem?_eq_none (by omega)]
 ·obtain⟨t,ht,rfl⟩:=List.getElem_of_mem hm;obtain⟨x,hx1,hx2⟩:=hat t (ms[t]'(by omega)) (Qv (by omega))
  rw[Qv ht]at hx1;obtain rfl:=Option.some.inj hx1;exact Eh (h _ (Q0 _)) hes hx2
end
end Go.Proofs.YtkgenianmdfmdaaGreat
namespace Go.Proofs.YtkgenianmdfmdaaGreat
open Go.TQ
def aV:ByteArray:=ByteArray.mk #[97]
def firstM(n:Nat)(k:Int)(i:Int)(v:ByteArray):af:={dF (gL i 1 (flat n k)) v with aF:=1}
def Fu(n:Nat)(k:Int)(s:List af):Option (List af):=Ef n k (s.map bO) s
def ZW(n:Nat)(k:Int)(s:List af):Option (List af):=(Fu n k s).bind fun s=>(Fu n k s).bind fun s=>(Fu n k s).bind fun s=>(Fu n k s).bind fun s=>(Fu n k s).bind fun s=>Fu n k s
def Ub(m:af):Bool:=decide (m.aH=3)&&decide (m.ab.Value=aV)
def XL:List af:=[firstM 4 3 0 aV,firstM 4 3 1 aV,firstM 4 3 2 aV,firstM 4 3 3 aV]
theorem Vs:([0,1,2,3]:List Int).all (fun i=>(runT 4 3 5 (dF (gL i 1 (flat 4 3)) aV)).any (lM (firstM 4 3 i aV)))=true:=by decide+kernel
theorem ZV:((ZW 4 3 XL).map (List.all · Ub))=some true:=by decide+kernel
section
variable {n : Nat} {k : Int} (hn : n <= 10) (hk1 : 1 <= k) (hkn : k <= n) {i : Int} (hi0 : 0 <= i) (hi9 : i < 10) {v : ByteArray} (hv : 1 <= v.size /\ v.size <= 200)
 include hn hk1 hkn hi0 hi9
theorem U9:ba (gL i 1 (flat n k))/\fZ (gL i 1 (flat n k))/\nZ n k (gL i 1 (flat n k)):=by
 obtain⟨h1,h2⟩:=Sl hi0 hi9 (show(1:Int)<=1 by omega) (show(1:Int)<=1000000 by omega) (z1 n hn k hk1 hkn)
 exact⟨h1,h2,hn,hk1,hkn,rfl,fun e he=>absurd he QR⟩
 include hv
theorem WU{z:af}(hz:runT n k 5 (dF (gL i 1 (flat n k)) v)=some z):iw (gL i 1 (flat n k)) v=some ({z with aF:=1},(0:Int),())/\pj n k {z with aF:=1}:=by
 obtain⟨h1,h2,h3⟩:=U9 hn hk1 hkn hi0 hi9;have hp:=yK h1 hv;have hz0:aA (gL i 1 (flat n k)).ab=true:=bD
 have henv:(dF (gL i 1 (flat n k)) v).aa=flat n k/\(dF (gL i 1 (flat n k)) v).az=[]/\(dF (gL i 1 (flat n k)) v).bp=1:=by
  unfold dF;split<;>exact⟨rfl,rfl,rfl⟩
 have hf:nZ n k (dF (gL i 1 (flat n k)) v):=⟨hn,hk1,hkn,henv.1,fun e he=>by rw[henv.2.1]at he;cases he⟩
 obtain⟨q,hq,m2,rfl,ha⟩:=WE (R:=Reach (dF (gL i 1 (flat n k)) v)) (yf hp) ye h1 h2 hv (yg hp);have hnz:=OQ h1 hv;have e1:=X6 hp hf hz ha
 have hsq:(cj (dF (gL i 1 (flat n k)) v)).aF=1:=by
  unfold cj;rw[Qr hnz,j1.2];rfl
 have hs2:m2.aF=1:=by
  have:=ha.num;rw[hsq]at this;omega
 have hb:fY (gL i 1 (flat n k)) m2=m2:=by
  unfold fY;rw[Qs (fun e=>by rw[hz0]at e;cases e.1)]
 rw[hb]at hq;rw[hs2]at e1;obtain⟨f1,f2,f3,f4,f5,f6⟩:=vS (dF (gL i 1 (flat n k)) v);refine⟨by rw[hq,e1],?_⟩
 rw[<-e1];exact⟨ha.inv,ha.seq,⟨hn,hk1,hkn,ha.env.2.2.1.trans (f3.trans hf.aO),fun e he=>by rw[ha.env.2.2.2.2,f5,henv.2.1]at he;cases he⟩,ha.nz (by rw[f6];exact hnz),ha.env.2.1.trans (f2.trans henv.2.2)⟩
end
theorem X7:1<=aV.size/\aV.size<=200:=by decide
theorem EN(i:Int)(hi:i=0\/i=1\/i=2\/i=3):iw (gL i 1 (flat 4 3)) aV=some (firstM 4 3 i aV,(0:Int),())/\pj 4 3 (firstM 4 3 i aV):=by
 have h:=QH.1 Vs i (by simp;exact hi)
 cases hr:runT 4 3 5 (dF (gL i 1 (flat 4 3)) aV)with
 |none=>rw[hr]at h;cases h
 |some z=>
  rw[hr]at h;have h:lM (firstM 4 3 i aV) z=true:=h;have hg:=WU (n:=4) (k:=3) (by omega) (by omega) (by omega) (by omega) (by omega) X7 hr
  obtain⟨h1,h2,h3⟩:=U9 (n:=4) (k:=3) (i:=i) (by omega) (by omega) (by omega) (by omega) (by omega)
  have hp:=yK h1 X7
  have hf:nZ 4 3 (dF (gL i 1 (flat 4 3)) aV):=⟨by omega,by omega,by omega,by unfold dF;split<;>rfl,fun e he=>by
   have:(dF (gL i 1 (flat 4 3)) aV).az=[]:=by unfold dF;split<;>rfl
   rw[this]at he;cases he⟩
  obtain⟨j,hj,_⟩:=Ov hp hf hr
  have henv:∀(j:Nat) (m:af),ff m (uz j m):=by
   intro j
   induction j with
   |zero=>exact fun m=>ff.refl m
   |succ j ih=>
    intro m;have a:=um m;have b:=ih (cg m);exact⟨b.ax.trans a.ax,b.bB.trans a.bB,b.seq.trans a.seq,b.aO.trans a.aO,b.oh.trans a.oh,b.heard.trans a.heard⟩
  have he:=henv j (dF (gL i 1 (flat 4 3)) aV);rw[hj]at he
  have hz:({z with aF:=1}:af)=firstM 4 3 i aV:=tL (m:=firstM 4 3 i aV) (m':={z with aF:=1}) ⟨he.ax,he.bB,rfl,he.aO,he.oh,he.heard⟩
   (by simp only[lM,Qm,Qi]at h;exact h.1.1.1.1.1.1.symm)
   (by simp only[lM,Qm,Qi,qw]at h;exact h.1.1.1.1.1.2.symm)
   (by simp only[lM,Qm,Qi,qw]at h;exact h.1.1.1.1.2.symm)
   (by simp only[lM,Qm,Qi,qw]at h;exact h.1.1.1.2.symm)
   (by simp only[lM,Qm,Qi,qw]at h;exact h.1.1.2.symm)
   (by simp only[lM,Qm,Qi]at h;exact h.1.2.symm)
   (by simp only[lM,Qm,Qi]at h;exact h.2.symm)
  rw[hz]at hg;exact hg
theorem Vy{n:Nat}{k:Int}{m:af}(h:pj n k m)(hd:Ub m=true):lH m=some (aV,true,()):=by
 simp only[Ub,Qm,Qi]at hd;rw[WG h.inv h.seq,Qg hd.1,hd.2];rfl
theorem ZX:vx=some true:=by
 have hF:te 4 3=some (flat 4 3):=ZK 4 (by omega) 3
 have hlo:∀{c:Nat},c<=1000000->bx 240 c=true:=fun hc=>b0 ⟨QK (Nat.mul_le_mul hc (QI 240)) (by decide),hc⟩
 have hN:∀i:Int,(i=0\/i=1\/i=2\/i=3)->pM i 1 (flat 4 3)=some (gL i 1 (flat 4 3),(0:Int),()):=fun i hi=>acG (by omega) (by omega) (by omega) (by omega) (z1 4 (by omega) 3 (by omega) (by omega))
 have ha:(ByteArray.mk #[97]:ByteArray)=aV:=rfl;have hsim:=ZV;obtain⟨s6,hs6,hdone⟩:=Qb.1 hsim;unfold ZW at hs6;obtain⟨s1,e1,hs6⟩:=Qc.1 hs6;obtain⟨s2,e2,hs6⟩:=Qc.1 hs6;obtain⟨s3,e3,hs6⟩:=Qc.1 hs6;obtain⟨s4,e4,hs6⟩:=Qc.1 hs6;obtain⟨s5,e5,e6⟩:=Qc.1 hs6
 have h0:∀m∈XL,pj 4 3 m:=by
  intro m hm;simp only[XL,QA,QR,or_false]at hm;rcases hm with rfl|rfl|rfl|rfl
  ·exact(EN 0 (by omega)).2
  ·exact(EN 1 (by omega)).2
  ·exact(EN 2 (by omega)).2
  ·exact(EN 3 (by omega)).2
 obtain⟨g1,h1,l1⟩:=yd (by decide) h0 e1
 have l1:s1.length=4:=l1;obtain⟨g2,h2,l2⟩:=yd (by omega) h1 e2
 obtain⟨g3,h3,l3⟩:=yd (by omega) h2 e3
 obtain⟨g4,h4,l4⟩:=yd (by omega) h3 e4
 obtain⟨g5,h5,l5⟩:=yd (by omega) h4 e5
 obtain⟨g6,h6,l6⟩:=yd (by omega) h5 e6
 have l6':s6.length=4:=by omega
 unfold vx
 have hbeg:∀(i:Int) (l:List af),(i=0\/i=1\/i=2\/i=3)->l.length<=1000->iw (gL i 1 (flat 4 3)) aV=some (firstM 4 3 i aV,(0:Int),())/\decide (i<4)=true/\aB .i64 i 1=i+1/\bx 240 (l.length+[firstM 4 3 i aV].length)=true:=fun i l hi hl=>
  ⟨(EN i hi).1,Qg (by omega),bH (by omega) (by omega),hlo (by simp only[List.length_singleton];omega)⟩
 obtain⟨a1,a2,a3,a4⟩:=hbeg 0 [] (by omega) (by decide)
 obtain⟨b1,b2,b3,b4⟩:=hbeg 1 ([]++[firstM 4 3 0 aV]) (by omega) (by decide)
 obtain⟨c1,c2,c3,c4⟩:=hbeg 2 ([]++[firstM 4 3 0 aV]++[firstM 4 3 1 aV]) (by omega) (by decide)
 obtain⟨d1,d2,d3,d4⟩:=hbeg 3 ([]++[firstM 4 3 0 aV]++[firstM 4 3 1 aV]++[firstM 4 3 2 aV]) (by omega) (by decide)
 rw[bl (s':=(1,[]++[firstM 4 3 0 aV],())) (by simp only[hF,hN 0 (by omega),a1,a2,a3,a4,ha,an.eta,af.eta,Qa,Qk,Ql,decide_true,Qo];rfl)]
 rw[bl (s':=(2,[]++[firstM 4 3 0 aV]++[firstM 4 3 1 aV],())) (by simp only[hF,hN 1 (by omega),b1,b2,b3,b4,ha,an.eta,af.eta,Qa,Qk,Ql,decide_true,Qo];rfl)]
 rw[bl (s':=(3,[]++[firstM 4 3 0 aV]++[firstM 4 3 1 aV]++[firstM 4 3 2 aV],())) (by simp only[hF,hN 2 (by omega),c1,c2,c3,c4,ha,an.eta,af.eta,Qa,Qk,Ql,decide_true,Qo];rfl)]
 rw[bl (s':=(4,XL,())) (by simp only[hF,hN 3 (by omega),d1,d2,d3,d4,ha,an.eta,af.eta,Qa,Qk,Ql,decide_true,Qo];rfl)]
 refine(bU (r:=true) ?_);have hk:∀j:Int,0<=j->j<6->decide (j<6)=true/\aB .i64 j 1=j+1:=fun j h0 h6=>⟨Qg h6,bH (by omega) (by omega)⟩
 simp only[show decide ((4:Int)<4)=false from rfl,Ql]
 rw[bl (s':=(s1,1,())) (by simp only[(hk 0 (by omega) (by omega)).1,(hk 0 (by omega) (by omega)).2,Qk,g1,Qa];rfl)]
 rw[bl (s':=(s2,2,())) (by simp only[(hk 1 (by omega) (by omega)).1,(hk 1 (by omega) (by omega)).2,Qk,g2,Qa];rfl)]
 rw[bl (s':=(s3,3,())) (by simp only[(hk 2 (by omega) (by omega)).1,(hk 2 (by omega) (by omega)).2,Qk,g3,Qa];rfl)]
 rw[bl (s':=(s4,4,())) (by simp only[(hk 3 (by omega) (by omega)).1,(hk 3 (by omega) (by omega)).2,Qk,g4,Qa];rfl)]
 rw[bl (s':=(s5,5,())) (by simp only[(hk 4 (by omega) (by omega)).1,(hk 4 (by omega) (by omega)).2,Qk,g5,Qa];rfl)]
 rw[bl (s':=(s6,6,())) (by simp only[(hk 5 (by omega) (by omega)).1,(hk 5 (by omega) (by omega)).2,Qk,g6,Qa];rfl)]
 rw[bU (r:=true) ?_]
 ·rfl
 simp only[show decide ((6:Int)<6)=false from rfl,Ql]
 rw[Mg s6.length (fin:=some true) (by omega) (fun i hi hd hw=> ?_) (fun hd=> ?_)]
 ·rfl
 ·have hx:idx s6 (i:Int)=some s6[i]:=by rw[bz];exact Qv hi
  have hm:s6[i]∈s6:=Q0 hi;have hdec:=Vy (h6 _ hm) (QH.1 hdone _ hm);simp only[hd,hx,hw,hdec,ha,Qk,Qa,af.eta,an.eta,Qo,Ql,decide_true]
 ·simp only[hd,Ql]
end Go.Proofs.YtkgenianmdfmdaaGreat
namespace Go.Proofs.YtkgenianmdfmdaaGreat
open Go.TQ
def zm(m m1:af):Prop:=
 (∃v,(1<=v.size/\v.size<=200)/\m1=dF m v)\/(∃e,BO m e/\m1=nu m e)\/(m.aH≠3/\da m≠fb/\m.ab.aj<1000/\m1=kQ m)\/(∃t,gC t/\m1=z6 m t)
structure X9 (m m1:af):Prop where
 inv:ba m1
 ax:m1.ar=m.ar
 bB:m1.bp=m.bp
 seq:m1.aF=m.aF
 nz:aA m.ab=false->aA m1.ab=false
theorem wq{m m1:af}(h:ba m)(hb:zm m m1):X9 m m1:=by
 rcases hb with⟨v,hv,rfl⟩|⟨e,he,rfl⟩|⟨h3,hv,hc,rfl⟩|⟨t,ht,rfl⟩
 ·exact⟨yK h hv,by unfold dF;split<;>rfl,by unfold dF;split<;>rfl,j1.2,j1.1⟩
 ·exact⟨CI h he,rfl,rfl,rfl,fun e=>e⟩
 ·exact⟨Oe h h3 hv hc,rfl,rfl,rfl,fun _=>Fg h⟩
 ·exact⟨PE h ht,rfl,rfl,rfl,fun e=>e⟩
def FL(m x:af):Prop:=x=m\/∃m1 m2,zm m m1/\AV (Reach m1) (cj m1) m2/\x=fY m m2
structure G3 (m:af):Prop where
 inv:ba m
 seq:fZ m
 fix:zj m
 ax:m.ar=0
 bB:m.bp=1
theorem PZ(m m2:af):(fY m m2).ar=m2.ar/\(fY m m2).bp=m2.bp/\(fY m m2).az=m2.az/\(fY m m2).ab=m2.ab:=by
 obtain⟨s,e,_⟩:=PX m m2;rw[e];exact⟨rfl,rfl,rfl,rfl⟩
theorem aaH{m m1 m2:af}{R:af->Prop}(h:G3 m)(hf:X9 m m1)(ha:AV R (cj m1) m2):G3 (fY m m2):=by
 obtain⟨e1,e2,e3,e4⟩:=PZ m m2;obtain⟨f1,f2,f3,f4,f5,f6⟩:=vS m1;exact⟨PY ha.inv,SS ha.inv ha.seq (fun hz=>ha.nz (by rw[f6];exact hf.nz hz)),Xm ha.inv ha.fix,by rw[e1,ha.env.1,f1,hf.ax];exact h.ax,by rw[e2,ha.env.2.1,f2,hf.bB];exact h.bB⟩
theorem Wc{m x:af}(h:G3 m)(hq:FL m x):G3 x:=by
 rcases hq with rfl|⟨m1,m2,hb,ha,rfl⟩
 ·exact h
 ·exact aaH h (wq h.inv hb) ha
theorem Cl{m m1:af}(hb:zm m m1){q:af×Int×Unit}(hq:G2 (Reach m1) m m1 q):q.2.1=0/\FL m q.1:=by
 obtain⟨m2,rfl,ha⟩:=hq;exact⟨rfl,.inr ⟨m1,m2,hb,ha,rfl⟩⟩
theorem Yo{m:af}(h:ba m)(hs:fZ m){e:ai}(ht:dD e.aa)(hbad:aL e=false\/e.ar=m.ar\/e.bp≠m.bp):kX m e=some (BR,(61:Int),()):=by
 unfold kX;simp only[af.eta,an.eta,ai.eta,yr h hs,Qa,Qo,Ql,gm ht]
 cases hv:aL e with
 |false=>rfl
 |true=>
  by_cases hn:e.ar=m.ar
  ·rw[Qg hn];rfl
  ·have hsl:e.bp≠m.bp:=(hbad.resolve_left (by rw[hv];decide)).resolve_left hn
   rw[Qh hn,Qh hsl];rfl
theorem UE{v:ByteArray}(h:Kw v):1<=v.size/\v.size<=200:=by
 have:=h.size;omega
theorem ZT{m:af}(h:G3 m){s:dH}(hO:lV s):Yd (vw s m) fun q=>lV q.2/\FL m q.1:=by
 unfold vw;simp only[af.eta,an.eta,aU];refine Yd.bind (q8 hO (by omega)) fun p3 ⟨hO3,_,_,_⟩=> ?_
 have fin:∀{x:af×Int×Unit} {s':dH},lV s'->((x.2.1=0/\FL m x.1)\/x.2.1≠0)->Yd (bif !decide (x.2.1=0)then some (m,s')else some (x.1,s')) fun q=>lV q.2/\FL m q.1:=fun{x s'} hO' hx=>by
  rcases hx with⟨h0,hq⟩|h0
  ·rw[Qg h0];exact .some ⟨hO',hq⟩
  ·rw[Qh h0];exact .some ⟨hO',.inl rfl⟩
 refine Yd.cond (fun _=> ?_) (fun _=>Yd.cond (fun _=> ?_) (fun _=>Yd.cond (fun _=> ?_) (fun _=> ?_)))
 ·refine Yd.bind (Ii hO3) fun p4 ⟨hO4,hv⟩=> ?_
  have hb:zm m (dF m p4.1):= .inl ⟨p4.1,UE hv,rfl⟩;have hi:=(wq h.inv hb).inv;refine Yd.bind (Wr (R:=Reach (dF m p4.1)) (yf hi) ye h.inv h.seq (UE hv) (yg hi)) fun q hq=> ?_
  exact fin hO4 (.inl (Cl hb hq))
 ·have hR:∃R:af->Prop,(∀m,ba m->R m->R (cg m))/\(∀m,R m->R (cj m))/\R (kQ m)/\(ba (kQ m)->∀x,R x->Reach (kQ m) x):=by
   by_cases hi:ba (kQ m)
   ·exact⟨Reach (kQ m),yf hi,ye,yg hi,fun _ x hx=>hx⟩
   ·exact⟨fun _=>True,fun _ _ _=>trivial,fun _ _=>trivial,trivial,fun hi'=>absurd hi' hi⟩
  obtain⟨R,hR1,hR2,hR0,hRR⟩:=hR;refine Yd.bind (Wp hR1 hR2 h.inv h.seq hR0) fun q hq=> ?_
  refine fin hO3 ?_;rcases hq with⟨⟨m2,rfl,ha⟩,h3,hv,hc⟩|⟨rfl,_⟩|⟨rfl,_⟩
  ·have hb:zm m (kQ m):= .inr (.inr (.inl ⟨h3,hv,hc,rfl⟩));refine .inl (Cl hb ⟨m2,rfl,ha.inv,ha.seq,ha.env,ha.num,ha.nz,hRR (wq h.inv hb).inv _ ha.rel,ha.fix⟩)
  ·exact .inr (by decide)
  ·exact .inr (by decide)
 ·refine Yd.bind (Ij hO3 (n:=5) (by omega) (by omega)) fun p7 ⟨hO7,ht,_,_⟩=> ?_
  have hb:zm m (z6 m p7.1):= .inr (.inr (.inr ⟨p7.1,ht,rfl⟩));have hi:=(wq h.inv hb).inv;refine Yd.bind (Wu (R:=Reach (z6 m p7.1)) (yf hi) ye h.inv h.seq ht (yg hi)) fun q hq=> ?_
  exact fin hO7 (.inl (Cl hb hq))
 ·refine Yd.bind (pf hO3 (by omega) (by omega) (by omega)) fun p9 ⟨hO9,hlo,hhi,_⟩=> ?_
  have hhi:=hhi (by omega)
  refine Yd.bind (R0 hO9 (by omega) (by omega) (by omega) (by omega) (n:=5) (by omega) (by omega)) fun p10 ⟨hO10,he⟩=> ?_
  have hsq:=h.inv.seq;have hseq:=he.seq;have hmul:aad .i64 3 m.aF=3*m.aF:=wrap64 (by omega) (by omega)
  have hadd:aB .i64 p10.1.aF (3*m.aF)=p10.1.aF+3*m.aF:=bH (by omega) (by omega)
  rw[hmul,hadd];generalize hE:(ai.mk p10.1.ar p10.1.bp (p10.1.aF+3*m.aF) p10.1.aa p10.1.bs p10.1.ab p10.1.ao p10.1.aw p10.1.aI p10.1.aR)=E;have hT:gC E.aa:=by rw[<-hE];exact he.aO
  have hN:E.ar=p9.1:=by rw[<-hE];exact he.ax
  have hS:E.bp=1:=by rw[<-hE];exact he.bB
  cases hv:aL E with
  |false=>
   rw[Yo h.inv h.seq hT.sm (.inl hv)];simp only[Qa];exact fin (x:=(BR,(61:Int),())) hO10 (.inr (by decide))
  |true=>
   have hh:BO m E:=⟨hv,hT,by rw[hS,h.bB],by rw[hN,h.ax];omega⟩
   have hb:zm m (nu m E):= .inr (.inl ⟨E,hh,rfl⟩);have hi:=(wq h.inv hb).inv;refine Yd.bind (Wq (R:=Reach (nu m E)) (yf hi) ye h.inv h.seq hh (yg hi)) fun q hq=> ?_
   refine fin hO10 ?_;rcases hq with⟨hq,_⟩|⟨rfl,_⟩
   ·exact .inl (Cl hb hq)
   ·exact .inr (by decide)
theorem acJ{t:an}(ht:gC t):G3 (gL 0 1 t):=by
 obtain⟨h1,h2⟩:=Sl (ax:=0) (bB:=1) (by omega) (by omega) (by omega) (by omega) ht
 exact⟨h1,h2,YO h1,rfl,rfl⟩
end Go.Proofs.YtkgenianmdfmdaaGreat
namespace Go.Proofs.YtkgenianmdfmdaaGreat
open Go.TQ
structure acV (m x:af):Prop where
 up:m.aF<=x.aF
 one:x.aF<=m.aF+1
 same:aA m.ab=false->x.aF=m.aF->bO x=bO m
 nz:aA m.ab=false->aA x.ab=false
theorem Zi{a b:ai}(h:({a with aF:=0}:ai)={b with aF:=0})(hs:a.aF=b.aF):a=b:=by
 rw[FB]at h ⊢;exact⟨h.1,h.2.1,hs,h.2.2.2⟩
theorem UM{m x:af}(h:G3 m)(hq:FL m x)(hlt:m.aF<1000000):acV m x:=by
 rcases hq with rfl|⟨m1,m2,hb,ha,rfl⟩
 ·exact⟨Int.le_refl _,by omega,fun _ _=>rfl,fun e=>e⟩
 ·have hf:=wq h.inv hb;have hnum:=ha.num;obtain⟨f1,f2,f3,f4,f5,f6⟩:=vS m1;have hnz:aA m.ab=false->aA m2.ab=false:=fun hz=>ha.nz (by rw[f6];exact hf.nz hz)
  have hbb:(fY m m2).ab=m2.ab:=(PZ m m2).2.2.2
  cases hz:aA m.ab with
  |false=>
   have hp:=h.seq.pos hz
   have hs1:(cj m1).aF=m.aF:=by
    unfold cj;rw[Qr (hf.nz hz)];show bo m1.aF 1=m.aF;rw[hf.seq];unfold bo;split<;>omega
   have hs2:m2.aF=m.aF:=by omega
   unfold fY;split
   ·have hm:de (m2.aF+1) 1000000=m.aF+1:=by rw[hs2];unfold de;split<;>omega
    refine⟨?_,?_,fun _ e=> ?_,fun _=>hnz hz⟩
    ·show m.aF<=de (m2.aF+1) 1000000;omega
    ·show de (m2.aF+1) 1000000<=m.aF+1;omega
    ·have e:de (m2.aF+1) 1000000=m.aF:=e;omega
   ·rename_i hc;refine⟨by omega,by omega,fun _ e=> ?_,fun _=>hnz hz⟩
    have hsame:({bO m with aF:=0}:ai)={bO m2 with aF:=0}:=Classical.byContradiction fun hn=>hc ⟨hz,hn⟩
    exact(Zi hsame (by rw[qU,qU,hs2])).symm
  |true=>
   have h0:=h.seq.zero hz
   have hs1:(cj m1).aF<=1/\0<=(cj m1).aF:=by
    unfold cj;split
    ·show bo m1.aF 1<=1/\0<=bo m1.aF 1;rw[hf.seq,h0];decide
    ·rw[hf.seq,h0];decide
   have hbm:fY m m2=m2:=by
    unfold fY;rw[Qs (fun e=>by rw[hz]at e;cases e.1)]
   rw[hbm];have hno:∀{q:Prop},aA m.ab=false->q:=fun e=>by rw[hz]at e;cases e
   exact⟨by omega,by omega,fun e=>hno (by first|exact e|(rw[hz];exact e)),fun e=>hno (by first|exact e|(rw[hz];exact e))⟩
theorem Yn{m:af}(h:ba m):mA m m=some true:=by
 have h1:lE m.az m.az=some true:=aax (by have:=h.len;omega) fun e he=>(h.hv e he).2.1.sm
 unfold mA;simp only[af.eta,an.eta,UN,oP,UP h.aO.sm,h1,Qa,decide_true,Qk]
theorem RX{m:af}(h:G3 m):ix m=some m:=by
 have hR1:∀x,ba x->x=m->cg x=m:=by
  rintro x _ rfl;exact Pw h.fix
 have hR2:∀x,x=m->cj x=m:=by
  rintro x rfl;exact Sj h.seq
 obtain⟨q,hq,m',rfl,ha⟩:=M8 (R:=fun x=>x=m) hR1 hR2 h.inv h.seq.zero rfl
 have hm:=ha.rel;subst hm;unfold ix;simp only[af.eta,an.eta,ay.eta,y6 h.inv,wi h.inv h.seq,Qa,hq,Qk,aU]
theorem keeps(l:List Int):pt l=some true:=by
 refine Yd.eq_true ?_;unfold pt;simp only[af.eta,an.eta,ai.eta,ZX,Qa];refine Yd.bind (aaP l) fun s hO=> ?_
 refine Yd.bind (Ij hO (n:=5) (by omega) (by omega)) fun p2 ⟨hO2,ht,_,_⟩=> ?_
 rw[acD (by omega) (by omega) (by omega) (by omega) ht]
 simp only[Qa];refine Yd.down (fun v=>0<=v.1/\v.1<=12/\lV v.2.1/\G3 v.2.2.1/\v.2.2.1.aF<=v.1) (fun v=>(12 - v.1).toNat) ?_ ⟨by show(0:Int)<=0;omega,by show(0:Int)<=12;omega,hO2,acJ ht,by show(0:Int)<=0;omega⟩
 rintro⟨i,s',m,_⟩ ⟨hi0,hi12,hOs,hm,hsq⟩;simp only at hi0 hi12 hOs hm hsq;simp only
 by_cases hi:i<12
 ·rw[Qg hi];simp only[Qk];refine Yd.bind (ZT hm hOs) fun p5 ⟨hO5,hq⟩=> ?_
  have hx:=Wc hm hq;have hseq:=UM hm hq (by omega)
  obtain⟨a,ha1,ha2⟩:=HG hm.inv hm.seq;obtain⟨b,hb1,hb2⟩:=HG hx.inv hx.seq;have hadd:aB .i64 i 1=i+1:=bH (by omega) (by omega)
  have hgoal:∀y,y=(Sum.inl (i+1,p5.2,p5.1,()):(Int×dH×af×Unit)⊕Bool)->match y with| .inl s''=>(0<=s''.1/\s''.1<=12/\lV s''.2.1/\G3 s''.2.2.1/\s''.2.2.1.aF<=s''.1)/\(12 - s''.1).toNat<(12 - i).toNat| .inr r=>r=true:=by
   rintro y rfl;exact⟨⟨by omega,by omega,hO5,hx,by have:=hseq.one;show p5.1.aF<=i+1;omega⟩,by show(12 - (i+1)).toNat<(12 - i).toNat;omega⟩
  simp only[ha1,hb1,Qa,aU,wi hx.inv hx.seq,Qo,Ql,RX hx,Yn hx.inv,hadd]
  cases hz:aA m.ab with
  |false=>
   have hzx:=hseq.nz hz;have ea:=ha2 hz;have eb:=hb2 hzx
   have hval:bY b=some true:=by
    rw[gm (by rw[eb,ku];exact hx.inv.aO.sm),eb,Bk hx.inv hx.seq hzx]
   have hlt:decide (b.aF<a.aF)=false:=Qh (by rw[ea,eb,qU,qU];have:=hseq.up;omega)
   simp only[hzx,Qp,Qk,hval,Qa,Qo,Ql,hlt]
   by_cases he:b.aF=a.aF
   ·have hab:a=b:=by
     rw[ea,eb];refine(hseq.same hz ?_).symm;rw[ea,eb,qU,qU]at he;exact he
    have hs:jH a b=some true:=by rw[hab];exact UO (by rw[eb,ku];exact hx.inv.aO.sm)
    simp only[Qg he,Qk,hs,Qa,Qo,Ql];exact⟨_,rfl,hgoal _ rfl⟩
   ·simp only[Qh he,Ql,Qa];exact⟨_,rfl,hgoal _ rfl⟩
  |true=>
   cases hzx:aA p5.1.ab with
   |false=>
    have eb:=hb2 hzx
    have hval:bY b=some true:=by
     rw[gm (by rw[eb,ku];exact hx.inv.aO.sm),eb,Bk hx.inv hx.seq hzx]
    simp only[Qp,Qo,Qk,Ql,hval,Qa];exact⟨_,rfl,hgoal _ rfl⟩
   |true=>
    simp only[Qo,Ql,Qa];exact⟨_,rfl,hgoal _ rfl⟩
 ·rw[Qh hi];exact .some rfl
end Go.Proofs.YtkgenianmdfmdaaGreat
end
noncomputable section
namespace Go.TQ
open Go.RowKit
theorem Wl{w:World}{M:Nat->Prop}{G:Gh}{a:Option Addr}{len cap:Nat}{zs:List Int}(hM:∀b,¬M b)
  (h:(a=none/\len=0/\cap=0/\zs=[])\/∃x,a=some x/\len<=cap/\cap<=maxLen/\zs.length=cap/\(∀i,i<zs.length->w.cell? (x.add i)=some (.int .i64 (zs.getD i 0)))/\∀n∈zs,(Lit.int .i64 n).wf=true):
  aS w M G (.sl ((zs.take len).map fun n=>[.int .i64 n])) (.slice a len cap):=by
 rcases h with⟨rfl,rfl,rfl,rfl⟩|⟨x,rfl,h1,h2,h3,h4,_⟩
 ·exact .slnil
 ·have hfl:∀l:List Int,(l.map fun n=>[PV.int .i64 n]).flatten=l.map fun n=> .int .i64 n:=by
   intro l
   induction l with
   |nil=>rfl
   |cons n l ih=>simp only[QD,List.flatten_cons,ih];rfl
  have hlen:((zs.take len).map fun n=>[PV.int .i64 n]).length=len:=by simp;omega
  have:=aS.sl (w:=w) (M:=M) (G:=G) ((zs.take len).map fun n=>[.int .i64 n]) x cap 1 ((zs.take len).map fun n=> .int .i64 n) (fun e he=>by obtain⟨n,_,rfl⟩:=QP.1 he;rfl) (by rw[hfl];simp)
   (fun i v hv=> ?_) (fun i y v hy hv=> ?_) (by rw[hlen];exact h1) h2
  ·rw[hlen]at this;exact this
  ·refine⟨?_,hM _⟩;rw[QT,Qb]at hv;obtain⟨n,hn,rfl⟩:=hv;rw[List.getElem?_take]at hn;split at hn
   ·have hi:i<zs.length:=(Qw.1 hn).1;rw[h4 i hi,List.getD_eq_getElem?_getD,hn];rfl
   ·cases hn
  ·rw[hfl]at hy;rw[QT]at hy hv;rw[Qb]at hy hv;obtain⟨n,hn,rfl⟩:=hy;obtain⟨n',hn',rfl⟩:=hv;rw[hn]at hn';injection hn' with e
   subst e;exact .int _ _
theorem Vi{P:Program}{f:FuncId}{args:List PV}{vs:List Value}{w:World}(h:V0 P f false [] args (.bool true) [])(hr:aT w (fun _=>False) cI args vs):
  Calls P f vs.toArray w fun e w'=>e= .returned (.bool true)/\Below w.heap.size w w':=by
 refine(h w (fun _=>False) (fun _ hb=>hb.elim) 0 0 [] vs (fun hq=>by cases hq) ?_).mono ?_
 ·exact⟨hr.1,fun i x v hx hv=>(hr.2 i x v hx hv).mono (dp.of fun _ _=>fun hq=>by rcases hq with⟨hq,_⟩|hq;cases hq;exact hq) (Gh.le.refl _)⟩
 ·rintro e w' ⟨v,_,rfl,hv,_,hF⟩;refine⟨by rw[hv.lp],hF.os,hF.tape,hF.output,hF.size,fun k hk=>hF.block k hk (by simp)⟩
end Go.TQ
end
