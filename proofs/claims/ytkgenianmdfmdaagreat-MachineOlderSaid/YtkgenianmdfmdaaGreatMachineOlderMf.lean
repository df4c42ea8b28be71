/-
  Texts made small by a program (see NOTES). Conditions: those that each theorem names.
-/
import Derived.Test.YtkgenianmdfmdaaGreatMachineOlderMe
set_option linter.unusedVariables false
set_option linter.unusedSimpArgs false
set_option linter.unusedSectionVars false
set_option maxHeartbeats 2000000
noncomputable section
namespace Go.Proofs.YtkgenianmdfmdaaGreat
open Go.TQ
def jl{A ρ:Type}(g:A->Int->A⊕ρ)(fin:A->Option ρ):List Int->A->Option ρ
 |[],a=>fin a
 |x::l,a=>match g a x with
  | .inl a'=>jl g fin l a'
  | .inr r=>some r
theorem uT{A σ ρ:Type}(b:List Int)(hb:b.length<=1000000)(st:A->Int->σ)(g:A->Int->A⊕ρ)(fin:A->Option ρ){step:σ->Option (σ⊕ρ)}
  (h1:∀(i:Nat) (x:Int) (a:A),idx b (i:Int)=some x->decide ((0:Int)<=(i:Int))=true->de .i64 (i:Int) 1=(i:Int) - 1->step (st a (i:Int))=some (match g a x with| .inl a'=> .inl (st a' ((i:Int) - 1))| .inr r=> .inr r))
  (h2:∀a,decide ((0:Int)<=(-1:Int))=false->step (st a (-1))=Option.map Sum.inr (fin a)):∀n:Nat,n<=b.length->∀a:A,aE step (st a ((n:Int) - 1))=jl g fin (b.take n).reverse a
 |0,_,a=>by
  rw[show((0:Nat):Int) - 1= -1 by omega,ic,h2 a rfl,List.take_zero,List.reverse_nil,jl]
  cases fin a<;>rfl
 |n+1,hn,a=>by
  have hlt:n<b.length:=by omega
  have hs:=h1 n b[n] a (by rw[bB];exact Qv hlt) (Qg (by omega)) (pV (by omega) (by omega))
  rw[show((n+1:Nat):Int) - 1=(n:Int)by omega,List.take_succ_eq_append_getElem hlt,List.reverse_append,List.reverse_singleton,List.singleton_append,jl]
  cases hg:g a b[n]with
  |inl a'=>rw[hg]at hs;rw[bl hs,uT b hb st g fin h1 h2 n (by omega) a']
  |inr r=>rw[hg]at hs;rw[bS hs]
theorem Fb(b:List Int)(hb:b.length<=1000000):de .i64 ((b.length:Nat):Int) 1=((b.length:Nat):Int) - 1:=pV (by omega) (by omega)
theorem zD{ρ:Type}(q:Int->Bool)(f:Int->ρ):∀(l:List Int) (lo:Int),jl (fun lo x=>if lo<=x then .inl lo else if q x then .inl x else .inr (f lo)) (fun lo=>some (f lo)) l lo=some (f (cg q l lo))
 |[],lo=>rfl
 |x::l,lo=>by
  rw[jl,cg]
  by_cases h1:lo<=x
  ·rw[Qr h1,Qr h1];exact zD q f l lo
  ·rw[Qs h1,Qs h1]
   cases hq:q x with
   |true=>rw[Qr rfl,Qr rfl];exact zD q f l x
   |false=>rw[Qs (by simp),Qs (by simp)]
theorem L8{A ρ:Type}(s:A)(c p:Int->Bool)(f:Int->ρ)(d:ρ)(g:A->Int->A⊕ρ)(fin:A->Option ρ)(hg:∀z,g s z=if c z then(if p z then .inr (f z)else .inl s)else .inr d)(hfin:fin s=some d)(hc:∀a b,b<a->c b=true->c a=true):
  ∀r:List Int,r.Pairwise (fun a b=>b<a)->jl g fin r s=some (match r.find? (fun n=>c n&&p n)with|some n=>f n|none=>d)
 |[],_=>hfin
 |z::r,h=>by
  rw[jl,hg,List.find?_cons];rw[Q4]at h
  cases hz:c z with
  |false=>
   have:r.find? (fun n=>c n&&p n)=none:=by
    rw[List.find?_eq_none];intro n hn hcn;rw[Qm]at hcn;rw[hc z n (h.1 n hn) hcn.1]at hz;cases hz
   simp[this]
  |true=>
   cases hp:p z with
   |true=>simp
   |false=>
    simp only[Qt,Bool.true_and];exact L8 s c p f d g fin hg hfin hc r h.2
theorem IU{ρ:Type}(q:Int->Bool)(f:Int->ρ):∀(r:List Int) (lo:Int),(∀z∈r,z<lo)->r.Pairwise (fun a b=>b<a)->jl (fun lo z=>if q z then .inl z else .inr (f lo)) (fun lo=>some (f lo)) r lo=some (f (cg q r lo))
 |[],lo,_,_=>rfl
 |z::r,lo,h,hs=>by
  rw[Q4]at hs;have hz:=h z (by simp)
  have h0:¬lo<=z:=by omega
  rw[jl,cg,Qs h0]
  cases hq:q z with
  |true=>rw[Qr rfl,Qr rfl];exact IU q f r z hs.1 hs.2
  |false=>rw[Qs (by simp),Qs (by simp)]
theorem JW{α B ρ:Type}(l:List α)(hl:l.length<=1000000)(f:B->α->B){step:Int×B×Unit->Option ((Int×B×Unit)⊕ρ)}{fin:B->Option ρ}
  (h1:∀(i:Nat) (x:α) (b:B),x∈l->decide ((i:Int)<((l.length:Nat):Int))=true->idx l (i:Int)=some x->aA .i64 (i:Int) 1=((i+1:Nat):Int)->step ((i:Int),b,())=some (.inl (((i+1:Nat):Int),f b x,())))
  (h2:∀b,decide (((l.length:Nat):Int)<((l.length:Nat):Int))=false->step (((l.length:Nat):Int),b,())=Option.map Sum.inr (fin b)) (b:B):aE step ((0:Int),b,())=fin (l.foldl f b):=by
 suffices key:∀(k i:Nat) (b:B),i+k=l.length->aE step ((i:Int),b,())=fin ((l.drop i).foldl f b)from key l.length 0 b (by omega)
 intro k
 induction k with
 |zero=>
  intro i b hi;obtain rfl:i=l.length:=by omega
  rw[ic,h2 b (Qh (Int.lt_irrefl _)),List.drop_length,List.foldl_nil];cases fin b<;>rfl
 |succ k ih=>
  intro i b hi;have hlt:i<l.length:=by omega
  rw[bl (h1 i l[i] b (Q0 hlt) (Qg (by omega)) (by rw[bB];exact Qv hlt) (bM (by omega) (by omega))),ih (i+1) _ (by omega),QM hlt,QU]
theorem GL(q:Int->Bool):∀(l r:List Int) (lo:Int),(∀x∈l,lo<=x)->cg q (l++r) lo=cg q r lo
 |[],r,lo,_=>rfl
 |x::l,r,lo,h=>by
  rw[List.cons_append,cg,Qr (h x (by simp))]
  exact GL q l r lo fun y hy=>h y (by simp[hy])
theorem CH(q:Int->Bool):∀(r:List Int) (lo:Int),(∀x∈r,0<=x/\x<=1000000)->0<=lo/\lo<=1000000->0<=cg q r lo/\cg q r lo<=1000000
 |[],lo,_,h=>h
 |x::r,lo,hx,h=>by
  rw[cg];split
  ·exact CH q r lo (fun y hy=>hx y (by simp[hy])) h
  ·split
   ·exact CH q r x (fun y hy=>hx y (by simp[hy])) (hx x (by simp))
   ·exact h
 def eO(x:ByteArray->Int->Int->Bool)(p q:ae)(v:ByteArray)(s:Bool×ae)(n:Int):Bool×ae:=
 if bd s.2 ⟨n,v⟩&& !kG p q v n&&x v n n then(true,⟨n,v⟩)else s
 def fE(x:ByteArray->Int->Int->Bool)(l:List ai)(p q:ae):Bool×ae:=
 (eY l).foldl (fun s v=>(aY l v).foldl (eO x p q v) s) (false,⟨0,eZ⟩)
 def ml(x:ByteArray->Int->Int->Bool)(l:List ai)(p q:ae)(s:Bool×ae):ByteArray×Int×Int×Bool×Unit:=
 if s.1 then(s.2.Value,cg (fun n=> !kG p q s.2.Value n&&x s.2.Value n s.2.aj) (aY l s.2.Value).reverse s.2.aj,s.2.aj,true,())else(eZ,0,0,false,())
section
variable {S : fF} {x y : ByteArray -> Int -> Int -> Bool} (hx : ∀ v lo hi, gg S v lo hi = some (x v lo hi)) (hy : ∀ v lo hi, lp S v lo hi = some (y v lo hi))
section
 include hx
theorem WR(b:List Int)(lo:Int)(p q z:ae):iE b lo p q z S=some (cg (fun n=> !kG p q z.Value n&&x z.Value n z.aj) b.reverse lo):=by
 have:=yl (p:=fun e=>k8 e p q z S) (q:=fun n=> !kG p q z.Value n&&x z.Value n z.aj) (fun e=>by
  simp only[k8,Kt,hx,Qa,jw]
  cases kG p q z.Value e<;>simp) b.reverse lo
 simp only[iE,bQ,aW,Qa];exact this
theorem WQ(b:List Int)(lo:Int)(v:ByteArray)(hi:Int):iS b lo S v hi=some (cg (fun z=>x v z hi) b.reverse lo):=by
 have:=yl (p:=fun e=>nY e S v hi) (q:=fun z=>x v z hi) (fun e=>by simp only[nY,hx,Qa]) b.reverse lo
 simp only[iS,bQ,aW,Qa];exact this
theorem Py(b:List Int)(lo:Int)(v:ByteArray)(hi:Int):gi b lo S v hi=some (cg (fun z=>x v z hi) b.reverse lo):=by
 have:=yl (p:=fun e=>nX e S v hi) (q:=fun z=>x v z hi) (fun e=>by simp only[nX,hx,Qa]) b.reverse lo
 simp only[gi,bQ,aW,Qa];exact this
theorem ML(b:List Int)(v:ByteArray)(low bH:Int)(hb:∀x∈b,0<=x/\x<=1000000):∀r:List Int,(∀x∈r,x∈b)->kQ (yk S b v) (Vj S b v) r (low,bH,())=
  some (match r.find? (fun n=>decide (bH<n)&&x v n n)with
   |none=>(cg (fun z=>x v z bH) b.reverse low,bH,())
   |some n=>(cg (fun z=>x v z n) b.reverse (if bH<cg (fun z=>x v z n) b.reverse n - 1\/cg (fun z=>x v z n) b.reverse n<low then cg (fun z=>x v z n) b.reverse n else low),n,()))
 |[],_=>by simp only[kQ,Vj,Py hx,Qa,List.find?_nil]
 |e::r,hr=>by
  have ih:=ML b v low bH hb r (fun x hx=>hr x (by simp[hx]))
  rw[List.find?_cons,kQ]
  by_cases hle:e<=bH
  ·have h2:decide (bH<e)=false:=Qh (by omega)
   have h1:decide (e<=bH)=true:=Qg hle;have hst:yk S b v r.length e (low,bH,())=some (.inl (low,bH,())):=by simp only[yk,h1,Qk,Qa]
   rw[hst,h2,Bool.false_and];exact ih
  ·have h2:decide (bH<e)=true:=Qg (by omega)
   have h1:decide (e<=bH)=false:=Qh hle;rw[h2,Bool.true_and]
   cases hr':x v e e with
   |false=>
    have hst:yk S b v r.length e (low,bH,())=some (.inl (low,bH,())):=by simp only[yk,h1,Ql,hx,hr',Qp,Qa,Qk]
    rw[hst];exact ih
   |true=>
    have hb9:=CH (fun z=>x v z e) b.reverse e (fun z hz=>hb z (by simpa using hz)) (hb e (hr e (by simp)))
    simp only[yk,h1,Ql,hx,hr',Qo,WQ hx,Py hx,Qa,aW,jw,Bool.cond_true_left,Qe];generalize cg (fun z=>x v z e) b.reverse e=bt at*
    have e3:de .i64 bt 1=bt - 1:=pV (by omega) (by omega)
    rw[e3]
    by_cases hc:bH<bt - 1\/bt<low
    ·have:(decide (bH<bt - 1)||decide (bt<low))=true:=by rw[Qn];simpa using hc
     rw[this,Qr hc];rfl
    ·have:(decide (bH<bt - 1)||decide (bt<low))=false:=by
      rw[<-QX,Qn];simpa using hc
     rw[this,Qs hc];rfl
end
section
 include hy
theorem Za(b:List Int)(lo:Int)(v:ByteArray)(hi:Int):iR b lo S v hi=some (cg (fun z=>y v z hi) b.reverse lo):=by
 have:=yl (p:=fun e=>pc e S v hi) (q:=fun z=>y v z hi) (fun e=>by simp only[pc,hy,Qa]) b.reverse lo
 simp only[iR,bQ,aW,Qa];exact this
end
variable {ax : Int} {t : al} {l : List ai} (hl : oq l) (hlen : l.length <= 1000) (hL : eM ax t l = some S)
 include hl hlen hL
section
 include hx
theorem aaK(p q:ae):oB ax t l p q=some (ml x l p q (fE x l p q)):=by
 obtain⟨h1,_,h3,_⟩:=mV hl.aO hlen;unfold oB;simp only[al.eta,hL,h1,Qa];refine(JX (eY l) (by omega) (fun s v=>(aY l v).foldl (eO x p q v) s) (fin:=fun s=>some (ml x l p q s)) (fun i v a b hv hd hx' hw=> ?_) (fun a b hd=> ?_) false ⟨0,ByteArray.mk #[]⟩)
 ·obtain⟨g1,_,g3,_⟩:=gz hl.aO hlen v;simp only[hd,hx',hw,Qk,Qa,g1];refine(JX (aY l v) (by omega) (eO x p q v) (fin:=fun s=>some (Sum.inl (s.1,((i+1:Nat):Int),s.2,()))) (fun i' n a' b' hv' hd' hx'' hw'=> ?_) (fun a' b' hd'=> ?_) a b)
  ·simp only[hd',hx'',hw',Qk,aW,Qa,iv,Kt,hx,jw];unfold eO;cases bd b' ⟨n,v⟩<;>cases kG p q v n<;>cases x v n n<;>simp
  ·simp only[hd',Ql]
 ·simp only[hd,Ql];obtain⟨g1,_,g3,_⟩:=gz hl.aO hlen b.Value;unfold ml;cases a
  ·rfl
  ·simp only[Qo,Ql,g1,Qa,WR hx,Qt]
theorem ZB(v:ByteArray)(low bH:Int):nB ax t l v low bH=some ((AI (aY l v) (x v) low bH).1,(AI (aY l v) (x v) low bH).2,()):=by
 obtain⟨h1,_,_,_⟩:=gz hl.aO hlen v;have hin:=z6 hl hlen v;unfold nB;simp only[al.eta,hL,h1,Qa,bQ];refine(ML hx (aY l v) v low bH (fun x hx=>by have:=hin x hx;omega) (aY l v).reverse (by simp)).trans ?_
 unfold AI;cases (aY l v).reverse.find? (fun n=>decide (bH<n)&&x v n n)<;>rfl
end
section
 include hy
theorem aaL(v:ByteArray):oC ax t l v=some (sS (aY l v) (y v)):=by
 obtain⟨h1,_,_,_⟩:=gz hl.aO hlen v
 have:=Su (p:=fun e=>lp S v e e) (q:=fun e=>y v e e) (d:=fun e=>iR (aY l v) e S v e) (f:=fun e=>cg (fun z=>y v z e) (aY l v).reverse e)
  (fun e=>hy v e e) (fun e=>Za hy (aY l v) e v e) (aY l v).reverse
 simp only[oC,al.eta,hL,h1,bQ,Qa,sS];exact this
end
end
 def zC(x:ByteArray->Int->Int->Bool)(p q:ae)(v:ByteArray)(s:ae)(n:Int):ae:=if bd s ⟨n,v⟩&& !kG p q v n&&x v n n then⟨n,v⟩else s
theorem PY{x:ByteArray->Int->Int->Bool}{p q:ae}(v:ByteArray):∀(b:List Int),(∀n∈b,1<=n)->∀s:Bool×ae,s.1= !aC s.2->
  (b.foldl (eO x p q v) s).2=b.foldl (zC x p q v) s.2/\(b.foldl (eO x p q v) s).1= !aC (b.foldl (eO x p q v) s).2
 |[],_,s,h=>⟨rfl,h⟩
 |n::b,hb,s,h=>by
  rw[QU,QU];have hn:=hb n (by simp)
  have h1:(eO x p q v s n).2=zC x p q v s.2 n:=by unfold eO zC;split<;>rfl
  have h2:(eO x p q v s n).1= !aC (eO x p q v s n).2:=by
   unfold eO;split
   ·have:decide (n=0)=false:=Qh (by omega)
    simp[aC,this]
   ·exact h
  rw[<-h1];exact PY v b (fun n hn=>hb n (by simp[hn])) _ h2
theorem PZ{x:ByteArray->Int->Int->Bool}{p q:ae}{l:List ai}(hl:oq l)(hlen:l.length<=1000):∀(vs:List ByteArray) (s:Bool×ae),s.1= !aC s.2->
  (vs.foldl (fun s v=>(aY l v).foldl (eO x p q v) s) s).2=vs.foldl (fun s v=>(aY l v).foldl (zC x p q v) s) s.2/\(vs.foldl (fun s v=>(aY l v).foldl (eO x p q v) s) s).1= !aC (vs.foldl (fun s v=>(aY l v).foldl (eO x p q v) s) s).2
 |[],s,h=>⟨rfl,h⟩
 |v::vs,s,h=>by
  rw[QU,QU];obtain⟨h1,h2⟩:=PY (x:=x) (p:=p) (q:=q) v (aY l v) (fun n hn=>(z6 hl hlen v n hn).1) s h
  rw[<-h1];exact PZ hl hlen vs _ h2
section
variable {ax : Int} {t : al} {l : List ai} (hl : oq l) (hlen : l.length <= 1000) {x y : ByteArray -> Int -> Int -> Bool} (hx : ∀ v lo hi, iC ax t l v lo hi = some (x v lo hi)) (hy : ∀ v lo hi, ka ax t l v lo hi = some (y v lo hi))
 include hl hlen
section
 include hx
theorem Wd(v:ByteArray)(lo hi:Int):qV ax t l v lo hi=some (cg (fun z=>x v z hi) (aY l v).reverse lo):=by
 obtain⟨_,_,h3,_⟩:=gz hl.aO hlen v;unfold qV;simp only[al.eta,uP hl.aO hlen,Qa,Fb _ (by omega:(aY l v).length<=1000000),aW]
 refine(uT (aY l v) (by omega) (fun lo i=>(lo,i,())) (fun lo z=>if lo<=z then .inl lo else if x v z hi then .inl z else .inr lo) (fun lo=>some lo) (fun i z a hi' hd hs=> ?_) (fun a hd=> ?_) (aY l v).length (QI _) lo).trans ?_
 ·simp only[hi',hd,hs,Qk,Qa,hx]
  by_cases h1:a<=z
  ·simp[h1]
  ·cases x v z hi<;>simp[h1]
 ·simp only[hd,Ql]
 ·rw[List.take_length];exact zD (fun z=>x v z hi) (fun lo=>lo) _ _
theorem Wj(v:ByteArray)(low bH:Int):lW ax t l v low bH=some ((AI (aY l v) (x v) low bH).1,(AI (aY l v) (x v) low bH).2,()):=by
 obtain⟨_,h2,h3,_⟩:=gz hl.aO hlen v;have hin:=z6 hl hlen v;unfold lW;simp only[al.eta,uP hl.aO hlen,Wd hl hlen hx,Qa,Fb _ (by omega:(aY l v).length<=1000000),aW]
 refine(uT (aY l v) (by omega) (fun(s:Int×Int) i=>(s.1,s.2,i,()))
  (fun s z=>if s.2<z then(if x v z z then .inr (cg (fun w=>x v w z) (aY l v).reverse (if s.2<cg (fun w=>x v w z) (aY l v).reverse z - 1\/cg (fun w=>x v w z) (aY l v).reverse z<s.1 then cg (fun w=>x v w z) (aY l v).reverse z else s.1),z,())else .inl s)
   else .inr (cg (fun w=>x v w s.2) (aY l v).reverse s.1,s.2,()))
  (fun s=>some (cg (fun w=>x v w s.2) (aY l v).reverse s.1,s.2,())) (fun i z s hi' hd hs=> ?_) (fun s hd=> ?_) (aY l v).length (QI _) (low,bH)).trans ?_
 ·have hz:z∈aY l v:=by rw[bB]at hi';exact List.mem_of_getElem? hi'
  have hb9:=CH (fun w=>x v w z) (aY l v).reverse z (fun w hw=>by have:=hin w (by simpa using hw);omega) (by have:=hin z hz;omega)
  simp only[hi',hd,hs,Qk,Qa,hx]
  by_cases h1:s.2<z
  ·simp only[h1,decide_true,Qk,Qt]
   cases hxz:x v z z with
   |false=>simp
   |true=>
    generalize cg (fun w=>x v w z) (aY l v).reverse z=bt at*
    have e3:de .i64 bt 1=bt - 1:=pV (by omega) (by omega)
    simp only[Qo,Ql,e3,Qt]
    by_cases h4:s.2<bt - 1
    ·simp[h4]
    ·by_cases h5:bt<s.1
     ·simp[h4,h5,dG]
     ·simp[h4,h5,dG]
  ·simp[h1]
 ·simp only[hd,Ql,Qa]
 ·rw[List.take_length]
  refine(L8 (low,bH) (fun z=>decide (bH<z)) (fun z=>x v z z) (fun z=>(cg (fun w=>x v w z) (aY l v).reverse (if bH<cg (fun w=>x v w z) (aY l v).reverse z - 1\/cg (fun w=>x v w z) (aY l v).reverse z<low then cg (fun w=>x v w z) (aY l v).reverse z else low),z,()))
   (cg (fun w=>x v w bH) (aY l v).reverse low,bH,()) _ _ (fun z=> ?_) rfl (fun a b h h'=> ?_) _ (List.pairwise_reverse.2 h2)).trans ?_
  ·by_cases h4:bH<z<;>simp[h4]
  ·simp only[Qi]at h' ⊢;omega
  ·unfold AI;cases (aY l v).reverse.find? (fun n=>decide (bH<n)&&x v n n)<;>rfl
 omit hl hlen hx in
theorem Sq(p q:ae)(n:Int)(v:ByteArray):qU p q n v=some (!kG p q v n):=by
  simp only[qU,xB,Qa,kG];cases dJ p ⟨n,v⟩<;>cases dJ q ⟨n,v⟩<;>rfl
theorem Yi(p q:ae):mS ax t l p q=some (ml x l p q (fE x l p q)):=by
 obtain⟨_,_,h3,_⟩:=mV hl.aO hlen;obtain⟨e1,e2⟩:=PZ (x:=x) (p:=p) (q:=q) hl hlen (eY l) (false,⟨0,eZ⟩) rfl;unfold mS;simp only[al.eta,Tn hl.aO hlen,Qa];refine(JW (eY l) (by omega) (fun s v=>(aY l v).foldl (zC x p q v) s) (fin:=fun s=>some (ml x l p q (!aC s,s))) (fun i v b hv hd hx' hw=> ?_) (fun b hd=> ?_) ⟨0,ByteArray.mk #[]⟩).trans ?_
 ·obtain⟨_,_,g3,_⟩:=gz hl.aO hlen v;simp only[hd,hx',hw,Qk,Qa,uP hl.aO hlen];refine(JW (aY l v) (by omega) (zC x p q v) (fin:=fun s=>some (Sum.inl (((i+1:Nat):Int),s,()))) (fun i' n b' hv' hd' hx'' hw'=> ?_) (fun b' hd'=> ?_) b)
  ·simp only[hd',hx'',hw',Qk,aW,Qa,iD,Sq,hx,jw];unfold zC;cases bd b' ⟨n,v⟩<;>cases kG p q v n<;>cases x v n n<;>simp
  ·simp only[hd',Ql]
 ·obtain⟨_,_,g3,_⟩:=gz hl.aO hlen b.Value;simp only[hd,Ql,dj,Qa];unfold ml
  cases aC b with
  |true=>rfl
  |false=>
   simp only[Qp,Qt,Ql,uP hl.aO hlen,Qa,aW,Fb _ (by omega:(aY l b.Value).length<=1000000)]
   refine congrArg (Option.map Sum.inr) ((uT (aY l b.Value) (by omega) (fun lo i=>(lo,i,())) (fun lo z=>if lo<=z then .inl lo else if !kG p q b.Value z&&x b.Value z b.aj then .inl z else .inr (b.Value,lo,b.aj,true,())) (fun lo=>some (b.Value,lo,b.aj,true,())) (fun i z a hi' hd hs=> ?_) (fun a hd=> ?_) (aY l b.Value).length (QI _) b.aj).trans ?_)
   ·simp only[hi',hd,hs,Qk,Qa,hx,Sq]
    by_cases h1:a<=z
    ·simp[h1]
    ·cases kG p q b.Value z<;>cases x b.Value z b.aj<;>simp[h1]
   ·simp only[hd,Ql]
   ·rw[List.take_length];exact zD (fun z=> !kG p q b.Value z&&x b.Value z b.aj) (fun lo=>(b.Value,lo,b.aj,true,())) _ _
 ·unfold fE;rw[show(eY l).foldl (fun s v=>(aY l v).foldl (zC x p q v) s) ⟨0,ByteArray.mk #[]⟩=((eY l).foldl (fun s v=>(aY l v).foldl (eO x p q v) s) (false,⟨0,eZ⟩)).2 from e1.symm,<-e2]
end
section
 include hy
theorem Yk(v:ByteArray):mT ax t l v=some (sS (aY l v) (y v)):=by
 obtain⟨_,h2,h3,_⟩:=gz hl.aO hlen v;unfold mT;simp only[al.eta,uP hl.aO hlen,Qa,Fb _ (by omega:(aY l v).length<=1000000),aW]
 unfold sS;generalize aY l v=b at*
 suffices key:∀n:Nat,n<=b.length->aE _ (((n:Nat):Int) - 1,())=some (match(b.take n).reverse.find? (fun e=>y v e e)with|some e=>(cg (fun z=>y v z e) b.reverse e,e,true,())|none=>(0,0,false,()))by
  have:=key b.length (QI _);rw[List.take_length]at this;exact this
 intro n
 induction n with
 |zero=>
  intro _;rw[show((0:Nat):Int) - 1= -1 by omega]
  have hd:decide ((0:Int)<= -1)=false:=rfl;exact bS (by simp only[hd,Ql,Qe,List.take_zero,List.reverse_nil,List.find?_nil])
 |succ n ih=>
  intro hn;have hlt:n<b.length:=by omega
  have hxn:idx b (n:Int)=some b[n]:=by rw[bB];exact Qv hlt
  have hd:decide ((0:Int)<=(n:Int))=true:=Qg (by omega)
  have hs:de .i64 (n:Int) 1=(n:Int) - 1:=pV (by omega) (by omega)
  rw[show((n+1:Nat):Int) - 1=(n:Int)by omega,List.take_succ_eq_append_getElem hlt,List.reverse_append,List.reverse_singleton,List.singleton_append,List.find?_cons]
  cases hyn:y v b[n] b[n]with
  |false=>
   rw[bl (s':=((n:Int) - 1,())) (by simp only[hd,hxn,hs,hy,hyn,Qk,Qa,Qp])]
   exact ih (by omega)
  |true=>
   have hb:b=b.take n++b[n]::b.drop (n+1):=by rw[<-QM hlt,List.take_append_drop]
   have hp:(b.take n++b[n]::b.drop (n+1)).Pairwise (·<·):=hb▸h2;rw[List.pairwise_append,Q4]at hp;obtain⟨p1,⟨p2,p3⟩,p4⟩:=hp;refine bS ?_;simp only[hd,hxn,hs,hy,hyn,Qk,Ql,Qa,Qo];refine(uT b (by omega) (fun lo i=>(lo,i,())) (fun lo z=>if y v z b[n]then .inl z else .inr (.inr (lo,b[n],true,()))) (fun lo=>some (.inr (lo,b[n],true,()))) (fun i z a hi' hd' hs'=> ?_) (fun a hd'=> ?_) n (by omega) b[n]).trans ?_
   ·simp only[hi',hd',hs',Qk,Qa];cases y v z b[n]<;>simp
   ·simp only[hd',Ql,Qe]
   ·rw[IU (fun z=>y v z b[n]) (fun lo=>Sum.inr (lo,b[n],true,())) _ _ (fun z hz=>p4 z (List.mem_reverse.1 hz) _ (Qx ..)) (List.pairwise_reverse.2 p1)]
    have:cg (fun z=>y v z b[n]) b.reverse b[n]=cg (fun z=>y v z b[n]) (b.take n).reverse b[n]:=by
     have hr:b.reverse=((b.drop (n+1)).reverse++[b[n]])++(b.take n).reverse:=by
      rw[<-List.reverse_cons,<-List.reverse_append,<-hb]
     rw[hr];refine GL _ _ _ _ fun z hz=> ?_
     rw[Qz,List.mem_reverse,List.mem_singleton]at hz;rcases hz with hz|rfl
     ·exact Int.le_of_lt (p2 z hz)
     ·exact Int.le_refl _
    rw[this]
end
end
end Go.Proofs.YtkgenianmdfmdaaGreat
namespace Go.Proofs.YtkgenianmdfmdaaGreat
open Go.TQ
section
variable {ax : Nat} (hn : ax < 10) {t : al} (ht : dK t) {l : List ai} (hl : oq l) (hlen : l.length <= 1000)
 include hn ht hl hlen
theorem ZV(b:ae):nq ax t l b=some (jo ax t l b):=by
 have hin:=ky l;have hsm:=k9 (ax:=ax) ht hl;simp only[nq,al.eta,LW hl.aO hlen,yC hn hl,Qa,Bb hsm hn (kM hin) (kM hin)];rfl
theorem Yl(b:ae):mr ax t l b=some (iL ax t l b):=by
 have hin:=ky l;have hsm:=k9 (ax:=ax) ht hl;simp only[mr,al.eta,LW hl.aO hlen,yC hn hl,Qa,zH hsm hn (kM hin)];rfl
theorem Z1(b:ae):fS ⟨ax,⟨fh ax t l⟩,(bJ l).map bs.mk⟩ b=some (jo ax t l b):=by
 have hin:=ky l;have hsm:=k9 (ax:=ax) ht hl;rw[Iq hl.len,C6 hsm hn (kM hin) (kM hin)];rfl
theorem Yx(b:ae):eo ⟨ax,⟨fh ax t l⟩,(bJ l).map bs.mk⟩ b=some (iL ax t l b):=by
 have hin:=ky l;have hsm:=k9 (ax:=ax) ht hl;rw[G2 hl.len,Bv hsm hn (kM hin)];rfl
 def gQ(ax:Nat)(t:al)(l:List ai)(p q:ae)(v:ByteArray):ae:=((dQ l).find? (tb (jo ax t l) p q v)).getD vA
 def te(ax:Nat)(t:al)(l:List ai)(a:ae):ae:=((dQ l).find? (td (iL ax t l) a)).getD vA
theorem Yg(p q:ae)(v:ByteArray):ou ax t l p q v=some (gQ ax t l p q v):=V7 hl hlen (ZV hn ht hl hlen) p q v
theorem Yh(a:ae):kV ax t l a=some (te ax t l a):=V8 hl hlen (Yl hn ht hl hlen) a
theorem Yu(p q:ae)(v:ByteArray):lZ ax t l p q v=some (gQ ax t l p q v):=YE hl hlen (LH hn ht hl) (Z1 hn ht hl hlen) p q v
theorem Yv(a:ae):jG ax t l a=some (te ax t l a):=YQ hl hlen (LH hn ht hl) (Yx hn ht hl hlen) a
end
end Go.Proofs.YtkgenianmdfmdaaGreat
namespace Go.Proofs.YtkgenianmdfmdaaGreat
open Go.TQ
theorem Si{bytes n:Nat}(h:bytes<=200)(hn:n<=1000000):bx bytes n=true:=
 bZ ⟨QK (Nat.mul_le_mul hn h) (by decide),hn⟩
theorem xM{α ρ:Type}(l:List α)(hl:l.length<=1000000)(p:α->Bool){step:Int×Unit->Option ((Int×Unit)⊕ρ)}{fin:Option ρ}{f:Nat->α->Option ρ}
  (h1:∀(i:Nat) (x:α),i<l.length->l[i]?=some x->decide ((i:Int)<((l.length:Nat):Int))=true->idx l (i:Int)=some x->aA .i64 (i:Int) 1=((i+1:Nat):Int)->step ((i:Int),())=bif p x then Option.map Sum.inr (f i x)else some (.inl (((i+1:Nat):Int),())))
  (h2:(∀x∈l,p x=false)->decide (((l.length:Nat):Int)<((l.length:Nat):Int))=false->step (((l.length:Nat):Int),())=Option.map Sum.inr fin):
  aE step ((0:Int),())=match l.findIdx? p with|some i=>(l[i]?).bind (f i)|none=>fin:=by
 suffices key:∀(k i:Nat),i+k=l.length->(∀x∈l.take i,p x=false)->aE step ((i:Int),())=match(l.drop i).findIdx? p with|some j=>(l[i+j]?).bind (f (i+j))|none=>fin by
  have:=key l.length 0 (by omega) (by simp)
  rw[List.drop_zero]at this;simp only[Nat.zero_add]at this;exact this
 intro k
 induction k with
 |zero=>
  intro i hi hpre;obtain rfl:i=l.length:=by omega
  rw[List.take_length]at hpre;rw[ic,h2 hpre (Qh (Int.lt_irrefl _)),List.drop_length];cases fin<;>rfl
 |succ k ih=>
  intro i hi hpre;have hlt:i<l.length:=by omega
  have hx:l[i]?=some l[i]:=Qv hlt;have hs:=h1 i l[i] hlt hx (Qg (by omega)) (by rw[bB];exact hx) (bM (by omega) (by omega))
  rw[QM hlt,List.findIdx?_cons]
  cases hp:p l[i]with
  |true=>
   rw[hp]at hs;rw[ic,hs];simp only[Qk,Qt,Nat.add_zero,hx,Qa];cases f i l[i]<;>rfl
  |false=>
   rw[hp]at hs
   rw[bl hs,ih (i+1) (by omega) (fun x hx=>by
    rw[List.take_succ_eq_append_getElem hlt,Qz,List.mem_singleton]at hx;rcases hx with hx|rfl
    ·exact hpre x hx
    ·exact hp)]
   simp only[Qq,Qu]
   cases (l.drop (i+1)).findIdx? p with
   |none=>rfl
   |some j=>
    simp only[Qe];rw[show i+1+j=i+(j+1)by omega]
def z7(l:List ai)(e:ai):Nat:=(l.findIdx? fun x=>decide (e.ar<x.ar)).getD l.length
 def jW(l:List ai)(e:ai):List ai×Bool×Unit:=
 if aJ e then
  match l.findIdx? fun x=>decide (x.ar=e.ar)with
  |some i=>if e.aG<=((l[i]?).getD e).aG then(l,false,())else(l.set i e,true,())
  |none=>(l.take (z7 l e)++[e]++l.drop (z7 l e),true,())
 else(l,false,())
theorem abD(l:List ai)(e:ai):z7 l e<=l.length:=by
 unfold z7
 cases h:l.findIdx? fun x=>decide (e.ar<x.ar)with
 |none=>exact QI _
 |some i=>exact Nat.le_of_lt ((List.findIdx?_eq_some_iff_getElem.1 h).1)
section
variable {l : List ai} (hl : ∀ x ∈ l, dK x.aa) (hlen : l.length <= 1000)
 include hlen
theorem VV(e:ai):di l e=some (match l.findIdx? fun x=>decide (x.ar=e.ar)with|some i=>(i:Int)|none=> -1):=by
 unfold di;refine(xM l (by omega) (fun x=>decide (x.ar=e.ar)) (f:=fun i _=>some (i:Int)) (fin:=some (-1)) (fun i x hi hx0 hd hx hw=> ?_) (fun hall hd=> ?_)).trans ?_
 ·simp only[hd,hx,hw,Qk,Qa,sy]
 ·simp only[hd,Ql]
 ·cases h:l.findIdx? fun x=>decide (x.ar=e.ar)with
  |none=>rfl
  |some i=>have:=(List.findIdx?_eq_some_iff_getElem.1 h).1;simp[Qv this]
theorem Xl(e:ai):dh l e=some (match l.findIdx? fun x=>decide (e.ar<x.ar)with|some i=>(i:Int)|none=> -1):=by
 unfold dh;refine(xM l (by omega) (fun x=>decide (e.ar<x.ar)) (f:=fun i _=>some (i:Int)) (fin:=some (-1)) (fun i x hi hx0 hd hx hw=> ?_) (fun hall hd=> ?_)).trans ?_
 ·simp only[hd,hx,hw,Qk,Qa,sx]
 ·simp only[hd,Ql]
 ·cases h:l.findIdx? fun x=>decide (e.ar<x.ar)with
  |none=>rfl
  |some i=>have:=(List.findIdx?_eq_some_iff_getElem.1 h).1;simp[Qv this]
 include hl
theorem VR:ff l=some l:=by
 unfold ff
 suffices key:∀(k i:Nat),i+k=l.length->aE _ ((i:Int),l.take i,())=some l from key l.length 0 (by omega)
 intro k
 induction k with
 |zero=>
  intro i hi;obtain rfl:i=l.length:=by omega
  have hd:decide (((l.length:Nat):Int)<((l.length:Nat):Int))=false:=Qh (Int.lt_irrefl _);exact bS (by simp only[hd,Ql,Qe,List.take_length])
 |succ k ih=>
  intro i hi;have hlt:i<l.length:=by omega
  have hd:decide ((i:Int)<((l.length:Nat):Int))=true:=Qg (by omega)
  have hw:aA .i64 (i:Int) 1=((i+1:Nat):Int):=bM (by omega) (by omega)
  have hx:idx l (i:Int)=some l[i]:=by rw[bB];exact Qv hlt
  have hc:ir l[i]=some l[i]:=by simp only[ir,al.eta,ux (hl _ (Q0 hlt)),Qa]
  refine(bl ?_).trans (ih (i+1) (by omega))
  simp only[hd,hx,hw,Qk,Qa,al.eta,ai.eta,hc];rw[Si (by omega) (by simp;omega),List.take_succ_eq_append_getElem hlt]
  rfl
theorem aaG{e:ai}(he:dK e.aa):qj l e=some (jW l e):=by
 have hc:ir e=some e:=by simp only[ir,al.eta,ux he,Qa]
 have hat:=abD l e;unfold qj;simp only[VR hl hlen,al.eta,ai.eta,nJ he,hc,VV hlen,Xl hlen,Qa,aW];unfold jW
 cases aJ e with
 |false=>rfl
 |true=>
  simp only[Qo,Ql,Qt]
  cases h:l.findIdx? fun x=>decide (x.ar=e.ar)with
  |some i=>
   have hi:=(List.findIdx?_eq_some_iff_getElem.1 h).1;have hd:decide ((0:Int)<=(i:Int))=true:=Qg (by omega)
   have hx:idx l (i:Int)=some l[i]:=by rw[bB];exact Qv hi
   simp only[hd,hx,Qk,Qa,QV,Qv hi,Q3]
   by_cases hs:e.aG<=l[i].aG<;>simp[hs]
  |none=>
   have hd:decide ((0:Int)<= -1)=false:=rfl;simp only[hd,Ql]
   have hins:∀a:Nat,a<=l.length->dU l (a:Int) [e]=some (l.take a++[e]++l.drop a):=fun a ha=>by
    unfold dU Pf;have h1:decide ((0:Int)<=(a:Int))=true:=Qg (by omega)
    have h2:decide ((a:Int)<=((l.length:Nat):Int))=true:=Qg (by omega)
    rw[h1,h2,Si (by omega) (by simp;omega)]
    rfl
   unfold z7 at hat ⊢
   cases h':l.findIdx? fun x=>decide (e.ar<x.ar)with
   |none=>
    have hd2:decide ((-1:Int)<0)=true:=rfl;simp only[hd2,Qk,hins _ (QI _),Qa,Option.getD_none]
   |some j=>
    have hj:=(List.findIdx?_eq_some_iff_getElem.1 h').1;have hd2:decide ((j:Int)<0)=false:=Qh (by omega)
    simp only[hd2,Ql,hins _ (Nat.le_of_lt hj),Qa,Q3]
end
end Go.Proofs.YtkgenianmdfmdaaGreat
namespace Go.Proofs.YtkgenianmdfmdaaGreat
open Go.TQ
section
variable {l : List ai} (hlen : l.length <= 1000)
 include hlen
theorem Ec(e:ai){a b:Nat}(ha:a<=b)(hb:b<=l.length):cm (0:Int) (a:Int) l.length=true/\bx 176 (List.length ((l.take (Int.toNat (a:Int))).drop (Int.toNat (0:Int))))=true/\
  bx 176 (List.length ((l.take (Int.toNat (a:Int))).drop (Int.toNat (0:Int)))+List.length [e])=true/\cm (b:Int) (l.length:Int) l.length=true/\
  bx 176 (List.length (((l.take (Int.toNat (a:Int))).drop (Int.toNat (0:Int)))++[e])+List.length ((l.take (Int.toNat (l.length:Int))).drop (Int.toNat (b:Int))))=true/\
  (((l.take (Int.toNat (a:Int))).drop (Int.toNat (0:Int)))++[e])++((l.take (Int.toNat (l.length:Int))).drop (Int.toNat (b:Int)))=l.take a++[e]++l.drop b:=by
 refine⟨by simp[cm];omega,gJ (by omega) (by simp;omega),gJ (by omega) (by simp;omega),by simp[cm];omega,gJ (by omega) (by simp;omega),?_⟩
 simp only[QV,Int.toNat_zero,List.drop_zero,List.take_length]
end
theorem C5{α:Type}{p q:α->Bool}:∀{l:List α},(∀x∈l,p x=q x)->l.findIdx? p=l.findIdx? q
 |[],_=>rfl
 |x::l,h=>by rw[List.findIdx?_cons,List.findIdx?_cons,h x (by simp),C5 fun y hy=>h y (by simp[hy])]
theorem Yf{l:List ai}(hl:∀x∈l,dK x.aa)(hlen:l.length<=1000){e:ai}(he:dK e.aa):wK l e=some (jW l e):=by
 unfold wK;simp only[al.eta,ai.eta,iy he,Qa,aW];unfold jW
 cases aJ e with
 |false=>rfl
 |true=>
  simp only[Qo,Ql,Qt];refine(xM l (by omega) (fun x=>decide (x.ar=e.ar)) (f:=fun i x=>if e.aG<=x.aG then some (l,false,())else some (l.take i++[e]++l.drop (i+1),true,())) (fin:=some (l.take (z7 l e)++[e]++l.drop (z7 l e),true,())) (fun i x hi hx0 hd hx hw=> ?_) (fun hall hd=> ?_)).trans ?_
  ·simp only[hd,hx,hw,Qk,Qa]
   cases decide (x.ar=e.ar)with
   |false=>rfl
   |true=>
    simp only[Qk];obtain⟨f1,f2,f3,f4,f5,f6⟩:=Ec hlen e (show i<=i+1 by omega) (show i+1<=l.length by omega)
    simp only[f1,f2,f3,f4,f5,f6,Qk]
    by_cases hs:e.aG<=x.aG<;>simp[hs]
  ·simp only[hd,Ql];refine congrArg (Option.map Sum.inr) ?_
   have hcg:(l.findIdx? fun x=> !decide (x.ar<e.ar))=l.findIdx? fun x=>decide (e.ar<x.ar):=C5 fun x hx=>by
    have:=hall x hx;have hne:x.ar≠e.ar:=of_decide_eq_false this
    by_cases h:x.ar<e.ar
    ·have h':¬e.ar<x.ar:=by omega
     simp[h,h']
    ·have h':e.ar<x.ar:=by omega
     simp[h,h']
   refine(xM l (by omega) (fun x=> !decide (x.ar<e.ar)) (f:=fun i x=>some (l.take i++[e]++l.drop i,true,())) (fin:=some (l.take l.length++[e]++l.drop l.length,true,())) (fun i x hi hx0 hd hx hw=> ?_) (fun _ hd=> ?_)).trans ?_
   ·simp only[hd,hx,hw,Qk,Qa]
    cases decide (x.ar<e.ar)with
    |true=>rfl
    |false=>
     simp only[Ql,Qp,Qk];obtain⟨f1,f2,f3,f4,f5,f6⟩:=Ec hlen e (QI i) (show i<=l.length by omega)
     simp only[f1,f2,f3,f4,f5,f6,Qk]
   ·simp only[hd,Ql];obtain⟨f1,f2,f3,f4,f5,f6⟩:=Ec hlen e (QI l.length) (QI _);simp only[f1,f2,f3,f4,f5,f6,Qk]
   ·rw[hcg];unfold z7
    cases h:l.findIdx? fun x=>decide (e.ar<x.ar)with
    |none=>rfl
    |some i=>
     have hi:=(List.findIdx?_eq_some_iff_getElem.1 h).1;simp only[Qv hi,Qa,Q3]
  ·cases h:l.findIdx? fun x=>decide (x.ar=e.ar)with
   |none=>rfl
   |some i=>
    have hi:=(List.findIdx?_eq_some_iff_getElem.1 h).1;simp only[Qv hi,Qa,Q3]
    by_cases hs:e.aG<=l[i].aG
    ·simp[hs]
    ·simp only[hs,Qu];rw[List.set_eq_take_append_cons_drop,Qr hi];simp
end Go.Proofs.YtkgenianmdfmdaaGreat
namespace Go.Proofs.YtkgenianmdfmdaaGreat
open Go.TQ
structure q8 (m:af):Prop where
 n0:0<=m.ar
 n1:m.ar<10
 aO:dK m.aa
 len:m.az.length<=100
 sm:∀e∈m.az,dK e.aa
 valid:∀e∈m.az,aJ e=true
theorem wo{m:af}{e:ai}(h:e∈aR m):e∈m.az\/(aC m.ab=false/\e=gH m):=by
 unfold aR at h;split at h
 ·exact .inl h
 ·rename_i hz;rw[(zT _ _).mem_iff,Qz,List.mem_singleton]at h;rcases h with h|h
  ·exact .inl h
  ·exact .inr ⟨by simpa using hz,h⟩
theorem Xj(m:af):(aR m).length<=m.az.length+1:=by
 unfold aR;split
 ·omega
 ·rw[(zT _ _).length_eq,QB,List.length_singleton];omega
theorem Ce(m:af):(gH m).aa=m.aa:=oR m
theorem q8.jR{m:af}(h:q8 m):oq (aR m)/\(aR m).length<=1000:=by
 have h1:=Xj m;have h2:=h.len;refine⟨⟨by omega,fun e he=> ?_⟩,by omega⟩
 rcases wo he with he|⟨_,rfl⟩
 ·exact h.sm e he
 ·rw[Ce];exact h.aO
theorem q8.ax{m:af}(h:q8 m):((m.ar.toNat:Nat):Int)=m.ar/\m.ar.toNat<10:=by
 have:=h.n0;have:=h.n1;omega
def da(b:ae):ae:=if 1000<b.aj then⟨1000,b.Value⟩else b
theorem abC(b:ae):ot b=some (da b):=WK b
def ct(p q b:ae):ae×ae:=
 if aC b=true then(p,q)else if aC p=true then(b,q)else if bd p b=true then(if bC p b=true then(b,if bC q b=true then bL else q)else(b,p))
 else if(bd b p&& !bC b p&&(aC q||bd q b))=true then(p,b)else(p,q)
theorem GN(a b:ae):bC a b=bC b a:=decide_eq_decide.2 ⟨Eq.symm,Eq.symm⟩
theorem aaa(p q b:ae):vj p q b=some ((ct p q b).1,(ct p q b).2,()):=by
 unfold vj ct;simp only[dj,iD,fu,Qa,aW];cases aC b<;>cases aC p<;>cases bd p b<;>cases bC p b<;>cases bC q b<;>cases bd b p<;>cases bC b p<;>cases aC q<;>cases bd q b<;>rfl
theorem Yp(p q b:ae):rS p q b=some ((ct p q b).1,(ct p q b).2,()):=by
 unfold rS ct;simp only[cy,iv,eJ,Qa,aW,GN b p,GN b q];cases aC b<;>cases aC p<;>cases bd p b<;>cases bC p b<;>cases bC q b<;>cases bd b p<;>cases aC q<;>cases bd q b<;>rfl
def zB(m:af):ByteArray:=if m.aH=2 then m.ab.Value else eZ
 def dI(m:af):ae:=gQ m.ar.toNat m.aa (aR m) m.ao m.aw (zB m)
def n9(m:af)(p q:ae):Int:=
 if m.aH=1/\m.aI≠0 then(if ep m<jm m.ab.Value m.aI p q then 0 else jm m.ab.Value m.aI p q)else m.aI
 def cz(m:af):af:=
 if m.aH=3\/aC m.ab=true then m else
  {m with ao:=(ct m.ao m.aw (da (dI m))).1,aw:=(ct m.ao m.aw (da (dI m))).2,aI:=n9 m (ct m.ao m.aw (da (dI m))).1 (ct m.ao m.aw (da (dI m))).2}
theorem ZR{m:af}(h:q8 m)(p q:ae)(v:ByteArray):ou m.ar m.aa (aR m) p q v=some (gQ m.ar.toNat m.aa (aR m) p q v):=by
 have:=Yg h.ax.2 h.aO h.jR.1 h.jR.2 p q v
 rwa [h.ax.1]at this
theorem ZS{m:af}(h:q8 m)(a:ae):kV m.ar m.aa (aR m) a=some (te m.ar.toNat m.aa (aR m) a):=by
 have:=Yh h.ax.2 h.aO h.jR.1 h.jR.2 a
 rwa [h.ax.1]at this
theorem Tx{m:af}(h:q8 m):oZ m=some (cz m):=by
 have hl:m.az.length<=1000:=by have:=h.len;omega
 unfold oZ cz;simp only[af.eta,al.eta,dj,Kk hl,ZR h,abC,aaa,xW,OV,Qa,aW]
 by_cases h3:m.aH=3
 ·rw[Qg h3,Qr (.inl h3)];rfl
 ·rw[Qh h3]
  cases hz:aC m.ab with
  |true=>rw[Qr (.inr rfl)];rfl
  |false=>
   rw[Qs (by simp[h3])]
   simp only[Ql,Qa]
   by_cases h2:m.aH=2
   ·have h1:¬m.aH=1:=by omega
    simp only[Qg h2,Qh h1,Qk,Ql,Qa,n9,zB,dI,Qr h2,h1,false_and,Qu];rfl
   ·simp only[Qh h2,Ql];have hv:ByteArray.mk #[]=zB m:=by simp only[zB,Qs h2];rfl
    rw[hv];have hn:gQ m.ar.toNat m.aa (aR m) m.ao m.aw (zB m)=dI m:=rfl;simp only[hn]
    by_cases h1:m.aH=1
    ·have hh:∀p q:ae,(bU {m with ao:=p,aw:=q}).aQ=ep m:=fun p q=>by unfold bU;rw[Qr (show({m with ao:=p,aw:=q}:af).aH=1 from h1)];rfl
     simp only[Qg h1,Qk,Qa]
     by_cases hL:m.aI=0
     ·rw[Qg hL];unfold n9;rw[Qs (fun h=>h.2 hL)]
      rfl
     ·rw[Qh hL];unfold n9;rw[Qr ⟨h1,hL⟩];simp only[Qp,Qk];rw[show(bU (af.mk m.ar m.bm m.aG m.aa m.aH m.ab (ct m.ao m.aw (da (dI m))).1 (ct m.ao m.aw (da (dI m))).2 m.au m.aI m.aQ m.bb m.az)).aQ=ep m from hh _ _]
      by_cases hlt:ep m<jm m.ab.Value m.aI (ct m.ao m.aw (da (dI m))).1 (ct m.ao m.aw (da (dI m))).2
      ·rw[Qg hlt,Qr hlt];rfl
      ·rw[Qh hlt,Qs hlt];rfl
    ·rw[Qh h1];unfold n9;rw[Qs (fun h=>h1 h.1)]
     rfl
 def fg(m:af):ae:=te m.ar.toNat m.aa (aR m) m.au
def wW(m:af)(b:ae):af:=
 if bd m.ab b=true then{m with au:=b,ab:=b,aI:=if bC m.ab b=true then m.aI else 0}else{m with au:=b}
def mC(m:af)(b:ae):af:=
 if m.aI=0/\bC m.ab b=true/\jm b.Value m.ab.aj m.ao m.aw<=b.aj then{m with aI:=jm b.Value m.ab.aj m.ao m.aw}else m
 def fX(m:af):af:=
 if m.aH≠1\/aC m.ab=true\/aC (fg m)=true then m else mC (wW m (fg m)) (fg m)
theorem Ky(m:af)(b:ae){α:Type}(j:af->Option α):
  ((bif decide (m.aI=(0:Int))then some (bC m.ab b)else some false).bind fun x=>bif x then(bif decide (jm b.Value m.ab.aj m.ao m.aw<=b.aj)then j {m with aI:=jm b.Value m.ab.aj m.ao m.aw}else j m)else j m)=j (mC m b):=by
 unfold mC
 by_cases hL:m.aI=0
 ·rw[Qg hL]
  cases hc:bC m.ab b with
  |true=>
   by_cases hle:jm b.Value m.ab.aj m.ao m.aw<=b.aj
   ·rw[Qr ⟨hL,rfl,hle⟩,Qg hle];rfl
   ·rw[Qs (fun h=>hle h.2.2),Qh hle];rfl
  |false=>
   rw[Qs (fun h=>by cases h.2.1)];rfl
 ·rw[Qh hL,Qs (fun h=>hL h.1)];rfl
theorem RO{m:af}(h:q8 m):nU m=some (fX m):=by
 have hl:m.az.length<=1000:=by have:=h.len;omega
 unfold nU fX;simp only[af.eta,al.eta,dj,Kk hl,ZS h,OV,Qa,aW,fu,iD];have hb:te m.ar.toNat m.aa (aR m) m.au=fg m:=rfl;simp only[hb]
 by_cases h1:m.aH=1
 ·rw[Qg h1]
  cases hz:aC m.ab with
  |true=>rw[Qr (.inr (.inl rfl))];rfl
  |false=>
   cases hzb:aC (fg m)with
   |true=>rw[Qr (.inr (.inr rfl))];rfl
   |false=>
    rw[Qs (by simp[h1])]
    simp only[Qo,Ql,Qa];unfold wW
    cases hlt:bd m.ab (fg m)with
    |true=>
     cases hcp:bC m.ab (fg m)with
     |true=>simp only[Qk,Qo,Ql,Qt];exact Ky {m with au:=fg m,ab:=fg m} (fg m) some
     |false=>simp only[Qk,Qp,Qt,Qq,Qu];exact Ky {m with au:=fg m,ab:=fg m,aI:=0} (fg m) some
    |false=>simp only[Ql,Qq,Qu];exact Ky {m with au:=fg m} (fg m) some
 ·rw[Qh h1,Qr (.inl h1)];rfl
section
variable {ax : Nat} (hn : ax < 10) {t : al} (ht : dK t) {l : List ai} (hl : oq l) (hlen : l.length <= 1000)
 include hn ht hl hlen
theorem R4(v:ByteArray)(lo hi:Int):iC ax t l v lo hi=some (jI ax t l v lo hi):=by
 have hin:=ky l;have hsm:=k9 (ax:=ax) ht hl;simp only[iC,al.eta,LV hl.aO hlen,yC hn hl,Qa,Bb hsm hn (kM hin) (kM hin)];rfl
theorem Wl(v:ByteArray)(lo hi:Int):ka ax t l v lo hi=some (oV ax t l v lo hi):=by
 have hin:=ky l;have hsm:=k9 (ax:=ax) ht hl;simp only[ka,al.eta,LV hl.aO hlen,yC hn hl,Qa,zH hsm hn (kM hin)];rfl
theorem Wi(p q:ae):mS ax t l p q=some (ml (jI ax t l) l p q (fE (jI ax t l) l p q)):=Yi hl hlen (R4 hn ht hl hlen) p q
theorem ZU(v:ByteArray)(low bH:Int):lW ax t l v low bH=some ((AI (aY l v) (jI ax t l v) low bH).1,(AI (aY l v) (jI ax t l v) low bH).2,()):=Wj hl hlen (R4 hn ht hl hlen) v low bH
theorem ZT(v:ByteArray):mT ax t l v=some (sS (aY l v) (oV ax t l v)):=Yk hl hlen (Wl hn ht hl hlen) v
end
 def fq(m:af):ByteArray->Int->Int->Bool:=jI m.ar.toNat m.aa (aR m)
 def BS(m:af):ByteArray->Int->Int->Bool:=oV m.ar.toNat m.aa (aR m)
 def ew(m:af):ByteArray×Int×Int×Bool×Unit:=ml (fq m) (aR m) m.ao m.aw (fE (fq m) (aR m) m.ao m.aw)
 def dH(m:af):Int×Int:=AI (aY (aR m) m.ab.Value) (fq m m.ab.Value) m.aI m.aQ
 def kD(m:af):Int×Int×Bool×Unit:=sS (aY (aR m) m.ab.Value) (BS m m.ab.Value)
theorem Yj{m:af}(h:q8 m):mS m.ar m.aa (aR m) m.ao m.aw=some (ew m):=by
 have:=Wi h.ax.2 h.aO h.jR.1 h.jR.2 m.ao m.aw
 rwa [h.ax.1]at this
theorem aa4{m:af}(h:q8 m):lW m.ar m.aa (aR m) m.ab.Value m.aI m.aQ=some ((dH m).1,(dH m).2,()):=by
 have:=ZU h.ax.2 h.aO h.jR.1 h.jR.2 m.ab.Value m.aI m.aQ
 rwa [h.ax.1]at this
theorem aa3{m:af}(h:q8 m):mT m.ar m.aa (aR m) m.ab.Value=some (kD m):=by
 have:=ZT h.ax.2 h.aO h.jR.1 h.jR.2 m.ab.Value
 rwa [h.ax.1]at this
def EO(m:af)(v:ByteArray)(lo hi:Int):af:=
 {m with ab:=if(!bC m.ab ⟨hi,v⟩||bd m.ab ⟨hi,v⟩)=true then⟨bq m.ab.aj hi,v⟩else m.ab,ao:=if gY m.ao ⟨hi,v⟩=true then m.ao else⟨hi,v⟩,aH:=2,aI:=lo,aQ:=hi,au:=⟨hi,v⟩,aw:=bL}
def vH(m:af)(lo hi:Int):af:=
 {m with ab:=⟨bq m.ab.aj hi,m.ab.Value⟩,ao:=⟨bq m.ao.aj hi,m.ao.Value⟩,au:=⟨bq m.au.aj hi,m.ab.Value⟩,aI:=lo,aQ:=hi}
 def fj(m:af):af:=
 if m.aH=1 then(if(ew m).2.2.2.1=true then EO m (ew m).1 (ew m).2.1 (ew m).2.2.1 else m)
 else if m.aH=2 then vH m (dH m).1 (dH m).2 else m
theorem RP{m:af}(h:q8 m):nV m=some (fj m):=by
 have hl:m.az.length<=1000:=by have:=h.len;omega
 unfold nV fj;simp only[af.eta,al.eta,dj,Kk hl,Yj h,aa4 h,Qa,aW,fu,iD,xA]
 by_cases h1:m.aH=1
 ·rw[Qg h1,Qr h1]
  cases hk:(ew m).2.2.2.1 with
  |false=>simp only[Qk,Qp,Qq,Qu]
  |true=>
   simp only[Qk,Qo,Ql,Qt];unfold EO;cases bC m.ab ⟨(ew m).2.2.1,(ew m).1⟩<;>cases bd m.ab ⟨(ew m).2.2.1,(ew m).1⟩<;>cases gY m.ao ⟨(ew m).2.2.1,(ew m).1⟩<;>rfl
 ·rw[Qh h1,Qs h1]
  by_cases h2:m.aH=2
  ·rw[Qg h2,Qr h2];rfl
  ·rw[Qh h2,Qs h2];rfl
def Fx(m:af)(lo hi:Int):af:={m with aH:=3,aI:=lo,aQ:=hi,ab:=⟨hi,m.ab.Value⟩,ao:=bL,aw:=bL,au:=bL}
 def iT(m:af):af:=if m.aH=2/\(kD m).2.2.1=true then Fx m (kD m).1 (kD m).2.1 else m
theorem Y6{m:af}(h:q8 m):tn m=some (iT m):=by
 have hl:m.az.length<=1000:=by have:=h.len;omega
 unfold tn iT;simp only[af.eta,al.eta,Kk hl,aa3 h,Qa]
 by_cases h2:m.aH=2
 ·rw[Qg h2]
  cases hk:(kD m).2.2.1 with
  |false=>rw[Qs (fun h=>by cases h.2)];rfl
  |true=>rw[Qr ⟨h2,rfl⟩];rfl
 ·rw[Qh h2,Qs (fun h=>h2 h.1)];rfl
end Go.Proofs.YtkgenianmdfmdaaGreat
namespace Go.Proofs.YtkgenianmdfmdaaGreat
open Go.TQ
theorem zZ{α β ρ:Type}(l:List α)(hl:l.length<=1000)(f:α->β){step:Int×List β×Unit->Option ((Int×List β×Unit)⊕ρ)}{fin:List β->Option ρ}
  (h1:∀(i:Nat) (e:α) (s:List β),s.length<=1000->e∈l->decide ((i:Int)<((l.length:Nat):Int))=true->idx l (i:Int)=some e->aA .i64 (i:Int) 1=((i+1:Nat):Int)->step ((i:Int),s,())=some (.inl (((i+1:Nat):Int),s++[f e],())))
  (h2:∀s,decide (((l.length:Nat):Int)<((l.length:Nat):Int))=false->step (((l.length:Nat):Int),s,())=Option.map Sum.inr (fin s)):aE step ((0:Int),[],())=fin (l.map f):=by
 suffices key:∀(k i:Nat) (s:List β),i+k=l.length->s.length=i->aE step ((i:Int),s,())=fin (s++(l.drop i).map f)by
  have:=key l.length 0 [] (by omega) rfl
  simpa using this
 intro k
 induction k with
 |zero=>
  intro i s hi hs;obtain rfl:i=l.length:=by omega
  have hd:decide (((l.length:Nat):Int)<((l.length:Nat):Int))=false:=Qh (Int.lt_irrefl _);have h:=h2 s hd;rw[List.drop_length,QO,List.append_nil]
  cases hf:fin s with
  |none=>rw[hf]at h;exact Jr h
  |some r=>rw[hf]at h;exact bS h
 |succ k ih=>
  intro i s hi hs;have hlt:i<l.length:=by omega
  rw[bl (h1 i l[i] s (by omega) (Q0 hlt) (Qg (by omega)) (by rw[bB];exact Qv hlt) (bM (by omega) (by omega))),ih (i+1) (s++[f l[i]]) (by omega) (by simp;omega),
   QM hlt,QD,QL]
  rfl
theorem Vi{α β ρ:Type}(l:List α)(hl:l.length<=1000)(f:α->β){step:Int×List β×Unit->Option ((Int×List β×Unit)⊕ρ)}{fin:List β->Option ρ}
  (h1:∀(i:Nat) (e:α) (s:List β),s.length=l.length->e∈l->i<l.length->decide ((i:Int)<((l.length:Nat):Int))=true->idx l (i:Int)=some e->aA .i64 (i:Int) 1=((i+1:Nat):Int)->step ((i:Int),s,())=some (.inl (((i+1:Nat):Int),s.set i (f e),())))
  (h2:∀s,decide (((l.length:Nat):Int)<((l.length:Nat):Int))=false->step (((l.length:Nat):Int),s,())=Option.map Sum.inr (fin s)) {s0:List β} (hs0:s0.length=l.length):aE step ((0:Int),s0,())=fin (l.map f):=by
 suffices key:∀(k i:Nat) (s:List β),i+k=l.length->s.length=l.length->aE step ((i:Int),s,())=fin (s.take i++(l.drop i).map f)by
  have:=key l.length 0 s0 (by omega) hs0
  simpa using this
 intro k
 induction k with
 |zero=>
  intro i s hi hs;obtain rfl:i=l.length:=by omega
  have hd:decide (((l.length:Nat):Int)<((l.length:Nat):Int))=false:=Qh (Int.lt_irrefl _);have h:=h2 s hd;rw[List.drop_length,QO,List.append_nil,<-hs,List.take_length];rw[<-hs]at h
  cases hf:fin s with
  |none=>rw[hf]at h;exact Jr h
  |some r=>rw[hf]at h;exact bS h
 |succ k ih=>
  intro i s hi hs;have hlt:i<l.length:=by omega
  rw[bl (h1 i l[i] s hs (Q0 hlt) hlt (Qg (by omega)) (by rw[bB];exact Qv hlt) (bM (by omega) (by omega))),ih (i+1) (s.set i (f l[i])) (by omega) (by simpa using hs),
   QM hlt,QD]
  congr 1;rw[List.take_add_one,List.take_set_of_le (QI i),List.getElem?_set_self (by omega)]
  simp
def EA(z:ae):List ae->ae
 |[]=>z
 |x::l=>l.foldl (fun a y=>if bd a y=true then y else a) x
theorem JU(l:List ae)(hl:l.length<=1000000)(z:ae){step:Int×ae×Unit->Option ((Int×ae×Unit)⊕ae)}
  (h1:∀(i:Nat) (x s:ae),decide ((i:Int)<((l.length:Nat):Int))=true->idx l (i:Int)=some x->aA .i64 (i:Int) 1=((i+1:Nat):Int)->step ((i:Int),s,())=some (.inl (((i+1:Nat):Int),(if i=0 then x else if bd s x=true then x else s),())))
  (h2:∀s,decide (((l.length:Nat):Int)<((l.length:Nat):Int))=false->step (((l.length:Nat):Int),s,())=some (.inr s)):aE step ((0:Int),z,())=some (EA z l):=by
 have hd:decide (((l.length:Nat):Int)<((l.length:Nat):Int))=false:=Qh (Int.lt_irrefl _)
 have key:∀(k i:Nat) (s:ae),i+k=l.length->1<=i->aE step ((i:Int),s,())=some ((l.drop i).foldl (fun a y=>if bd a y=true then y else a) s):=by
  intro k
  induction k with
  |zero=>
   intro i s hi h1i;obtain rfl:i=l.length:=by omega
   rw[List.drop_length];exact bS (h2 s hd)
  |succ k ih=>
   intro i s hi h1i;have hlt:i<l.length:=by omega
   rw[bl (h1 i l[i] s (Qg (by omega)) (by rw[bB];exact Qv hlt) (bM (by omega) (by omega))),ih (i+1) _ (by omega) (by omega),QM hlt,QU,Qs (by omega:¬i=0)]
 cases l with
 |nil=>exact bS (h2 z hd)
 |cons x l=>
  have hx:=h1 0 x z (Qg (by simp)) (by rw[bB];rfl) (bM (by omega) (by omega))
  rw[Qr rfl]at hx;exact(bl hx).trans (key l.length 1 x (by simp;omega) (by omega))
theorem YT(l:List ae)(hl:l.length<=1000000):mu l=some (EA bL l):=by
 unfold mu;refine JU l hl bL (fun i x s hd hx hw=> ?_) (fun s hd=> ?_)
 ·simp only[hd,hx,hw,Qk,aW,Qa,iD]
  by_cases hi:i=0
  ·subst hi;rfl
  ·have:decide ((i:Int)=0)=false:=Qh (by omega)
   rw[this,Qs hi];cases bd s x<;>rfl
 ·simp only[hd,Ql,Qe]
theorem Wp(l:List ae)(hl:l.length<=1000000):kK l=some (EA bL l):=by
 unfold kK;refine JU l hl bL (fun i x s hd hx hw=> ?_) (fun s hd=> ?_)
 ·simp only[hd,hx,hw,Qk,aW,Qa,iv]
  by_cases hi:i=0
  ·subst hi;rfl
  ·have:decide ((i:Int)=0)=false:=Qh (by omega)
   rw[this,Qs hi];cases bd s x<;>rfl
 ·simp only[hd,Ql,Qe]
def db(m:af):ByteArray:=
 if aC m.au=false then m.au.Value else if m.aH≠1 then m.ab.Value else if m.bb≠eZ then m.bb else(EA bL (m.az.map (·.ab))).Value
theorem KA{m:af}(h:q8 m):ln m=some (db m):=by
 have hl:m.az.length<=1000:=by have:=h.len;omega
 unfold ln db;simp only[dj,Qa]
 cases hz:aC m.au with
 |false=>rfl
 |true=>
  simp only[Qo,Ql,Bool.true_eq_false,Qu]
  by_cases h1:m.aH=1
  ·rw[Qg h1,Qs (fun h=>h h1)]
   simp only[Qo,Ql]
   by_cases hp:m.bb=eZ
   ·have hp':decide (m.bb=ByteArray.mk #[])=true:=Qg hp;rw[hp',Qs (fun h=>h hp)]
    simp only[Qo,Ql]
    rw[zZ m.az hl (·.ab) (fin:=fun s=>Option.bind (mu s) fun r=>some r.Value) (fun i e s hs he hd hx hw=>by
     simp only[hd,hx,hw,Qk,Qa]
     rw[bZ (by simp;omega),Qk]) (fun s hd=>by simp only[hd,Ql]),YT _ (by simp;omega)]
    rfl
   ·have hp':decide (m.bb=ByteArray.mk #[])=false:=Qh hp;rw[hp',Qr hp];rfl
  ·rw[Qh h1,Qr h1];rfl
theorem OB{e:ai}(h:dK e.aa)(hv:aJ e=true):nr e=some (dX e):=by
 simp only[nr,al.eta,ai.eta,iy h,Qa,hv,dX]
 by_cases h3:e.br=3
 ·rw[Qg h3,Qr h3];rfl
 ·rw[Qh h3,Qs h3];rfl
theorem OM{e:ai}(h:dK e.aa)(hv:aJ e=true):iH e=some (dX e):=by
 rw[Rh (RX h)];have:fo (Dw e.aa) e=true:=hv;rw[this,Qr rfl]
def y7(m:af)(n:Int):Nat:=c9 (fun e=>decide (n<dX e)) m.az
 def fW(m:af)(n:Int):Bool:=rM (fh m.ar.toNat m.aa (aR m)) m.ar.toNat (y7 m n)
theorem q8.Lp{m:af}(h:q8 m):uz m.az:=fun e he=>iN (h.valid e he)
theorem M0{m:af}(h:q8 m)(n:Int):y7 m n<1024:=kM h.Lp
theorem SP{m:af}(h:q8 m)(n:Int):pw m n=some (fW m n):=by
 have hl:m.az.length<=1000:=by have:=h.len;omega
 unfold pw
 rw[zZ m.az hl (fun e=>decide (n<dX e)) (fin:=fun s=>Option.bind (jq m) fun r4=>Option.bind (jA m.ar m.aa r4) fun r5=>Option.bind (gd m.az s) fun r6=>Option.bind (lY r5 m.ar r6) fun r7=>some r7)
  (fun i e s hs he hd hx hw=>by
   simp only[hd,hx,hw,Qk,Qa,al.eta,ai.eta,OB (h.sm e he) (h.valid e he)]
   rw[bZ (by simp;omega),Qk])
  (fun s hd=>by simp only[hd,Ql,af.eta,al.eta])]
 have hv:=yC h.ax.2 (t:=m.aa) h.jR.1;have hb:=I3 (k9 (ax:=m.ar.toNat) h.aO h.jR.1) (v:=m.ar.toNat) (M0 h n);rw[h.ax.1]at hv hb;rw[Kk hl,Qa,hv,Qa,y8 m.az hl _ (fun e he _=>h.Lp e he),Qa,show c9 (fun e=>decide (n<dX e)) m.az=y7 m n from rfl,hb]
 rfl
 def jZ(m:af)(EW:Int)(e:ai):Int:=
 if m.ab.aj<dX e/\dX e<EW/\fW m (dX e)=false then dX e else EW
 def fJ(m:af):Int:=m.az.foldl (jZ m) 1000000
 def lg(m:af):ByteArray:=if m.aH=1 then db m else m.ab.Value
 def eH(m:af):af:=
 if m.aH=3\/fW m m.ab.aj=false then m
 else{m with aI:=if lg m=m.ab.Value then m.aI else 0,ab:=⟨bq m.ab.aj (dG (fJ m) 1000),lg m⟩}
open Classical in
theorem PQ{m:af}(h:q8 m){ρ:Type}{step:Int×Int×Unit->Option ((Int×Int×Unit)⊕ρ)}{fin:Int->Option ρ}
  (h1:∀(i:Nat) (e:ai) (s:Int),e∈m.az->decide ((i:Int)<((m.az.length:Nat):Int))=true->idx m.az (i:Int)=some e->aA .i64 (i:Int) 1=((i+1:Nat):Int)->step (s,(i:Int),())=some (.inl (jZ m s e,((i+1:Nat):Int),())))
  (h2:∀s,decide (((m.az.length:Nat):Int)<((m.az.length:Nat):Int))=false->step (s,((m.az.length:Nat):Int),())=Option.map Sum.inr (fin s)):aE step ((1000000:Int),(0:Int),())=fin (fJ m):=by
 have hl:=h.len
 have key:=ga m.az (by omega) (fun i s=>(s,i,())) (fun e s=>if e∈m.az then some (.inl (jZ m s e))else none) fin (step:=step) (fun i x s hd hx hw=>by
  have hm:x∈m.az:=by rw[bB]at hx;exact List.mem_of_getElem? hx
  rw[h1 i x s hm hd hx hw,Qr hm]) (fun s hd=>h2 s hd) 1000000
 refine key.trans ?_;unfold fJ
 suffices h3:∀(l:List ai),(∀e∈l,e∈m.az)->∀s,eD (fun e s=>if e∈m.az then some (Sum.inl (β:=ρ) (jZ m s e))else none) fin l s=fin (l.foldl (jZ m) s)from h3 _ (fun e he=>he) _
 intro l
 induction l with
 |nil=>intro _ s;rfl
 |cons x l ih=>
  intro hx s;rw[eD,Qr (hx x Qx),QU];exact ih (fun e he=>hx e (Qy _ he)) _
theorem Xb{m:af}(h:q8 m):rQ m=some (eH m):=by
 unfold rQ eH;simp only[af.eta,al.eta,SP h,KA h,Qa]
 by_cases h3:m.aH=3
 ·rw[Qg h3,Qr (.inl h3)];rfl
 ·rw[Qh h3]
  cases ha:fW m m.ab.aj with
  |false=>rw[Qr (.inr rfl)];rfl
  |true=>
   rw[Qs (by simp[h3])]
   simp only[Ql,Qo];refine(PQ h (fin:=fun c=>some {m with aI:=if lg m=m.ab.Value then m.aI else 0,ab:=⟨bq m.ab.aj (dG c 1000),lg m⟩}) (fun i e s he hd hx hw=> ?_) (fun s hd=> ?_)).trans rfl
   ·simp only[hd,hx,hw,Qk,aW,Qa,al.eta,ai.eta,OB (h.sm e he) (h.valid e he),SP h];unfold jZ
    by_cases c1:m.ab.aj<dX e
    ·by_cases c2:dX e<s
     ·rw[Qg c1,Qg c2]
      cases c3:fW m (dX e)with
      |true=>rw[Qs (by simp)];rfl
      |false=>rw[Qr ⟨c1,c2,rfl⟩];rfl
     ·rw[Qg c1,Qh c2,Qs (fun h=>c2 h.2.1)];rfl
    ·rw[Qh c1,Qs (fun h=>c1 h.1)];rfl
   ·simp only[hd,Ql,aW,Qa];unfold lg
    by_cases h1:m.aH=1
    ·rw[Qg h1,Qr h1]
     by_cases hv:db m=m.ab.Value
     ·simp only[Qk,Qg hv,Qo,Ql,Qr hv]
     ·simp only[Qk,Qh hv,Qp,Qs hv]
    ·rw[Qh h1,Qs h1];simp only[Ql,decide_true,Qo,Qt]
end Go.Proofs.YtkgenianmdfmdaaGreat
namespace Go.Proofs.YtkgenianmdfmdaaGreat
open Go.TQ
def cv(b:ae):Prop:=1<=b.aj/\b.aj<=1000/\1<=b.Value.size/\b.Value.size<=200
theorem cv.valid{b:ae}(h:cv b):cn b=true:=by
 obtain⟨h1,h2,h3,h4⟩:=h;simp only[cn,Qm,Qn,Qi];exact⟨⟨.inl ⟨h1,h2⟩,h3⟩,h4⟩
theorem cv.finite{b:ae}(h:cv b):finite b=true:=by
 unfold Go.Proofs.YtkgenianmdfmdaaGreat.finite;rw[h.valid,Qg h.2.1];rfl
theorem Sv{b:ae}(h:cn b=true)(hc:b.aj<=1000):cv b:=by
 simp only[cn,Qm,Qn,Qi]at h;obtain⟨⟨h1,h2⟩,h3⟩:=h;exact⟨by omega,hc,h2,h3⟩
theorem cv.nz{b:ae}(h:cv b):aC b=false:=Jq h.1
theorem cv.ne{b:ae}(h:cv b):b.Value≠eZ:=by
 intro e;have:=h.2.2.1;rw[e]at this;exact absurd this (by decide)
theorem ua{b:ae}:aC b=true↔b=bL:=by
 obtain⟨c,v⟩:=b;simp[aC,bL]
theorem bD:aC bL=true:=ua.2 rfl
structure P1 (m:af):Prop where
 aL:m.aH=1
 aK:cv m.ab
 cZ:m.ao=bL\/cv m.ao
 bI:m.aw=bL\/(cv m.aw/\cv m.ao/\bd m.aw m.ao=true/\bC m.aw m.ao=false)
 dw:m.au=bL\/(cv m.au/\du m.ao m.aw m.au=true)
 up:bd m.ab m.au=false
 bH:m.aQ=0
 low:m.aI=0\/(1<=m.aI/\m.aI<=ep m/\kG m.ao m.aw m.ab.Value m.aI=false)
structure P2 (m:af):Prop where
 aL:m.aH=2
 aK:cv m.ab
 cZ:cv m.ao/\m.ao.Value=m.ab.Value
 bI:m.aw=bL
 dw:m.au=bL\/(cv m.au/\m.au.Value=m.ab.Value)
 range:1<=m.aI/\m.aI<=m.aQ/\m.aQ<=m.ao.aj
structure P3 (m:af):Prop where
 aL:m.aH=3
 aK:cv m.ab
 cZ:m.ao=bL
 bI:m.aw=bL
 dw:m.au=bL
 range:1<=m.aI/\m.aI<=m.aQ/\m.aQ<=1000
structure P0 (m:af):Prop where
 aL:m.aH=1
 aK:m.ab=bL
 cZ:m.ao=bL
 bI:m.aw=bL
 dw:m.au=bL
 low:m.aI=0
 bH:m.aQ=0
structure bc (m:af):Prop where
 n0:0<=m.ar
 n1:m.ar<10
 bz:1<=m.bm/\m.bm<=1000000
 seq:0<=m.aG/\m.aG<=1000000
 aO:gA m.aa
 n5:m.bb.size<=200
 hv:∀e∈m.az,aJ e=true/\gA e.aa/\e.bm=m.bm/\e.ar≠m.ar
 mW:m.az.Pairwise (fun a b=>a.ar<b.ar)
 body:P0 m\/P1 m\/P2 m\/P3 m
theorem Ip:∀(l:List ai) (k:Nat),k<=10->(∀e∈l,(k:Int)<=e.ar/\e.ar<10)->l.Pairwise (fun a b=>a.ar<b.ar)->l.length+k<=10
 |[],k,hk,_,_=>by simpa using hk
 |x::l,k,hk,h,hp=>by
  rw[Q4]at hp;have hx:=h x Qx;have:=Ip l (k+1) (by omega) (fun e he=>⟨by have:=hp.1 e he;omega,(h e (Qy _ he)).2⟩) hp.2
  rw[QE];omega
theorem bc.len{m:af}(h:bc m):m.az.length<=10:=by
 have:=Ip m.az 0 (by omega) (fun e he=>by have:=iN (h.hv e he).1;omega) h.mW
 omega
theorem bc.ev{m:af}(h:bc m):q8 m:=
 ⟨h.n0,h.n1,h.aO.sm,by have:=h.len;omega,fun e he=>(h.hv e he).2.1.sm,fun e he=>(h.hv e he).1⟩
theorem JN{m:af}(h:P1 m):0<=ep m/\ep m<=m.ab.aj/\(ep m=0\/(cv m.au/\m.au.Value=m.ab.Value/\ep m=m.au.aj)):=by
 unfold ep;split
 ·rename_i hc;simp only[Qm,Bool.not_eq_true',bC,Qi]at hc;rcases h.dw with e|⟨hf,_⟩
  ·rw[e,bD]at hc;cases hc.1
  ·have hup:=h.up;unfold bd at hup;split at hup
   ·rename_i e;exact⟨by have:=hf.1;omega,by omega,.inr ⟨hf,hc.2,rfl⟩⟩
   ·simp only[Qj]at hup;exact⟨by have:=hf.1;omega,by omega,.inr ⟨hf,hc.2,rfl⟩⟩
 ·exact⟨Int.le_refl _,by have:=h.aK.1;omega,.inl rfl⟩
theorem Mu{m:af}(h:bc m)(hz:aC m.ab=false):aJ (gH m)=true:=by
 have hseq:1<=(gH m).aG/\(gH m).aG<=1000000:=by
  have h1:(gH m).aG=bq m.aG 1:=by show bq (bU m).aG 1=_;rw[Pv]
  have:=h.seq;rw[h1];unfold bq;split<;>omega
 have hnode:(gH m).ar=m.ar:=qN m;have hslot:(gH m).bm=m.bm:=wZ m
 have hhead:sR (gH m)=true:=by
  unfold sR;rw[hnode,hslot];simp only[Qm,Qi];exact⟨⟨⟨⟨⟨h.n0,h.n1⟩,h.bz.1⟩,h.bz.2⟩,hseq.1⟩,hseq.2⟩
 unfold aJ;rw[Ce,Dv h.aO];unfold fo;rw[hhead];have hkind:(gH m).br=m.aH:=Vl m;rw[hkind];rcases h.body with h0|h1|h2|h3
 ·rw[h0.aK,bD]at hz;cases hz
 ·rw[Qr h1.aL];have hh:=JN h1;have e:gH m=⟨m.ar,m.bm,bq (bU m).aG 1,m.aa,m.aH,m.ab,m.ao,m.aw,m.aI,ep m⟩:=by unfold gH bU;rw[Qr h1.aL]
  have hp:(aC m.ao||cn m.ao)=true:=by
   rcases h1.cZ with e|hf
   ·rw[e,bD];rfl
   ·rw[hf.valid,Bool.or_true]
  have hq:(aC m.aw||cn m.aw)=true:=by
   rcases h1.bI with e|hf
   ·rw[e,bD];rfl
   ·rw[hf.1.valid,Bool.or_true]
  have hpo:yc (gH m)=true:=by
   rw[e];unfold yc;rcases h1.bI with e|⟨_,hf,hl,hc⟩
   ·simp only[e,bD,Bool.true_or]
   ·simp only[hf.nz,hl,hc,Qp,Bool.and_self,Bool.or_true]
  have hhp:(decide (ep m=0)||du m.ao m.aw ⟨ep m,m.ab.Value⟩)=true:=by
   rcases hh.2.2 with e|⟨hf,hv,e⟩
   ·rw[Qg e];rfl
   ·rw[e,<-hv];rcases h1.dw with e2|⟨_,hp⟩
    ·have:=hf.nz;rw[e2,bD]at this;cases this
    ·rw[hp,Bool.or_true]
  have hlow:0<=m.aI/\m.aI<=ep m/\(decide (m.aI=0)||(!dJ m.ao ⟨m.aI,m.ab.Value⟩&& !dJ m.aw ⟨m.aI,m.ab.Value⟩))=true:=by
   rcases h1.low with e|⟨h5,h6,h7⟩
   ·rw[e];exact⟨Int.le_refl _,hh.1,rfl⟩
   ·refine⟨by omega,h6,?_⟩
    unfold kG at h7;rw[Bool.or_eq_false_iff]at h7;rw[h7.1,h7.2];simp
  unfold fL;rw[hpo];rw[e];unfold at_
  simp only[h1.aK.finite,hp,hq,Qg hlow.1,Qg hlow.2.1,Qg hh.2.1,hhp,hlow.2.2,Bool.and_self,decide_true]
 ·rw[Qs (by rw[h2.aL];decide),Qr h2.aL]
  have e:gH m=⟨m.ar,m.bm,bq (bU m).aG 1,m.aa,m.aH,m.ab,m.ao,bL,m.aI,m.aQ⟩:=by unfold gH bU;rw[Qs (by rw[h2.aL];decide),Qr h2.aL]
  have hc:m.aQ<=1000:=by have:=h2.range.2.2;have:=h2.cZ.1.2.1;omega
  unfold qP pk;rw[e];simp only[h2.aK.finite,h2.cZ.1.valid,bC,Qg h2.cZ.2,bD,Qg h2.range.1,Qg h2.range.2.1,Qg h2.range.2.2,Qg hc,Bool.and_self,decide_true]
 ·rw[Qs (by rw[h3.aL];decide),Qs (by rw[h3.aL];decide),Qr h3.aL]
  have e:gH m=⟨m.ar,m.bm,bq (bU m).aG 1,m.aa,m.aH,m.ab,bL,bL,m.aI,m.aQ⟩:=by unfold gH bU;rw[Qs (by rw[h3.aL];decide),Qs (by rw[h3.aL];decide)]
  unfold wG pk;rw[e];simp only[h3.aK.valid,bD,Qg h3.range.1,Qg h3.range.2.1,Qg h3.range.2.2,Bool.and_self,decide_true]
theorem bc.jJ{m:af}(h:bc m):∀e∈aR m,aJ e=true:=by
 intro e he;rcases wo he with he|⟨hz,rfl⟩
 ·exact(h.hv e he).1
 ·exact Mu h hz
theorem bc.Yy{m:af}(h:bc m){e:ai}(he:e∈aR m)(hn:e.ar.toNat=m.ar.toNat):aC m.ab=false/\e=gH m:=by
 rcases wo he with he|⟨hz,rfl⟩
 ·have h1:=(h.hv e he).2.2.2;have h2:=iN (h.hv e he).1;have:=h.n0;omega
 ·exact⟨hz,rfl⟩
end Go.Proofs.YtkgenianmdfmdaaGreat
namespace Go.Proofs.YtkgenianmdfmdaaGreat
open Go.TQ
theorem uo(a b:ae):bd a b=true↔a.aj<b.aj\/(a.aj=b.aj/\ji a.Value b.Value=true):=by
 unfold bd;split
 ·rename_i e;rw[e];simp
 ·rename_i e;simp only[Qi];constructor
  ·exact .inl
  ·rintro(h|h)
   ·exact h
   ·exact absurd h.1 e
theorem km{a b c:ae}(h:bd a b=true)(h':bd b c=true):bd a c=true:=wv.trans _ _ _ h h'
theorem U5(a:ae):bd a a=false:=wv.irrefl a
theorem Ep{a b:ae}(h:bd a b=false)(h':a≠b):bd b a=true:=by
 cases h1:bd b a with
 |true=>rfl
 |false=>exact absurd (wv.total a b h h1) h'
theorem gE{a b:ae}(h:bd a b=true):a.aj<=b.aj:=by
 rw[uo]at h;omega
theorem Hz{a b:ae}(h:bd a b=false):b.aj<=a.aj:=by
 rcases Int.lt_or_le a.aj b.aj with h1|h1
 ·rw[(uo a b).2 (.inl h1)]at h;cases h
 ·exact h1
theorem U3(v:ByteArray):ji v v=false:=wu.irrefl v
theorem Cq{a b:ae}(hv:a.Value=b.Value):bd a b=decide (a.aj<b.aj):=by
 unfold bd;split
 ·rename_i e;rw[hv,U3,e];simp
 ·rfl
theorem EN{p x:ae}(h:gY p x=true):bd p x=false:=by
 obtain⟨_,h2,h3⟩:=(jv p x).1 h;rw[Cq h2,Qj];omega
theorem MS{p x q:ae}(h:gY p x=true)(hq:bd p q=true):bd x q=true:=by
 by_cases e:x=p
 ·rw[e];exact hq
 ·exact km (Ep (EN h) (fun h=>e h.symm)) hq
theorem gS{a b:ae}:bC a b=true↔a.Value=b.Value:=decide_eq_true_iff
theorem gO{a b:ae}:bC a b=false↔a.Value≠b.Value:=Qj
theorem yG(p q x:ae):du p q x=true↔gY p x=true\/gY q x=true\/(aC q=false/\bd x q=true):=by
 unfold du;simp only[Qn,Qm,Bool.not_eq_true'];exact⟨fun h=>by rcases h with(h|h)|h<;>simp[h],fun h=>by rcases h with h|h|h<;>simp[h]⟩
def pt(p q:ae):Prop:=(p=bL\/cv p)/\(q=bL\/(cv q/\cv p/\bd q p=true/\bC q p=false))
theorem P1.fL{m:af}(h:P1 m):pt m.ao m.aw:=⟨h.cZ,h.bI⟩
theorem HU{b:ae}(h:cv b):b≠bL:=fun e=>by have:=h.nz;rw[e,bD]at this;cases this
inductive rO (p q b:ae):ae->ae->Prop where
 |same:rO p q b p q
 |first (hp:p=bL) (hq:q=bL):rO p q b b bL
 |up (hp:cv p) (hl:bd p b=true) (hc:p.Value=b.Value):rO p q b b q
 |An (hp:cv p) (hl:bd p b=true) (hc:p.Value≠b.Value):rO p q b b p
 |under (hp:cv p) (hl:bd b p=true) (hc:b.Value≠p.Value) (hq:q=bL\/bd q b=true):rO p q b p b
theorem YK{p q b:ae}(h:pt p q)(hb:b=bL\/cv b):rO p q b (ct p q b).1 (ct p q b).2:=by
 unfold ct;rcases hb with rfl|hb
 ·rw[Qr bD];exact .same
 rw[Qs (by rw[hb.nz];decide)]
 rcases h.1 with rfl|hp
 ·have hq:q=bL:=by
   rcases h.2 with e|⟨_,e,_⟩
   ·exact e
   ·exact absurd rfl (HU e)
  rw[Qr bD,hq];exact .first rfl rfl
 rw[Qs (by rw[hp.nz];decide)]
 by_cases hl:bd p b=true
 ·rw[Qr hl]
  by_cases hc:bC p b=true
  ·rw[Qr hc]
   have hcq:bC q b=false:=by
    rw[gS]at hc;rw[gO];rcases h.2 with rfl|⟨_,_,_,e⟩
    ·exact fun e=>hb.ne e.symm
    ·rw[gO]at e;rw[<-hc];exact e
   rw[Qs (by rw[hcq];decide)]
   exact .up hp hl (gS.1 hc)
  ·rw[Qs hc];exact .An hp hl (gO.1 (by simpa using hc))
 ·rw[Qs hl];split
  ·rename_i hu;simp only[Qm,Qn,Bool.not_eq_true']at hu;refine .under hp hu.1.1 (gO.1 hu.1.2) ?_;rcases hu.2 with e|e
   ·exact .inl (ua.1 e)
   ·exact .inr e
  ·exact .same
theorem rO.ok{p q b p' q':ae}(h:pt p q)(hb:b=bL\/cv b)(hj:rO p q b p' q'):pt p' q':=by
 have hbf:∀{x:ae},bd x b=true\/cv b\/(cv x/\bd b x=true)->True:=fun _=>trivial
 cases hj with
 |same=>exact h
 |first hp hq=>exact⟨hb,.inl rfl⟩
 |up hp hl hc=>
  have hb':cv b:=by
   rcases hb with rfl|hb
   ·have h1:=gE hl;have h2:=hp.1;have:(bL:ae).aj=0:=rfl;omega
   ·exact hb
  refine⟨.inr hb',?_⟩;rcases h.2 with e|⟨h1,h2,h3,h4⟩
  ·exact .inl e
  ·refine .inr ⟨h1,hb',km h3 hl,?_⟩;rw[gO]at h4 ⊢;rw[<-hc];exact h4
 |An hp hl hc=>
  have hb':cv b:=by
   rcases hb with rfl|hb
   ·have h1:=gE hl;have h2:=hp.1;have:(bL:ae).aj=0:=rfl;omega
   ·exact hb
  exact⟨.inr hb',.inr ⟨hp,hb',hl,gO.2 hc⟩⟩
 |under hp hl hc hq=>
  refine⟨.inr hp,?_⟩;rcases hb with e|hb
  ·exact .inl e
  ·exact .inr ⟨hb,hp,hl,gO.2 hc⟩
theorem rO.mono{p q b p' q':ae}(h:pt p q)(hj:rO p q b p' q'){x:ae}(hx:du p q x=true):du p' q' x=true:=by
 rw[yG]at hx ⊢
 have hqp:aC q=false->bd q p=true:=fun hz=>by
  rcases h.2 with e|⟨_,_,e,_⟩
  ·rw[e,bD]at hz;cases hz
  ·exact e
 have hcq:gY q x=true->aC q=false:=fun hc=>((jv q x).1 hc).1
 cases hj with
 |same=>exact hx
 |first hp hq=>
  subst hp hq;rcases hx with hx|hx|hx
  ·have:=((jv _ _).1 hx).1;rw[bD]at this;cases this
  ·have:=((jv _ _).1 hx).1;rw[bD]at this;cases this
  ·rw[bD]at hx;cases hx.1
 |up hp hl hc=>
  rcases hx with hx|hx|hx
  ·obtain⟨h1,h2,h3⟩:=(jv _ _).1 hx;refine .inl ((jv _ _).2 ⟨?_,hc.symm.trans h2,Int.le_trans h3 (gE hl)⟩);have:=hp.1;have:=gE hl;exact Jq (by omega)
  ·exact .inr (.inl hx)
  ·exact .inr (.inr hx)
 |An hp hl hc=>
  rcases hx with hx|hx|hx
  ·exact .inr (.inl hx)
  ·exact .inr (.inr ⟨hp.nz,MS hx (hqp (hcq hx))⟩)
  ·exact .inr (.inr ⟨hp.nz,km hx.2 (hqp hx.1)⟩)
 |under hp hl hc hq=>
  have hbz:aC q=false->bd q b=true:=fun hz=>by
   rcases hq with e|e
   ·rw[e,bD]at hz;cases hz
   ·exact e
  have hbn:aC q=false->aC b=false:=fun hz=>by
   have h1:=gE (hbz hz);rcases h.2 with e|⟨e,_⟩
   ·rw[e,bD]at hz;cases hz
   ·have:=e.1;exact Jq (by omega)
  rcases hx with hx|hx|hx
  ·exact .inl hx
  ·exact .inr (.inr ⟨hbn (hcq hx),MS hx (hbz (hcq hx))⟩)
  ·exact .inr (.inr ⟨hbn hx.1,km hx.2 (hbz hx.1)⟩)
theorem VK{p:ae}{v:ByteArray}{n k:Int}(h:dJ p ⟨n,v⟩=false)(hk:n<=k):dJ p ⟨k,v⟩=false:=RR hk h
theorem Oa{v:ByteArray}{n:Int}{x:ae}(hx:x=bL\/cn x=true):n<=s8 v n x/\dJ x ⟨s8 v n x,v⟩=false:=by
 unfold s8;split
 ·rename_i hc;rw[Qm]at hc;have ha:=hc.2;unfold dJ at ha;rw[Qm,Qm]at ha;have hle:n<=x.aj:=gE ha.2;split
  ·refine⟨by omega,?_⟩
   unfold dJ;rw[Bool.and_eq_false_iff];right
   cases hl:bd ⟨x.aj+1,v⟩ x with
   |false=>rfl
   |true=>have:=gE hl;simp only at this;omega
  ·rename_i hn;exact⟨hle,by simpa using hn⟩
 ·rename_i hc;refine⟨Int.le_refl _,?_⟩;rcases hx with rfl|hv
  ·unfold dJ;rw[bD];rfl
  ·rw[hv,Bool.true_and]at hc;simpa using hc
theorem Sg{v:ByteArray}{n:Int}{p q:ae}(hp:p=bL\/cn p=true)(hq:q=bL\/cn q=true):n<=jm v n p q/\1<=jm v n p q/\kG p q v (jm v n p q)=false:=by
 unfold jm;obtain⟨h1,h2⟩:=Oa (v:=v) (n:=bq n 1) hp;obtain⟨h3,h4⟩:=Oa (v:=v) (n:=s8 v (bq n 1) p) hq;have hm:n<=bq n 1/\1<=bq n 1:=by unfold bq;split<;>omega
 refine⟨by omega,by omega,?_⟩
 unfold kG;rw[h4,Bool.or_false];exact VK h2 h3
theorem Ij{v:ByteArray}{n:Int}{x:ae}(h:dJ x ⟨n,v⟩=false):s8 v n x=n:=by
 unfold s8;rw[h,Bool.and_false];rfl
theorem U1{v:ByteArray}{n:Int}{p q:ae}(h1:1<=n)(h:kG p q v n=false):jm v n p q=n:=by
 unfold kG at h;rw[Bool.or_eq_false_iff]at h;have hm:bq n 1=n:=by unfold bq;split<;>omega
 unfold jm;rw[hm,Ij h.1,Ij h.2]
theorem pt.valid{p q:ae}(h:pt p q):(p=bL\/cn p=true)/\(q=bL\/cn q=true):=
 ⟨h.1.imp id cv.valid,h.2.imp id fun h=>h.1.valid⟩
theorem Tc{e:ai}(hv:aJ e=true){x:ae}(hx:x∈said e)(hz:aC x=false):cn x=true:=by
 have hv':=hv;unfold aJ fo at hv';unfold said at hx;rw[Qr hv]at hx;rw[Qm,Qm]at hv';have hb:=hv'.2
 by_cases h1:e.br=1
 ·rw[Qr h1]at hb hx;unfold fL at hb;simp only[Qm,Qn]at hb;obtain⟨⟨⟨⟨⟨⟨⟨⟨hf,hp⟩,hq⟩,_⟩,_⟩,_⟩,_⟩,_⟩,_⟩:=hb;simp only[QA,QR,or_false]at hx;rcases hx with rfl|rfl|rfl
  ·unfold finite at hf;rw[Qm]at hf;exact hf.1
  ·rcases hp with hp|hp
   ·rw[hp]at hz;cases hz
   ·exact hp
  ·rcases hq with hq|hq
   ·rw[hq]at hz;cases hz
   ·exact hq
 ·rw[Qs h1]at hb hx
  have hinf:∀{b:ae},cn b=true->cn ⟨1000000,b.Value⟩=true:=by
   intro b hb;simp only[cn,Qm,Qn,Qi]at hb ⊢;exact⟨⟨.inr trivial,hb.1.2⟩,hb.2⟩
  by_cases h2:e.br=2
  ·rw[Qr h2]at hb hx;unfold qP at hb;simp only[Qm]at hb;obtain⟨⟨⟨⟨⟨hf,hp⟩,hc⟩,_⟩,_⟩,_⟩:=hb;simp only[QA,QR,or_false]at hx;rcases hx with rfl|rfl
   ·exact hp
   ·unfold finite at hf;rw[Qm]at hf;exact hinf hf.1
  ·rw[Qs h2]at hb hx;simp only[QA,QR,or_false]at hx;subst hx
   by_cases h3:e.br=3
   ·rw[Qr h3]at hb;unfold wG at hb;simp only[Qm]at hb;exact hinf hb.1.1.1
   ·rw[Qs h3]at hb;cases hb
theorem Gr{e:ai}(hv:aJ e=true):1<=e.ab.Value.size/\e.ab.Value.size<=200:=by
 have hv':=hv;unfold aJ fo at hv';rw[Qm,Qm]at hv';have hb:=hv'.2
 have go:∀{b:ae},cn b=true->1<=b.Value.size/\b.Value.size<=200:=by
  intro b hb;simp only[cn,Qm,Qn,Qi]at hb;exact⟨hb.1.2,hb.2⟩
 have gof:∀{b:ae},finite b=true->1<=b.Value.size/\b.Value.size<=200:=by
  intro b hb;unfold finite at hb;rw[Qm]at hb;exact go hb.1
 by_cases h1:e.br=1
 ·rw[Qr h1]at hb;unfold fL at hb;simp only[Qm]at hb;exact gof hb.1.1.1.1.1.1.1.1
 ·rw[Qs h1]at hb
  by_cases h2:e.br=2
  ·rw[Qr h2]at hb;unfold qP at hb;simp only[Qm]at hb;exact gof hb.1.1.1.1.1
  ·rw[Qs h2]at hb
   by_cases h3:e.br=3
   ·rw[Qr h3]at hb;unfold wG at hb;simp only[Qm]at hb;exact go hb.1.1.1
   ·rw[Qs h3]at hb;cases hb
theorem Zp{b:ae}(h:cn b=true):cv (da b):=by
 simp only[cn,Qm,Qn,Qi]at h;obtain⟨⟨h1,h2⟩,h3⟩:=h;unfold da;split
 ·exact⟨(by decide:(1:Int)<=1000),(by decide:(1000:Int)<=1000),h2,h3⟩
 ·exact⟨by omega,by omega,h2,h3⟩
theorem Pr{α:Type}{l:List α}{p:α->Bool}{z:α}:(l.find? p).getD z=z\/((l.find? p).getD z∈l/\p ((l.find? p).getD z)=true):=by
 cases h:l.find? p with
 |none=>exact .inl rfl
 |some x=>exact .inr ⟨List.mem_of_find?_eq_some h,List.find?_some h⟩
theorem C7{m:af}(h:bc m){x:ae}(hx:x∈dQ (aR m)):cn x=true:=by
 obtain⟨e,he,h1,h2⟩:=((kp h.ev.jR.1.aO h.ev.jR.2).2.2.2 x).1 hx;exact Tc (h.jJ e he) h1 h2
theorem Mx{m:af}(h:bc m):dI m=bL\/(cn (dI m)=true/\(zB m=eZ\/(dI m).Value=zB m)/\du (oi m.ao) (oi m.aw) (dI m)=false/\jo m.ar.toNat m.aa (aR m) (dI m)=true):=by
 unfold dI gQ;rcases Pr (l:=dQ (aR m)) (p:=tb (jo m.ar.toNat m.aa (aR m)) m.ao m.aw (zB m)) (z:=vA)with e|⟨h1,h2⟩
 ·exact .inl e
 ·right;unfold tb at h2;simp only[Qm,Qn,Bool.not_eq_true',Qi]at h2;exact⟨C7 h h1,h2.1.1,h2.1.2,h2.2⟩
theorem vi{m:af}(h:bc m):da (dI m)=bL\/cv (da (dI m)):=by
 rcases Mx h with e|⟨h1,_⟩
 ·left;rw[e];decide
 ·exact .inr (Zp h1)
theorem Fk{m:af}(h:bc m)(h1:pt m.ao m.aw):rO m.ao m.aw (da (dI m)) (ct m.ao m.aw (da (dI m))).1 (ct m.ao m.aw (da (dI m))).2:=YK h1 (vi h)
theorem P2.fL{m:af}(h:P2 m):pt m.ao m.aw:=⟨.inr h.cZ.1,.inl h.bI⟩
theorem Yr{m:af}(h:bc m)(h1:P1 m):P1 (cz m):=by
 unfold cz;rw[Qs (by rw[h1.aL,h1.aK.nz];decide)]
 have hj:=Fk h h1.fL;generalize (ct m.ao m.aw (da (dI m))).1=p at hj;generalize (ct m.ao m.aw (da (dI m))).2=q at hj;have hok:=hj.ok h1.fL (vi h);refine⟨h1.aL,h1.aK,hok.1,hok.2,?_,h1.up,h1.bH,?_⟩
 ·rcases h1.dw with e|⟨hf,hp⟩
  ·exact .inl e
  ·exact .inr ⟨hf,hj.mono h1.fL hp⟩
 ·show n9 m p q=0\/(1<=n9 m p q/\n9 m p q<=ep m/\kG p q m.ab.Value (n9 m p q)=false);unfold n9
  by_cases hL:m.aI=0
  ·rw[Qs (fun h=>h.2 hL)];exact .inl hL
  ·rw[Qr ⟨h1.aL,hL⟩];split
   ·exact .inl rfl
   ·rename_i hlt;obtain⟨h2,h3,h4⟩:=Sg (v:=m.ab.Value) (n:=m.aI) hok.valid.1 hok.valid.2;exact .inr ⟨h3,by omega,h4⟩
theorem R7{m:af}(h:bc m)(h2:P2 m):P2 (cz m)/\m.ao.aj<=(cz m).ao.aj/\(cz m).aw=bL:=by
 unfold cz;rw[Qs (by rw[h2.aL,h2.aK.nz];decide)]
 have hv:da (dI m)=bL\/(da (dI m)).Value=m.ab.Value:=by
  rcases Mx h with e|⟨h3,h4,_⟩
  ·left;rw[e];decide
  ·right;have hc:(da (dI m)).Value=(dI m).Value:=by unfold da;split<;>rfl
   have hvo:zB m=m.ab.Value:=Qr h2.aL;rw[hvo]at h4;rw[hc];exact h4.resolve_left h2.aK.ne
 have hj:=Fk h h2.fL;have hlow:∀p q,n9 m p q=m.aI:=fun p q=>Qs (fun h=>by have:=h.1;rw[h2.aL]at this;cases this)
 simp only[hlow];have hok:=hj.ok h2.fL (vi h);generalize (ct m.ao m.aw (da (dI m))).1=p at hj hok;generalize (ct m.ao m.aw (da (dI m))).2=q at hj hok;generalize hb:da (dI m)=b at hj hv
 have key:cv p/\p.Value=m.ab.Value/\m.ao.aj<=p.aj/\q=bL:=by
  cases hj with
  |same=>exact⟨h2.cZ.1,h2.cZ.2,Int.le_refl _,h2.bI⟩
  |first hp hq=>exact absurd hp (HU h2.cZ.1)
  |up hp hl hc=>exact⟨hok.1.resolve_left (fun e=>by have:=gE hl;rw[e]at this;have h9:=h2.cZ.1.1;have:(bL:ae).aj=0:=rfl;omega),hc.symm.trans h2.cZ.2,gE hl,h2.bI⟩
  |An hp hl hc=>
   exfalso;rcases hv with e|e
   ·have:=gE hl;rw[e]at this;have h9:=h2.cZ.1.1;have:(bL:ae).aj=0:=rfl;omega
   ·exact hc (h2.cZ.2.trans e.symm)
  |under hp hl hc hq=>
   rcases hv with e|e
   ·exact⟨h2.cZ.1,h2.cZ.2,Int.le_refl _,e⟩
   ·exact absurd (e.trans h2.cZ.2.symm) hc
 exact⟨⟨h2.aL,h2.aK,⟨key.1,key.2.1⟩,key.2.2.2,h2.dw,⟨h2.range.1,h2.range.2.1,Int.le_trans h2.range.2.2 key.2.2.1⟩⟩,key.2.2.1,key.2.2.2⟩
theorem Mm{m:af}(h:bc m):bc (cz m):=by
 have hid:m.aH=3\/aC m.ab=true->cz m=m:=fun hc=>Qr hc
 have mk:(P0 (cz m)\/P1 (cz m)\/P2 (cz m)\/P3 (cz m))->bc (cz m):=by
  intro hb;unfold cz at hb ⊢;split at hb
  ·rename_i hc;rw[Qr hc];exact h
  ·rename_i hc;rw[Qs hc];exact⟨h.n0,h.n1,h.bz,h.seq,h.aO,h.n5,h.hv,h.mW,hb⟩
 rcases h.body with h0|h1|h2|h3
 ·rw[hid (.inr (by rw[h0.aK];exact bD))];exact h
 ·exact mk (.inr (.inl (Yr h h1)))
 ·exact mk (.inr (.inr (.inl (R7 h h2).1)))
 ·rw[hid (.inl h3.aL)];exact h
end Go.Proofs.YtkgenianmdfmdaaGreat
namespace Go.Proofs.YtkgenianmdfmdaaGreat
open Go.TQ
end Go.Proofs.YtkgenianmdfmdaaGreat
namespace Go.Proofs.YtkgenianmdfmdaaGreat
open Go.TQ
theorem qO(q:Int->Bool):∀(r:List Int) (lo:Int),cg q r lo<=lo
 |[],lo=>Int.le_refl _
 |e::r,lo=>by
  rw[cg];split
  ·exact qO q r lo
  ·split
   ·exact Int.le_trans (qO q r e) (by omega)
   ·exact Int.le_refl _
theorem yW(q:Int->Bool):∀(r:List Int) (lo:Int),cg q r lo=lo\/q (cg q r lo)=true/\cg q r lo∈r
 |[],lo=> .inl rfl
 |e::r,lo=>by
  rw[cg];split
  ·exact(yW q r lo).imp id fun h=>⟨h.1,by simp[h.2]⟩
  ·split
   ·rename_i hq;rcases yW q r e with h|h
    ·exact .inr ⟨by rw[h];exact hq,by rw[h];simp⟩
    ·exact .inr ⟨h.1,by simp[h.2]⟩
   ·exact .inl rfl
theorem yX(q:Int->Bool)(r:List Int)(lo:Int)(h:∀x∈r,1<=x)(h1:1<=lo):1<=cg q r lo:=by
 rcases yW q r lo with e|⟨_,e⟩
 ·omega
 ·exact h _ e
section
variable {ax : Nat} {t : al} {l : List ai} (p q : ae)
end
end Go.Proofs.YtkgenianmdfmdaaGreat
namespace Go.Proofs.YtkgenianmdfmdaaGreat
open Go.TQ
theorem X1{m:af}(h:bc m){p:ai->Bool}(hb:(c9 p (bJ (aR m))).testBit m.ar.toNat=true):aC m.ab=false/\p (gH m)=true:=by
 rw[tr,List.any_eq_true]at hb;obtain⟨e,he,hp⟩:=hb;rw[Qm,Qi]at hp;obtain⟨h1,h2⟩:=h.Yy ((List.mem_filter.1 he).1) hp.2;rw[<-h2];exact⟨h1,hp.1⟩
theorem PI{m:af}(h:bc m){b:ae}(hc:iL m.ar.toNat m.aa (aR m) b=true):aC m.ab=false/\cF (gH m) b=true:=by
 have hsm:=k9 (ax:=m.ar.toNat) h.aO.sm h.ev.jR.1;have hg:=zU hsm (kM (p:=(cF · b)) (ky (aR m)));exact X1 h (hg.inside _ hc).1
theorem RA{m:af}(h1:m.aH=1){b:ae}(ha:cF (gH m) b=true):aC b=false/\du m.ao m.aw b=true:=by
 have e:gH m=⟨m.ar,m.bm,bq (bU m).aG 1,m.aa,m.aH,m.ab,m.ao,m.aw,m.aI,ep m⟩:=by unfold gH bU;rw[Qr h1]
 rw[e]at ha;unfold cF at ha;rw[Qm,Qr h1]at ha;simpa using ha
theorem Vb{m:af}(h:bc m)(h1:P1 m):fg m=bL\/(cv (fg m)/\bd m.au (fg m)=true/\du m.ao m.aw (fg m)=true):=by
 unfold fg te;rcases Pr (l:=dQ (aR m)) (p:=td (iL m.ar.toNat m.aa (aR m)) m.au) (z:=vA)with e|⟨h2,h3⟩
 ·exact .inl e
 ·right;unfold td at h3;simp only[Qm,Qi]at h3;exact⟨Sv (C7 h h2) h3.1.2,h3.1.1,(RA h1.aL (PI h h3.2).2).2⟩
theorem YJ{p q b:ae}{v:ByteArray}{n:Int}(hok:pt p q)(hb:du p q b=true)(hv:b.Value≠v)(ha:kG p q v n=false):b.aj<=n:=by
 unfold kG at ha;rw[Bool.or_eq_false_iff]at ha
 have key:∀x:ae,aC x=false->x.Value≠v->dJ x ⟨n,v⟩=false->x.aj<=n:=by
  intro x hz hx h;unfold dJ at h;rw[hz,(gO (a:=x) (b:=⟨n,v⟩)).2 hx,Qp,Bool.and_self,Bool.true_and]at h;exact Hz h
 have hqp:aC q=false->cv q/\cv p/\bd q p=true/\q.Value≠p.Value:=fun hz=>by
  rcases hok.2 with e|⟨e1,e2,e3,e4⟩
  ·rw[e,bD]at hz;cases hz
  ·exact⟨e1,e2,e3,gO.1 e4⟩
 rw[yG]at hb;rcases hb with hb|hb|⟨hz,hl⟩
 ·obtain⟨h1,h2,h3⟩:=(jv _ _).1 hb;have:=key p h1 (by rw[h2];exact hv) ha.1
  omega
 ·obtain⟨h1,h2,h3⟩:=(jv _ _).1 hb;have:=key q h1 (by rw[h2];exact hv) ha.2
  omega
 ·obtain⟨e1,e2,e3,e4⟩:=hqp hz;have h5:=gE hl
  by_cases hqv:q.Value=v
  ·have:=key p e2.nz (by rw[<-hqv];exact fun e=>e4 e.symm) ha.1
   have:=gE e3;omega
  ·have:=key q hz hqv ha.2;omega
theorem abi{m:af}(h1:P1 m){b:ae}(hb:cv b)(hl:bd m.au b=true)(hp:du m.ao m.aw b=true):P1 (wW m b)/\(wW m b).ao=m.ao/\(wW m b).aw=m.aw/\(wW m b).au=b/\m.ab.aj<=(wW m b).ab.aj:=by
 unfold wW;have hh:=JN h1;split
 ·rename_i hlt
  have hhigh:∀L:Int,ep {m with au:=b,ab:=b,aI:=L}=b.aj:=by
   intro L;unfold ep;rw[Qr];rw[hb.nz,gS.2 rfl];rfl
  refine⟨⟨h1.aL,hb,h1.cZ,h1.bI,.inr ⟨hb,hp⟩,U5 b,h1.bH,?_⟩,rfl,rfl,rfl,gE hlt⟩;show(if bC m.ab b=true then m.aI else 0)=0\/(1<=(if bC m.ab b=true then m.aI else 0)/\(if bC m.ab b=true then m.aI else 0)<=ep {m with au:=b,ab:=b,aI:=if bC m.ab b=true then m.aI else 0}/\kG m.ao m.aw b.Value (if bC m.ab b=true then m.aI else 0)=false)
  rw[hhigh];split
  ·rename_i hc;rw[gS]at hc;rcases h1.low with e|⟨h2,h3,h4⟩
   ·exact .inl e
   ·refine .inr ⟨h2,?_,by rw[<-hc];exact h4⟩
    have:=gE hlt;omega
  ·exact .inl rfl
 ·rename_i hlt;have hlt:bd m.ab b=false:=by simpa using hlt
  refine⟨⟨h1.aL,h1.aK,h1.cZ,h1.bI,.inr ⟨hb,hp⟩,hlt,h1.bH,?_⟩,rfl,rfl,rfl,Int.le_refl _⟩;rcases h1.low with e|⟨h2,h3,h4⟩
  ·exact .inl e
  ·refine .inr ⟨h2,?_,h4⟩;show m.aI<=ep {m with au:=b}
   have hv:b.Value=m.ab.Value:=by
    refine Classical.byContradiction fun hv=> ?_
    have h5:=YJ h1.fL hp hv h4;have h6:=gE hl;rcases hh.2.2 with e|⟨e1,e2,e3⟩
    ·omega
    ·
     have e4:bd b m.au=false:=wv.asymm hl;have e5:=hl;rw[uo]at e5;have hbc:b.aj=m.au.aj:=by omega
     have hlow:m.aI=m.au.aj:=by omega
     have e6:bd ⟨m.aI,m.ab.Value⟩ b=true:=by
      have:(⟨m.aI,m.ab.Value⟩:ae)=m.au:=by rw[hlow,<-e2]
      rw[this];exact hl
     unfold kG at h4;rw[Bool.or_eq_false_iff]at h4
     have key:∀x:ae,aC x=false->x.Value≠m.ab.Value->dJ x ⟨m.aI,m.ab.Value⟩=false->bd ⟨m.aI,m.ab.Value⟩ x=false:=by
      intro x hz hx h;unfold dJ at h;rw[hz,(gO (a:=x) (b:=⟨m.aI,m.ab.Value⟩)).2 hx,Qp,Bool.and_self,Bool.true_and]at h;exact h
     rw[yG]at hp;rcases hp with hp|hp|⟨hz,hq⟩
     ·obtain⟨g1,g2,g3⟩:=(jv _ _).1 hp;have g4:=key _ g1 (by rw[g2];exact hv) h4.1
      have g5:bd ⟨m.aI,m.ab.Value⟩ m.ao=true:=by
       by_cases e:b=m.ao
       ·rw[<-e];exact e6
       ·exact km e6 (Ep (EN hp) (fun e'=>e e'.symm))
      rw[g5]at g4;cases g4
     ·obtain⟨g1,g2,g3⟩:=(jv _ _).1 hp;have g4:=key _ g1 (by rw[g2];exact hv) h4.2
      have g5:bd ⟨m.aI,m.ab.Value⟩ m.aw=true:=by
       by_cases e:b=m.aw
       ·rw[<-e];exact e6
       ·exact km e6 (Ep (EN hp) (fun e'=>e e'.symm))
      rw[g5]at g4;cases g4
     ·rcases h1.bI with e|⟨f1,f2,f3,f4⟩
      ·rw[e,bD]at hz;cases hz
      ·by_cases hqv:m.aw.Value=m.ab.Value
       ·have g4:=key _ f2.nz (by rw[<-hqv];exact fun e=>(gO.1 f4) e.symm) h4.1
        rw[km e6 (km hq f3)]at g4;cases g4
       ·have g4:=key _ hz hqv h4.2;rw[km e6 hq]at g4;cases g4
   have hhigh:ep {m with au:=b}=b.aj:=by
    unfold ep;rw[Qr];show(!aC b&&bC b m.ab)=true;rw[hb.nz,gS.2 hv];rfl
   rw[hhigh];rcases hh.2.2 with e|⟨e1,e2,e3⟩
   ·omega
   ·have:=gE hl;omega
theorem X3{m:af}(h1:P1 m){b:ae}(hb:cv b)(hc:m.au=b):P1 (mC m b):=by
 unfold mC;split
 ·rename_i hv;obtain⟨hL,hcp,hle⟩:=hv;rw[gS]at hcp;refine⟨h1.aL,h1.aK,h1.cZ,h1.bI,h1.dw,h1.up,h1.bH,?_⟩;obtain⟨h2,h3,h4⟩:=Sg (v:=b.Value) (n:=m.ab.aj) h1.fL.valid.1 h1.fL.valid.2;refine .inr ⟨h3,?_,by show kG m.ao m.aw m.ab.Value _=false;rw[hcp];exact h4⟩
  show jm b.Value m.ab.aj m.ao m.aw<=ep {m with aI:=jm b.Value m.ab.aj m.ao m.aw}
  have hhigh:ep {m with aI:=jm b.Value m.ab.aj m.ao m.aw}=b.aj:=by
   unfold ep;rw[Qr]
   ·show m.au.aj=_;rw[hc]
   ·show(!aC m.au&&bC m.au m.ab)=true;rw[hc,hb.nz,gS.2 hcp.symm];rfl
  rw[hhigh];exact hle
 ·exact h1
theorem S6(m:af)(b:ae):(mC m b).ao=m.ao/\(mC m b).aw=m.aw/\(mC m b).au=m.au/\(mC m b).ab=m.ab:=by
 unfold mC;split<;>exact⟨rfl,rfl,rfl,rfl⟩
theorem oJ{m:af}(h:m.aH≠1\/aC m.ab=true\/aC (fg m)=true):fX m=m:=Qr h
theorem zP{m m':af}(h:bc m)(he:m'.ar=m.ar/\m'.bm=m.bm/\m'.aG=m.aG/\m'.aa=m.aa/\m'.bb=m.bb/\m'.az=m.az)(hb:P0 m'\/P1 m'\/P2 m'\/P3 m'):bc m':=by
 obtain⟨e1,e2,e3,e4,e5,e6⟩:=he;exact⟨by rw[e1];exact h.n0,by rw[e1];exact h.n1,by rw[e2];exact h.bz,by rw[e3];exact h.seq,by rw[e4];exact h.aO,by rw[e5];exact h.n5,by rw[e6,e1,e2];exact h.hv,by rw[e6];exact h.mW,hb⟩
structure fe (m m':af):Prop where
 ax:m'.ar=m.ar
 bz:m'.bm=m.bm
 seq:m'.aG=m.aG
 aO:m'.aa=m.aa
 n5:m'.bb=m.bb
 heard:m'.az=m.az
theorem fe.refl(m:af):fe m m:=⟨rfl,rfl,rfl,rfl,rfl,rfl⟩
theorem fe.all{m m':af}(h:fe m m'):m'.ar=m.ar/\m'.bm=m.bm/\m'.aG=m.aG/\m'.aa=m.aa/\m'.bb=m.bb/\m'.az=m.az:=⟨h.ax,h.bz,h.seq,h.aO,h.n5,h.heard⟩
theorem uk(m:af):fe m (cz m):=by unfold cz;split<;>exact⟨rfl,rfl,rfl,rfl,rfl,rfl⟩
theorem YV(m:af)(b:ae):fe m (wW m b):=by unfold wW;split<;>exact⟨rfl,rfl,rfl,rfl,rfl,rfl⟩
theorem Uu(m:af)(b:ae):fe m (mC m b):=by unfold mC;split<;>exact⟨rfl,rfl,rfl,rfl,rfl,rfl⟩
theorem qv(m:af):fe m (fX m):=by
 unfold fX;split
 ·exact .refl m
 ·have h1:=Uu (wW m (fg m)) (fg m);have h2:=YV m (fg m);exact⟨h1.ax.trans h2.ax,h1.bz.trans h2.bz,h1.seq.trans h2.seq,h1.aO.trans h2.aO,h1.n5.trans h2.n5,h1.heard.trans h2.heard⟩
theorem qx(m:af):fe m (fj m):=by
 unfold fj EO vH;split
 ·split<;>exact⟨rfl,rfl,rfl,rfl,rfl,rfl⟩
 ·split<;>exact⟨rfl,rfl,rfl,rfl,rfl,rfl⟩
theorem qw(m:af):fe m (iT m):=by unfold iT Fx;split<;>exact⟨rfl,rfl,rfl,rfl,rfl,rfl⟩
theorem wO(m:af):fe m (eH m):=by unfold eH;split<;>exact⟨rfl,rfl,rfl,rfl,rfl,rfl⟩
theorem K5{m:af}(h:bc m)(h1:P1 m):P1 (fX m)/\(fX m=m\/((fX m).ao=m.ao/\(fX m).aw=m.aw/\bd m.au (fX m).au=true/\m.ab.aj<=(fX m).ab.aj)):=by
 unfold fX;split
 ·exact⟨h1,.inl rfl⟩
 ·rename_i hc;rcases Vb h h1 with e|⟨hf,hl,hp⟩
  ·exact absurd (.inr (.inr (by rw[e];exact bD))) hc
  ·obtain⟨g1,g2,g3,g4,g5⟩:=abi h1 hf hl hp;obtain⟨v1,v2,v3,v4⟩:=S6 (wW m (fg m)) (fg m);exact⟨X3 g1 hf g4,.inr ⟨v1.trans g2,v2.trans g3,by rw[v3,g4];exact hl,by rw[v4];exact g5⟩⟩
theorem Mk{m:af}(h:bc m):bc (fX m):=by
 rcases h.body with h0|h1|h2|h3
 ·rw[oJ (.inr (.inl (by rw[h0.aK];exact bD)))];exact h
 ·exact zP h (qv m).all (.inr (.inl (K5 h h1).1))
 ·rw[oJ (.inl (by rw[h2.aL];decide))];exact h
 ·rw[oJ (.inl (by rw[h3.aL];decide))];exact h
theorem wi{m:af}(h:bc m)(v:ByteArray):∀x∈aY (aR m) v,1<=x/\x<=1000:=z6 h.ev.jR.1 h.ev.jR.2 v
theorem VX{m:af}(h:bc m):∀v∈eY (aR m),1<=v.size/\v.size<=200:=by
 intro v hv;obtain⟨e,he,h1,h2⟩:=((mV h.ev.jR.1.aO h.ev.jR.2).2.2.2 v).1 hv;rw[h2];exact Gr h1
theorem Uf{m:af}(h:bc m){x:ByteArray->Int->Int->Bool}{p q:ae}:(fE x (aR m) p q).1=false\/(cv (fE x (aR m) p q).2/\(fE x (aR m) p q).2.Value∈eY (aR m)/\(fE x (aR m) p q).2.aj∈aY (aR m) (fE x (aR m) p q).2.Value/\
  kG p q (fE x (aR m) p q).2.Value (fE x (aR m) p q).2.aj=false/\x (fE x (aR m) p q).2.Value (fE x (aR m) p q).2.aj (fE x (aR m) p q).2.aj=true):=by
 let G:Bool×ae->Prop:=fun s=>s.1=false\/(cv s.2/\s.2.Value∈eY (aR m)/\s.2.aj∈aY (aR m) s.2.Value/\kG p q s.2.Value s.2.aj=false/\x s.2.Value s.2.aj s.2.aj=true)
 have inner:∀(v:ByteArray),v∈eY (aR m)->∀(b:List Int),(∀n∈b,n∈aY (aR m) v)->∀s,G s->G (b.foldl (eO x p q v) s):=by
  intro v hv b
  induction b with
  |nil=>intro _ s hs;exact hs
  |cons n b ih=>
   intro hb s hs;rw[QU];refine ih (fun k hk=>hb k (Qy _ hk)) _ ?_
   unfold eO;split
   ·rename_i hc;simp only[Qm,Bool.not_eq_true']at hc;have hn:=hb n Qx;have h1:=wi h v n hn;have h2:=VX h v hv;exact .inr ⟨⟨h1.1,h1.2,h2.1,h2.2⟩,hv,hn,hc.1.2,hc.2⟩
   ·exact hs
 have outer:∀(vs:List ByteArray),(∀v∈vs,v∈eY (aR m))->∀s,G s->G (vs.foldl (fun s v=>(aY (aR m) v).foldl (eO x p q v) s) s):=by
  intro vs
  induction vs with
  |nil=>intro _ s hs;exact hs
  |cons v vs ih=>
   intro hv s hs;rw[QU];exact ih (fun u hu=>hv u (Qy _ hu)) _ (inner v (hv v Qx) _ (fun n hn=>hn) s hs)
 exact outer _ (fun v hv=>hv) (false,⟨0,eZ⟩) (.inl rfl)
structure abO (m:af) (v:ByteArray) (lo hi:Int):Prop where
 fin:cv ⟨hi,v⟩
 Z8:1<=lo
 le:lo<=hi
 val:v∈eY (aR m)
 top:fq m v hi hi=true
 all:fq m v lo hi=true
theorem EC{m:af}(h:bc m)(hk:(ew m).2.2.2.1=true):abO m (ew m).1 (ew m).2.1 (ew m).2.2.1:=by
 rcases Uf (x:=fq m) (p:=m.ao) (q:=m.aw) h with e|⟨h1,h2,h3,h4,h5⟩
 ·unfold ew ml at hk;rw[e]at hk;cases hk
 ·have hb:(fE (fq m) (aR m) m.ao m.aw).1=true:=by
   unfold ew ml at hk;split at hk
   ·assumption
   ·cases hk
  have e:ew m=((fE (fq m) (aR m) m.ao m.aw).2.Value,cg (fun n=> !kG m.ao m.aw (fE (fq m) (aR m) m.ao m.aw).2.Value n&&fq m (fE (fq m) (aR m) m.ao m.aw).2.Value n (fE (fq m) (aR m) m.ao m.aw).2.aj) (aY (aR m) (fE (fq m) (aR m) m.ao m.aw).2.Value).reverse (fE (fq m) (aR m) m.ao m.aw).2.aj,(fE (fq m) (aR m) m.ao m.aw).2.aj,true,()):=by
   unfold ew ml;rw[Qr hb]
  rw[e];refine⟨h1,yX _ _ _ (fun x hx=>(wi h _ x (List.mem_reverse.1 hx)).1) h1.1,qO _ _ _,h2,h5,?_⟩
  simp only;rcases yW (fun n=> !kG m.ao m.aw (fE (fq m) (aR m) m.ao m.aw).2.Value n&&fq m (fE (fq m) (aR m) m.ao m.aw).2.Value n (fE (fq m) (aR m) m.ao m.aw).2.aj) (aY (aR m) (fE (fq m) (aR m) m.ao m.aw).2.Value).reverse (fE (fq m) (aR m) m.ao m.aw).2.aj with e|⟨e,_⟩
  ·rw[e];exact h5
  ·rw[Qm]at e;exact e.2
theorem PJ{m:af}(hb0:m.ab=bL\/cv m.ab)(hp0:m.ao=bL\/cv m.ao){v:ByteArray}{lo hi:Int}(hf:cv ⟨hi,v⟩)(hlo:1<=lo)(hle:lo<=hi):P2 (EO m v lo hi):=by
 unfold EO
 have hmax:cv ⟨bq m.ab.aj hi,v⟩:=by
  rcases hb0 with e|h2
  ·have:bq m.ab.aj hi=hi:=by
    have h3:=hf.1;simp only at h3;have h4:m.ab.aj=0:=by rw[e];rfl
    unfold bq;split<;>omega
   rw[this];exact hf
  ·have:bq m.ab.aj hi=m.ab.aj\/bq m.ab.aj hi=hi:=by unfold bq;split<;>simp
   rcases this with e|e<;>rw[e]
   ·exact⟨h2.1,h2.2.1,hf.2.2⟩
   ·exact hf
 have hbv:∀b:ae,b=(if(!bC m.ab ⟨hi,v⟩||bd m.ab ⟨hi,v⟩)=true then⟨bq m.ab.aj hi,v⟩else m.ab)->cv b/\b.Value=v:=by
  intro b hb;split at hb
  ·rw[hb];exact⟨hmax,rfl⟩
  ·rename_i hc;rw[hb];simp only[Qn,Bool.not_eq_true',not_or,Bool.not_eq_false]at hc;refine⟨hb0.resolve_left (fun e=> ?_),gS.1 hc.1⟩
   have:=gS.1 hc.1;rw[e]at this;exact hf.ne this.symm
 obtain⟨b1,b2⟩:=hbv _ rfl
 have hpv:∀p:ae,p=(if gY m.ao ⟨hi,v⟩=true then m.ao else⟨hi,v⟩)->cv p/\p.Value=v/\hi<=p.aj:=by
  intro p hp;split at hp
  ·rename_i hc;rw[hp];obtain⟨g1,g2,g3⟩:=(jv _ _).1 hc;refine⟨?_,g2,g3⟩;rcases hp0 with e|e
   ·rw[e,bD]at g1;cases g1
   ·exact e
  ·rw[hp];exact⟨hf,rfl,Int.le_refl _⟩
 obtain⟨p1,p2,p3⟩:=hpv _ rfl;exact⟨rfl,b1,⟨p1,p2.trans b2.symm⟩,rfl,.inr ⟨hf,b2.symm⟩,⟨hlo,hle,p3⟩⟩
theorem Pu{m:af}(h:bc m)(h2:P2 m):1<=(dH m).1/\(dH m).1<=(dH m).2/\(dH m).2<=1000/\(((dH m).2=m.aQ/\(dH m).1<=m.aI)\/m.aQ<(dH m).2):=by
 have hr:=h2.range;have hH:m.aQ<=1000:=by have:=h2.cZ.1.2.1;omega
 have hb:∀x∈(aY (aR m) m.ab.Value).reverse,1<=x:=fun x hx=>(wi h _ x (List.mem_reverse.1 hx)).1
 unfold dH AI;split
 ·refine⟨yX _ _ _ hb hr.1,?_,hH,.inl ⟨rfl,qO _ _ _⟩⟩;exact Int.le_trans (qO _ _ _) hr.2.1
 ·rename_i n hn;have hnb:=wi h _ n (List.mem_reverse.1 (List.mem_of_find?_eq_some hn));have hnp:=List.find?_some hn;simp only[Qm,Qi]at hnp;have h5:1<=cg (fun x=>fq m m.ab.Value x n) (aY (aR m) m.ab.Value).reverse n:=yX _ _ _ hb hnb.1
  have h6:=qO (fun x=>fq m m.ab.Value x n) (aY (aR m) m.ab.Value).reverse n
  simp only;refine⟨yX _ _ _ hb ?_,?_,hnb.2,.inr hnp.1⟩
  ·split
   ·exact h5
   ·exact hr.1
  ·refine Int.le_trans (qO _ _ _) ?_;split
   ·exact h6
   ·omega
theorem TY{m:af}(h2:P2 m){lo hi:Int}(hlo:1<=lo)(hle:lo<=hi)(hhi:hi<=1000):P2 (vH m lo hi):=by
 unfold vH;have hb:=h2.aK;have hp:=h2.cZ;have e1:∀c:Int,bq c hi=c\/bq c hi=hi:=fun c=>by unfold bq;split<;>simp
 have e2:∀c:Int,hi<=bq c hi:=fun c=>by unfold bq;split<;>omega
 have mx:∀c:Int,c<=1000->cv ⟨bq c hi,m.ab.Value⟩:=by
  intro c hc;refine⟨by have:=e2 c;simp only;omega,?_,hb.2.2.1,hb.2.2.2⟩
  rcases e1 c with e|e<;>simp only[e]<;>omega
 refine⟨h2.aL,mx _ hb.2.1,⟨?_,?_⟩,h2.bI,.inr ⟨mx _ ?_,rfl⟩,⟨hlo,hle,e2 _⟩⟩
 ·show cv ⟨bq m.ao.aj hi,m.ao.Value⟩;rw[hp.2];exact mx _ hp.1.2.1
 ·exact hp.2
 ·rcases h2.dw with e|e
  ·rw[e];decide
  ·exact e.1.2.1
theorem Ms{m:af}(h:bc m):bc (fj m):=by
 refine zP h (qx m).all ?_;unfold fj;rcases h.body with h0|h1|h2|h3
 ·rw[Qr h0.aL];split
  ·rename_i hk;have hf:=EC h hk;exact .inr (.inr (.inl (PJ (.inl h0.aK) (.inl h0.cZ) hf.fin hf.Z8 hf.le)))
  ·exact .inl h0
 ·rw[Qr h1.aL];split
  ·rename_i hk;have hf:=EC h hk;exact .inr (.inr (.inl (PJ (.inr h1.aK) h1.cZ hf.fin hf.Z8 hf.le)))
  ·exact .inr (.inl h1)
 ·rw[Qs (by rw[h2.aL];decide),Qr h2.aL]
  have:=Pu h h2;exact .inr (.inr (.inl (TY h2 this.1 this.2.1 this.2.2.1)))
 ·rw[Qs (by rw[h3.aL];decide),Qs (by rw[h3.aL];decide)]
  exact .inr (.inr (.inr h3))
theorem aap{m:af}(h:bc m)(hk:(kD m).2.2.1=true):1<=(kD m).1/\(kD m).1<=(kD m).2.1/\(kD m).2.1<=1000/\BS m m.ab.Value (kD m).1 (kD m).2.1=true:=by
 unfold kD sS at hk ⊢;split at hk
 ·rename_i n hn;have hnb:=wi h _ n (List.mem_reverse.1 (List.mem_of_find?_eq_some hn));have hs:=List.find?_some hn;simp only;refine⟨yX _ _ _ (fun x hx=>(wi h _ x (List.mem_reverse.1 hx)).1) hnb.1,qO _ _ _,hnb.2,?_⟩
  rcases yW (fun x=>BS m m.ab.Value x n) (aY (aR m) m.ab.Value).reverse n with e|⟨e,_⟩
  ·rw[e];exact hs
  ·exact e
 ·cases hk
theorem R9{m:af}(h:bc m)(h2:P2 m)(hk:(kD m).2.2.1=true):P3 (Fx m (kD m).1 (kD m).2.1):=by
 obtain⟨g1,g2,g3,_⟩:=aap h hk;unfold Fx;exact⟨rfl,⟨by simp only;omega,g3,h2.aK.2.2.1,h2.aK.2.2.2⟩,rfl,rfl,rfl,⟨g1,g2,g3⟩⟩
theorem Mq{m:af}(h:bc m):bc (iT m):=by
 refine zP h (qw m).all ?_;unfold iT;split
 ·rename_i hc;rcases h.body with h0|h1|h2|h3
  ·have:=h0.aL;have:=hc.1;omega
  ·have:=h1.aL;have:=hc.1;omega
  ·exact .inr (.inr (.inr (R9 h h2 hc.2)))
  ·have:=h3.aL;have:=hc.1;omega
 ·exact h.body
theorem TN{z:ae}:∀{l:List ae},l≠[]->EA z l∈l
 |[],h=>absurd rfl h
 |x::l,_=>by
  show l.foldl (fun a y=>if bd a y=true then y else a) x∈x::l
  suffices key:∀(l:List ae) (a:ae),l.foldl (fun a y=>if bd a y=true then y else a) a=a\/l.foldl (fun a y=>if bd a y=true then y else a) a∈l by
   rcases key l x with e|e
   ·rw[e];exact Qx
   ·exact Qy _ e
  intro l
  induction l with
  |nil=>intro a;exact .inl rfl
  |cons y l ih=>
   intro a;rw[QU];rcases ih (if bd a y=true then y else a)with e|e
   ·rw[e];split
    ·exact .inr Qx
    ·exact .inl rfl
   ·exact .inr (Qy _ e)
theorem Yb{t:al}(h:gA t){s:Nat}(hs:∀k,k<10->s.testBit k=true):js s t=true:=by
 have hn:∀x:Int,0<=x->x<10->jL s x=true:=by
  intro x h0 h1;unfold jL dW;rw[Qg h0,Qg h1,hs _ (by omega)]
  rfl
 have hc:t.bn.countP (jL s)=t.bn.length:=List.countP_eq_length.2 fun x hx=>hn x (h.nodes x hx).1 (h.nodes x hx).2
 have hi:tw s t.aN=t.aN.length:=by
  rcases h.inner with e|⟨x,h0,h1,e⟩
  ·rw[e];rfl
  ·rw[e]
   have:js s ⟨1,[x],[]⟩=true:=by
    rw[Fe];simp[List.countP_cons,hn x h0 h1,tw]
   simp[tw,this]
 rw[Fe,hc,hi,Qi];have:=h.th.2;omega
theorem Km{m:af}(h:bc m){n:Int}(ha:fW m n=true):∃e∈m.az,n<dX e:=by
 refine Classical.byContradiction fun hno=> ?_
 have hz:y7 m n=0:=by
  refine yh fun k=> ?_
  unfold y7;rw[tr,Nat.zero_testBit,List.any_eq_false];intro e he;have:¬n<dX e:=fun hlt=>hno ⟨e,he,hlt⟩
  simp[this]
 unfold fW rM at ha;rw[hz,Qm]at ha
 have hown:jV (fh m.ar.toNat m.aa (aR m)) m.ar.toNat=m.aa:=by
  unfold jV;rw[Ds h.ev.ax.2 m.aa (aR m) h.ev.ax.2,Qr rfl];rfl
 rw[hown,Yb h.aO (fun k hk=>by rw[xN (by omega)];simp[hk])]at ha
 cases ha.2
theorem RW{m:af}(h:bc m)(h1:m.aH=1)(hc:m.au=bL\/cv m.au)(hh:m.az≠[]\/m.bb≠eZ\/m.au≠bL):1<=(db m).size/\(db m).size<=200:=by
 unfold db;split
 ·rename_i hz;rcases hc with e|e
  ·rw[e,bD]at hz;cases hz
  ·exact e.2.2
 ·rename_i hz;have hz:aC m.au=true:=by simpa using hz
  rw[Qs (fun h=>h h1)]
  split
  ·rename_i hp;refine⟨?_,h.n5⟩;rcases Nat.eq_zero_or_pos m.bb.size with e|e
   ·exfalso;apply hp;have:m.bb.data=#[]:=Array.eq_empty_of_size_eq_zero e
    cases hm:m.bb with
    |mk d=>rw[hm]at this;simp only at this;rw[this];rfl
   ·exact e
  ·rename_i hp
   have hne:m.az≠[]:=by
    rcases hh with e|e|e
    ·exact e
    ·exact absurd e hp
    ·exact absurd (ua.1 hz) e
   have hm:=TN (z:=bL) (l:=m.az.map (·.ab)) (by simpa using hne)
   obtain⟨e,he,heq⟩:=QP.1 hm;rw[<-heq];exact Gr (h.hv e he).1
theorem Vr{e:ai}(hv:aJ e=true):1<=dX e/\(dX e<=1000\/dX e=1000000):=by
 unfold dX;split
 ·exact⟨by decide,.inr rfl⟩
 ·rename_i h3;have hv':=hv;unfold aJ fo at hv';rw[Qm,Qm]at hv';have hb:=hv'.2
  have gof:∀{b:ae},finite b=true->1<=b.aj/\b.aj<=1000:=by
   intro b hb;unfold finite at hb;rw[Qm,Qi]at hb;have:=(Sv hb.1 hb.2);exact⟨this.1,this.2.1⟩
  by_cases h1:e.br=1
  ·rw[Qr h1]at hb;unfold fL at hb;simp only[Qm]at hb;have:=gof hb.1.1.1.1.1.1.1.1;exact⟨this.1,.inl this.2⟩
  ·rw[Qs h1]at hb
   by_cases h2:e.br=2
   ·rw[Qr h2]at hb;unfold qP at hb;simp only[Qm]at hb;have:=gof hb.1.1.1.1.1;exact⟨this.1,.inl this.2⟩
   ·rw[Qs h2,Qs h3]at hb;cases hb
theorem Vy(m:af):fJ m=1000000\/(m.ab.aj<fJ m/\fJ m<1000000/\fW m (fJ m)=false/\∃e∈m.az,fJ m=dX e):=by
 unfold fJ
 suffices key:∀(l:List ai),(∀e∈l,e∈m.az)->∀s,(s=1000000\/(m.ab.aj<s/\s<1000000/\fW m s=false/\∃e∈m.az,s=dX e))->
   (l.foldl (jZ m) s=1000000\/(m.ab.aj<l.foldl (jZ m) s/\l.foldl (jZ m) s<1000000/\fW m (l.foldl (jZ m) s)=false/\∃e∈m.az,l.foldl (jZ m) s=dX e))from key _ (fun e he=>he) _ (.inl rfl)
 intro l
 induction l with
 |nil=>intro _ s hs;exact hs
 |cons x l ih=>
  intro hm s hs;rw[QU];refine ih (fun e he=>hm e (Qy _ he)) _ ?_
  unfold jZ;split
  ·rename_i hc;exact .inr ⟨hc.1,by rcases hs with e|e<;>omega,hc.2.2,x,hm x Qx,rfl⟩
  ·exact hs
theorem ER{m:af}(h:bc m)(hb:0<=m.ab.aj/\m.ab.aj<=1000):m.ab.aj<=bq m.ab.aj (dG (fJ m) 1000)/\bq m.ab.aj (dG (fJ m) 1000)<=1000/\1<=bq m.ab.aj (dG (fJ m) 1000)/\
  (bq m.ab.aj (dG (fJ m) 1000)=m.ab.aj->m.ab.aj=1000)/\bq m.ab.aj (dG (fJ m) 1000)=dG (fJ m) 1000:=by
 have hmin:dG (fJ m) 1000<=1000/\1<=dG (fJ m) 1000/\(m.ab.aj<dG (fJ m) 1000\/dG (fJ m) 1000=1000):=by
  rcases Vy m with e|⟨g1,g2,_,x,hx,g4⟩
  ·rw[e];exact⟨by decide,by decide,.inr (by decide)⟩
  ·have hc:=Vr (h.hv x hx).1;rw[<-g4]at hc;have:fJ m<=1000:=by omega
   have e:dG (fJ m) 1000=fJ m:=by unfold dG;split<;>omega
   rw[e];omega
 unfold bq;split<;>omega
theorem K6{m:af}(h:bc m)(h1:P0 m\/P1 m)(ha:fW m m.ab.aj=true):P1 (eH m):=by
 have hph:m.aH=1:=by rcases h1 with h|h<;>exact h.aL
 have hbc:0<=m.ab.aj/\m.ab.aj<=1000:=by
  rcases h1 with h|h
  ·rw[h.aK];decide
  ·have:=h.aK;exact⟨by have:=this.1;omega,this.2.1⟩
 obtain⟨c1,c2,c3,_⟩:=ER h hbc;obtain⟨e0,he0,_⟩:=Km h ha
 have hconf:m.au=bL\/cv m.au:=by
  rcases h1 with h|h
  ·exact .inl h.dw
  ·exact h.dw.imp id (·.1)
 have hv:=RW h hph hconf (.inl (List.ne_nil_of_mem he0));unfold eH;rw[Qs (by rw[hph,ha];decide)]
 have hnv:lg m=db m:=Qr hph;rw[hnv];generalize hn:bq m.ab.aj (dG (fJ m) 1000)=n at c1 c2 c3 ⊢
 have hpo:pt m.ao m.aw:=by
  rcases h1 with h|h
  ·exact⟨.inl h.cZ,.inl h.bI⟩
  ·exact h.fL
 refine⟨hph,⟨c3,c2,hv.1,hv.2⟩,hpo.1,hpo.2,?_,?_,?_,?_⟩
 ·rcases h1 with h|h
  ·exact .inl h.dw
  ·exact h.dw
 ·show bd ⟨n,db m⟩ m.au=false;rcases hconf with e|e
  ·rw[e]
   cases hl:bd ⟨n,db m⟩ bL with
   |false=>rfl
   |true=>have:=gE hl;have h0:(bL:ae).aj=0:=rfl;simp only at this;omega
  ·have hvc:db m=m.au.Value:=by unfold db;rw[Qr e.nz]
   rw[Cq (show(⟨n,db m⟩:ae).Value=m.au.Value from hvc),Qj]
   rcases h1 with h|h
   ·exact absurd h.dw (HU e)
   ·have:=Hz h.up;simp only;omega
 ·rcases h1 with h|h<;>exact h.bH
 ·show(if db m=m.ab.Value then m.aI else 0)=0\/(1<=(if db m=m.ab.Value then m.aI else 0)/\_<=_/\kG m.ao m.aw (db m) (if db m=m.ab.Value then m.aI else 0)=false)
  split
  ·rename_i hve;rcases h1 with h|h
   ·exact .inl h.low
   ·rcases h.low with e|⟨g1,g2,g3⟩
    ·exact .inl e
    ·refine .inr ⟨g1,?_,by rw[hve];exact g3⟩
     have:ep {m with aI:=m.aI,ab:=⟨n,db m⟩}=ep m:=by
      unfold ep bC;simp only[hve]
     show m.aI<=ep {m with aI:=m.aI,ab:=⟨n,db m⟩}
     rw[this];exact g2
  ·exact .inl rfl
theorem R8{m:af}(h:bc m)(h2:P2 m):P2 (eH m):=by
 unfold eH;split
 ·exact h2
 ·obtain⟨c1,c2,c3,_⟩:=ER h ⟨by have:=h2.aK.1;omega,h2.aK.2.1⟩
  have hnv:lg m=m.ab.Value:=Qs (by rw[h2.aL];decide)
  rw[hnv,Qr rfl];exact⟨h2.aL,⟨c3,c2,h2.aK.2.2⟩,h2.cZ,h2.bI,h2.dw,h2.range⟩
theorem Mo{m:af}(h:bc m):bc (eH m):=by
 have hid:m.aH=3\/fW m m.ab.aj=false->eH m=m:=fun hc=>Qr hc
 cases ha:fW m m.ab.aj with
 |false=>rw[hid (.inr ha)];exact h
 |true=>
  refine zP h (wO m).all ?_;rcases h.body with h0|h1|h2|h3
  ·exact .inr (.inl (K6 h (.inl h0) ha))
  ·exact .inr (.inl (K6 h (.inr h1) ha))
  ·exact .inr (.inr (.inl (R8 h h2)))
  ·rw[hid (.inl h3.aL)];exact .inr (.inr (.inr h3))
end Go.Proofs.YtkgenianmdfmdaaGreat
namespace Go.Proofs.YtkgenianmdfmdaaGreat
open Go.TQ
theorem lexLt{a a' b b' B:Nat}(hb:b<B)(h:a<a'):a*B+b<a'*B+b':=by
 have h1:(a+1)*B<=a'*B:=Nat.mul_le_mul_right B h;rw[Nat.add_mul]at h1;omega
theorem wD{a a' b b' B:Nat}(h:a=a')(hb:b<b'):a*B+b<a'*B+b':=by rw[h];omega
theorem Cp{a b A B:Nat}(ha:a<A)(hb:b<B):a*B+b<A*B:=by
 have h1:(a+1)*B<=A*B:=Nat.mul_le_mul_right B ha;rw[Nat.add_mul]at h1;omega
theorem cv.sm{b:ae}(h:cv b):Sm b:=⟨by have:=h.1;omega,h.2.1,h.2.2.2⟩
theorem UX:Sm bL:=⟨by decide,by decide,by decide⟩
theorem oI{b:ae}(h:b=bL\/cv b):Sm b:=by
 rcases h with rfl|h
 ·exact UX
 ·exact h.sm
theorem Lv{b:ae}(h:cv b):lK bL<lK b:=qD UX h.sm ((uo _ _).2 (.inl h.1))
 def t1(m:af):Nat:=2*m.ab.aj.toNat+(if m.ab.Value=lg m then 1 else 0)
 def pq(m:af):Nat:=lK m.ao*WB+lK m.aw
 def r1(m:af):Nat:=(pq m*WB+lK m.au)*2002+t1 m
def K1:Nat:=(WB*WB)*WB*2002
 def r2(m:af):Nat:=(((m.aQ.toNat*1001+(1000 - m.aI).toNat)*WB+lK m.ao)*WB+lK m.au)*1001+m.ab.aj.toNat
def K2:Nat:=((1001*1001)*WB*WB)*1001
 def iK(m:af):Nat:=if m.aH=1 then r1 m else if m.aH=2 then K1+r2 m else K1+K2
def wB(m:af):Prop:=(m.ao=bL\/cv m.ao)/\(m.aw=bL\/cv m.aw)/\(m.au=bL\/cv m.au)/\(m.ab=bL\/cv m.ab)
theorem P0.ok{m:af}(h:P0 m):wB m:=⟨.inl h.cZ,.inl h.bI,.inl h.dw,.inl h.aK⟩
theorem P1.ok{m:af}(h:P1 m):wB m:=⟨h.cZ,h.bI.imp id (·.1),h.dw.imp id (·.1),.inr h.aK⟩
theorem P2.ok{m:af}(h:P2 m):wB m:=⟨.inr h.cZ.1,.inl h.bI,h.dw.imp id (·.1),.inr h.aK⟩
theorem S9{m:af}(h:wB m):t1 m<2002:=by
 have:m.ab.aj<=1000:=by
  rcases h.2.2.2 with e|e
  ·rw[e];decide
  ·exact e.2.1
 unfold t1;split<;>omega
theorem aa7{m:af}(h:wB m):pq m<WB*WB:=Cp (mP (oI h.1)) (mP (oI h.2.1))
theorem Tp{m:af}(h:wB m):r1 m<K1:=Cp (Cp (aa7 h) (mP (oI h.2.2.1))) (S9 h)
theorem P2.bH{m:af}(h:P2 m):m.aQ<=1000:=by have:=h.range.2.2;have:=h.cZ.1.2.1;omega
theorem XG{m:af}(h:P2 m):r2 m<K2:=by
 have h1:=h.range;have h2:=h.bH;refine Cp (Cp (Cp (Cp (A:=1001) ?_ ?_) (mP h.cZ.1.sm)) (mP (oI h.ok.2.2.1))) ?_
 ·omega
 ·omega
 ·have:=h.aK.2.1;omega
theorem uO{m:af}(h:m.aH=1):iK m=r1 m:=Qr h
theorem uN{m:af}(h:m.aH=2):iK m=K1+r2 m:=by unfold iK;rw[Qs (by omega),Qr h]
theorem UH{m:af}(h:m.aH=3):iK m=K1+K2:=by unfold iK;rw[Qs (by omega),Qs (by omega)]
theorem R3{m:af}(h:bc m):iK m<=K1+K2:=by
 rcases h.body with h0|h1|h2|h3
 ·rw[uO h0.aL];have:=Tp h0.ok;omega
 ·rw[uO h1.aL];have:=Tp h1.ok;omega
 ·rw[uN h2.aL];have:=XG h2;omega
 ·rw[UH h3.aL];exact QI _
theorem rO.up_{p q b p' q':ae}(h:pt p q)(hb:b=bL\/cv b)(hj:rO p q b p' q'):(p'=p/\q'=q)\/lK p*WB+lK q<lK p'*WB+lK q':=by
 have hok:=hj.ok h hb;have hp:=oI h.1;have hq:Sm q:=oI (h.2.imp id (·.1))
 cases hj with
 |same=>exact .inl ⟨rfl,rfl⟩
 |first h1 h2=>
  subst h1 h2;rcases hb with e|e
  ·exact .inl ⟨e,rfl⟩
  ·exact .inr (lexLt (mP hq) (Lv e))
 |up h1 hl hc=>exact .inr (lexLt (mP hq) (qD hp (oI hb) hl))
 |An h1 hl hc=>exact .inr (lexLt (mP hq) (qD hp (oI hb) hl))
 |under h1 hl hc hq'=>
  rcases hq' with e|e
  ·subst e;rcases hb with e2|e2
   ·exact .inl ⟨rfl,e2⟩
   ·exact .inr (wD rfl (Lv e2))
  ·exact .inr (wD rfl (qD hq (oI hb) e))
theorem tD{m m':af}(he:fe m m')(h1:m'.aH=m.aH)(h2:m'.ab=m.ab)(h3:m'.ao=m.ao)(h4:m'.aw=m.aw)(h5:m'.au=m.au)(h6:m'.aI=m.aI)(h7:m'.aQ=m.aQ):m'=m:=by
 obtain⟨e1,e2,e3,e4,e5,e6⟩:=he;cases m;cases m';simp only at*;subst e1 e2 e3 e4 e5 e6 h1 h2 h3 h4 h5 h6 h7;rfl
theorem Od{m m':af}(he:fe m m')(h:lJ m m'=true):m'=m:=by
 unfold lJ at h;simp only[Qm,Qi,qo]at h;obtain⟨⟨⟨⟨⟨⟨h1,h2⟩,h3⟩,h4⟩,h5⟩,h6⟩,h7⟩:=h;exact tD he h1.symm h2.symm h3.symm h4.symm h5.symm h6.symm h7.symm
theorem rl(m:af):lJ m m=true:=by
 unfold lJ;simp only[decide_true,qo.2 rfl,Bool.and_self]
theorem aa5{m m':af}(h:wB m)(hlt:pq m<pq m'):r1 m<r1 m':=lexLt (S9 h) (lexLt (mP (oI h.2.2.1)) hlt)
theorem acy{m m':af}(h:wB m)(hpq:pq m=pq m')(hlt:lK m.au<lK m'.au):r1 m<r1 m':=lexLt (S9 h) (wD hpq hlt)
theorem acx{m m':af}(hpq:pq m=pq m')(hc:m.au=m'.au)(hlt:t1 m<t1 m'):r1 m<r1 m':=wD (by rw[hpq,hc]) hlt
theorem I7{m:af}(h1:P1 m):n9 m m.ao m.aw=m.aI:=by
 unfold n9;split
 ·rename_i hc;rcases h1.low with e|⟨g1,g2,g3⟩
  ·exact absurd e hc.2
  ·rw[U1 g1 g3,Qs (by omega)]
 ·rfl
theorem ack{m:af}(h:bc m):cz m=m\/iK m<iK (cz m):=by
 have hid:m.aH=3\/aC m.ab=true->cz m=m:=fun hc=>Qr hc
 rcases h.body with h0|h1|h2|h3
 ·exact .inl (hid (.inr (by rw[h0.aK];exact bD)))
 ·have hj:=(Fk h h1.fL).up_ h1.fL (vi h);have he:cz m={m with ao:=(ct m.ao m.aw (da (dI m))).1,aw:=(ct m.ao m.aw (da (dI m))).2,aI:=n9 m (ct m.ao m.aw (da (dI m))).1 (ct m.ao m.aw (da (dI m))).2}:=Qs (by rw[h1.aL,h1.aK.nz];decide)
  rcases hj with⟨e1,e2⟩|hlt
  ·left;rw[he,e1,e2,I7 h1]
  ·right;rw[uO h1.aL,uO (by rw[he];exact h1.aL)]
   exact aa5 h1.ok (by rw[he];exact hlt)
 ·have hj:=(Fk h h2.fL).up_ h2.fL (vi h);have hk:=R7 h h2;have he:cz m={m with ao:=(ct m.ao m.aw (da (dI m))).1,aw:=(ct m.ao m.aw (da (dI m))).2,aI:=n9 m (ct m.ao m.aw (da (dI m))).1 (ct m.ao m.aw (da (dI m))).2}:=Qs (by rw[h2.aL,h2.aK.nz];decide)
  have hlow:∀p q,n9 m p q=m.aI:=fun p q=>Qs (fun h=>by have:=h.1;rw[h2.aL]at this;cases this)
  rcases hj with⟨e1,e2⟩|hlt
  ·left;rw[he,e1,e2,hlow]
  ·right;rw[uN h2.aL,uN (by rw[he];exact h2.aL)]
   have e2:(ct m.ao m.aw (da (dI m))).2=m.aw:=by
    have h3:=hk.2.2;rw[he]at h3;exact h3.trans h2.bI.symm
   have hp:lK m.ao<lK (cz m).ao:=by
    rw[he];simp only;rw[e2]at hlt;refine Nat.lt_of_not_le fun hle=> ?_
    have:=Nat.mul_le_mul_right WB hle;omega
   have e3:(cz m).aQ=m.aQ/\(cz m).aI=m.aI/\(cz m).au=m.au/\(cz m).ab=m.ab:=by rw[he];exact⟨rfl,hlow _ _,rfl,rfl⟩
   have:r2 m<r2 (cz m):=by
    unfold r2;rw[e3.1,e3.2.1,e3.2.2.1,e3.2.2.2];exact lexLt (by have:=h2.aK.2.1;omega) (lexLt (mP (oI h2.ok.2.2.1)) (wD rfl hp))
   omega
 ·exact .inl (hid (.inl h3.aL))
theorem acj{m:af}(h:bc m):fX m=m\/iK m<iK (fX m):=by
 rcases h.body with h0|h1|h2|h3
 ·exact .inl (oJ (.inr (.inl (by rw[h0.aK];exact bD))))
 ·obtain⟨g1,g2⟩:=K5 h h1;rcases g2 with e|⟨e1,e2,e3,_⟩
  ·exact .inl e
  ·right;rw[uO h1.aL,uO g1.aL];exact acy h1.ok (by unfold pq;rw[e1,e2]) (qD (oI h1.ok.2.2.1) (oI g1.ok.2.2.1) e3)
 ·exact .inl (oJ (.inl (by rw[h2.aL];decide)))
 ·exact .inl (oJ (.inl (by rw[h3.aL];decide)))
theorem Jn(a b:Int):(bq a b=a/\b<=a)\/(bq a b=b/\a<b):=by unfold bq;split<;>omega
theorem lM{a b:ae}(h1:a.aj=b.aj)(h2:a.Value=b.Value):a=b:=by cases a;cases b;simp only at h1 h2;rw[h1,h2]
theorem aco{m:af}(h:bc m):fj m=m\/iK m<iK (fj m):=by
 have hC:m.aH=1->wB m->fj m=m\/iK m<iK (fj m):=by
  intro hp hok
  by_cases hk:(ew m).2.2.2.1=true
  ·right;have e:fj m=EO m (ew m).1 (ew m).2.1 (ew m).2.2.1:=by unfold fj;rw[Qr hp,Qr hk]
   rw[uO hp,uN (by rw[e];rfl)]
   have:=Tp hok;omega
  ·left;unfold fj;rw[Qr hp,Qs hk]
 rcases h.body with h0|h1|h2|h3
 ·exact hC h0.aL h0.ok
 ·exact hC h1.aL h1.ok
 ·have e:fj m=vH m (dH m).1 (dH m).2:=by unfold fj;rw[Qs (by rw[h2.aL];decide),Qr h2.aL]
  obtain⟨g1,g2,g3,g4⟩:=Pu h h2;have h2':=TY h2 g1 g2 g3;rw[e]
  have hr:m.aQ.toNat<=1000/\(1000 - m.aI).toNat<1001/\m.ab.aj.toNat<1001:=by
   have:=h2.bH;have:=h2.range;have:=h2.aK.2.1;omega
  have hcB:m.au=(vH m (dH m).1 (dH m).2).au\/lK m.au<lK (vH m (dH m).1 (dH m).2).au:=by
   rcases h2.dw with e|⟨hf,hv⟩
   ·right;rw[e]
    exact Lv (h2'.dw.resolve_left (fun e=>by
     have h1:=h2'.range;have h3:(vH m (dH m).1 (dH m).2).au.aj=bq m.au.aj (dH m).2:=rfl;rw[e]at h3;have h4:=Jn m.au.aj (dH m).2;have h5:(bL:ae).aj=0:=rfl
     omega)).1
   ·rcases Jn m.au.aj (dH m).2 with⟨e1,_⟩|⟨e1,e2⟩
    ·exact .inl (lM e1.symm hv)
    ·right;refine qD hf.sm (oI h2'.ok.2.2.1) ((uo _ _).2 (.inl ?_));show m.au.aj<bq m.au.aj (dH m).2;omega
  have hpB:m.ao=(vH m (dH m).1 (dH m).2).ao\/lK m.ao<lK (vH m (dH m).1 (dH m).2).ao:=by
   rcases Jn m.ao.aj (dH m).2 with⟨e1,_⟩|⟨e1,e2⟩
   ·exact .inl (lM e1.symm rfl)
   ·right;refine qD h2.cZ.1.sm h2'.cZ.1.sm ((uo _ _).2 (.inl ?_));show m.ao.aj<bq m.ao.aj (dH m).2;omega
  have hbB:m.ab=(vH m (dH m).1 (dH m).2).ab\/m.ab.aj<(vH m (dH m).1 (dH m).2).ab.aj:=by
   rcases Jn m.ab.aj (dH m).2 with⟨e1,_⟩|⟨e1,e2⟩
   ·exact .inl (lM e1.symm rfl)
   ·right;show m.ab.aj<bq m.ab.aj (dH m).2;omega
  rw[uN h2.aL,uN h2'.aL];have hPs:=mP h2.cZ.1.sm;have hCs:=mP (oI h2.ok.2.2.1);have hHi:(vH m (dH m).1 (dH m).2).aQ=(dH m).2:=rfl;have hLo:(vH m (dH m).1 (dH m).2).aI=(dH m).1:=rfl;have fin:r2 m<r2 (vH m (dH m).1 (dH m).2)->K1+r2 m<K1+r2 (vH m (dH m).1 (dH m).2):=fun h=>by omega
  have hrng:=h2.range;rcases g4 with⟨e1,e2⟩|e1
  ·rcases Int.lt_or_eq_of_le e2 with e3|e3
   ·
    refine .inr (fin (lexLt hr.2.2 (lexLt hCs (lexLt hPs (wD ?_ ?_)))))
    ·rw[hHi,e1]
    ·rw[hLo];omega
   ·rcases hpB with hp|hp
    ·rcases hcB with hc|hc
     ·rcases hbB with hb|hb
      ·left;exact tD ⟨rfl,rfl,rfl,rfl,rfl,rfl⟩ rfl hb.symm hp.symm rfl hc.symm e3 e1
      ·refine .inr (fin (wD ?_ (by have:=h2.aK.1;omega)))
       rw[hHi,hLo,<-hp,<-hc,e1,e3]
     ·refine .inr (fin (lexLt hr.2.2 (wD ?_ hc)));rw[hHi,hLo,<-hp,e1,e3]
    ·refine .inr (fin (lexLt hr.2.2 (lexLt hCs (wD ?_ hp))));rw[hHi,hLo,e1,e3]
  ·refine .inr (fin (lexLt hr.2.2 (lexLt hCs (lexLt hPs (lexLt hr.2.1 ?_)))));rw[hHi];omega
 ·left;unfold fj;rw[Qs (by rw[h3.aL];decide),Qs (by rw[h3.aL];decide)]
theorem acn{m:af}(h:bc m):iT m=m\/iK m<iK (iT m):=by
 by_cases hc:m.aH=2/\(kD m).2.2.1=true
 ·right;have e:iT m=Fx m (kD m).1 (kD m).2.1:=Qr hc;rw[uN hc.1,UH (by rw[e];rfl)]
  rcases h.body with h0|h1|h2|h3
  ·have:=h0.aL;have:=hc.1;omega
  ·have:=h1.aL;have:=hc.1;omega
  ·have:=XG h2;omega
  ·have:=h3.aL;have:=hc.1;omega
 ·exact .inl (Qs hc)
theorem acm{m:af}(h:bc m):eH m=m\/iK m<iK (eH m):=by
 have hid:m.aH=3\/fW m m.ab.aj=false->eH m=m:=fun hc=>Qr hc
 cases ha:fW m m.ab.aj with
 |false=>exact .inl (hid (.inr ha))
 |true=>
  have hC:m.aH=1->wB m->0<=m.ab.aj/\m.ab.aj<=1000->eH m=m\/iK m<iK (eH m):=by
   intro hp hok hb;obtain⟨c1,c2,c3,c4,_⟩:=ER h hb;have e:eH m={m with aI:=if lg m=m.ab.Value then m.aI else 0,ab:=⟨bq m.ab.aj (dG (fJ m) 1000),lg m⟩}:=Qs (by rw[hp,ha];decide)
   have hnv:lg (eH m)=lg m:=by
    unfold lg db;rw[e];simp only[hp,Qt,not_true_eq_false,Qu,ne_eq]
   by_cases hs:bq m.ab.aj (dG (fJ m) 1000)=m.ab.aj/\lg m=m.ab.Value
   ·left;rw[e];refine tD ⟨rfl,rfl,rfl,rfl,rfl,rfl⟩ rfl (lM hs.1 hs.2) rfl rfl rfl ?_ rfl;exact Qr hs.2
   ·right;rw[uO hp,uO (by rw[e];exact hp)]
    refine acx (by rw[e];rfl) (by rw[e]) ?_
    unfold t1;rw[hnv];have hb':(eH m).ab=⟨bq m.ab.aj (dG (fJ m) 1000),lg m⟩:=by rw[e]
    rw[hb',Qr rfl];simp only
    by_cases hv:lg m=m.ab.Value
    ·rw[Qr hv.symm];have:bq m.ab.aj (dG (fJ m) 1000)≠m.ab.aj:=fun e=>hs ⟨e,hv⟩
     omega
    ·rw[Qs (fun e=>hv e.symm)]
     omega
  rcases h.body with h0|h1|h2|h3
  ·exact hC h0.aL h0.ok (by rw[h0.aK];decide)
  ·exact hC h1.aL h1.ok ⟨by have:=h1.aK.1;omega,h1.aK.2.1⟩
  ·obtain⟨c1,c2,c3,c4,_⟩:=ER h ⟨by have:=h2.aK.1;omega,h2.aK.2.1⟩
   have hnv:lg m=m.ab.Value:=Qs (by rw[h2.aL];decide)
   have e:eH m={m with ab:=⟨bq m.ab.aj (dG (fJ m) 1000),m.ab.Value⟩}:=by
    unfold eH;rw[Qs (by rw[h2.aL,ha];decide),hnv,Qr rfl]
   rw[e]
   by_cases hs:bq m.ab.aj (dG (fJ m) 1000)=m.ab.aj
   ·left;exact tD ⟨rfl,rfl,rfl,rfl,rfl,rfl⟩ rfl (lM hs rfl) rfl rfl rfl rfl rfl
   ·right;rw[uN h2.aL,uN (show({m with ab:=⟨bq m.ab.aj (dG (fJ m) 1000),m.ab.Value⟩}:af).aH=2 from h2.aL)]
    have:r2 m<r2 {m with ab:=⟨bq m.ab.aj (dG (fJ m) 1000),m.ab.Value⟩}:=by
     refine wD rfl ?_;have:=h2.aK.1;show m.ab.aj.toNat<(bq m.ab.aj (dG (fJ m) 1000)).toNat;omega
    omega
  ·exact .inl (hid (.inl h3.aL))
end Go.Proofs.YtkgenianmdfmdaaGreat
namespace Go.Proofs.YtkgenianmdfmdaaGreat
open Go.TQ
def abL(p:ai->Bool):Prop:=∀e s,p {e with aG:=s}=p e
structure Alike (l l':List ai):Prop where
 view:∀ax,ax<10->∀t,fh ax t l=fh ax t l'
 RU:∀p,abL p->c9 p (bJ l)=c9 p (bJ l')
 bal:dQ l=dQ l'
 val:eY l=eY l'
 gZ:∀v,aY l v=aY l' v
section
variable {l l' : List ai} (h : Alike l l')
 include h
theorem Alike.acc{ax:Nat}(hn:ax<10)(t:al):jo ax t l=jo ax t l':=by
 funext b
 unfold jo;rw[h.view ax hn t,h.RU _ (fun e s=>rfl),h.RU _ (fun e s=>rfl)]
theorem Alike.dw{ax:Nat}(hn:ax<10)(t:al):iL ax t l=iL ax t l':=by
 funext b
 unfold iL;rw[h.view ax hn t,h.RU _ (fun e s=>rfl)]
theorem Alike.ready{ax:Nat}(hn:ax<10)(t:al):jI ax t l=jI ax t l':=by
 funext v lo hi
 unfold jI;rw[h.view ax hn t,h.RU _ (fun e s=>rfl),h.RU _ (fun e s=>rfl)]
theorem Alike.sure{ax:Nat}(hn:ax<10)(t:al):oV ax t l=oV ax t l':=by
 funext v lo hi
 unfold oV;rw[h.view ax hn t,h.RU _ (fun e s=>rfl)]
theorem Alike.next{ax:Nat}(hn:ax<10)(t:al)(p q:ae)(v:ByteArray):gQ ax t l p q v=gQ ax t l' p q v:=by
 unfold gQ;rw[h.bal,h.acc hn t]
theorem Alike.bH{ax:Nat}(hn:ax<10)(t:al)(a:ae):te ax t l a=te ax t l' a:=by
 unfold te;rw[h.bal,h.dw hn t]
theorem Alike.EW(x:ByteArray->Int->Int->Bool)(p q:ae):fE x l p q=fE x l' p q:=by
 unfold fE;rw[h.val];congr 1
 funext s v
 rw[h.gZ]
theorem Alike.first(x:ByteArray->Int->Int->Bool)(p q:ae)(s:Bool×ae):ml x l p q s=ml x l' p q s:=by
 unfold ml;rw[h.gZ]
end
theorem Kl{l l':List ai}(hl:oq l)(hn:l.length<=1000)(hl':oq l')(hn':l'.length<=1000)
  (h1:∀x,(∃e∈l,x∈said e/\aC x=false)↔∃e∈l',x∈said e/\aC x=false) (h2:∀x,(∃e∈l,aJ e=true/\x=e.ab.Value)↔∃e∈l',aJ e=true/\x=e.ab.Value)
  (h3:∀v x,x∈ends v l↔x∈ends v l'):dQ l=dQ l'/\eY l=eY l'/\∀v,aY l v=aY l' v:=by
 obtain⟨_,a2,_,a4⟩:=kp hl.aO hn;obtain⟨_,b2,_,b4⟩:=kp hl'.aO hn';obtain⟨_,c2,_,c4⟩:=mV hl.aO hn;obtain⟨_,d2,_,d4⟩:=mV hl'.aO hn';refine⟨wv.flip.unique a2 b2 fun x=> ?_,wu.unique c2 d2 fun x=> ?_,fun v=> ?_⟩
 ·rw[a4,b4];exact h1 x
 ·rw[c4,d4];exact h2 x
 ·obtain⟨_,e2,_,e4⟩:=gz hl.aO hn v;obtain⟨_,f2,_,f4⟩:=gz hl'.aO hn' v;refine ya.unique (e2.imp fun h=>Qg h) (f2.imp fun h=>Qg h) fun x=> ?_
  rw[e4,f4];exact h3 v x
theorem Uj{l l':List ai}(hl:oq l)(hn:l.length<=1000)(ha:wL l)(h:l.Perm l'):Alike l l':=by
 have hl':oq l':=⟨by rw[<-h.length_eq];exact hl.len,fun e he=>hl.aO e (h.mem_iff.2 he)⟩
 have hm:∀(P:ai->Prop),(∃e∈l,P e)↔∃e∈l',P e:=fun P=>⟨fun⟨e,he,hp⟩=>⟨e,h.mem_iff.1 he,hp⟩,fun⟨e,he,hp⟩=>⟨e,h.mem_iff.2 he,hp⟩⟩
 obtain⟨a,b,c⟩:=Kl hl hn hl' (by rw[<-h.length_eq];exact hn) (fun x=>hm _) (fun x=>hm _) (fun v x=>by rw[vS,vS];exact hm _)
 exact⟨fun ax hn t=>S7 hn t ha h,fun p _=>Us (Rv h) p,a,b,c⟩
theorem VG{l:List ai}(hl:oq l)(hn:l.length<=1000)(f:ai->ai)(hf:∀e∈l,f e={e with aG:=(f e).aG}/\aJ (f e)=aJ e):Alike l (l.map f):=by
 have e1:∀e∈l,(f e).ar=e.ar/\(f e).aa=e.aa/\(f e).ab=e.ab/\(f e).br=e.br/\(f e).ao=e.ao/\(f e).aw=e.aw/\(f e).aI=e.aI/\(f e).aQ=e.aQ:=fun e he=>by
  have:=(hf e he).1;rw[this];exact⟨rfl,rfl,rfl,rfl,rfl,rfl,rfl,rfl⟩
 have hl':oq (l.map f):=⟨by rw[QC];exact hl.len,fun e he=>by
  obtain⟨x,hx,rfl⟩:=QP.1 he
  rw[(e1 x hx).2.1];exact hl.aO x hx⟩
 have hm:∀(P:ai->Prop),(∀e∈l,P e↔P (f e))->((∃e∈l,P e)↔∃e∈l.map f,P e):=fun P hP=>⟨fun⟨e,he,hp⟩=>⟨f e,QP.2 ⟨e,he,rfl⟩,(hP e he).1 hp⟩,fun⟨e,he,hp⟩=>by
  obtain⟨x,hx,rfl⟩:=QP.1 he
  exact⟨x,hx,(hP x hx).2 hp⟩⟩
 have hsaid:∀e∈l,said (f e)=said e:=fun e he=>by
  obtain⟨g1,g2,g3,g4,g5,g6,g7,g8⟩:=e1 e he;unfold said at_
  rw[(hf e he).2,g4,g3,g5,g6]
 have hbnd:∀v,∀e∈l,gm v (f e)=gm v e:=fun v e he=>by
  obtain⟨g1,g2,g3,g4,g5,g6,g7,g8⟩:=e1 e he;unfold gm;simp only[(hf e he).2,g4,g3,g7,g8]
 obtain⟨a,b,c⟩:=Kl hl hn hl' (by rw[QC];exact hn) (fun x=>hm _ fun e he=>by rw[hsaid e he]) (fun x=>hm _ fun e he=>by rw[(hf e he).2,(e1 e he).2.2.1])
  (fun v x=>by rw[vS,vS];exact hm _ fun e he=>by rw[hbnd v e he,(e1 e he).2.2.2.2.2.2.1,(e1 e he).2.2.2.2.2.2.2])
 refine⟨fun ax hn t=> ?_,fun p hp=> ?_,a,b,c⟩
 ·unfold fh;generalize (List.replicate 10 ft).set ax ⟨true,t⟩=ms
  suffices key:∀(k:List ai) (ms:List bg),(∀e∈k,e∈l)->k.foldl c6 ms=(k.map f).foldl c6 ms from key l ms fun e he=>he
  intro k
  induction k with
  |nil=>intro ms _;rfl
  |cons x k ih=>
   intro ms hk;have hx:=hk x Qx
   have:c6 ms (f x)=c6 ms x:=by
    unfold c6;rw[(hf x hx).2,(e1 x hx).1,(e1 x hx).2.1]
   rw[QD,QU,QU,this];exact ih _ fun e he=>hk e (Qy _ he)
 ·unfold bJ
  suffices key:∀(k:List ai),(∀e∈k,e∈l)->c9 p (k.filter aJ)=c9 p ((k.map f).filter aJ)from key l fun e he=>he
  intro k
  induction k with
  |nil=>intro _;rfl
  |cons x k ih=>
   intro hk;have hx:=hk x Qx
   have hpx:p (f x)=p x:=by
    rw[(hf x hx).1];exact hp x _
   rw[QD,List.filter_cons,List.filter_cons,(hf x hx).2];split
   ·rw[c9,c9,hpx,(e1 x hx).1,ih fun e he=>hk e (Qy _ he)]
   ·exact ih fun e he=>hk e (Qy _ he)
structure fY (m:af):Prop where
 zero:aC m.ab=true->m.aG=0
 pos:aC m.ab=false->1<=m.aG
def Ei(m:af):ai:=⟨m.ar,m.bm,m.aG,m.aa,m.aH,m.ab,m.ao,m.aw,m.aI,if m.aH=1 then ep m else m.aQ⟩
theorem wP(m:af):dn m=some (Ei m):=by
 unfold dn Ei ep;simp only[aW,al.eta,cy,eJ,Qa]
 by_cases h1:m.aH=1
 ·rw[Qg h1,Qr h1];cases aC m.au<;>cases bC m.au m.ab<;>rfl
 ·rw[Qh h1,Qs h1];rfl
theorem Bh{m:af}(h:bc m):Ei m=bU m:=by
 unfold Ei bU;rcases h.body with h0|h1|h2|h3
 ·rw[Qr h0.aL,Qr h0.aL]
 ·rw[Qr h1.aL,Qr h1.aL]
 ·rw[Qs (by rw[h2.aL];decide),Qs (by rw[h2.aL];decide),Qr h2.aL,h2.bI]
 ·rw[Qs (by rw[h3.aL];decide),Qs (by rw[h3.aL];decide),Qs (by rw[h3.aL];decide),h3.bI,h3.cZ]
theorem Sa{m:af}(hs:fY m)(hz:aC m.ab=false):gH m=bU m:=by
 unfold gH
 have:bq (bU m).aG 1=(bU m).aG:=by
  have:=hs.pos hz;rw[Pv];unfold bq;split<;>omega
 rw[this]
def rB(m:af):List ai:=if aC m.ab=true then m.az else m.az++[Ei m]
theorem Vw{l:List ai}(hl:l.length<=1000):ea l=some l:=by
 unfold ea;have h1:bx 176 (List.length ([]:List ai)+List.length l)=true:=bZ (by simp;omega)
 rw[h1]
 cases l with
 |nil=>simp
 |cons x l=>rfl
theorem Eg{m:af}(h:m.az.length<=100):cP ⟨m⟩=some (rB m,⟨m⟩):=by
 unfold cP rB;simp only[af.eta,al.eta,ai.eta,ay.eta,cy,wP,Qa,Vw (show m.az.length<=1000 by omega)]
 cases aC m.ab with
 |true=>rfl
 |false=>
  simp only[Ql,Qq,Qu];rw[bZ (by simp;omega)]
  rfl
theorem bc.apart{m:af}(h:bc m):wL (aR m):=by
 have hs:∀a∈m.az,∀b∈m.az,a.ar=b.ar->a=b:=by
  have:=h.mW;revert this;generalize m.az=l;intro hp
  induction l with
  |nil=>intro a ha;cases ha
  |cons x l ih=>
   rw[Q4]at hp;intro a ha b hb e;rcases QA.1 ha with ha'|ha'<;>rcases QA.1 hb with hb'|hb'
   ·rw[ha',hb']
   ·have:=hp.1 b hb';rw[ha']at e;omega
   ·have:=hp.1 a ha';rw[hb']at e;omega
   ·exact ih hp.2 a ha' b hb' e
 intro a ha b hb e;rcases wo ha with ha|⟨_,rfl⟩<;>rcases wo hb with hb|⟨_,rfl⟩
 ·exact hs a ha b hb e
 ·exact absurd (e.trans (qN m)) (h.hv a ha).2.2.2
 ·exact absurd (e.symm.trans (qN m)) (h.hv b hb).2.2.2
 ·rfl
theorem Mt{m:af}(h:bc m)(hs:fY m):(aR m).Perm (rB m):=by
 unfold aR rB;split
 ·exact .refl _
 ·rename_i hz;rw[Bh h,<-Sa hs (by simpa using hz)]
  exact zT _ _
theorem kl{m:af}(h:bc m)(hs:fY m):Alike (aR m) (rB m):=Uj h.ev.jR.1 h.ev.jR.2 h.apart (Mt h hs)
theorem oK{m:af}(h:bc m)(hs:fY m):oq (rB m)/\(rB m).length<=1000:=by
 have hp:=Mt h hs;have:=h.ev.jR;exact⟨⟨by rw[<-hp.length_eq];exact this.1.len,fun e he=>this.1.aO e (hp.mem_iff.2 he)⟩,by rw[<-hp.length_eq];exact this.2⟩
section
variable {m : af} (h : bc m) (hs : fY m)
 include h hs
theorem ZZ(p q:ae)(v:ByteArray):lZ m.ar m.aa (rB m) p q v=some (gQ m.ar.toNat m.aa (aR m) p q v):=by
 have:=Yu h.ev.ax.2 h.ev.aO (oK h hs).1 (oK h hs).2 p q v
 rwa [h.ev.ax.1,<-(kl h hs).next h.ev.ax.2]at this
theorem Z0(a:ae):jG m.ar m.aa (rB m) a=some (te m.ar.toNat m.aa (aR m) a):=by
 have:=Yv h.ev.ax.2 h.ev.aO (oK h hs).1 (oK h hs).2 a
 rwa [h.ev.ax.1,<-(kl h hs).bH h.ev.ax.2]at this
theorem Yw:oB m.ar m.aa (rB m) m.ao m.aw=some (ew m):=by
 have hl:=oK h hs;have:=aaK (Ox h.ev.ax.2 h.ev.aO hl.1) hl.1 hl.2 (look_eq h.ev.ax.2 h.ev.aO hl.1) m.ao m.aw;rw[h.ev.ax.1,<-(kl h hs).ready h.ev.ax.2,<-(kl h hs).EW,<-(kl h hs).first]at this
 exact this
theorem aba:nB m.ar m.aa (rB m) m.ab.Value m.aI m.aQ=some ((dH m).1,(dH m).2,()):=by
 have hl:=oK h hs;have:=ZB (Ox h.ev.ax.2 h.ev.aO hl.1) hl.1 hl.2 (look_eq h.ev.ax.2 h.ev.aO hl.1) m.ab.Value m.aI m.aQ;rw[h.ev.ax.1,<-(kl h hs).ready h.ev.ax.2,<-(kl h hs).gZ]at this;exact this
theorem aa9:oC m.ar m.aa (rB m) m.ab.Value=some (kD m):=by
 have hl:=oK h hs;have:=aaL (X8 h.ev.ax.2 h.ev.aO hl.1) hl.1 hl.2 (look_eq h.ev.ax.2 h.ev.aO hl.1) m.ab.Value;rw[h.ev.ax.1,<-(kl h hs).sure h.ev.ax.2,<-(kl h hs).gZ]at this;exact this
end
theorem Mh(v:ByteArray)(n:Int)(p q:ae):mB v n p q=some (jm v n p q):=by
 unfold mB jm;generalize bq n 1=k
 have hst:∀(i:Nat) (x:ae) (k:Int),i<2->[p,q][i]?=some x->
   (fun(v1:Int×Int×Unit)=>
    bif (decide (v1.2.1<((List.length [p,q]:Nat):Int)))then
    bj (fun(v2:Int×Unit)=>some (Sum.inl (v2.1,(aA .i64 v1.2.1 (1:Int)),()))) fun j3=>
    Option.bind (idx [p,q] v1.2.1) fun x4=>
    Option.bind (fI x4) fun r5=>
    Option.bind (bif (!r5)then some true else Option.bind (dD x4 (ae.mk v1.1 v)) fun r6=>some (!r6)) fun b7=>
    bif b7 then j3 (v1.1,())
    else Option.bind (dD x4 (ae.mk x4.aj v)) fun r8=>
     bif r8 then j3 ((aA .i64 x4.aj (1:Int)),())else j3 (x4.aj,())
    else(Option.map Sum.inr (some v1.1):Option ((Int×Int×Unit)⊕Int))) (k,(i:Int),())=some (Sum.inl (s8 v k x,((i+1:Nat):Int),())):=by
  intro i x k hi hx;have hd:decide ((i:Int)<((List.length [p,q]:Nat):Int))=true:=Qg (by simp;omega)
  have hw:aA .i64 (i:Int) 1=((i+1:Nat):Int):=bM (by omega) (by omega)
  have hx':idx [p,q] (i:Int)=some x:=by rw[bB];exact hx
  simp only[hd,hw,hx',Qk,aW,Qa,qZ,pU];unfold s8
  cases hv:cn x with
  |false=>simp
  |true=>
   have hc:aA .i64 x.aj 1=x.aj+1:=by
    have:1<=x.aj/\x.aj<=1000000:=by
     simp only[cn,Qm,Qn,Qi]at hv;omega
    exact bM (by omega) (by omega)
   cases h1:dJ x ⟨k,v⟩with
   |false=>simp
   |true=>cases h2:dJ x ⟨x.aj,v⟩<;>simp[hc]
 refine(bl (hst 0 p k (by omega) rfl)).trans ((bl (hst 1 q _ (by omega) rfl)).trans (bS ?_))
 rfl
theorem Wy(b:ae):(⟨dG b.aj 1000,b.Value⟩:ae)=da b:=by
 unfold dG da;split<;>rfl
section
variable {m : af} (h : bc m) (hs : fY m)
 include h
theorem Tz(hz:aC (dI m)=true):cz m=m:=by
 have hid:m.aH=3\/aC m.ab=true->cz m=m:=fun hc=>Qr hc
 have hj:ct m.ao m.aw (da (dI m))=(m.ao,m.aw):=by
  have:da (dI m)=bL:=by rw[ua.1 hz];decide
  rw[this];exact Qr bD
 have he:¬(m.aH=3\/aC m.ab=true)->n9 m m.ao m.aw=m.aI->cz m=m:=by
  intro hc hl;unfold cz;rw[Qs hc,hj];simp only;rw[hl]
 rcases h.body with h0|h1|h2|h3
 ·exact hid (.inr (by rw[h0.aK];exact bD))
 ·exact he (by rw[h1.aL,h1.aK.nz];decide) (I7 h1)
 ·exact he (by rw[h2.aL,h2.aK.nz];decide) (Qs (fun h=>by have:=h.1;rw[h2.aL]at this;cases this))
 ·exact hid (.inl h3.aL)
 include hs
theorem Tw:jk ⟨m⟩=some ((),⟨cz m⟩):=by
 have hl:m.az.length<=100:=by have:=h.len;omega
 unfold jk;simp only[af.eta,al.eta,ay.eta,cy,Eg hl,ZZ h hs,Yp,Mh,wP,Qa,aW,Wy]
 by_cases h3:m.aH=3\/aC m.ab=true
 ·have e:cz m=m:=Qr h3;rw[e];rcases h3 with h3|h3
  ·rw[Qg h3];cases aC m.ab<;>rfl
  ·rw[h3];rfl
 ·have hz:aC m.ab=false:=by
   cases hz:aC m.ab with
   |true=>exact absurd (.inr hz) h3
   |false=>rfl
  have h3':¬m.aH=3:=fun e=>h3 (.inl e)
  rw[hz,Qh h3'];simp only[Ql,Qa]
  have hmain:∀v:ByteArray,v=zB m->(bif aC (gQ m.ar.toNat m.aa (aR m) m.ao m.aw v)then some ((),(⟨m⟩:ay))else
    Option.bind (bif decide (m.aH=1)then some (!decide (m.aI=0))else some false) fun b9=>
    bif b9 then
     bif decide ((Ei ⟨m.ar,m.bm,m.aG,m.aa,m.aH,m.ab,(ct m.ao m.aw (da (gQ m.ar.toNat m.aa (aR m) m.ao m.aw v))).1,(ct m.ao m.aw (da (gQ m.ar.toNat m.aa (aR m) m.ao m.aw v))).2,m.au,jm m.ab.Value m.aI (ct m.ao m.aw (da (gQ m.ar.toNat m.aa (aR m) m.ao m.aw v))).1 (ct m.ao m.aw (da (gQ m.ar.toNat m.aa (aR m) m.ao m.aw v))).2,m.aQ,m.bb,m.az⟩).aQ<jm m.ab.Value m.aI (ct m.ao m.aw (da (gQ m.ar.toNat m.aa (aR m) m.ao m.aw v))).1 (ct m.ao m.aw (da (gQ m.ar.toNat m.aa (aR m) m.ao m.aw v))).2)then
      some ((),(⟨⟨m.ar,m.bm,m.aG,m.aa,m.aH,m.ab,(ct m.ao m.aw (da (gQ m.ar.toNat m.aa (aR m) m.ao m.aw v))).1,(ct m.ao m.aw (da (gQ m.ar.toNat m.aa (aR m) m.ao m.aw v))).2,m.au,0,m.aQ,m.bb,m.az⟩⟩:ay))
     else some ((),(⟨⟨m.ar,m.bm,m.aG,m.aa,m.aH,m.ab,(ct m.ao m.aw (da (gQ m.ar.toNat m.aa (aR m) m.ao m.aw v))).1,(ct m.ao m.aw (da (gQ m.ar.toNat m.aa (aR m) m.ao m.aw v))).2,m.au,jm m.ab.Value m.aI (ct m.ao m.aw (da (gQ m.ar.toNat m.aa (aR m) m.ao m.aw v))).1 (ct m.ao m.aw (da (gQ m.ar.toNat m.aa (aR m) m.ao m.aw v))).2,m.aQ,m.bb,m.az⟩⟩:ay))
    else some ((),(⟨⟨m.ar,m.bm,m.aG,m.aa,m.aH,m.ab,(ct m.ao m.aw (da (gQ m.ar.toNat m.aa (aR m) m.ao m.aw v))).1,(ct m.ao m.aw (da (gQ m.ar.toNat m.aa (aR m) m.ao m.aw v))).2,m.au,m.aI,m.aQ,m.bb,m.az⟩⟩:ay)))=some ((),(⟨cz m⟩:ay)):=by
   intro v hv;subst hv;rw[show gQ m.ar.toNat m.aa (aR m) m.ao m.aw (zB m)=dI m from rfl]
   cases hzn:aC (dI m)with
   |true=>rw[Tz h hzn];rfl
   |false=>
    simp only[Ql];have e:cz m={m with ao:=(ct m.ao m.aw (da (dI m))).1,aw:=(ct m.ao m.aw (da (dI m))).2,aI:=n9 m (ct m.ao m.aw (da (dI m))).1 (ct m.ao m.aw (da (dI m))).2}:=Qs h3
    rw[e];unfold n9
    by_cases hc:m.aH=1/\m.aI≠0
    ·rw[Qg hc.1,Qh hc.2,Qr hc];simp only[Qk,Qa,Qp];have hh:∀(p q:ae) (L:Int),(Ei {m with ao:=p,aw:=q,aI:=L}).aQ=ep m:=fun p q L=>by unfold Ei;exact Qr hc.1
     rw[hh];split
     ·rename_i hlt;rw[Qg hlt];rfl
     ·rename_i hlt;rw[Qh hlt];rfl
    ·rw[Qs hc]
     by_cases h1:m.aH=1
     ·rw[Qg h1,Qg (show m.aI=0 from Classical.byContradiction fun hn=>hc ⟨h1,hn⟩)];rfl
     ·rw[Qh h1];rfl
  by_cases h2:m.aH=2
  ·rw[Qg h2];exact hmain _ (Qr h2).symm
  ·rw[Qh h2];exact hmain _ (Qs h2).symm
end
theorem UC(m:af)(b:ae):jf ⟨m⟩ b=some ((),⟨{m with aI:=bif bC m.ab b then m.aI else 0,ab:=b}⟩):=by
 unfold jf;simp only[af.eta,al.eta,ay.eta,eJ,Qa,aW];cases bC m.ab b<;>rfl
theorem Ht(m:af)(b:ae){α:Type}(j:af->Option α):
  (bif decide (m.aI=(0:Int))then(bif bC m.ab b then(bif decide (jm b.Value m.ab.aj m.ao m.aw<=b.aj)then j {m with aI:=jm b.Value m.ab.aj m.ao m.aw}else j m)else j m)else(bif false then(bif decide (jm b.Value m.ab.aj m.ao m.aw<=b.aj)then j {m with aI:=jm b.Value m.ab.aj m.ao m.aw}else j m)else j m))=j (mC m b):=by
 unfold mC
 by_cases hL:m.aI=0
 ·rw[Qg hL]
  cases hc:bC m.ab b with
  |true=>
   by_cases hle:jm b.Value m.ab.aj m.ao m.aw<=b.aj
   ·rw[Qr ⟨hL,rfl,hle⟩,Qg hle];rfl
   ·rw[Qs (fun h=>hle h.2.2),Qh hle];rfl
  |false=>
   rw[Qs (fun h=>by cases h.2.1)];rfl
 ·rw[Qh hL,Qs (fun h=>hL h.1)];rfl
section
variable {m : af} (h : bc m) (hs : fY m)
 include h hs
theorem ZF:kY ⟨m⟩=some ((),⟨fX m⟩):=by
 have hl:m.az.length<=100:=by have:=h.len;omega
 unfold kY;simp only[af.eta,al.eta,ay.eta,cy,Eg hl,Z0 h hs,Mh,UC,eJ,iv,Qa,aW];have hb:te m.ar.toNat m.aa (aR m) m.au=fg m:=rfl;simp only[hb];unfold fX
 cases hz:aC m.ab with
 |true=>rw[Qr (.inr (.inl rfl))];rfl
 |false=>
  by_cases h1:m.aH=1
  ·rw[Qg h1]
   cases hzb:aC (fg m)with
   |true=>rw[Qr (.inr (.inr rfl))];rfl
   |false=>
    rw[Qs (by simp[h1])]
    simp only[Qo,Ql,Qa];unfold wW
    cases hlt:bd m.ab (fg m)with
    |true=>
     simp only[Qk,Qt]
     cases hcp:bC m.ab (fg m)with
     |true=>exact Ht {m with au:=fg m,ab:=fg m} (fg m) (fun x=>some ((),(⟨x⟩:ay)))
     |false=>exact Ht {m with au:=fg m,ab:=fg m,aI:=0} (fg m) (fun x=>some ((),(⟨x⟩:ay)))
    |false=>
     simp only[Ql,Qq,Qu];exact Ht {m with au:=fg m} (fg m) (fun x=>some ((),(⟨x⟩:ay)))
  ·rw[Qh h1,Qr (.inl h1)];rfl
theorem Vu:jB ⟨m⟩=some ((),⟨fj m⟩):=by
 have hl:m.az.length<=100:=by have:=h.len;omega
 unfold jB;simp only[af.eta,al.eta,ay.eta,Eg hl,Yw h hs,aba h hs,eJ,iv,Qa,aW];unfold fj
 by_cases h1:m.aH=1
 ·rw[Qg h1,Qr h1];simp only[Qk]
  cases hk:(ew m).2.2.2.1 with
  |false=>rfl
  |true=>
   have hf:=EC h hk
   have hcov:gY m.ao ⟨(ew m).2.2.1,(ew m).1⟩= !(bd m.ao ⟨(ew m).2.2.1,(ew m).1⟩|| !bC m.ao ⟨(ew m).2.2.1,(ew m).1⟩):=by
    cases hc:bC m.ao ⟨(ew m).2.2.1,(ew m).1⟩with
    |false=>unfold gY;rw[hc];simp
    |true=>
     have hv:=gS.1 hc
     have hnz:aC m.ao=false:=by
      cases hz:aC m.ao with
      |false=>rfl
      |true=>rw[ua.1 hz]at hv;exact absurd hv.symm hf.fin.ne
     unfold gY;rw[hc,hnz,Cq hv,Qo,Bool.or_false,Qp,Bool.and_self,Bool.true_and];rw[QW];simp only[Qi,Bool.not_eq_true',Qj];omega
   simp only[Qo,Ql,Qt];unfold EO;rw[hcov];cases bC m.ab ⟨(ew m).2.2.1,(ew m).1⟩<;>cases bd m.ab ⟨(ew m).2.2.1,(ew m).1⟩<;>cases bd m.ao ⟨(ew m).2.2.1,(ew m).1⟩<;>cases bC m.ao ⟨(ew m).2.2.1,(ew m).1⟩<;>rfl
 ·rw[Qh h1,Qs h1]
  by_cases h2:m.aH=2
  ·rw[Qg h2,Qr h2];rcases h.body with k|k|k|k
   ·exact absurd k.aL h1
   ·exact absurd k.aL h1
   ·unfold vH;rw[k.cZ.2];rfl
   ·have:=k.aL;omega
  ·rw[Qh h2,Qs h2];rfl
theorem WT:jP ⟨m⟩=some ((),⟨iT m⟩):=by
 have hl:m.az.length<=100:=by have:=h.len;omega
 unfold jP iT;simp only[af.eta,al.eta,ay.eta,Eg hl,aa9 h hs,Qa]
 by_cases h2:m.aH=2
 ·rw[Qg h2]
  cases hk:(kD m).2.2.1 with
  |false=>rw[Qs (fun h=>by cases h.2)];rfl
  |true=>rw[Qr ⟨h2,rfl⟩];rfl
 ·rw[Qh h2,Qs (fun h=>h2 h.1)];rfl
end
theorem OF{m:af}(h:q8 m):gf ⟨m⟩=some (db m):=by
 have hl:m.az.length<=1000:=by have:=h.len;omega
 unfold gf db;simp only[cy,Qa]
 cases hz:aC m.au with
 |false=>rfl
 |true=>
  simp only[Qo,Ql,Bool.true_eq_false,Qu]
  by_cases h1:m.aH=1
  ·rw[Qg h1,Qs (fun h=>h h1)]
   simp only[Qo,Ql]
   by_cases hp:m.bb=eZ
   ·have hp':decide (m.bb=ByteArray.mk #[])=true:=Qg hp;rw[hp',Qs (fun h=>h hp)]
    simp only[Qo,Ql]
    rw[zZ m.az hl (·.ab) (fin:=fun s=>Option.bind (kK s) fun r=>some r.Value) (fun i e s hs he hd hx hw=>by
     simp only[hd,hx,hw,Qk,Qa]
     rw[bZ (by simp;omega),Qk]) (fun s hd=>by simp only[hd,Ql]),Wp _ (by simp;omega)]
    rfl
   ·have hp':decide (m.bb=ByteArray.mk #[])=false:=Qh hp;rw[hp',Qr hp];rfl
  ·rw[Qh h1,Qr h1];rfl
theorem Yt(l:List ai)(hlen:l.length<=1000)(p:ai->Bool)(hp:∀e∈l,p e=true->0<=e.ar/\e.ar<10):ny l (l.map p)=some ((c9 p l:Nat):Int):=by
 unfold ny
 suffices key:∀(k i s:Nat),i+k=l.length->s<1024->aE _ ((s:Int),(i:Int),())=some ((s|||c9 p (l.drop i):Nat):Int)by
  have:=key l.length 0 0 (by omega) (by omega)
  rw[Nat.zero_or,List.drop_zero]at this;exact this
 intro k
 induction k with
 |zero=>
  intro i s hi hs;obtain rfl:i=l.length:=by omega
  have hd:decide (((l.length:Nat):Int)<((l.length:Nat):Int))=false:=Qh (Int.lt_irrefl _);rw[bS (r:=(s:Int)) (by simp only[hd,Ql,Qe]),List.drop_length,c9]
  simp
 |succ k ih=>
  intro i s hi hs;have hlt:i<l.length:=by omega
  have hd:decide ((i:Int)<((l.length:Nat):Int))=true:=Qg (by omega)
  have hd2:decide ((i:Int)<(((l.map p).length:Nat):Int))=true:=Qg (by rw[QC];omega)
  have hw:aA .i64 (i:Int) 1=((i+1:Nat):Int):=bM (by omega) (by omega)
  have hx:idx l (i:Int)=some l[i]:=by rw[bB];exact Qv hlt
  have hx2:idx (l.map p) (i:Int)=some (p l[i]):=by rw[bB,QT,Qv hlt];rfl
  rw[QM hlt,c9]
  cases hpe:p l[i]with
  |false=>
   rw[bl (s':=((s:Int),((i+1:Nat):Int),())) (by simp only[hd,hd2,hx,hx2,hw,hpe,Qk,Ql,aW,Qa]),ih (i+1) s (by omega) hs]
   simp
  |true=>
   obtain⟨h0,h1⟩:=hp _ (Q0 hlt) hpe;have hn0:¬l[i].ar<0:=by omega
   have d1:decide ((0:Int)<=l[i].ar)=true:=Qg h0;have d2:decide (l[i].ar<(10:Int))=true:=Qg (by omega)
   rw[bl (s':=(((s|||2 ^ l[i].ar.toNat:Nat):Int),((i+1:Nat):Int),())) (by
    simp only[hd,hd2,hx,hx2,hw,hpe,Qk,aW,Qa,d1,d2,hn0,Qu]
    rw[ye hs h0 h1]),ih (i+1) _ (by omega) (I9 hs h1)]
   simp[Nat.or_assoc]
theorem Wr{m:af}(h:q8 m)(n:Int):kx ⟨m⟩ n=some ((y7 m n:Nat):Int):=by
 have hl:m.az.length<=1000:=by have:=h.len;omega
 unfold kx;have d1:decide (((m.az.length:Nat):Int)=((m.az.length:Nat):Int))=true:=Qg rfl;have d2:decide (0<=((m.az.length:Nat):Int))=true:=Qg (Int.natCast_nonneg _);have d3:bx 1 m.az.length=true:=bZ (by omega)
 simp only[d1,d2,d3,QV,Bool.and_self,Qk]
 rw[Vi m.az hl (fun e=>decide (n<dX e)) (fin:=fun s=>Option.bind (ny m.az s) fun r=>some r)
  (fun i e s hsl he hi hd hx hw=>by
   have h1:idx s (i:Int)=some s[i]:=by rw[bB];exact Qv (by omega)
   have h2:s[i]?=some s[i]:=Qv (by omega)
   simp only[hd,hx,hw,h1,h2,Qk,Qa,al.eta,ai.eta,OM (h.sm e he) (h.valid e he),QV])
  (fun s hd=>by simp only[hd,Ql]) (by simp),Yt m.az hl _ (fun e he _=>h.Lp e he)]
 rfl
section
variable {m : af} (h : bc m) (hs : fY m)
 include h hs
theorem MH(n:Int):gB n ⟨fh m.ar.toNat m.aa (rB m)⟩ ⟨m⟩=some (fW m n):=by
 unfold gB;simp only[af.eta,al.eta,ay.eta,Wr h.ev,Qa];have hb:=M3 (k9 (ax:=m.ar.toNat) h.ev.aO (oK h hs).1) (v:=m.ar.toNat) (M0 h.ev n);rw[h.ev.ax.1]at hb;rw[hb,Qa];unfold fW;rw[(kl h hs).view _ h.ev.ax.2]
theorem WH:jO ⟨m⟩=some ((),⟨eH m⟩):=by
 have hl:m.az.length<=100:=by have:=h.len;omega
 have hv:=SQ h.ev.ax.2 h.ev.aO (oK h hs).1;rw[h.ev.ax.1]at hv;unfold jO eH;simp only[af.eta,al.eta,ay.eta,cy,Eg hl,hv,MH h hs,OF h.ev,UC,Qa,aW]
 by_cases h3:m.aH=3
 ·rw[Qg h3,Qr (.inl h3)];rfl
 ·rw[Qh h3]
  cases ha:fW m m.ab.aj with
  |false=>rw[Qr (.inr rfl)];rfl
  |true=>
   rw[Qs (by simp[h3])]
   simp only[Ql,Qo]
   have hbc:0<=m.ab.aj/\m.ab.aj<=1000:=by
    rcases h.body with k|k|k|k
    ·rw[k.aK];decide
    ·exact⟨by have:=k.aK.1;omega,k.aK.2.1⟩
    ·exact⟨by have:=k.aK.1;omega,k.aK.2.1⟩
    ·exact absurd k.aL h3
   have hz1:aC m.ab=true->m.aH=1:=by
    intro hz;rcases h.body with k|k|k|k
    ·exact k.aL
    ·exact k.aL
    ·rw[k.aK.nz]at hz;cases hz
    ·exact absurd k.aL h3
   refine(PQ h.ev (fin:=fun c=>some ((),(⟨{m with aI:=bif bC m.ab ⟨dG c 1000,lg m⟩then m.aI else 0,ab:=⟨dG c 1000,lg m⟩}⟩:ay))) (fun i e s he hd hx hw=> ?_) (fun s hd=> ?_)).trans ?_
   ·simp only[hd,hx,hw,Qk,aW,Qa,al.eta,ai.eta,OM (h.ev.sm e he) (h.ev.valid e he),MH h hs];unfold jZ
    by_cases c1:m.ab.aj<dX e
    ·by_cases c2:dX e<s
     ·rw[Qg c1,Qg c2]
      cases c3:fW m (dX e)with
      |true=>rw[Qs (by simp)];rfl
      |false=>rw[Qr ⟨c1,c2,rfl⟩];rfl
     ·rw[Qg c1,Qh c2,Qs (fun h=>c2 h.2.1)];rfl
    ·rw[Qh c1,Qs (fun h=>c1 h.1)];rfl
   ·simp only[hd,Ql,aW,Qa];unfold lg
    by_cases h1:m.aH=1
    ·rw[Qg h1,Qr h1];cases aC m.ab<;>rfl
    ·rw[Qh h1,Qs h1]
     cases hz:aC m.ab with
     |true=>exact absurd (hz1 hz) h1
     |false=>rfl
   ·have hm:=(ER h hbc).2.2.2.2;rw[hm]
    have hcp:(bif bC m.ab ⟨dG (fJ m) 1000,lg m⟩then m.aI else 0)=(if lg m=m.ab.Value then m.aI else 0):=by
     by_cases e:lg m=m.ab.Value
     ·rw[Qr e,(gS (a:=m.ab) (b:=⟨dG (fJ m) 1000,lg m⟩)).2 e.symm];rfl
     ·rw[Qs e,(gO (a:=m.ab) (b:=⟨dG (fJ m) 1000,lg m⟩)).2 (fun hc=>e hc.symm)];rfl
    rw[hcp]
end
end Go.Proofs.YtkgenianmdfmdaaGreat
namespace Go.Proofs.YtkgenianmdfmdaaGreat
open Go.TQ
theorem P7{m:af}(h:bc m)(s:Int):aR {m with aG:=s}=(aR m).map (fun e=>if e.ar=m.ar then{e with aG:=bq s 1}else e):=by
 have hf:∀e∈m.az,(if e.ar=m.ar then{e with aG:=bq s 1}else e)=e:=fun e he=>Qs (h.hv e he).2.2.2
 have hmap:m.az.map (fun e=>if e.ar=m.ar then{e with aG:=bq s 1}else e)=m.az:=by
  rw[List.map_congr_left hf];simp
 have hown:gH {m with aG:=s}={gH m with aG:=bq s 1}:=by
  unfold gH bU ep;split
  ·rfl
  ·split<;>rfl
 unfold aR;split
 ·exact hmap.symm
 ·rw[hown];have hn:(gH m).ar=m.ar:=qN m
  suffices key:∀l:List ai,(∀e∈l,(if e.ar=m.ar then{e with aG:=bq s 1}else e)=e)->vd {gH m with aG:=bq s 1} l=(vd (gH m) l).map (fun e=>if e.ar=m.ar then{e with aG:=bq s 1}else e)from key _ hf
  intro l
  induction l with
  |nil=>
   intro _;simp only[vd,QD,QO,hn,Qt]
  |cons x l ih=>
   intro hx;unfold vd;simp only;split
   ·rw[QD,QD,hn,Qr rfl,hx x Qx,List.map_congr_left (fun e he=>hx e (Qy _ he))]
    simp
   ·rw[QD,hx x Qx,ih fun e he=>hx e (Qy _ he)]
theorem Lo{m:af}(h:bc m){s:Int}(hs:0<=s/\s<=1000000):bc {m with aG:=s}:=by
 refine⟨h.n0,h.n1,h.bz,hs,h.aO,h.n5,h.hv,h.mW,?_⟩;rcases h.body with k|k|k|k
 ·exact .inl ⟨k.aL,k.aK,k.cZ,k.bI,k.dw,k.low,k.bH⟩
 ·exact .inr (.inl ⟨k.aL,k.aK,k.cZ,k.bI,k.dw,k.up,k.bH,k.low⟩)
 ·exact .inr (.inr (.inl ⟨k.aL,k.aK,k.cZ,k.bI,k.dw,k.range⟩))
 ·exact .inr (.inr (.inr ⟨k.aL,k.aK,k.cZ,k.bI,k.dw,k.range⟩))
theorem np{m:af}(h:bc m){s:Int}(hs:0<=s/\s<=1000000):Alike (aR m) (aR {m with aG:=s}):=by
 rw[P7 h s];refine VG h.ev.jR.1 h.ev.jR.2 _ fun e he=> ?_
 split
 ·rename_i hn;refine⟨rfl,?_⟩;rw[h.jJ e he];have hv:=h.jJ e he
  have hm:{e with aG:=bq s 1}∈aR {m with aG:=s}:=by
   rw[P7 h s];exact QP.2 ⟨e,he,Qr hn⟩
  exact(Lo h hs).jJ _ hm
 ·exact⟨rfl,rfl⟩
theorem YU(m:af)(s:Int)(b:ae):wW {m with aG:=s} b={wW m b with aG:=s}:=by
 unfold wW
 by_cases h:bd m.ab b=true
 ·simp only[Qr h]
 ·simp only[Qs h]
theorem Ut(m:af)(s:Int)(b:ae):mC {m with aG:=s} b={mC m b with aG:=s}:=by
 unfold mC
 by_cases h:m.aI=0/\bC m.ab b=true/\jm b.Value m.ab.aj m.ao m.aw<=b.aj
 ·simp only[Qr h]
 ·simp only[Qs h]
section
variable {m : af} (h : bc m) {s : Int} (hs : 0 <= s /\ s <= 1000000)
 include h hs
theorem YB:dI {m with aG:=s}=dI m:=((np h hs).next h.ev.ax.2 m.aa _ _ _).symm
theorem YR:fg {m with aG:=s}=fg m:=((np h hs).bH h.ev.ax.2 m.aa _).symm
theorem Md:fq {m with aG:=s}=fq m:=((np h hs).ready h.ev.ax.2 m.aa).symm
theorem V1:BS {m with aG:=s}=BS m:=((np h hs).sure h.ev.ax.2 m.aa).symm
theorem Y4:ew {m with aG:=s}=ew m:=by
 unfold ew;rw[Md h hs];simp only;rw[<-(np h hs).EW,<-(np h hs).first]
theorem Y8:dH {m with aG:=s}=dH m:=by
 unfold dH;rw[Md h hs];simp only;rw[<-(np h hs).gZ]
theorem Y7:kD {m with aG:=s}=kD m:=by
 unfold kD;rw[V1 h hs];simp only;rw[<-(np h hs).gZ]
theorem MZ(n:Int):fW {m with aG:=s} n=fW m n:=by
 unfold fW;simp only;rw[<-(np h hs).view _ h.ev.ax.2];rfl
theorem Zo:fJ {m with aG:=s}=fJ m:=by
 unfold fJ;simp only;congr 1
 funext b e
 unfold jZ;simp only[MZ h hs]
theorem Ml:cz {m with aG:=s}={cz m with aG:=s}:=by
 unfold cz;simp only[YB h hs];split<;>rfl
theorem Mj:fX {m with aG:=s}={fX m with aG:=s}:=by
 unfold fX;simp only[YR h hs];split
 ·rfl
 ·rw[YU,Ut]
theorem Mr:fj {m with aG:=s}={fj m with aG:=s}:=by
 unfold fj;simp only[Y4 h hs,Y8 h hs];split
 ·split<;>rfl
 ·split<;>rfl
theorem Mp:iT {m with aG:=s}={iT m with aG:=s}:=by
 unfold iT;simp only[Y7 h hs];split<;>rfl
theorem Mn:eH {m with aG:=s}={eH m with aG:=s}:=by
 unfold eH;simp only[MZ h hs,Zo h hs];split<;>rfl
end
open Classical in
 def cd(m:af):af:=
 if cz m=m then(if fX m=m then(if fj m=m then(if iT m=m then eH m else iT m)else fj m)else fX m)else cz m
structure ze (m:af):Prop where
 p:cz m=m
 s:fX m=m
 c:fj m=m
 f:iT m=m
 k:eH m=m
theorem V2{m:af}(h:cd m=m):ze m:=by
 unfold cd at h;split at h
 ·split at h
  ·split at h
   ·split at h
    ·exact⟨by assumption,by assumption,by assumption,by assumption,h⟩
    ·contradiction
   ·contradiction
  ·contradiction
 ·contradiction
theorem WI{m:af}(h:ze m):cd m=m:=by
 unfold cd;rw[Qr h.p,Qr h.s,Qr h.c,Qr h.f,h.k]
theorem BT{m:af}{Q:af->Prop}(h1:Q (cz m))(h2:Q (fX m))(h3:Q (fj m))(h4:Q (iT m))(h5:Q (eH m)):Q (cd m):=by
 unfold cd;split
 ·split
  ·split
   ·split
    ·exact h5
    ·exact h4
   ·exact h3
  ·exact h2
 ·exact h1
theorem wM{m:af}(h:bc m):bc (cd m):=BT (Mm h) (Mk h) (Ms h) (Mq h) (Mo h)
theorem uf(m:af):fe m (cd m):=BT (uk m) (qv m) (qx m) (qw m) (wO m)
theorem N9{m:af}(h:bc m):cd m=m\/iK m<iK (cd m):=BT (Q:=fun x=>x=m\/iK m<iK x) (ack h) (acj h) (aco h) (acn h) (acm h)
theorem acA(m:af):(cz m).ab=m.ab:=by unfold cz;split<;>rfl
theorem G0{m:af}(h:bc m)(hz:aC m.ab=false):aC (cd m).ab=false:=by
 have hb:P1 m\/P2 m\/P3 m:=h.body.resolve_left fun k=>by rw[k.aK,bD]at hz;cases hz
 refine BT (Q:=fun x=>aC x.ab=false) (by rw[acA];exact hz) ?_ ?_ ?_ ?_
 ·rcases hb with k|k|k
  ·exact(K5 h k).1.aK.nz
  ·rw[oJ (.inl (by rw[k.aL];decide))];exact hz
  ·rw[oJ (.inl (by rw[k.aL];decide))];exact hz
 ·unfold fj;rcases hb with k|k|k
  ·rw[Qr k.aL];split
   ·rename_i hk;have hf:=EC h hk;exact(PJ (.inr k.aK) k.cZ hf.fin hf.Z8 hf.le).aK.nz
   ·exact hz
  ·rw[Qs (by rw[k.aL];decide),Qr k.aL]
   obtain⟨g1,g2,g3,_⟩:=Pu h k;exact(TY k g1 g2 g3).aK.nz
  ·rw[Qs (by rw[k.aL];decide),Qs (by rw[k.aL];decide)];exact hz
 ·unfold iT;split
  ·rename_i hc;rcases hb with k|k|k
   ·have:=k.aL;have:=hc.1;omega
   ·exact(R9 h k hc.2).aK.nz
   ·have:=k.aL;have:=hc.1;omega
  ·exact hz
 ·cases ha:fW m m.ab.aj with
  |false=>
   have:eH m=m:=Qr (.inr ha);rw[this];exact hz
  |true=>
   rcases hb with k|k|k
   ·exact(K6 h (.inr k) ha).aK.nz
   ·exact(R8 h k).aK.nz
   ·have:eH m=m:=Qr (.inl k.aL);rw[this];exact hz
def cr(m:af):af:=if aC m.ab=false then{m with aG:=bq m.aG 1}else m
theorem Sc{m:af}(h:bc m):0<=bq m.aG 1/\bq m.aG 1<=1000000:=by
 have:=h.seq;unfold bq;split<;>omega
theorem Cl{m:af}(h:bc m):bc (cr m):=by
 unfold cr;split
 ·exact Lo h (Sc h)
 ·exact h
theorem Fm{m:af}(h:aC m.ab=true->m.aG=0):fY (cr m):=by
 unfold cr;split
 ·rename_i hz;exact⟨fun e=>(by rw[show({m with aG:=bq m.aG 1}:af).ab=m.ab from rfl,hz]at e;cases e),fun _=>by show 1<=bq m.aG 1;unfold bq;split<;>omega⟩
 ·rename_i hz;exact⟨h,fun e=>absurd e hz⟩
theorem Ss{m:af}(h:bc m)(hf:ze m){s:Int}(hs:0<=s/\s<=1000000):ze {m with aG:=s}:=
 ⟨by rw[Ml h hs,hf.p],by rw[Mj h hs,hf.s],by rw[Mr h hs,hf.c],by rw[Mp h hs,hf.f],by rw[Mn h hs,hf.k]⟩
theorem Ww{m:af}(h:bc m)(hf:ze m):ze (cr m):=by
 unfold cr;split
 ·exact Ss h hf (Sc h)
 ·exact hf
theorem YC{m:af}(hs:fY m):cr m=m:=by
 unfold cr;split
 ·rename_i hz;have:=hs.pos hz;have e:bq m.aG 1=m.aG:=by unfold bq;split<;>omega
  rw[e]
 ·rfl
theorem We(m:af):iK (cr m)=iK m:=by
 unfold cr;split<;>rfl
theorem OP{m:af}(h:0<=m.aG):cY ⟨m⟩=some ((),⟨cr m⟩):=by
 unfold cY cr;simp only[af.eta,al.eta,ay.eta,cy,Qa]
 cases hz:aC m.ab with
 |true=>rfl
 |false=>
  simp only[Qp,Qk,Qa,Qt]
  by_cases hs:m.aG=0
  ·have e:bq m.aG 1=1:=by unfold bq;split<;>omega
   rw[Qg hs,e];rfl
  ·have e:bq m.aG 1=m.aG:=by unfold bq;split<;>omega
   rw[Qh hs,e];rfl
theorem sL{m m':af}(he:fe m m'):
  (decide (m'.aH=m.aH)&&(decide (m'.aI=m.aI)&&(decide (m'.aQ=m.aQ)&&(decide (m'.ab.aj=m.ab.aj)&&(decide (m'.ab.Value=m.ab.Value)&&(decide (m'.ao.aj=m.ao.aj)&&(decide (m'.ao.Value=m.ao.Value)&&(decide (m'.aw.aj=m.aw.aj)&&(decide (m'.aw.Value=m.aw.Value)&&(decide (m'.au.aj=m.au.aj)&&(decide (m'.au.Value=m.au.Value)&&true)))))))))))=true↔m'=m:=by
 simp only[Qm,Qi];constructor
 ·rintro⟨h1,h2,h3,h4,h5,h6,h7,h8,h9,h10,h11,_⟩;exact tD he h1 (lM h4 h5) (lM h6 h7) (lM h8 h9) (lM h10 h11) h2 h3
 ·rintro rfl;simp
open Classical in
theorem ZH{m:af}(h:bc m)(hs:fY m):kZ ⟨m⟩=some (if cd m=m then(false,⟨m⟩)else(true,⟨cr (cd m)⟩)):=by
 have hnum:∀{x:af},bc x->cY ⟨x⟩=some ((),⟨cr x⟩):=fun hx=>OP hx.seq.1
 unfold kZ;simp only[af.eta,al.eta,ay.eta,eQ,Qa,Tw h hs]
 by_cases hP:cz m=m
 ·simp only[(sL (uk m)).2 hP,Bool.xor_true,Qo,Ql,show xor true true=false from rfl]
  rw[hP,ZF h hs];simp only[Qa]
  by_cases hS:fX m=m
  ·simp only[(sL (qv m)).2 hS,Ql,show xor true true=false from rfl]
   rw[hS,Vu h hs];simp only[Qa]
   by_cases hC:fj m=m
   ·simp only[(sL (qx m)).2 hC,Ql,show xor true true=false from rfl]
    rw[hC,WT h hs];simp only[Qa]
    by_cases hF:iT m=m
    ·simp only[(sL (qw m)).2 hF,Ql,show xor true true=false from rfl]
     rw[hF,WH h hs];simp only[Qa];have e:cd m=eH m:=by unfold cd;rw[Qr hP,Qr hS,Qr hC,Qr hF]
     rw[e]
     by_cases hK:eH m=m
     ·simp only[(sL (wO m)).2 hK,Ql,show xor true true=false from rfl]
      rw[Qr hK,hK]
     ·have hb:=mt (sL (wO m)).1 hK;rw[QX]at hb;simp only[hb,Qk,show xor true false=true from rfl]
      rw[hnum (Mo h),Qs hK];rfl
    ·have e:cd m=iT m:=by unfold cd;rw[Qr hP,Qr hS,Qr hC,Qs hF]
     have hb:=mt (sL (qw m)).1 hF;rw[QX]at hb;simp only[hb,Qk,show xor true false=true from rfl]
     rw[hnum (Mq h),e,Qs hF];rfl
   ·have e:cd m=fj m:=by unfold cd;rw[Qr hP,Qr hS,Qs hC]
    have hb:=mt (sL (qx m)).1 hC;rw[QX]at hb;simp only[hb,Qk,show xor true false=true from rfl]
    rw[hnum (Ms h),e,Qs hC];rfl
  ·have e:cd m=fX m:=by unfold cd;rw[Qr hP,Qs hS]
   have hb:=mt (sL (qv m)).1 hS;rw[QX]at hb;simp only[hb,Qk,show xor true false=true from rfl]
   rw[hnum (Mk h),e,Qs hS];rfl
 ·have e:cd m=cz m:=by unfold cd;rw[Qs hP]
  have hb:=mt (sL (uk m)).1 hP;rw[QX]at hb;simp only[hb,Qk,show xor true false=true from rfl]
  rw[hnum (Mm h),e,Qs hP];rfl
structure AR (R:af->Prop) (m m':af):Prop where
 inv:bc m'
 seq:fY m'
 env:m'.ar=m.ar/\m'.bm=m.bm/\m'.aa=m.aa/\m'.bb=m.bb/\m'.az=m.az
 num:m'.aG=m.aG\/(m.aG=0/\m'.aG=1)
 nz:aC m.ab=false->aC m'.ab=false
 rel:R m'
 fix:ze m'
theorem VH{R:af->Prop}(hR1:∀m,bc m->R m->R (cd m))(hR2:∀m,R m->R (cr m)){m:af}(h:bc m)(hs:aC m.ab=true->m.aG=0)(hr:R m):Yd (fB ⟨m⟩) fun q=>∃m',q=((),⟨m'⟩)/\AR R m m':=by
 unfold fB;simp only[af.eta,al.eta,ay.eta,OP h.seq.1,Qa]
 have num1:∀{x:af},bc x->(cr x).aG=x.aG\/(x.aG=0/\(cr x).aG=1):=fun{x} hx=>by
  have:=hx.seq;unfold cr;split
  ·show bq x.aG 1=x.aG\/(x.aG=0/\bq x.aG 1=1);unfold bq;split<;>omega
  ·exact .inl rfl
 have env1:∀x:af,(cr x).ar=x.ar/\(cr x).bm=x.bm/\(cr x).aa=x.aa/\(cr x).bb=x.bb/\(cr x).az=x.az/\(cr x).ab=x.ab:=fun x=>by
  unfold cr;split<;>exact⟨rfl,rfl,rfl,rfl,rfl,rfl⟩
 refine Yd.down (fun s=>∃x,s=((⟨x⟩:ay),())/\bc x/\fY x/\R x/\(x.ar=m.ar/\x.bm=m.bm/\x.aa=m.aa/\x.bb=m.bb/\x.az=m.az)/\(x.aG=m.aG\/(m.aG=0/\x.aG=1))/\(aC m.ab=false->aC x.ab=false)) (fun s=>K1+K2 - iK s.1.an) ?_ ⟨cr m,rfl,Cl h,Fm hs,hR2 _ hr,⟨(env1 m).1,(env1 m).2.1,(env1 m).2.2.1,(env1 m).2.2.2.1,(env1 m).2.2.2.2.1⟩,num1 h,fun hz=>by rw[(env1 m).2.2.2.2.2];exact hz⟩
 rintro s ⟨x,rfl,hx,hsx,hrx,hex,hnx,hzx⟩;simp only[ZH hx hsx,Qa]
 by_cases hst:cd x=x
 ·rw[Qr hst];exact .some ⟨x,rfl,⟨hx,hsx,hex,hnx,hzx,hrx,V2 hst⟩⟩
 ·rw[Qs hst];have hi:=wM hx;have hv:=uf x;have hup:=(N9 hx).resolve_left hst;refine .some ⟨⟨cr (cd x),rfl,Cl hi,Fm ?_,hR2 _ (hR1 _ hx hrx),?_,?_,?_⟩,?_⟩
  ·intro hz;rw[hv.seq];refine hsx.zero ?_
   cases hzz:aC x.ab with
   |true=>rfl
   |false=>rw[G0 hx hzz]at hz;cases hz
  ·obtain⟨e1,e2,e3,e4,e5,_⟩:=env1 (cd x);exact⟨e1.trans (hv.ax.trans hex.1),e2.trans (hv.bz.trans hex.2.1),e3.trans (hv.aO.trans hex.2.2.1),e4.trans (hv.n5.trans hex.2.2.2.1),e5.trans (hv.heard.trans hex.2.2.2.2)⟩
  ·have h1:=num1 hi;rw[hv.seq]at h1;rcases h1 with e|⟨e1,e2⟩
   ·rw[e];exact hnx
   ·right;rcases hnx with e3|⟨_,e3⟩
    ·exact⟨by rw[<-e3];exact e1,e2⟩
    ·omega
  ·intro hz;rw[(env1 (cd x)).2.2.2.2.2];exact G0 hx (hzx hz)
  ·have h1:=R3 hi;show K1+K2 - iK (cr (cd x))<K1+K2 - iK x;rw[We];omega
end Go.Proofs.YtkgenianmdfmdaaGreat
namespace Go.Proofs.YtkgenianmdfmdaaGreat
open Go.TQ
theorem Xk{α:Type}{s t:List α}(hl:s.length=t.length)(hn:s.length<=1000000){step:Int×Unit->Option ((Int×Unit)⊕Bool)}
  (h1:∀(i:Nat) (h:i<s.length) (h':i<t.length),decide ((i:Int)<((s.length:Nat):Int))=true->idx s (i:Int)=some s[i]->idx t (i:Int)=some t[i]->aA .i64 (i:Int) 1=((i+1:Nat):Int)->∃b:Bool,step ((i:Int),())=some (bif b then .inl (((i+1:Nat):Int),())else .inr false)/\(b=true↔s[i]=t[i]))
  (h2:decide (((s.length:Nat):Int)<((s.length:Nat):Int))=false->step (((s.length:Nat):Int),())=some (.inr true)):∃b,aE step (0,())=some b/\(b=true↔s=t):=by
 suffices key:∀(k i:Nat),i+k=s.length->∃b,aE step ((i:Int),())=some b/\(b=true↔s.drop i=t.drop i)from by simpa using key s.length 0 (by omega)
 intro k
 induction k with
 |zero=>
  intro i hi;obtain rfl:i=s.length:=by omega
  refine⟨true,bS (h2 (Qh (Int.lt_irrefl _))),?_⟩;rw[List.drop_eq_nil_of_le (by omega),List.drop_eq_nil_of_le (by omega)]
  simp
 |succ k ih=>
  intro i hi;have hi':i<s.length:=by omega
  have hi'':i<t.length:=by omega
  obtain⟨b,h3,h4⟩:=h1 i hi' hi'' (Qg (by omega)) (by rw[bB];exact Qv hi') (by rw[bB];exact Qv hi'') (bM (by omega) (by omega))
  rw[QM hi',QM hi'',List.cons.injEq]
  cases b with
  |false=>
   refine⟨false,bS h3,?_⟩;simp only[Qq,false_iff]at h4 ⊢;exact fun h=>h4 h.1
  |true=>
   obtain⟨b,h5,h6⟩:=ih (i+1) (by omega)
   refine⟨b,(bl h3).trans h5,?_⟩;rw[h6];exact⟨fun h=>⟨h4.1 rfl,h⟩,fun h=>h.2⟩
theorem U6{α:Type}{s t:List α}(h:s.length≠t.length):(false=true↔s=t):=by
 simp only[Qq,false_iff];exact fun h1=>h (by rw[h1])
 def XT(a0:List Int)(a1:List Int):Option Bool:=
 bif (!decide (((List.length a0:Nat):Int)=((List.length a1:Nat):Int)))then
 some false
 else
 aE (fun(v1:Int×Unit)=>
 bif (decide (v1.1<((List.length a0:Nat):Int)))then
 Option.bind (idx a0 v1.1) fun x2=>
 Option.bind (idx a1 v1.1) fun x3=>
 bif (!decide (x2=x3))then
 Option.map Sum.inr (some false)
 else
 some (Sum.inl ((aA .i64 v1.1 (1:Int)),()))
 else
 Option.map Sum.inr (some true)) ((0:Int),())
theorem XO(s t:List Int)(h:s.length<=1000000):∃b,XT s t=some b/\(b=true↔s=t):=by
 unfold XT
 by_cases hl:s.length=t.length
 ·rw[Qg (by omega:((s.length:Nat):Int)=((t.length:Nat):Int)),Qo,Ql]
  refine Xk hl h (fun i hi hi' hd hx hy hw=> ?_) (fun hd=> ?_)
  ·refine⟨decide (s[i]=t[i]),?_,by simp⟩
   simp only[hd,hx,hy,hw,Qk,Qa];cases decide (s[i]=t[i])<;>rfl
  ·simp only[hd,Ql];rfl
 ·rw[Qh (by omega:¬((s.length:Nat):Int)=((t.length:Nat):Int)),Qp,Qk]
  exact⟨false,rfl,U6 hl⟩
theorem aab(s t:List Int)(h:s.length<=1000000):∃b,zi s t=some b/\(b=true↔s=t):=XO s t h
theorem abf(s t:List Int)(h:s.length<=1000000):∃b,nN s t=some b/\(b=true↔s=t):=XO s t h
theorem LR(a b:al):a=b↔a.aP=b.aP/\a.bn=b.bn/\a.aN=b.aN:=by
 cases a;cases b;simp
theorem aaJ{n:Nat}:∀{a b:al},SizeOf.sizeOf a<n->dK a->∃r,zd n (a,b,())=some r/\(r=true↔a=b):=by
 induction n with
 |zero=>intro a b h;omega
 |succ n ih=>
  intro a b hs hm;show∃r,vu (zd n) a b=some r/\(r=true↔a=b);have hl:=hm.len;have hns:=hm.nodes;obtain⟨r,h1,h2⟩:=aab a.bn b.bn hns;rw[LR];unfold vu
  by_cases ht:a.aP=b.aP
  ·rw[Qg ht];simp only[Qo,Ql,h1,Qa]
   cases r with
   |false=>
    simp only[Qp,Qk,Qa];refine⟨false,rfl,?_⟩;simp only[Qq,false_iff]at h2 ⊢;exact fun h=>h2 h.2.1
   |true=>
    simp only[Qo,Ql,Qa]
    by_cases hi:a.aN.length=b.aN.length
    ·rw[Qg (by omega:((a.aN.length:Nat):Int)=((b.aN.length:Nat):Int)),Qo,Ql]
     have key:∀step:Int×Unit->Option ((Int×Unit)⊕Bool),(∃r,aE step (0,())=some r/\(r=true↔a.aN=b.aN))->∃r,aE step (0,())=some r/\(r=true↔a.aP=b.aP/\a.bn=b.bn/\a.aN=b.aN):=by
      rintro step ⟨r,h3,h4⟩;exact⟨r,h3,by rw[h4];exact⟨fun h=>⟨ht,h2.1 rfl,h⟩,fun h=>h.2.2⟩⟩
     refine key _ (Xk hi hl (fun i hi hi' hd hx hy hw=> ?_) (fun hd=> ?_))
     ·have hu:=Q0 hi;obtain⟨r,h3,h4⟩:=ih (a:=a.aN[i]) (b:=b.aN[i]) (by have:=tN hu;omega) (hm.inner _ hu)
      refine⟨r,?_,h4⟩;simp only[hd,hx,hy,hw,Qk,Qa,al.eta,h3];cases r<;>rfl
     ·simp only[hd,Ql];rfl
    ·rw[Qh (by omega:¬((a.aN.length:Nat):Int)=((b.aN.length:Nat):Int)),Qp,Qk]
     refine⟨false,rfl,?_⟩;simp only[Qq,false_iff];exact fun h=>hi (by rw[h.2.2])
  ·rw[Qh ht];refine⟨false,rfl,?_⟩;simp only[Qq,false_iff];exact fun h=>ht h.1
theorem acG{a b:al}(h:dK a):∃r,zh a b=some r/\(r=true↔a=b):=aaJ (by omega) h
theorem abN{n:Nat}:∀{a b:al},SizeOf.sizeOf a<n->dK a->∃r,tV n (a,b,())=some r/\(r=true↔a=b):=by
 induction n with
 |zero=>intro a b h;omega
 |succ n ih=>
  intro a b hs hm;show∃r,pd (tV n) a b=some r/\(r=true↔a=b);have hl:=hm.len;have hns:=hm.nodes;obtain⟨r,h1,h2⟩:=abf a.bn b.bn hns;rw[LR];unfold pd
  by_cases ht:a.aP=b.aP
  ·rw[Qg ht];simp only[Qk,h1,Qa]
   cases r with
   |false=>
    simp only[Ql,Qa];refine⟨false,rfl,?_⟩;simp only[Qq,false_iff]at h2 ⊢;exact fun h=>h2 h.2.1
   |true=>
    simp only[Qk,Qa]
    have key:∀o:Option Bool,(∃r,o=some r/\(r=true↔a.aN=b.aN))->∃r,(Option.bind (Option.bind o fun r3=>some r3) fun b4=>some b4)=some r/\(r=true↔a.aP=b.aP/\a.bn=b.bn/\a.aN=b.aN):=by
     rintro o ⟨r,rfl,h4⟩;exact⟨r,rfl,by rw[h4];exact⟨fun h=>⟨ht,h2.1 rfl,h⟩,fun h=>h.2.2⟩⟩
    refine key _ ?_;unfold c5
    by_cases hi:a.aN.length=b.aN.length
    ·rw[Qg (by omega:((a.aN.length:Nat):Int)=((b.aN.length:Nat):Int)),Qo,Ql]
     refine Xk hi hl (fun i hi hi' hd hx hy hw=> ?_) (fun hd=> ?_)
     ·have hu:=Q0 hi;obtain⟨r,h3,h4⟩:=ih (a:=a.aN[i]) (b:=b.aN[i]) (by have:=tN hu;omega) (hm.inner _ hu)
      refine⟨r,?_,h4⟩;simp only[hd,hx,hy,hw,Qk,Qa,al.eta,h3];cases r<;>rfl
     ·simp only[hd,Ql];rfl
    ·rw[Qh (by omega:¬((a.aN.length:Nat):Int)=((b.aN.length:Nat):Int)),Qp,Qk]
     exact⟨false,rfl,U6 hi⟩
  ·rw[Qh ht];refine⟨false,rfl,?_⟩;simp only[Qq,false_iff];exact fun h=>ht h.1
theorem eqT{a b:al}(h:dK a):∃r,tX a b=some r/\(r=true↔a=b):=abN (by omega) h
theorem Sw(a b:Int)(s t:ByteArray):jH false a b s t=(decide (a=b)&&decide (s=t)):=by
 simp
theorem Kg(a b:ae):a=b↔a.aj=b.aj/\a.Value=b.Value:=by
 cases a;cases b;simp
theorem Lx(a b:ai):a=b↔a.ar=b.ar/\a.bm=b.bm/\a.aG=b.aG/\a.aa=b.aa/\a.br=b.br/\a.ab=b.ab/\a.ao=b.ao/\a.aw=b.aw/\a.aI=b.aI/\a.aQ=b.aQ:=by
 cases a;cases b;simp
theorem SH(a b:Bool):(bif a then some b else some false)=some (a&&b):=by cases a<;>rfl
theorem acF{a b:ai}(h:dK a.aa):∃r,vk a b=some r/\(r=true↔a=b):=by
 obtain⟨r,h1,h2⟩:=acG (a:=a.aa) (b:=b.aa) h;have hc:∀x:Bool,(bif x then some r else some false)=some (x&&r):=fun x=>by cases x<;>rfl
 refine⟨_,by simp only[vk,al.eta,h1,Qa,SH,hc,Sw];rfl,?_⟩
 rw[Lx];simp only[Qm,Qi,h2,Kg];constructor
 ·rintro⟨⟨⟨⟨⟨⟨⟨⟨⟨h1,h2⟩,h3⟩,h4⟩,h5⟩,h6⟩,h7⟩,h8⟩,h9⟩,h10⟩;exact⟨h1,h2,h3,h4,h5,h6,h7,h8,h9,h10⟩
 ·rintro⟨h1,h2,h3,h4,h5,h6,h7,h8,h9,h10⟩;exact⟨⟨⟨⟨⟨⟨⟨⟨⟨h1,h2⟩,h3⟩,h4⟩,h5⟩,h6⟩,h7⟩,h8⟩,h9⟩,h10⟩
end Go.Proofs.YtkgenianmdfmdaaGreat
namespace Go.Proofs.YtkgenianmdfmdaaGreat
open Go.TQ
theorem JO{m:af}(h:bc m){ρ:Type}{step:Int×Unit->Option ((Int×Unit)⊕ρ)}{fin:Option ρ}
  (h1:∀(i:Nat) (e:ai),e∈m.az->decide ((i:Int)<((m.az.length:Nat):Int))=true->idx m.az (i:Int)=some e->aA .i64 (i:Int) 1=((i+1:Nat):Int)->
   (i=0\/(decide ((0:Int)<(i:Int))=true/\∃x,idx m.az (de .i64 (i:Int) 1)=some x/\decide (e.ar<=x.ar)=false))->step ((i:Int),())=some (.inl (((i+1:Nat):Int),())))
  (h2:decide (((m.az.length:Nat):Int)<((m.az.length:Nat):Int))=false->step (((m.az.length:Nat):Int),())=Option.map Sum.inr fin):aE step (0,())=fin:=by
 have hl:=h.len;refine Ma m.az.length (by omega) (fun i hi hd hw=> ?_) h2
 have hx:idx m.az (i:Int)=some m.az[i]:=by rw[bB];exact Qv hi
 refine h1 i m.az[i] (Q0 hi) hd hx hw ?_
 cases i with
 |zero=>exact .inl rfl
 |succ i=>
  refine .inr ⟨Qg (by omega),m.az[i],?_,?_⟩
  ·have:de .i64 ((i+1:Nat):Int) 1=(i:Int):=by rw[pV (by omega) (by omega)];omega
   rw[this,bB];exact Qv (by omega)
  ·have:=List.pairwise_iff_getElem.1 h.mW i (i+1) (by omega) hi (by omega)
   exact Qh (by omega)
theorem YS{m:af}(h:bc m):qi m=some true:=by
 unfold qi;refine JO h (fun i e he hd hx hw hi=> ?_) (fun hd=>by simp only[hd,Ql])
 obtain⟨g1,g2,g3,g4⟩:=h.hv e he;simp only[hd,hx,hw,Qk,Qa,aW,al.eta,ai.eta,nJ g2.sm,g1,Qo,Ql,Qg g3,Qh g4];rcases hi with rfl|⟨hi,x,hx2,hn⟩
 ·rfl
 ·rw[hi,hx2];simp only[Qk,Qa,hn,Ql]
theorem K8{m:af}(h:bc m)(hs:fY m)(hz:aC m.ab=false):aJ (bU m)=true:=by
 rw[<-Sa hs hz];exact Mu h hz
theorem YD:jH false bL.aj (0:Int) bL.Value (ByteArray.mk #[])=true:=by decide
theorem BA{m:af}(h:bc m)(hs:fY m):jC m=some true:=by
 have d1:decide (m.ar<0)=false:=Qh (by have:=h.n0;omega)
 have d2:decide ((10:Int)<=m.ar)=false:=Qh (by have:=h.n1;omega)
 have d3:decide (m.bm<1)=false:=Qh (by have:=h.bz;omega)
 have d4:decide ((1000000:Int)<m.bm)=false:=Qh (by have:=h.bz;omega)
 have d5:decide (m.aG<0)=false:=Qh (by have:=h.seq;omega)
 have d6:decide ((1000000:Int)<m.aG)=false:=Qh (by have:=h.seq;omega)
 have d7:decide ((200:Int)<((m.bb.size:Nat):Int))=false:=Qh (by have:=h.n5;omega)
 have hm:dK (bU m).aa:=by rw[oR];exact h.aO.sm
 unfold jC;simp only[d1,d2,d3,d4,d5,d6,d7,Ql,Qa,al.eta,af.eta,ai.eta,nM h.aO,decide_true,Qo,YS h,cy,wP,Bh h,nJ hm]
 cases hz:aC m.ab with
 |true=>
  have h0:P0 m:=by
   rcases h.body with k|k|k|k
   ·exact k
   ·rw[k.aK.nz]at hz;cases hz
   ·rw[k.aK.nz]at hz;cases hz
   ·rw[k.aK.nz]at hz;cases hz
  unfold vo;simp only[h0.aL,hs.zero hz,h0.cZ,h0.bI,h0.dw,h0.low,h0.bH,YD,decide_true,Qk,Qa]
 |false=>
  have hv:=K8 h hs hz;simp only[hv,Ql,Qk]
  have hconf:mF m=some true:=by
   unfold mF;simp only[cy,qZ,oE,eJ,Qa]
   have fin:∀(hf:cv m.au) (hp:(du m.ao m.aw m.au||(!decide (m.aH=1)&&bC m.au m.ab))=true),_:=fun hf hp=>(show(bif aC m.au then some true else
     (bif !cn m.au then some true else some (decide (1000<m.au.aj))).bind fun b3=>bif b3 then some false else
     (bif du m.ao m.aw m.au then some true else(bif !decide (m.aH=1)then some (bC m.au m.ab)else some false).bind fun b6=>some b6).bind fun b7=>some b7)=some true by
    rw[hf.nz,hf.valid,Qh (show¬1000<m.au.aj by have:=hf.2.1;omega)]
    revert hp
    cases du m.ao m.aw m.au<;>cases decide (m.aH=1)<;>cases bC m.au m.ab<;>simp)
   have nob:m.au=bL->(bif aC m.au then some true else
     (bif !cn m.au then some true else some (decide (1000<m.au.aj))).bind fun b3=>bif b3 then some false else
     (bif du m.ao m.aw m.au then some true else(bif !decide (m.aH=1)then some (bC m.au m.ab)else some false).bind fun b6=>some b6).bind fun b7=>some b7)=some true:=fun e=>by rw[e,bD];rfl
   rcases h.body with k|k|k|k
   ·exact nob k.dw
   ·rcases k.dw with e|⟨hf,hp⟩
    ·exact nob e
    ·exact fin hf (by rw[hp];rfl)
   ·rcases k.dw with e|⟨hf,hp⟩
    ·exact nob e
    ·exact fin hf (by rw[gS.2 hp,Qh (show¬m.aH=1 by have:=k.aL;omega)];simp)
   ·exact nob k.dw
  rw[hconf];simp only[Qa,Qk];rcases h.body with k|k|k|k
  ·rw[k.aK,bD]at hz;cases hz
  ·simp only[k.aL,k.bH,decide_true,Qo,Ql,Qa,Qp,Qk,show decide ((1:Int)=3)=false from rfl]
  ·simp only[k.aL,k.bI,bD,show decide ((2:Int)=1)=false from rfl,show decide ((2:Int)=3)=false from rfl,Qo,Ql,Qa,Qp,Qk]
  ·simp only[k.aL,k.bI,k.cZ,bD,show decide ((3:Int)=1)=false from rfl,decide_true,Qo,Ql,Qa,Qp,Qk]
theorem ym{m:af}(h:bc m)(hs:fY m):jK m=some true:=by
 have d1:decide (m.ar<0)=false:=Qh (by have:=h.n0;omega)
 have d2:decide ((9:Int)<m.ar)=false:=Qh (by have:=h.n1;omega)
 have d3:decide (m.bm<1)=false:=Qh (by have:=h.bz;omega)
 have d4:decide ((1000000:Int)<m.bm)=false:=Qh (by have:=h.bz;omega)
 have d5:decide (m.aG<0)=false:=Qh (by have:=h.seq;omega)
 have d6:decide ((1000000:Int)<m.aG)=false:=Qh (by have:=h.seq;omega)
 have d7:decide ((200:Int)<((m.bb.size:Nat):Int))=false:=Qh (by have:=h.n5;omega)
 have hm:dK (bU m).aa:=by rw[oR];exact h.aO.sm
 unfold jK;simp only[d1,d2,d3,d4,d5,d6,d7,Ql,Qa,al.eta,nv h.aO,decide_true,Qo];refine JO h (fun i e he hd hx hw hi=> ?_) (fun hd=> ?_)
 ·obtain⟨g1,g2,g3,g4⟩:=h.hv e he;simp only[hd,hx,hw,Qk,Qa,aW,al.eta,ai.eta,iy g2.sm,g1,Qo,Ql,Qg g3,Qh g4];rcases hi with rfl|⟨hi,x,hx2,hn⟩
  ·rfl
  ·rw[hi,hx2];simp only[Qk,Qa,hn,Ql]
 ·simp only[hd,Ql];congr 1;simp only[dj,zf,pR,fu,Qa,al.eta,af.eta,ai.eta,xW,iy hm]
  cases hz:aC m.ab with
  |true=>
   have h0:P0 m:=by
    rcases h.body with k|k|k|k
    ·exact k
    ·rw[k.aK.nz]at hz;cases hz
    ·rw[k.aK.nz]at hz;cases hz
    ·rw[k.aK.nz]at hz;cases hz
   simp only[h0.aL,hs.zero hz,h0.cZ,h0.bI,h0.dw,h0.low,h0.bH,bD,decide_true,Qk,Qa]
  |false=>
   have hv:=K8 h hs hz;simp only[hv,Ql,Qo];rcases h.body with k|k|k|k
   ·rw[k.aK,bD]at hz;cases hz
   ·simp only[k.aL,k.bH,decide_true,Qo,Ql,Qa,Qp,Qk,show decide ((1:Int)=3)=false from rfl,show decide ((1:Int)=2)=false from rfl]
    rcases k.dw with e|⟨hf,hp⟩
    ·rw[e,bD];rfl
    ·rw[hf.nz,hf.valid,Qh (show¬1000<m.au.aj by have:=hf.2.1;omega),hp];rfl
   ·simp only[k.aL,k.bI,bD,show decide ((2:Int)=1)=false from rfl,show decide ((2:Int)=3)=false from rfl,decide_true,Qo,Ql,Qa,Qp,Qk]
    rcases k.dw with e|⟨hf,hp⟩
    ·rw[e,bD];rfl
    ·rw[hf.nz,hf.valid,Qh (show¬1000<m.au.aj by have:=hf.2.1;omega),gS.2 hp];rfl
   ·simp only[k.aL,k.bI,k.cZ,k.dw,bD,show decide ((3:Int)=1)=false from rfl,show decide ((3:Int)=2)=false from rfl,decide_true,Qo,Ql,Qa,Qp,Qk]
end Go.Proofs.YtkgenianmdfmdaaGreat
namespace Go.Proofs.YtkgenianmdfmdaaGreat
open Go.TQ
theorem vQ(x:af):(cr x).ar=x.ar/\(cr x).bm=x.bm/\(cr x).aa=x.aa/\(cr x).bb=x.bb/\(cr x).az=x.az/\(cr x).ab=x.ab:=by
 unfold cr;split<;>exact⟨rfl,rfl,rfl,rfl,rfl,rfl⟩
theorem Wv{x:af}(hx:bc x):(cr x).aG=x.aG\/(x.aG=0/\(cr x).aG=1):=by
 have:=hx.seq;unfold cr;split
 ·show bq x.aG 1=x.aG\/(x.aG=0/\bq x.aG 1=1);unfold bq;split<;>omega
 ·exact .inl rfl
theorem vR{m m':af}(he:fe m m')(h:¬m'=m):lJ m m'=false:=by
 cases hs:lJ m m' with
 |false=>rfl
 |true=>exact absurd (Od he hs) h
theorem VI{R:af->Prop}(hR1:∀m,bc m->R m->R (cd m))(hR2:∀m,R m->R (cr m)){m:af}(h:bc m)(hs:fY m)(hr:R m):Yd (qf m) (AR R m):=by
 unfold qf;simp only[af.eta,al.eta,ym h hs,Qa,Qo,Ql];refine Yd.down (fun s=>bc s.1/\R s.1/\fe m s.1/\(aC m.ab=false->aC s.1.ab=false)) (fun s=>K1+K2 - iK s.1) ?_ ⟨h,hr,fe.refl m,id⟩
 rintro⟨x,z,_⟩ ⟨hx,hrx,hex,hzx⟩;simp only at hx hrx hex hzx;simp only[af.eta,aW,Tx hx.ev,Qa,ZP]
 have hgo:∀{y:af},y=cd x->¬y=x->(bc y/\R y/\fe m y/\(aC m.ab=false->aC y.ab=false))/\K1+K2 - iK y<K1+K2 - iK x:=by
  rintro y rfl hne;have hv:=uf x;have hup:=(N9 hx).resolve_left hne;have h1:=R3 (wM hx);exact⟨⟨wM hx,hR1 _ hx hrx,⟨hv.ax.trans hex.ax,hv.bz.trans hex.bz,hv.seq.trans hex.seq,hv.aO.trans hex.aO,hv.n5.trans hex.n5,hv.heard.trans hex.heard⟩,fun hz=>G0 hx (hzx hz)⟩,by omega⟩
 by_cases hP:cz x=x
 ·simp only[hP,rl,Qk,RO hx.ev,Qa]
  by_cases hS:fX x=x
  ·simp only[hS,rl,Qk,RP hx.ev,Qa]
   by_cases hC:fj x=x
   ·simp only[hC,rl,Qk,Y6 hx.ev,Qa]
    by_cases hF:iT x=x
    ·simp only[hF,rl,Qk,Xb hx.ev,Qa];have e:cd x=eH x:=by unfold cd;rw[Qr hP,Qr hS,Qr hC,Qr hF]
     by_cases hK:eH x=x
     ·simp only[hK,rl,Qk,dj,Qa]
      have hnum:(bif !aC x.ab then Option.map Sum.inr (some (⟨x.ar,x.bm,bq x.aG (1:Int),x.aa,x.aH,x.ab,x.ao,x.aw,x.au,x.aI,x.aQ,x.bb,x.az⟩:af))else Option.map (Sum.inr (α:=af×af×Unit)) (some x))=some (Sum.inr (cr x)):=by
       unfold cr;cases aC x.ab<;>rfl
      rw[hnum];obtain⟨e1,e2,e3,e4,e5,e6⟩:=vQ x;refine .some ⟨Cl hx,Fm fun hz=> ?_,⟨e1.trans hex.ax,e2.trans hex.bz,e3.trans hex.aO,e4.trans hex.n5,e5.trans hex.heard⟩,?_,fun hz=>by rw[e6];exact hzx hz,hR2 _ hrx,Ww hx ⟨hP,hS,hC,hF,hK⟩⟩
      ·rw[hex.seq];refine hs.zero ?_
       cases hzz:aC m.ab with
       |true=>rfl
       |false=>rw[hzx hzz]at hz;cases hz
      ·have:=Wv hx;rw[hex.seq]at this;exact this
     ·simp only[vR (wO x) hK,Ql];exact .some (hgo e.symm hK)
    ·simp only[vR (qw x) hF,Ql];have e:cd x=iT x:=by unfold cd;rw[Qr hP,Qr hS,Qr hC,Qs hF]
     exact .some (hgo e.symm hF)
   ·simp only[vR (qx x) hC,Ql];have e:cd x=fj x:=by unfold cd;rw[Qr hP,Qr hS,Qs hC]
    exact .some (hgo e.symm hC)
  ·simp only[vR (qv x) hS,Ql];have e:cd x=fX x:=by unfold cd;rw[Qr hP,Qs hS]
   exact .some (hgo e.symm hS)
 ·simp only[vR (uk x) hP,Ql];have e:cd x=cz x:=by unfold cd;rw[Qs hP]
  exact .some (hgo e.symm hP)
open Classical in
 def iB(m m2:af):af:=if aC m.ab=false/\{bU m with aG:=0}≠{bU m2 with aG:=0}then{m2 with aG:=dG (m2.aG+1) 1000000}else m2
theorem PS(m m2:af):∃s,iB m m2={m2 with aG:=s}/\(s=m2.aG\/s=dG (m2.aG+1) 1000000):=by
 unfold iB;split
 ·exact⟨_,rfl,.inr rfl⟩
 ·exact⟨m2.aG,rfl,.inl rfl⟩
theorem AN{m m2:af}(h:bc m2):∃s,iB m m2={m2 with aG:=s}/\m2.aG<=s/\0<=s/\s<=1000000:=by
 obtain⟨s,h1,h2⟩:=PS m m2;have:=h.seq;refine⟨s,h1,?_⟩;rcases h2 with rfl|rfl
 ·omega
 ·unfold dG;split<;>omega
theorem PT{m m2:af}(h:bc m2):bc (iB m m2):=by
 obtain⟨s,h1,h2⟩:=AN (m:=m) h;rw[h1];exact Lo h h2.2
theorem Xd{m m2:af}(h:bc m2)(hf:ze m2):ze (iB m m2):=by
 obtain⟨s,h1,h2⟩:=AN (m:=m) h;rw[h1];exact Ss h hf h2.2
theorem SL{m m2:af}(h:bc m2)(hs:fY m2)(hnz:aC m.ab=false->aC m2.ab=false):fY (iB m m2):=by
 unfold iB;split
 ·rename_i hc;have:=hs.pos (hnz hc.1);refine⟨fun hz=> ?_,fun _=> ?_⟩
  ·rw[show({m2 with aG:=dG (m2.aG+1) 1000000}:af).ab=m2.ab from rfl,hnz hc.1]at hz
   cases hz
  ·show 1<=dG (m2.aG+1) 1000000;unfold dG;split<;>omega
 ·exact hs
def GU(R:af->Prop)(m m1:af)(q:af×Int×Unit):Prop:=∃m2,q=(iB m m2,(0:Int),())/\AR R (cr m1) m2
theorem Zs{R:af->Prop}{m1 m2:af}(h1:bc m1)(h:AR R m1 m2):AR R (cr m1) m2:=by
 obtain⟨e1,e2,e3,e4,e5,e6⟩:=vQ m1;refine⟨h.inv,h.seq,?_,?_,fun hz=>h.nz (by rw[e6]at hz;exact hz),h.rel,h.fix⟩
 ·obtain⟨a1,a2,a3,a4,a5⟩:=h.env;exact⟨a1.trans e1.symm,a2.trans e2.symm,a3.trans e3.symm,a4.trans e4.symm,a5.trans e5.symm⟩
 ·have hn:=h.num;have hq:=h1.seq
  cases hz:aC m1.ab with
  |true=>
   have:cr m1=m1:=Qs (by rw[hz];decide)
   rw[this];exact hn
  |false=>
   have h3:=h.seq.pos (h.nz hz);have:(cr m1).aG=bq m1.aG 1:=by unfold cr;rw[Qr hz]
   rw[this];left;unfold bq;split<;>omega
theorem Y9{m:af}(h:bc m):dK ({bU m with aG:=0}:ai).aa:=by rw[show({bU m with aG:=0}:ai).aa=(bU m).aa from rfl,oR];exact h.aO.sm
theorem xP{R:af->Prop}(hR1:∀m,bc m->R m->R (cd m))(hR2:∀m,R m->R (cr m)){m m1:af}(h:bc m)(h1:bc m1)(hz1:aC m1.ab=true->m1.aG=0)(hnz:aC m.ab=false->aC m1.ab=false)(hr:R m1):
  Yd (fR m (cr m1)) fun q=>∃m2,q=iB m m2/\AR R (cr m1) m2:=by
 unfold fR;simp only[af.eta,al.eta];refine Yd.bind (VI hR1 hR2 (Cl h1) (Fm hz1) (hR2 _ hr)) fun m2 ha=> ?_
 have hq:=ha.inv.seq;obtain⟨r,g1,g2⟩:=acF (a:={bU m with aG:=0}) (b:={bU m2 with aG:=0}) (Y9 h)
 have hadd:aA .i64 m2.aG 1=m2.aG+1:=bM (by omega) (by omega)
 simp only[dj,Qa,xW,aW,g1,hadd]
 cases hz2:aC m2.ab with
 |true=>
  have hz:aC m.ab=true:=by
   cases hc:aC m.ab with
   |true=>rfl
   |false=>rw[ha.nz (by rw[(vQ m1).2.2.2.2.2];exact hnz hc)]at hz2;cases hz2
  refine .some ⟨m2,?_,ha⟩;unfold iB;rw[Qs (by rw[hz];rintro⟨e,_⟩;cases e)]
 |false=>
  refine Yd.of_eq (x:=iB m m2) ?_ ⟨m2,rfl,ha⟩;unfold iB
  cases hz:aC m.ab with
  |true=>rw[Qs (by rintro⟨e,_⟩;cases e)];rfl
  |false=>
   cases r with
   |true=>rw[Qs (fun e=>e.2 (g2.1 rfl))];rfl
   |false=>rw[Qr ⟨rfl,fun e=>by have:=g2.2 e;cases this⟩];rfl
theorem ZO(a b:ai)(h:dK a.aa)(hn:a.ar=b.ar)(hs:a.bm=b.bm):∃r,l9 a b=some r/\(r=true↔{a with aG:=0}={b with aG:=0}):=by
 obtain⟨r,h1,h2⟩:=eqT (a:=a.aa) (b:=b.aa) h;refine⟨r&&decide (a.br=b.br)&&decide (a.ab=b.ab)&&decide (a.ao=b.ao)&&decide (a.aw=b.aw)&&decide (a.aI=b.aI)&&decide (a.aQ=b.aQ),?_,?_⟩
 ·unfold l9;simp only[al.eta,h1,Qa,SH,Sw,<-Bool.decide_and,<-Kg,Qa]
 ·rw[Lx];simp only[Qm,Qi,hn,hs,h2,true_and];simp only[and_assoc]
theorem CM{m:af}(h:bc m):ki m=some m:=by
 unfold ki;simp only[al.eta,ux h.aO.sm,Qa];rw[VR (fun e he=>(h.hv e he).2.1.sm) (by have:=h.len;omega)]
 rfl
theorem zJ{l:List ai}{e:ai}(hv:aJ e=true):
  (∃x∈l,x.ar=e.ar/\e.aG<=x.aG/\jW l e=(l,false,()))\/
  (∃a b,((∃x,l=a++x::b/\x.ar=e.ar/\x.aG<e.aG)\/(l=a++b/\(∀x∈l,x.ar≠e.ar)/\(∀x∈a,¬e.ar<x.ar)/\(∀x,b.head?=some x->e.ar<x.ar)))/\jW l e=(a++e::b,true,())):=by
 unfold jW;rw[Qr hv]
 cases hf:l.findIdx? (fun x=>decide (x.ar=e.ar))with
 |some i=>
  obtain⟨hi,h2,_⟩:=List.findIdx?_eq_some_iff_getElem.1 hf;have hx:l[i]?=some l[i]:=Qv hi;have h2:=of_decide_eq_true h2;simp only[hx,Q3]
  by_cases hle:e.aG<=l[i].aG
  ·left;rw[Qr hle];exact⟨l[i],Q0 hi,h2,hle,rfl⟩
  ·right;rw[Qs hle];refine⟨l.take i,l.drop (i+1),.inl ⟨l[i],?_,h2,by omega⟩,?_⟩
   ·rw[List.getElem_cons_drop];exact(List.take_append_drop i l).symm
   ·rw[List.set_eq_take_append_cons_drop,Qr hi]
 |none=>
  right
  have hne:∀x∈l,x.ar≠e.ar:=fun x hx he=>by
   have:=List.findIdx?_eq_none_iff.1 hf x hx;rw[he]at this;simp at this
  refine⟨l.take (z7 l e),l.drop (z7 l e),.inr ⟨(List.take_append_drop _ l).symm,hne,?_,?_⟩,by rw[QL];rfl⟩
  ·intro x hx hlt;obtain⟨j,hj,rfl⟩:=List.getElem_of_mem hx;rw[List.getElem_take]at hlt;rw[List.length_take]at hj;unfold z7 at hj
   cases hg:l.findIdx? (fun x=>decide (e.ar<x.ar))with
   |none=>
    have:=List.findIdx?_eq_none_iff.1 hg _ (Q0 (show j<l.length by omega))
    simp[hlt]at this
   |some k=>
    obtain⟨_,_,h3⟩:=List.findIdx?_eq_some_iff_getElem.1 hg;rw[hg,Q3]at hj;have:=h3 j (by omega)
    simp[hlt]at this
  ·intro x hx;rw[List.head?_drop]at hx;unfold z7 at hx
   cases hg:l.findIdx? (fun x=>decide (e.ar<x.ar))with
   |none=>rw[hg,Option.getD_none,List.getElem?_eq_none (QI _)]at hx;cases hx
   |some k=>
    obtain⟨hk,h2,_⟩:=List.findIdx?_eq_some_iff_getElem.1 hg;rw[hg,Q3,Qv hk]at hx;obtain rfl:=Option.some.inj hx;exact of_decide_eq_true h2
theorem R5{l:List ai}{e:ai}{y:ai}(hy:y∈(jW l e).1):y=e\/y∈l:=by
 by_cases hv:aJ e=true
 ·rcases zJ (l:=l) hv with⟨x,_,_,_,h⟩|⟨a,b,h1,h⟩
  ·rw[h]at hy;exact .inr hy
  ·rw[h]at hy;rcases Qz.1 hy with hy|hy
   ·rcases h1 with⟨x,rfl,_⟩|⟨rfl,_⟩
    ·exact .inr (List.mem_append_left _ hy)
    ·exact .inr (List.mem_append_left _ hy)
   ·rcases QA.1 hy with hy|hy
    ·exact .inl hy
    ·rcases h1 with⟨x,rfl,_⟩|⟨rfl,_⟩
     ·exact .inr (List.mem_append_right _ (Qy _ hy))
     ·exact .inr (List.mem_append_right _ hy)
 ·unfold jW at hy;rw[Qs hv]at hy;exact .inr hy
theorem Tu{l:List ai}{e:ai}(hl:l.Pairwise (fun a b=>a.ar<b.ar)):(jW l e).1.Pairwise (fun a b=>a.ar<b.ar):=by
 by_cases hv:aJ e=true
 ·rcases zJ (l:=l) hv with⟨x,_,_,_,h⟩|⟨a,b,h1,h⟩
  ·rw[h];exact hl
  ·rw[h];show(a++e::b).Pairwise _;rcases h1 with⟨x,rfl,hn,_⟩|⟨rfl,hne,ha,hb⟩
   ·rw[List.pairwise_append,Q4]at hl ⊢;obtain⟨g1,⟨g2,g3⟩,g4⟩:=hl;refine⟨g1,⟨fun y hy=> ?_,g3⟩,fun y hy z hz=> ?_⟩
    ·rw[<-hn];exact g2 y hy
    ·rcases QA.1 hz with rfl|hz
     ·rw[<-hn];exact g4 y hy x Qx
     ·exact g4 y hy z (Qy _ hz)
   ·rw[List.pairwise_append]at hl;rw[List.pairwise_append,Q4];obtain⟨g1,g3,g4⟩:=hl
    have hbe:∀y∈b,e.ar<y.ar:=by
     intro y hy
     cases b with
     |nil=>cases hy
     |cons z b=>
      have:=hb z rfl;rcases QA.1 hy with rfl|hy
      ·exact this
      ·have:=(Q4.1 g3).1 y hy;omega
    refine⟨g1,⟨hbe,g3⟩,fun y hy z hz=> ?_⟩
    rcases QA.1 hz with rfl|hz
    ·have h2:=ha y hy;have h3:=hne y (List.mem_append_left _ hy);omega
    ·exact g4 y hy z hz
 ·unfold jW;rw[Qs hv];exact hl
structure sY (m:af) (e:ai):Prop where
 valid:aJ e=true
 aO:gA e.aa
 bz:e.bm=m.bm
 ax:e.ar≠m.ar
 def kP(m:af)(e:ai):af:={m with az:=(jW m.az e).1}
theorem yU{m:af}(h:bc m){e:ai}(he:sY m e):bc (kP m e):=by
 refine⟨h.n0,h.n1,h.bz,h.seq,h.aO,h.n5,fun y hy=> ?_,Tu h.mW,?_⟩
 ·rcases R5 hy with rfl|hy
  ·exact⟨he.valid,he.aO,he.bz,he.ax⟩
  ·exact h.hv y hy
 ·rcases h.body with k|k|k|k
  ·exact .inl ⟨k.aL,k.aK,k.cZ,k.bI,k.dw,k.low,k.bH⟩
  ·exact .inr (.inl ⟨k.aL,k.aK,k.cZ,k.bI,k.dw,k.up,k.bH,k.low⟩)
  ·exact .inr (.inr (.inl ⟨k.aL,k.aK,k.cZ,k.bI,k.dw,k.range⟩))
  ·exact .inr (.inr (.inr ⟨k.aL,k.aK,k.cZ,k.bI,k.dw,k.range⟩))
def zY(m:af)(t:al):af:={m with aa:=t}
theorem PA{m:af}(h:bc m){t:al}(ht:gA t):bc (zY m t):=by
 refine⟨h.n0,h.n1,h.bz,h.seq,ht,h.n5,h.hv,h.mW,?_⟩;rcases h.body with k|k|k|k
 ·exact .inl ⟨k.aL,k.aK,k.cZ,k.bI,k.dw,k.low,k.bH⟩
 ·exact .inr (.inl ⟨k.aL,k.aK,k.cZ,k.bI,k.dw,k.up,k.bH,k.low⟩)
 ·exact .inr (.inr (.inl ⟨k.aL,k.aK,k.cZ,k.bI,k.dw,k.range⟩))
 ·exact .inr (.inr (.inr ⟨k.aL,k.aK,k.cZ,k.bI,k.dw,k.range⟩))
def dF(m:af)(v:ByteArray):af:=if aC m.ab=true then{m with bb:=v,ab:=⟨1,db {m with bb:=v}⟩}else{m with bb:=v}
theorem Ya{v:ByteArray}(h:1<=v.size):v≠eZ:=by
 rintro rfl;exact absurd h (by decide)
theorem N0{m:af}(h:P0 m){v:ByteArray}(hv:1<=v.size):db {m with bb:=v}=v:=by
 unfold db;rw[Qs (by rw[show({m with bb:=v}:af).au=m.au from rfl,h.dw,bD];decide),Qs (by rw[show({m with bb:=v}:af).aH=m.aH from rfl,h.aL];decide),Qr (Ya hv)]
theorem yF{m:af}(h:bc m){v:ByteArray}(hv:1<=v.size/\v.size<=200):bc (dF m v):=by
 unfold dF;rcases h.body with k|k|k|k
 ·rw[Qr (by rw[k.aK];exact bD),N0 k hv.1]
  refine⟨h.n0,h.n1,h.bz,h.seq,h.aO,hv.2,h.hv,h.mW,.inr (.inl ⟨k.aL,⟨by show(1:Int)<=1;omega,by show(1:Int)<=1000;omega,hv.1,hv.2⟩,.inl k.cZ,.inl k.bI,.inl k.dw,?_,k.bH,.inl k.low⟩)⟩
  show bd _ m.au=false;rw[k.dw]
  cases hl:bd (⟨1,v⟩:ae) bL with
  |false=>rfl
  |true=>have:=gE hl;exact absurd (show(1:Int)<=0 from this) (by decide)
 ·rw[Qs (by rw[k.aK.nz];decide)]
  exact⟨h.n0,h.n1,h.bz,h.seq,h.aO,hv.2,h.hv,h.mW,.inr (.inl ⟨k.aL,k.aK,k.cZ,k.bI,k.dw,k.up,k.bH,k.low⟩)⟩
 ·rw[Qs (by rw[k.aK.nz];decide)]
  exact⟨h.n0,h.n1,h.bz,h.seq,h.aO,hv.2,h.hv,h.mW,.inr (.inr (.inl ⟨k.aL,k.aK,k.cZ,k.bI,k.dw,k.range⟩))⟩
 ·rw[Qs (by rw[k.aK.nz];decide)]
  exact⟨h.n0,h.n1,h.bz,h.seq,h.aO,hv.2,h.hv,h.mW,.inr (.inr (.inr ⟨k.aL,k.aK,k.cZ,k.bI,k.dw,k.range⟩))⟩
def kN(m:af):af:={m with aI:=if db m=m.ab.Value then m.aI else 0,ab:=⟨m.ab.aj+1,db m⟩}
theorem VY{m:af}(h:bc m)(h3:m.aH≠3)(hv:db m≠eZ):1<=(db m).size/\(db m).size<=200:=by
 have h1:m.aH=1->(m.au=bL\/cv m.au)->1<=(db m).size/\(db m).size<=200:=fun hp hc=>by
  refine RW h hp hc ?_;refine Classical.byContradiction fun hn=>hv ?_
  simp only[not_or,Classical.not_not]at hn;obtain⟨a1,a2,a3⟩:=hn;unfold db;rw[Qs (by rw[a3,bD];decide),Qs (by rw[hp];decide),Qs (by rw[a2];exact fun e=>e rfl),a1]
  rfl
 rcases h.body with k|k|k|k
 ·exact h1 k.aL (.inl k.dw)
 ·exact h1 k.aL (k.dw.imp_right And.left)
 ·unfold db;rcases k.dw with e|⟨hf,_⟩
  ·rw[Qs (by rw[e,bD];decide),Qr (by rw[k.aL];decide)]
   exact k.aK.2.2
  ·rw[Qr hf.nz];exact hf.2.2
 ·exact absurd k.aL h3
theorem aaS{m:af}(k:P2 m):db m=m.ab.Value:=by
 unfold db;rcases k.dw with e|⟨hf,he⟩
 ·rw[Qs (by rw[e,bD];decide),Qr (by rw[k.aL];decide)]
 ·rw[Qr hf.nz,he]
theorem N6{m:af}(h:bc m)(h3:m.aH≠3)(hv:db m≠eZ)(hc:m.ab.aj<1000):bc (kN m):=by
 have hsz:=VY h h3 hv;refine⟨h.n0,h.n1,h.bz,h.seq,h.aO,h.n5,h.hv,h.mW,?_⟩;have hfin:0<=m.ab.aj->cv (kN m).ab:=fun h0=>⟨by show 1<=m.ab.aj+1;omega,by show m.ab.aj+1<=1000;omega,hsz⟩
 rcases h.body with k|k|k|k
 ·have h0:m.ab.aj=0:=by rw[k.aK];rfl
  refine .inr (.inl ⟨k.aL,hfin (by omega),.inl k.cZ,.inl k.bI,.inl k.dw,?_,k.bH,.inl ?_⟩)
  ·show bd (⟨m.ab.aj+1,db m⟩:ae) m.au=false;rw[k.dw]
   cases hl:bd (⟨m.ab.aj+1,db m⟩:ae) bL with
   |false=>rfl
   |true=>have:=gE hl;exact absurd (show m.ab.aj+1<=0 from this) (by omega)
  ·show(if db m=m.ab.Value then m.aI else 0)=0
   rw[k.low,ite_self]
 ·have hb:=k.aK;have h0:0<=m.ab.aj:=by have:=hb.1;omega
  refine .inr (.inl ⟨k.aL,hfin h0,k.cZ,k.bI,k.dw,?_,k.bH,?_⟩)
  ·show bd (⟨m.ab.aj+1,db m⟩:ae) m.au=false
   cases hl:bd (⟨m.ab.aj+1,db m⟩:ae) m.au with
   |false=>rfl
   |true=>
    have h1:=gE hl;have h2:=Hz k.up;exact absurd (show m.ab.aj+1<=m.au.aj from h1) (by omega)
  ·show(if db m=m.ab.Value then m.aI else 0)=0\/_
   by_cases he:db m=m.ab.Value
   ·have hlow:(kN m).aI=m.aI:=by show(if db m=m.ab.Value then m.aI else 0)=m.aI;rw[Qr he]
    have hhigh:ep (kN m)=ep m:=by
     show(if(!aC m.au&&bC m.au ⟨m.ab.aj+1,db m⟩)=true then m.au.aj else 0)=ep m
     rw[he];rfl
    rw[Qr he,hlow,hhigh];rcases k.low with e|⟨g1,g2,g3⟩
    ·exact .inl e
    ·refine .inr ⟨g1,g2,?_⟩;show kG m.ao m.aw (db m) m.aI=false;rw[he];exact g3
   ·rw[Qs he];exact .inl rfl
 ·have hb:=k.aK;have h0:0<=m.ab.aj:=by have:=hb.1;omega
  have hv2:=aaS k;have hval:(kN m).ab.Value=m.ab.Value:=hv2;have hlow:(kN m).aI=m.aI:=by show(if db m=m.ab.Value then m.aI else 0)=m.aI;rw[Qr hv2]
  refine .inr (.inr (.inl ⟨k.aL,hfin h0,?_,k.bI,?_,?_⟩))
  ·rw[hval];exact k.cZ
  ·rw[hval];exact k.dw
  ·rw[hlow];exact k.range
 ·exact absurd k.aL h3
end Go.Proofs.YtkgenianmdfmdaaGreat
namespace Go.Proofs.YtkgenianmdfmdaaGreat
open Go.TQ
def aaP:al:=⟨0,[],[]⟩
def BM:af:=⟨0,0,0,aaP,0,bL,bL,bL,bL,0,0,eZ,[]⟩
theorem Jj{m m1:af}(hs:fY m)(hb:aC m1.ab=aC m.ab)(hq:m1.aG=m.aG):cr m1=m1:=by
 refine YC ⟨fun hz=> ?_,fun hz=> ?_⟩
 ·rw[hq];exact hs.zero (by rw[<-hb];exact hz)
 ·rw[hq];exact hs.pos (by rw[<-hb];exact hz)
theorem jX{m:af}{v:ByteArray}:(aC m.ab=false->aC (dF m v).ab=false)/\(dF m v).aG=m.aG:=by
 unfold dF;split
 ·rename_i hz;refine⟨fun e=> ?_,rfl⟩
  rw[hz]at e;cases e
 ·exact⟨fun e=>e,rfl⟩
theorem OI{m:af}(h:bc m){v:ByteArray}(hv:1<=v.size/\v.size<=200):aC (dF m v).ab=false:=by
 rcases h.body with k|k|k|k
 ·unfold dF;rw[Qr (by rw[k.aK];exact bD),N0 k hv.1]
  exact cv.nz ⟨by show(1:Int)<=1;omega,by show(1:Int)<=1000;omega,hv.1,hv.2⟩
 ·exact jX.1 k.aK.nz
 ·exact jX.1 k.aK.nz
 ·exact jX.1 k.aK.nz
theorem Fa{m:af}(h:bc m):aC (kN m).ab=false:=by
 have:0<=m.ab.aj:=by
  rcases h.body with k|k|k|k
  ·rw[k.aK];decide
  ·have:=k.aK.1;omega
  ·have:=k.aK.1;omega
  ·have:=k.aK.1;omega
 cases hz:aC (kN m).ab with
 |false=>rfl
 |true=>
  have:=ua.1 hz;have h2:m.ab.aj+1=0:=congrArg ae.aj this;omega
section
variable {R : af -> Prop} (hR1 : ∀ m, bc m -> R m -> R (cd m)) (hR2 : ∀ m, R m -> R (cr m)) {m : af} (h : bc m) (hs : fY m)
 include hR1 hR2 h hs
theorem Wh{v:ByteArray}(hv:1<=v.size/\v.size<=200)(hr:R (dF m v)):Yd (qd m v) (GU R m (dF m v)):=by
 have d1:decide (((ByteArray.size v:Nat):Int)<(1:Int))=false:=Qh (by omega)
 have d2:decide ((200:Int)<((ByteArray.size v:Nat):Int))=false:=Qh (by omega)
 have hi:=yF h hv;have hval:ln {m with bb:=v}=some (db {m with bb:=v}):=KA (m:={m with bb:=v}) ⟨h.ev.n0,h.ev.n1,h.ev.aO,h.ev.len,h.ev.sm,h.ev.valid⟩
 unfold qd;simp only[af.eta,al.eta,ym h hs,Qa,Qo,Ql,d1,d2,dj,aW]
 have key:Yd ((fR m (cr (dF m v))).bind fun r5=>some (r5,(0:Int),())) (GU R m (dF m v)):=
  Yd.bind (xP hR1 hR2 h hi (fun hz=>by rw[jX.2];exact hs.zero (by cases hc:aC m.ab with|true=>rfl|false=>rw[jX.1 hc]at hz;cases hz)) jX.1 hr) fun q hq=>by
   obtain⟨m2,rfl,ha⟩:=hq;exact .some ⟨m2,rfl,ha⟩
 cases hz:aC m.ab with
 |true=>
  have hsq:=hs.zero hz
  have he:cr (dF m v)=⟨m.ar,m.bm,1,m.aa,m.aH,⟨1,db {m with bb:=v}⟩,m.ao,m.aw,m.au,m.aI,m.aQ,v,m.az⟩:=by
   unfold cr;rw[Qr (OI h hv),jX.2,hsq];unfold dF;rw[Qr hz];rfl
  rw[he]at key;simp only[Qk];rw[show(⟨m.ar,m.bm,m.aG,m.aa,m.aH,m.ab,m.ao,m.aw,m.au,m.aI,m.aQ,v,m.az⟩:af)={m with bb:=v}from rfl,hval]
  exact key
 |false=>
  have he:cr (dF m v)=⟨m.ar,m.bm,m.aG,m.aa,m.aH,m.ab,m.ao,m.aw,m.au,m.aI,m.aQ,v,m.az⟩:=by
   rw[Jj hs (by rw[jX.1 hz,hz]) jX.2]
   unfold dF;rw[Qs (by rw[hz];decide)]
  rw[he]at key;exact key
theorem Wg{e:ai}(he:sY m e)(hr:R (kP m e)):Yd (kU m e) fun q=>(GU R m (kP m e) q/\(jW m.az e).2.1=true)\/(q=(BM,(9:Int),())/\(jW m.az e).2.1=false):=by
 have hi:=yU h he;have hlen:=h.len;have hput:=Yf (l:=m.az) (fun x hx=>(h.hv x hx).2.1.sm) (by omega) (e:=e) he.aO.sm
 have hid:cr (kP m e)=kP m e:=Jj hs rfl rfl;unfold kU;simp only[af.eta,al.eta,ai.eta,ym h hs,Qa,Qo,Ql,iy he.aO.sm,he.valid,Qh he.ax,Qg he.bz,hput]
 cases hp:(jW m.az e).2.1 with
 |false=>exact .some (.inr ⟨rfl,rfl⟩)
 |true=>
  have:=xP hR1 hR2 h hi hs.zero (fun e=>e) hr
  rw[hid]at this;refine Yd.bind this fun q hq=> ?_
  obtain⟨m2,rfl,ha⟩:=hq;exact .some (.inl ⟨⟨m2,rfl,by rw[hid];exact ha⟩,rfl⟩)
theorem Wf(hr:R (kN m)):Yd (qc m) fun q=>(GU R m (kN m) q/\m.aH≠3/\db m≠eZ/\m.ab.aj<1000)\/(q=(BM,(62:Int),())/\(m.aH=3\/db m=eZ))\/(q=(BM,(3:Int),())/\1000<=m.ab.aj):=by
 unfold qc;simp only[af.eta,al.eta,ym h hs,Qa,Qo,Ql,KA h.ev,aW]
 by_cases h3:m.aH=3
 ·rw[Qg h3];exact .some (.inr (.inl ⟨rfl,.inl h3⟩))
 ·rw[Qh h3]
  by_cases hv:db m=ByteArray.mk #[]
  ·rw[Qg hv];exact .some (.inr (.inl ⟨rfl,.inr hv⟩))
  ·rw[Qh hv]
   by_cases hc:(1000:Int)<=m.ab.aj
   ·rw[Qg hc];exact .some (.inr (.inr ⟨rfl,hc⟩))
   ·rw[Qh hc];have hi:=N6 h h3 hv (by omega)
    have hb0:0<=m.ab.aj:=by
     rcases h.body with k|k|k|k
     ·rw[k.aK];decide
     ·have:=k.aK.1;omega
     ·have:=k.aK.1;omega
     ·have:=k.aK.1;omega
    have hadd:aA .i64 m.ab.aj 1=m.ab.aj+1:=bM (by omega) (by omega)
    have key:Yd ((fR m (cr (kN m))).bind fun r5=>some (r5,(0:Int),())) (GU R m (kN m)):=
     Yd.bind (xP hR1 hR2 h hi (fun hz=>by rw[Fa h]at hz;cases hz) (fun _=>Fa h) hr) fun q hq=>by
      obtain⟨m2,rfl,ha⟩:=hq;exact .some ⟨m2,rfl,ha⟩
    have he:cr (kN m)=⟨m.ar,m.bm,bq m.aG 1,m.aa,m.aH,⟨m.ab.aj+1,db m⟩,m.ao,m.aw,m.au,(if db m=m.ab.Value then m.aI else 0),m.aQ,m.bb,m.az⟩:=by
     unfold cr;rw[Qr (Fa h)];rfl
    rw[he]at key;simp only[hadd,Ql,Qk]
    by_cases hev:db m=m.ab.Value
    ·simp only[Qg hev,Qo,Ql];rw[Qr hev]at key;exact key.mono fun q hq=> .inl ⟨hq,h3,hv,by omega⟩
    ·simp only[Qh hev,Qp,Qk];rw[Qs hev]at key;exact key.mono fun q hq=> .inl ⟨hq,h3,hv,by omega⟩
theorem Wk{t:al}(ht:gA t)(hr:R (zY m t)):Yd (qe m t) (GU R m (zY m t)):=by
 have hi:=PA h ht;have hid:cr (zY m t)=zY m t:=Jj hs rfl rfl;unfold qe;simp only[af.eta,al.eta,ym h hs,Qa,Qo,Ql,nv ht,decide_true];have:=xP hR1 hR2 h hi hs.zero (fun e=>e) hr
 rw[hid]at this;refine Yd.bind this fun q hq=> ?_
 obtain⟨m2,rfl,ha⟩:=hq;exact .some ⟨m2,rfl,by rw[hid];exact ha⟩
end
def gI(ax bz:Int)(t:al):af:=⟨ax,bz,0,t,1,bL,bL,bL,bL,0,0,eZ,[]⟩
theorem acw{ax bz:Int}{t:al}(h0:0<=ax)(h1:ax<10)(h2:1<=bz)(h3:bz<=1000000)(ht:gA t):wJ ax bz t=some (gI ax bz t,(0:Int),()):=by
 unfold wJ;simp only[al.eta,Qh (show¬ax<0 by omega),Qh (show¬(9:Int)<ax by omega),Qh (show¬bz<1 by omega),Qh (show¬(1000000:Int)<bz by omega),Ql,Qa,nv ht,decide_true,Qo]
 rfl
theorem acz{ax bz:Int}{t:al}(h0:0<=ax)(h1:ax<10)(h2:1<=bz)(h3:bz<=1000000)(ht:gA t):pA ax bz t=some (gI ax bz t,(0:Int),()):=by
 unfold pA;simp only[al.eta,Qh (show¬ax<0 by omega),Qh (show¬(10:Int)<=ax by omega),Qh (show¬bz<1 by omega),Qh (show¬(1000000:Int)<bz by omega),Ql,Qa,nM ht,decide_true,Qo,ux ht.sm]
 rfl
theorem Se{ax bz:Int}{t:al}(h0:0<=ax)(h1:ax<10)(h2:1<=bz)(h3:bz<=1000000)(ht:gA t):bc (gI ax bz t)/\fY (gI ax bz t):=
 ⟨⟨h0,h1,⟨h2,h3⟩,⟨by show(0:Int)<=0;omega,by show(0:Int)<=1000000;omega⟩,ht,(by show eZ.size<=200;decide),(fun e he=>absurd he QR),List.Pairwise.nil,.inl ⟨rfl,rfl,rfl,rfl,rfl,rfl,rfl⟩⟩,⟨fun _=>rfl,fun hz=>absurd (show aC bL=false from hz) (by rw[bD];decide)⟩⟩
theorem YF{ax bz:Int}{t:al}(h:bc (gI ax bz t)):ze (gI ax bz t):=by
 have hz:aC (gI ax bz t).ab=true:=bD;have hall:aR (gI ax bz t)=[]:=Qr hz;refine⟨Qr (.inr hz),oJ (.inr (.inl hz)),?_,Qs (fun e=>by have:=e.1;exact absurd (show(1:Int)=2 from this) (by decide)),?_⟩
 ·unfold fj;rw[Qr (show(gI ax bz t).aH=1 from rfl)]
  rw[Qs];intro hk;have:=(EC h hk).val;rw[hall]at this;have hv:=((mV (l:=[]) (fun e he=>by cases he) (by decide)).2.2.2 _).1 this
  obtain⟨e,he,_⟩:=hv;cases he
 ·cases ha:fW (gI ax bz t) (gI ax bz t).ab.aj with
  |false=>exact Qr (.inr ha)
  |true=>
   obtain⟨e,he,_⟩:=Km h ha;cases he
section
variable {R : af -> Prop} (hR1 : ∀ m, bc m -> R m -> R (cd m)) (hR2 : ∀ m, R m -> R (cr m)) {m : af} (h : bc m) (hs : fY m)
 include hR1 hR2 h hs
theorem PO{m1:af}(h1:bc m1)(hz1:aC m1.ab=true->m1.aG=0)(hnz:aC m.ab=false->aC m1.ab=false)(hn:m1.ar=m.ar)(hsl:m1.bm=m.bm)(hr:R m1):
  Yd (Option.bind (fB ⟨m1⟩) fun p4=>
   bj (fun(v5:ay×Unit)=>some (v5.1.an,(0:Int),())) fun j6=>
   bj (fun(v7:Bool×Unit)=>
   bif v7.1 then
   j6 ((ay.mk (af.mk p4.2.an.ar p4.2.an.bm (dG (aA .i64 p4.2.an.aG (1:Int)) (1000000:Int)) p4.2.an.aa p4.2.an.aH p4.2.an.ab p4.2.an.ao p4.2.an.aw p4.2.an.au p4.2.an.aI p4.2.an.aQ p4.2.an.bb p4.2.an.az)),())
   else
   j6 (p4.2,())) fun j8=>
   Option.bind (bh m.ab) fun r9=>
   bif (!r9)then
   Option.bind (dn m) fun r10=>
   Option.bind (dn p4.2.an) fun r11=>
   Option.bind (l9 r10 r11) fun r12=>
   j8 ((!r12),())
   else
   j8 (false,())) (GU R m m1):=by
 refine Yd.bind (VH hR1 hR2 h1 hz1 hr) fun q hq=> ?_
 obtain⟨m2,rfl,ha⟩:=hq;have hq:=ha.inv.seq;have hadd:aA .i64 m2.aG 1=m2.aG+1:=bM (by omega) (by omega)
 obtain⟨r,g1,g2⟩:=ZO (bU m) (bU m2) (by rw[oR];exact h.aO.sm) (by rw[qN,qN,ha.env.1,hn]) (by rw[wZ,wZ,ha.env.2.1,hsl])
 simp only[aW,cy,Qa,wP,Bh h,Bh ha.inv,hadd,g1];have hb:=Zs h1 ha;refine Yd.of_eq (x:=(iB m m2,(0:Int),())) ?_ ⟨m2,rfl,hb⟩;unfold iB
 cases hz:aC m.ab with
 |true=>rw[Qs (by rintro⟨e,_⟩;cases e)];rfl
 |false=>
  cases r with
  |true=>rw[Qs (fun e=>e.2 (g2.1 rfl))];rfl
  |false=>rw[Qr ⟨rfl,fun e=>by have:=g2.2 e;cases this⟩];rfl
theorem Ws{v:ByteArray}(hv:1<=v.size/\v.size<=200)(hr:R (dF m v)):Yd (iq m v) (GU R m (dF m v)):=by
 have d1:decide (((ByteArray.size v:Nat):Int)<(1:Int))=false:=Qh (by omega)
 have d2:decide ((200:Int)<((ByteArray.size v:Nat):Int))=false:=Qh (by omega)
 have hi:=yF h hv;have hval:gf ⟨{m with bb:=v}⟩=some (db {m with bb:=v}):=OF (m:={m with bb:=v}) ⟨h.ev.n0,h.ev.n1,h.ev.aO,h.ev.len,h.ev.sm,h.ev.valid⟩
 have hdo:mG ⟨m⟩ v=some ((0:Int),⟨dF m v⟩):=by
  unfold mG dF;simp only[af.eta,ay.eta,d1,d2,Ql,Qa,cy,aW]
  cases hz:aC m.ab with
  |true=>
   simp only[Qk,Qt,al.eta];rw[show(⟨m.ar,m.bm,m.aG,m.aa,m.aH,m.ab,m.ao,m.aw,m.au,m.aI,m.aQ,v,m.az⟩:af)={m with bb:=v}from rfl,hval]
   rfl
  |false=>simp only[Ql,Qq,Qu,al.eta]
 unfold iq pa;simp only[af.eta,al.eta,ai.eta,ay.eta,BA h hs,CM h,hdo,Qa,Qo,Ql,decide_true];refine Yd.bind (PO hR1 hR2 h hs hi (fun hz=>by rw[jX.2];exact hs.zero (by cases hc:aC m.ab with|true=>rfl|false=>rw[jX.1 hc]at hz;cases hz)) jX.1 (by unfold dF;split<;>rfl) (by unfold dF;split<;>rfl) hr) fun q hq=> ?_
 obtain⟨m2,rfl,ha⟩:=hq;exact .some ⟨m2,rfl,ha⟩
theorem Hy{e:ai}(he:sY m e)(hr:R (kP m e)):Yd (cU m e) fun q=>(GU R m (kP m e) q/\(jW m.az e).2.1=true)\/(q=(BM,(9:Int),())/\(jW m.az e).2.1=false):=by
 have hi:=yU h he;have hlen:=h.len;have hput:=aaG (l:=m.az) (fun x hx=>(h.hv x hx).2.1.sm) (by omega) (e:=e) he.aO.sm
 have hdo:iF ⟨m⟩ e=some (bif (jW m.az e).2.1 then((0:Int),⟨kP m e⟩)else((9:Int),⟨m⟩)):=by
  unfold iF;simp only[af.eta,ay.eta,ai.eta,al.eta,aW,nJ he.aO.sm,he.valid,Qa,Qo,Ql,Qh he.ax,Qg he.bz,hput];cases (jW m.az e).2.1<;>rfl
 unfold cU lO;simp only[af.eta,al.eta,ai.eta,ay.eta,BA h hs,CM h,hdo,Qa,Qo,Ql]
 cases hp:(jW m.az e).2.1 with
 |false=>exact .some (.inr ⟨rfl,rfl⟩)
 |true=>
  simp only[Qk,decide_true,Qo,Ql];refine Yd.bind (PO hR1 hR2 h hs hi hs.zero (fun e=>e) rfl rfl hr) fun q hq=> ?_
  obtain⟨m2,rfl,ha⟩:=hq;exact .some (.inl ⟨⟨m2,rfl,ha⟩,trivial⟩)
end
theorem Wt{m:af}(h:bc m)(hs:fY m):∃e,nW m=some (e,!aC m.ab,())/\(aC m.ab=false->e=bU m):=by
 unfold nW;simp only[af.eta,al.eta,ai.eta,cy,BA h hs,CM h,wP,Bh h,Qa]
 cases aC m.ab with
 |true=>exact⟨_,rfl,fun e=>by cases e⟩
 |false=>exact⟨_,rfl,fun _=>rfl⟩
theorem Wu{m:af}(h:bc m)(hs:fY m):lE m=some (bif decide (m.aH=3)then m.ab.Value else eZ,decide (m.aH=3),()):=by
 unfold lE;simp only[af.eta,al.eta,BA h hs,Qa];cases decide (m.aH=3)<;>rfl
theorem K7{m:af}(h:bc m)(hs:fY m){e:ai}(ht:dK e.aa)(hbad:aJ e=false\/e.ar=m.ar\/e.bm≠m.bm):cU m e=some (BM,(61:Int),()):=by
 have hdo:iF ⟨m⟩ e=some ((61:Int),⟨m⟩):=by
  unfold iF;simp only[af.eta,ay.eta,ai.eta,al.eta,aW,nJ ht,Qa]
  cases hv:aJ e with
  |false=>rfl
  |true=>
   by_cases hn:e.ar=m.ar
   ·rw[Qg hn];rfl
   ·have hsl:e.bm≠m.bm:=(hbad.resolve_left (by rw[hv];decide)).resolve_left hn
    rw[Qh hn,Qh hsl];rfl
 unfold cU lO;simp only[af.eta,al.eta,ai.eta,ay.eta,BA h hs,CM h,hdo,Qa,Qo,Ql];rfl
end Go.Proofs.YtkgenianmdfmdaaGreat
end
noncomputable section
namespace Go.Proofs.YtkgenianmdfmdaaGreat
open Go.TQ
def gT(n:Nat)(k:Int)(i s:Nat):Bool:=s.testBit i&&decide (k<=(((sA n).countP (jL s):Nat):Int))
def bT(n:Nat)(k:Int)(i s:Nat):Bool:= !decide (k<=(((sA n).countP (jL (vO s i)):Nat):Int))
structure nT (n:Nat) (k:Int) (m:af):Prop where
 n10:n<=10
 k1:1<=k
 kn:k<=n
 aO:m.aa=flat n k
 heard:∀e∈m.az,e.aa=flat n k
theorem nT.all{n:Nat}{k:Int}{m:af}(hf:nT n k m){e:ai}(he:e∈aR m):e.aa=flat n k:=by
 rcases wo he with he|⟨_,rfl⟩
 ·exact hf.heard e he
 ·rw[Ce];exact hf.aO
section
variable {n : Nat} {k : Int} {m : af} (h : bc m) (hf : nT n k m)
 include h
theorem vM:bJ (aR m)=aR m:=I0 h.jJ
 include hf
theorem Oc{j:Nat}(hj:j<10)(hs:j=m.ar.toNat\/∃e∈aR m,e.ar.toNat=j):lx (fh m.ar.toNat m.aa (aR m)) j=true/\jV (fh m.ar.toNat m.aa (aR m)) j=flat n k:=
 Uv h.ev.ax.2 (fun _=>flat n k) hf.aO.symm (fun e he=>by rw[vM h]at he;exact hf.all he) hj (by rw[vM h];exact hs)
theorem TO{s:Nat}(hs:∀j,s.testBit j=true->∃e∈aR m,e.ar.toNat=j):(gq (fh m.ar.toNat m.aa (aR m)) s).testBit m.ar.toNat=gT n k m.ar.toNat s:=by
 have hs10:∀j,s.testBit j=true->j<10:=fun j hj=>by
  obtain⟨e,he,rfl⟩:=hs j hj;have:=iN (h.jJ e he);omega
 have hg:=zU (k9 (ax:=m.ar.toNat) h.aO.sm h.ev.jR.1) (Bi hs10);have hi:=Oc h hf h.ev.ax.2 (.inl rfl);unfold gT;rw[QW,Qm,Qi];constructor
 ·intro hb;have h1:=hg.inside _ hb;refine⟨h1.1,?_⟩;have h3:=h1.2.2;rw[hi.2,G4]at h3;have h3:=of_decide_eq_true h3;have h2:=T8 (s':=s) (fun j hj=>(hg.inside j hj).1) (sA n)
  omega
 ·rintro⟨hb,hc⟩;refine hg.max s (fun j hj=> ?_) _ hb
  obtain⟨g1,g2⟩:=Oc h hf (hs10 j hj) (.inr (hs j hj));exact⟨hj,g1,by rw[g2,G4];exact Qg hc⟩
theorem Xe(s:Nat):rM (fh m.ar.toNat m.aa (aR m)) m.ar.toNat s=bT n k m.ar.toNat s:=by
 obtain⟨g1,g2⟩:=Oc h hf h.ev.ax.2 (.inl rfl);unfold rM bT;rw[g1,g2,G4,Bool.true_and]
end
theorem E8{p:ai->Bool}{l:List ai}{j:Nat}(hb:(c9 p l).testBit j=true):∃e∈l,e.ar.toNat=j:=by
 rw[tr,List.any_eq_true]at hb;obtain⟨e,he,hp⟩:=hb;rw[Qm,Qi]at hp;exact⟨e,he,hp.2⟩
theorem NY{p q:ai->Bool}{l:List ai}{j:Nat}(hb:(c9 p l|||c9 q l).testBit j=true):∃e∈l,e.ar.toNat=j:=by
 rw[Nat.testBit_or,Qn]at hb;rcases hb with hb|hb
 ·exact E8 hb
 ·exact E8 hb
def P8(n:Nat)(k:Int)(i:Nat)(l:List ai)(b:ae):Bool:=bT n k i (c9 (cF · b) l)||gT n k i (c9 (fun e=>mU e b||cF e b) l|||c9 (cF · b) l)
def J7(n:Nat)(k:Int)(i:Nat)(l:List ai)(b:ae):Bool:=gT n k i (c9 (cF · b) l)
def qq(n:Nat)(k:Int)(i:Nat)(l:List ai)(v:ByteArray)(lo hi:Int):Bool:=bT n k i (c9 (eI · v lo hi) l)||gT n k i (c9 (fun e=>pf e v lo hi||eI e v lo hi) l|||c9 (eI · v lo hi) l)
def Ih(n:Nat)(k:Int)(i:Nat)(l:List ai)(v:ByteArray)(lo hi:Int):Bool:=gT n k i (c9 (eI · v lo hi) l)
def XB(e:ai):List ae:=if e.br=1 then[e.ab,e.ao,e.aw]else if e.br=2 then[e.ao,at_ e 1000000]else[at_ e 1000000]
def qS(l:List ai):List ae:=((l.flatMap XB).filter fun b=> !aC b).foldl (fun l x=>eu (fun x y=>bd y x) x l) []
def Kz(l:List ai):List ByteArray:=(l.map (·.ab.Value)).foldl (fun l x=>eu ji x l) []
def NS(v:ByteArray)(e:ai):List Int:=if e.ab.Value=v/\e.aI≠0 then[e.aI,e.aQ]else[]
def pI(l:List ai)(v:ByteArray):List Int:=(l.flatMap (NS v)).foldl (fun l x=>eu (fun a b=>decide (a<b)) x l) []
section
variable {l : List ai} (hv : ∀ e ∈ l, aJ e = true) (hsm : ∀ e ∈ l, dK e.aa) (hlen : l.length <= 1000)
 include hv hsm hlen
theorem MW:dQ l=qS l:=by
 obtain⟨_,h2,_,h4⟩:=kp hsm hlen;obtain⟨h5,h6⟩:=yS wv.flip ((l.flatMap XB).filter fun b=> !aC b) [] .nil
 refine wv.flip.unique h2 h5 fun x=> ?_
 unfold qS;rw[h4,h6];simp only[List.mem_filter,QQ,QR,or_false,Bool.not_eq_true'];constructor
 ·rintro⟨e,he,hx,hz⟩;refine⟨⟨e,he,?_⟩,hz⟩;unfold said at hx;rw[hv e he]at hx;exact hx
 ·rintro⟨⟨e,he,hx⟩,hz⟩;refine⟨e,he,?_,hz⟩;unfold said;rw[hv e he];exact hx
theorem VW:eY l=Kz l:=by
 obtain⟨_,h2,_,h4⟩:=mV hsm hlen;obtain⟨h5,h6⟩:=yS wu (l.map (·.ab.Value)) [] .nil;refine wu.unique h2 h5 fun x=> ?_
 unfold Kz;rw[h4,h6];simp only[QP,QR,or_false];constructor
 ·rintro⟨e,he,_,rfl⟩;exact⟨e,he,rfl⟩
 ·rintro⟨e,he,rfl⟩;exact⟨e,he,hv e he,rfl⟩
theorem H6:aY l=pI l:=by
 funext v
 obtain⟨_,h2,_,h4⟩:=gz hsm hlen v;obtain⟨h5,h6⟩:=yS ya (l.flatMap (NS v)) [] .nil;refine ya.unique (h2.imp fun hab=>Qg hab) h5 fun x=> ?_
 unfold pI;rw[h4,h6,vS];simp only[QQ,QR,or_false];constructor
 ·rintro⟨e,he,hb,hx⟩;refine⟨e,he,?_⟩;simp only[gm,Qm,Qi,Bool.not_eq_true',Qj]at hb;unfold NS;rw[Qr ⟨hb.1.2,hb.2⟩];simpa using hx
 ·rintro⟨e,he,hx⟩;unfold NS at hx;split at hx
  ·rename_i hc;refine⟨e,he,?_,by simpa using hx⟩
   simp only[gm,Qm,Qi,Bool.not_eq_true',Qj];exact⟨⟨hv e he,hc.1⟩,hc.2⟩
  ·cases hx
end
section
variable {n : Nat} {k : Int} {m : af} (h : bc m) (hf : nT n k m)
 include h hf
theorem abF:jo m.ar.toNat m.aa (aR m)=P8 n k m.ar.toNat (aR m):=by
 funext b
 unfold jo nk P8;rw[vM h,Xe h hf,TO h hf fun j hj=>NY hj]
theorem aav:iL m.ar.toNat m.aa (aR m)=J7 n k m.ar.toNat (aR m):=by
 funext b
 unfold iL J7;rw[vM h,TO h hf fun j hj=>E8 hj]
theorem R2:fq m=qq n k m.ar.toNat (aR m):=by
 funext v lo hi
 unfold fq jI nk qq;rw[vM h,Xe h hf,TO h hf fun j hj=>NY hj]
theorem ZG:BS m=Ih n k m.ar.toNat (aR m):=by
 funext v lo hi
 unfold BS oV Ih;rw[vM h,TO h hf fun j hj=>E8 hj]
end
def VC(x:ByteArray->Int->Int->Bool)(p q:ae)(v:ByteArray)(s:Bool×ae)(n:Int):Bool×ae:=
 if bd s.2 ⟨n,v⟩&& !kG p q v n&&x v n n then(true,⟨n,v⟩)else s
def NX(x:ByteArray->Int->Int->Bool)(l:List ai)(p q:ae):Bool×ae:=
 (Kz l).foldl (fun s v=>(pI l v).foldl (VC x p q v) s) (false,⟨0,eZ⟩)
def JY(x:ByteArray->Int->Int->Bool)(l:List ai)(p q:ae)(s:Bool×ae):ByteArray×Int×Int×Bool×Unit:=
 if s.1 then(s.2.Value,cg (fun n=> !kG p q s.2.Value n&&x s.2.Value n s.2.aj) (pI l s.2.Value).reverse s.2.aj,s.2.aj,true,())else(eZ,0,0,false,())
def WL(b:List Int)(ready:Int->Int->Bool)(low bH:Int):Int×Int:=
 match b.reverse.find? (fun n=>decide (bH<n)&&ready n n)with
 |none=>(cg (fun x=>ready x bH) b.reverse low,bH)
 |some n=>
  let bottom:=cg (fun x=>ready x n) b.reverse n
  (cg (fun x=>ready x n) b.reverse (if bH<bottom - 1\/bottom<low then bottom else low),n)
def UQ(nx:ae)(m:af):af:=
 if m.aH=3\/aC m.ab=true then m else
  {m with ao:=(ct m.ao m.aw (da nx)).1,aw:=(ct m.ao m.aw (da nx)).2,aI:=n9 m (ct m.ao m.aw (da nx)).1 (ct m.ao m.aw (da nx)).2}
def UP(hg:ae)(m:af):af:=if m.aH≠1\/aC m.ab=true\/aC hg=true then m else mC (wW m hg) hg
def US(fs:ByteArray×Int×Int×Bool×Unit)(ex:Int×Int)(m:af):af:=
 if m.aH=1 then(if fs.2.2.2.1=true then EO m fs.1 fs.2.1 fs.2.2.1 else m)
 else if m.aH=2 then vH m ex.1 ex.2 else m
def UR(fn:Int×Int×Bool×Unit)(m:af):af:=if m.aH=2/\fn.2.2.1=true then Fx m fn.1 fn.2.1 else m
def Xc(ah:Int->Bool)(m:af):Int:=m.az.foldl (fun EW e=>if m.ab.aj<dX e/\dX e<EW/\ah (dX e)=false then dX e else EW) 1000000
def XJ(m:af):ByteArray:=if m.aH=1 then db m else m.ab.Value
def OL(ah:Int->Bool)(m:af):af:=
 if m.aH=3\/ah m.ab.aj=false then m
 else{m with aI:=if XJ m=m.ab.Value then m.aI else 0,ab:=⟨bq m.ab.aj (dG (Xc ah m) 1000),XJ m⟩}
def Kn(n:Nat)(k:Int)(m:af)(c:Int):Bool:=bT n k m.ar.toNat (y7 m c)
def Fj(m p r:af):af:=bif lJ m p then r else p
def stepT(n:Nat)(k:Int)(m:af):af:=
 Fj m (UQ (((qS (aR m)).find? (tb (P8 n k m.ar.toNat (aR m)) m.ao m.aw (zB m))).getD vA) m)<|
 Fj m (UP (((qS (aR m)).find? (td (J7 n k m.ar.toNat (aR m)) m.au)).getD vA) m)<|
 Fj m (US (JY (qq n k m.ar.toNat (aR m)) (aR m) m.ao m.aw (NX (qq n k m.ar.toNat (aR m)) (aR m) m.ao m.aw)) (WL (pI (aR m) m.ab.Value) (qq n k m.ar.toNat (aR m) m.ab.Value) m.aI m.aQ) m)<|
 Fj m (UR (sS (pI (aR m) m.ab.Value) (Ih n k m.ar.toNat (aR m) m.ab.Value)) m)<|
 OL (Kn n k m) m
open Classical in
theorem Fi{m m' r:af}(he:fe m m'):Fj m m' r=if m'=m then r else m':=by
 unfold Fj
 by_cases h:m'=m
 ·rw[Qr h,h,rl];rfl
 ·rw[Qs h,vR he h];rfl
section
variable {n : Nat} {k : Int} {m : af} (h : bc m) (hf : nT n k m)
 include h hf
theorem abd:dI m=((qS (aR m)).find? (tb (P8 n k m.ar.toNat (aR m)) m.ao m.aw (zB m))).getD vA:=by
 unfold dI gQ;rw[abF h hf,MW h.jJ h.ev.jR.1.aO h.ev.jR.2]
theorem abh:fg m=((qS (aR m)).find? (td (J7 n k m.ar.toNat (aR m)) m.au)).getD vA:=by
 unfold fg te;rw[aav h hf,MW h.jJ h.ev.jR.1.aO h.ev.jR.2]
theorem abu:ew m=JY (qq n k m.ar.toNat (aR m)) (aR m) m.ao m.aw (NX (qq n k m.ar.toNat (aR m)) (aR m) m.ao m.aw):=by
 unfold ew ml fE JY NX;rw[R2 h hf,H6 h.jJ h.ev.jR.1.aO h.ev.jR.2,VW h.jJ h.ev.jR.1.aO h.ev.jR.2];rfl
theorem aby:dH m=WL (pI (aR m) m.ab.Value) (qq n k m.ar.toNat (aR m) m.ab.Value) m.aI m.aQ:=by
 unfold dH;rw[R2 h hf,H6 h.jJ h.ev.jR.1.aO h.ev.jR.2];rfl
theorem abx:kD m=sS (pI (aR m) m.ab.Value) (Ih n k m.ar.toNat (aR m) m.ab.Value):=by
 unfold kD;rw[ZG h hf,H6 h.jJ h.ev.jR.1.aO h.ev.jR.2]
theorem SO:fW m=Kn n k m:=by
 funext c
 exact Xe h hf _
theorem Ys:eH m=OL (Kn n k m) m:=by
 have e:fJ m=Xc (Kn n k m) m:=by
  unfold fJ Xc jZ;rw[SO h hf]
 unfold eH OL;rw[SO h hf,e];rfl
theorem ZI:cd m=stepT n k m:=by
 have eP:UQ (((qS (aR m)).find? (tb (P8 n k m.ar.toNat (aR m)) m.ao m.aw (zB m))).getD vA) m=cz m:=by rw[<-abd h hf];rfl
 have eS:UP (((qS (aR m)).find? (td (J7 n k m.ar.toNat (aR m)) m.au)).getD vA) m=fX m:=by rw[<-abh h hf];rfl
 have eC:US (JY (qq n k m.ar.toNat (aR m)) (aR m) m.ao m.aw (NX (qq n k m.ar.toNat (aR m)) (aR m) m.ao m.aw)) (WL (pI (aR m) m.ab.Value) (qq n k m.ar.toNat (aR m) m.ab.Value) m.aI m.aQ) m=fj m:=by rw[<-abu h hf,<-aby h hf];rfl
 have eF:UR (sS (pI (aR m) m.ab.Value) (Ih n k m.ar.toNat (aR m) m.ab.Value)) m=iT m:=by rw[<-abx h hf];rfl
 unfold cd stepT;rw[eP,eS,eC,eF,<-Ys h hf,Fi (uk m),Fi (qv m),Fi (qx m),Fi (qw m)]
end
 def uv:Nat->af->af
 |0,m=>m
 |j+1,m=>uv j (cd m)
theorem HN:∀(j:Nat) (m:af),uv (j+1) m=cd (uv j m)
 |0,_=>rfl
 |j+1,m=>HN j (cd m)
theorem Lm{m:af}(h:bc m):∀j,bc (uv j m)
 |0=>h
 |j+1=>by rw[HN];exact wM (Lm h j)
theorem HO{m:af}(h:cd m=m):∀j,uv j m=m
 |0=>rfl
 |j+1=>by rw[uv,h];exact HO h j
theorem Ln:∀(i j:Nat) (m:af),uv (i+j) m=uv j (uv i m)
 |0,j,m=>by rw[Nat.zero_add];rfl
 |i+1,j,m=>by rw[show i+1+j=(i+j)+1 by omega,uv,Ln i j];rfl
theorem YL{m:af}{i j:Nat}(hi:cd (uv i m)=uv i m)(hj:cd (uv j m)=uv j m):uv i m=uv j m:=by
 rcases Nat.le_total i j with hl|hl
 ·have:=Ln i (j - i) m;rw[HO hi]at this;rw[<-this,show i+(j - i)=j by omega]
 ·have:=Ln j (i - j) m;rw[HO hj]at this;rw[<-this,show j+(i - j)=i by omega]
theorem DC{m m':af}(he:fe m m')(s:Int):({m' with aG:=s}:af)={m with aG:=s}↔m'=m:=by
 constructor
 ·intro h;have e1:m'.aH=m.aH:=(congrArg af.aH h:_);have e2:m'.ab=m.ab:=(congrArg af.ab h:_);have e3:m'.ao=m.ao:=(congrArg af.ao h:_);have e4:m'.aw=m.aw:=(congrArg af.aw h:_);have e5:m'.au=m.au:=(congrArg af.au h:_);have e6:m'.aI=m.aI:=(congrArg af.aI h:_);have e7:m'.aQ=m.aQ:=(congrArg af.aQ h:_);exact tD he e1 e2 e3 e4 e5 e6 e7
 ·rintro rfl;rfl
open Classical in
theorem LS{m:af}(h:bc m){s:Int}(hs:0<=s/\s<=1000000):cd {m with aG:=s}={cd m with aG:=s}:=by
 unfold cd;rw[Ml h hs,Mj h hs,Mr h hs,Mp h hs,Mn h hs];simp only[DC (uk m),DC (qv m),DC (qx m),DC (qw m)]
 by_cases hP:cz m=m
 ·by_cases hS:fX m=m
  ·by_cases hC:fj m=m
   ·by_cases hF:iT m=m
    ·simp only[Qr hP,Qr hS,Qr hC,Qr hF]
    ·simp only[Qr hP,Qr hS,Qr hC,Qs hF]
   ·simp only[Qr hP,Qr hS,Qs hC]
  ·simp only[Qr hP,Qs hS]
 ·simp only[Qs hP]
def Reach(m x:af):Prop:=∃j s,(0<=s/\s<=1000000)/\x={uv j m with aG:=s}
theorem ui{m:af}(h:bc m):∀x,bc x->Reach m x->Reach m (cd x):=by
 rintro x _ ⟨j,s,hs,rfl⟩;exact⟨j+1,s,hs,by rw[LS (Lm h j) hs,HN]⟩
theorem uh{m:af}:∀x,Reach m x->Reach m (cr x):=by
 rintro x ⟨j,s,hs,rfl⟩;unfold cr;split
 ·exact⟨j,bq s 1,by unfold bq;split<;>omega,rfl⟩
 ·exact⟨j,s,hs,rfl⟩
theorem uj{m:af}(h:bc m):Reach m m:=⟨0,m.aG,h.seq,rfl⟩
def runT(n:Nat)(k:Int):Nat->af->Option af
 |0,_=>none
 |f+1,m=>if lJ m (stepT n k m)=true then some m else runT n k f (stepT n k m)
theorem nT.step{n:Nat}{k:Int}{m m':af}(hf:nT n k m)(he:fe m m'):nT n k m':=⟨hf.n10,hf.k1,hf.kn,by rw[he.aO];exact hf.aO,by rw[he.heard];exact hf.heard⟩
theorem Ol{n:Nat}{k:Int}:∀{f:Nat} {m z:af},bc m->nT n k m->runT n k f m=some z->∃j,uv j m=z/\cd z=z
 |0,m,z,_,_,e=>by cases e
 |f+1,m,z,h,hf,e=>by
  rw[runT,<-ZI h hf]at e;split at e
  ·rename_i hs;obtain rfl:=Option.some.inj e;exact⟨0,rfl,Od (uf m) hs⟩
  ·obtain⟨j,h1,h2⟩:=Ol (wM h) (hf.step (uf m)) e;exact⟨j+1,h1,h2⟩
theorem XX{n:Nat}{k:Int}{f:Nat}{m1 z m m2:af}(h:bc m1)(hf:nT n k m1)(hz:runT n k f m1=some z)(ha:AR (Reach m1) m m2):m2={z with aG:=m2.aG}:=by
 obtain⟨j,s,hs,e⟩:=ha.rel;obtain⟨i,h1,h2⟩:=Ol h hf hz;have h3:=WI ha.fix;rw[e,LS (Lm h j) hs]at h3;have h4:=(DC (uf (uv j m1)) s).1 h3;rw[<-h1]at h2;have h5:=YL h2 h4;rw[e,<-h5,h1]
def K4(l:List ai)(e:ai):List ai×Bool:=
 match l.findIdx? fun x=>decide (x.ar=e.ar)with
 |some i=>if e.aG<=((l[i]?).getD e).aG then(l,false)else(l.set i e,true)
 |none=>(l.take (z7 l e)++[e]++l.drop (z7 l e),true)
theorem aa6{l:List ai}{e:ai}(hv:aJ e=true):(jW l e).1=(K4 l e).1/\(jW l e).2.1=(K4 l e).2:=by
 unfold jW K4;rw[Qr hv]
 cases l.findIdx? (fun x=>decide (x.ar=e.ar))with
 |none=>exact⟨rfl,rfl⟩
 |some i=>
  by_cases hc:e.aG<=((l[i]?).getD e).aG
  ·simp only[Qr hc];exact⟨trivial,trivial⟩
  ·simp only[Qs hc];exact⟨trivial,trivial⟩
def NH(a b:ai):Bool:=decide (a.br=b.br)&&wx a.ab b.ab&&wx a.ao b.ao&&wx a.aw b.aw&&decide (a.aI=b.aI)&&decide (a.aQ=b.aQ)
def NW(m m2:af):af:=if NH (bU m) (bU m2)=true then m2 else{m2 with aG:=dG (m2.aG+1) 1000000}
theorem aax{m m2:af}(hz:aC m.ab=false)(hn:m2.ar=m.ar)(hs:m2.bm=m.bm)(ht:m2.aa=m.aa):iB m m2=NW m m2:=by
 have key:(NH (bU m) (bU m2)=true)↔({bU m with aG:=0}:ai)={bU m2 with aG:=0}:=by
  rw[Lx];unfold NH;simp only[Qm,Qi,qo,qN,wZ,oR,hn,hs,ht,true_and,and_assoc]
 unfold iB NW
 by_cases hk:NH (bU m) (bU m2)=true
 ·rw[Qr hk,Qs (fun e=>e.2 (key.1 hk))]
 ·rw[Qs hk,Qr ⟨hz,fun e=>hk (key.2 e)⟩]
structure oX (n:Nat) (k:Int) (m:af):Prop where
 inv:bc m
 seq:fY m
 flat:nT n k m
 nz:aC m.ab=false
 bz:m.bm=1
theorem oX.env{n:Nat}{k:Int}{m:af}(h:oX n k m):aJ (bU m)=true/\(bU m).aa=Go.Proofs.YtkgenianmdfmdaaGreat.flat n k/\(bU m).bm=1:=⟨K8 h.inv h.seq h.nz,by rw[oR];exact h.flat.aO,by rw[wZ];exact h.bz⟩
def Tj(n:Nat)(k:Int)(m:af)(e:ai):Option af:=
 if e.ar=m.ar then some m else
 if(K4 m.az e).2=false then some m else
 (runT n k 20 {m with az:=(K4 m.az e).1}).map fun z=>NW m {z with aG:=m.aG}
theorem Wz{n:Nat}{k:Int}{m m1 m2:af}{R:af->Prop}(h:oX n k m)(hf:nT n k m1)(hnz:aC m1.ab=false)(hsl:m1.bm=1)(ha:AR R m1 m2):oX n k (iB m m2):=by
 have hz2:=ha.nz hnz;obtain⟨s,e,hs⟩:=AN (m:=m) ha.inv;refine⟨PT ha.inv,SL ha.inv ha.seq (fun _=>hz2),?_,by rw[e];exact hz2,by rw[e];exact ha.env.2.1.trans hsl⟩
 rw[e];exact⟨hf.n10,hf.k1,hf.kn,ha.env.2.2.1.trans hf.aO,fun x hx=>hf.heard x (by have:x∈m2.az:=hx;rw[ha.env.2.2.2.2]at this;exact this)⟩
theorem UF{n:Nat}{k:Int}{m x:af}{e:ai}(h:oX n k m)(hv:aJ e=true)(ht:e.aa=flat n k)(hsl:e.bm=1)(hx:Tj n k m e=some x):
  ∃y c,cU m e=some (y,c,())/\((c=0/\y=x)\/(c≠0/\x=m))/\oX n k x:=by
 have hgood:gA e.aa:=by rw[ht];exact zX n h.flat.n10 k h.flat.k1 h.flat.kn
 unfold Tj at hx;split at hx
 ·rename_i hn;obtain rfl:=Option.some.inj hx;exact⟨_,_,K7 h.inv h.seq hgood.sm (.inr (.inl hn)),.inr ⟨by decide,rfl⟩,h⟩
 ·rename_i hn;have he:sY m e:=⟨hv,hgood,by rw[hsl,h.bz],hn⟩
  have hi:=yU h.inv he;have hp:=aa6 (l:=m.az) hv;have hm1:kP m e={m with az:=(K4 m.az e).1}:=by unfold kP;rw[hp.1]
  obtain⟨q,hq,hq2⟩:=Hy (R:=Reach (kP m e)) (ui hi) uh h.inv h.seq he (uj hi);rcases hq2 with⟨⟨m2,rfl,ha⟩,hok⟩|⟨rfl,hok⟩
  ·rw[hp.2]at hok;rw[Qs (by rw[hok];decide),<-hm1]at hx
   obtain⟨z,hz,rfl⟩:=Qb.1 hx
   have hf1:nT n k (kP m e):=⟨h.flat.n10,h.flat.k1,h.flat.kn,h.flat.aO,fun y hy=>by
    rcases R5 hy with rfl|hy
    ·exact ht
    ·exact h.flat.heard y hy⟩
   have e2:=XX hi hf1 hz ha;have hid:cr (kP m e)=kP m e:=Jj h.seq rfl rfl;rw[hid]at ha
   have hsq:m2.aG=m.aG:=by
    rcases ha.num with g|⟨g,_⟩
    ·exact g
    ·have:=h.seq.pos h.nz;have g:m.aG=0:=g;omega
   have hb:iB m m2=NW m {z with aG:=m.aG}:=by
    rw[aax h.nz ha.env.1 ha.env.2.1 ha.env.2.2.1,<-hsq,<-e2]
   refine⟨_,_,hq,.inl ⟨rfl,hb⟩,?_⟩;rw[<-hb];exact Wz h hf1 h.nz h.bz ha
  ·rw[hp.2]at hok;rw[Qr hok]at hx;obtain rfl:=Option.some.inj hx;exact⟨_,_,hq,.inr ⟨by decide,rfl⟩,h⟩
end Go.Proofs.YtkgenianmdfmdaaGreat
namespace Go.Proofs.YtkgenianmdfmdaaGreat
open Go.TQ
theorem Vg{σ ρ:Type}(n:Nat)(P:Nat->σ->Prop)(r:ρ->Prop){step:Int×σ×Unit->Option ((Int×σ×Unit)⊕ρ)}
  (h1:∀(i:Nat) (s:σ),i<n->P i s->∃s',step ((i:Int),s,())=some (.inl (((i+1:Nat):Int),s',()))/\P (i+1) s')
  (h2:∀s,P n s->Yd (step ((n:Int),s,())) fun y=>match y with| .inl _=>False| .inr q=>r q):∀s0,P 0 s0->Yd (aE step ((0:Int),s0,())) r:=by
 suffices key:∀(d i:Nat),i+d=n->∀s,P i s->Yd (aE step ((i:Int),s,())) r from fun s0 h=>key n 0 (by omega) s0 h
 intro d
 induction d with
 |zero=>
  intro i hi s hs;obtain rfl:i=n:=by omega
  refine Yd.loop ((h2 s hs).mono fun y hy=> ?_)
  cases y with
  |inl _=>exact hy.elim
  |inr q=>exact hy
 |succ d ih=>
  intro i hi s hs;obtain⟨s',e,hs'⟩:=h1 i s (by omega) hs
  exact Yd.loop (Yd.of_eq e (ih (i+1) (by omega) s' hs'))
theorem aaR{α:Type}{o:Option α}{x:α}(h:Yd o fun q=>q=x):o=some x:=by
 obtain⟨q,rfl,rfl⟩:=h;rfl
theorem aaQ{α β:Type}{o:Option β}{f:α->β}{P:α->Prop}(h:Yd o fun q=>∃s,q=f s/\P s):∃s,o=some (f s)/\P s:=by
 obtain⟨q,rfl,s,rfl,hp⟩:=h;exact⟨s,rfl,hp⟩
def ug(n:Nat)(k:Int):af->List ai->Option af
 |m,[]=>some m
 |m,e::es=>(Tj n k m e).bind fun x=>ug n k x es
def D8(n:Nat)(k:Int)(es:List ai):List af->Option (List af)
 |[]=>some []
 |m::ms=>(ug n k m es).bind fun x=>(D8 n k es ms).map (x::·)
theorem Ot{n:Nat}{k:Int}{es:List ai}:∀{ms ms':List af},D8 n k es ms=some ms'->ms'.length=ms.length/\∀(t:Nat) (m:af),ms[t]?=some m->∃x,ms'[t]?=some x/\ug n k m es=some x
 |[],ms',h=>by
  obtain rfl:=Option.some.inj h;exact⟨rfl,fun t m e=>by simp at e⟩
 |m::ms,ms',h=>by
  rw[D8]at h;obtain⟨x,h1,h2⟩:=Qc.1 h;obtain⟨r,h3,rfl⟩:=Qb.1 h2;obtain⟨g1,g2⟩:=Ot h3;refine⟨by simp[g1],fun t y e=> ?_⟩
  cases t with
  |zero=>exact⟨x,rfl,by rw[List.getElem?_cons_zero]at e;rw[<-Option.some.inj e];exact h1⟩
  |succ t=>exact g2 t y (by rw[List.getElem?_cons_succ]at e;exact e)
section
variable {n : Nat} {k : Int}
theorem Ea:∀{es:List ai} {m x:af},oX n k m->(∀e∈es,aJ e=true/\e.aa=flat n k/\e.bm=1)->ug n k m es=some x->oX n k x
 |[],m,x,h,_,e=>by rw[<-Option.some.inj e];exact h
 |e::es,m,x,h,he,hx=>by
  rw[ug]at hx;obtain⟨y,h1,h2⟩:=Qc.1 hx;obtain⟨g1,g2,g3⟩:=he e Qx;obtain⟨_,_,_,_,hl⟩:=UF h g1 g2 g3 h1;exact Ea hl (fun e he'=>he e (Qy _ he')) h2
theorem yb{ms ms':List af}(hl:ms.length<=10)(h:∀m∈ms,oX n k m)(hr:D8 n k (ms.map bU) ms=some ms'):tq ms=some ms'/\(∀m∈ms',oX n k m)/\ms'.length=ms.length:=by
 obtain⟨hlen,hat⟩:=Ot hr
 have hes:∀e∈ms.map bU,aJ e=true/\e.aa=flat n k/\e.bm=1:=fun e he=>by
  obtain⟨m,hm,rfl⟩:=QP.1 he;exact(h m hm).env
 refine⟨?_,fun m hm=> ?_,hlen⟩
 ·have hlo:∀{b c:Nat},b<=240->c<=1000000->bx b c=true:=fun hb hc=>bZ ⟨QK (Nat.mul_le_mul hc hb) (by decide),hc⟩
  unfold tq;refine Eq.trans (zZ ms (by omega) bU (fin:= ?fin) (fun i m s hs hm hd hx hw=> ?h1) (fun s hd=> ?h2)) ?h3
  case h2=>
   simp only[hd,Ql];exact rfl
  case h1=>
   obtain⟨e,he1,he2⟩:=Wt (h m hm).inv (h m hm).seq;have hz:=(h m hm).nz;rw[he2 hz]at he1;have hlo1:bx 176 (s.length+[bU m].length)=true:=hlo (by omega) (by simp only[List.length_singleton];omega)
   simp only[hd,hx,hw,Qk,aW,Qa,af.eta,al.eta,ai.eta,he1,hz,Qp,hlo1]
  case h3=>
   rw[hlo (b:=240) (c:=ms.length) (by omega) (by omega)]
   simp only[Qk];refine aaR (Vg ms.length (fun i out=>out.length=ms.length/\(∀t,t<i->out[t]?=ms'[t]?)/\∀t,i<=t->out[t]?=ms[t]?) (fun q=>q=ms') (fun i out hi ho=> ?_) (fun out ho=> ?_) ms ⟨rfl,fun t ht=>by omega,fun t _=>rfl⟩)
   ·
    obtain⟨ho1,ho2,ho3⟩:=ho;have hd6:decide ((i:Int)<((ms.length:Nat):Int))=true:=Qg (by omega)
    have hm:ms[i]?=some ms[i]:=Qv hi;obtain⟨x,hx1,hx2⟩:=hat i ms[i] hm;have hw6:aA .i64 (i:Int) 1=((i+1:Nat):Int):=bM (by omega) (by omega)
    simp only[hd6,Qk]
    suffices hin:∃o:List af,_=some (Sum.inl (((i+1:Nat):Int),o,()))/\(o.length=ms.length/\(∀t,t≠i->o[t]?=out[t]?)/\o[i]?=some x)by
     obtain⟨o,hq,g1,g2,g3⟩:=hin;refine⟨o,hq,g1,fun t ht=> ?_,fun t ht=> ?_⟩
     ·by_cases hti:t=i
      ·rw[hti,g3,hx1]
      ·rw[g2 t hti];exact ho2 t (by omega)
     ·rw[g2 t (by omega)];exact ho3 t (by omega)
    refine aaQ (f:=fun o:List af=>Sum.inl (((i+1:Nat):Int),o,())) (Vg (ms.map bU).length
     (fun j o=>o.length=ms.length/\(∀t,t≠i->o[t]?=out[t]?)/\∃y,o[i]?=some y/\oX n k y/\ug n k y ((ms.map bU).drop j)=some x) _ (fun j o hj ho=> ?_) (fun o ho=> ?_) out ⟨ho1,fun t _=>rfl,ms[i],by rw[ho3 i (QI i)];exact hm,h _ (Q0 hi),hx2⟩)
    ·obtain⟨g1,g2,y,g3,g4,g5⟩:=ho;have hd7:decide ((j:Int)<(((ms.map bU).length:Nat):Int))=true:=Qg (by omega)
     have hw7:aA .i64 (j:Int) 1=((j+1:Nat):Int):=bM (by omega) (by rw[QC]at hj;omega)
     have he:(ms.map bU)[j]?=some (ms.map bU)[j]:=Qv hj;have hdrop:(ms.map bU).drop j=(ms.map bU)[j]::(ms.map bU).drop (j+1):=(QM hj);rw[hdrop,ug]at g5;obtain⟨z,h1,h2⟩:=Qc.1 g5;obtain⟨a1,a2,a3⟩:=hes _ (Q0 hj);obtain⟨w,c,b1,b2,b3⟩:=UF g4 a1 a2 a3 h1;have hxj:idx (ms.map bU) (j:Int)=some (ms.map bU)[j]:=by rw[bB];exact he
     have hxi:idx o (i:Int)=some y:=by rw[bB];exact g3
     simp only[hd7,Qk,aW,af.eta,al.eta,ai.eta,hxj,QV,he,Qa,hxi,g3,b1,hw7];rcases b2 with⟨rfl,rfl⟩|⟨hc,rfl⟩
     ·refine⟨o.set i w,by rw[Qg rfl];rfl,by rw[QY];exact g1,fun t ht=>by rw[List.getElem?_set_ne (Ne.symm ht)];exact g2 t ht,w,by rw[List.getElem?_set_self (by omega)],b3,h2⟩
     ·exact⟨o,by rw[Qh hc];rfl,g1,g2,z,g3,b3,h2⟩
    ·obtain⟨g1,g2,y,g3,g4,g5⟩:=ho;have hd7:decide ((((ms.map bU).length:Nat):Int)<(((ms.map bU).length:Nat):Int))=false:=Qh (by omega)
     rw[List.drop_length,ug]at g5;obtain rfl:=Option.some.inj g5;simp only[hd7,Ql,hw6];exact .some ⟨o,rfl,g1,g2,g3⟩
   ·obtain⟨ho1,ho2,ho3⟩:=ho;have hd6:decide (((ms.length:Nat):Int)<((ms.length:Nat):Int))=false:=Qh (by omega)
    simp only[hd6,Ql];refine .some (List.ext_getElem? fun t=> ?_)
    by_cases ht:t<ms.length
    ·exact ho2 t ht
    ·rw[List.getElem?_eq_none (by omega),List.getElem?_eq_none (by omega)]
 ·obtain⟨t,ht,rfl⟩:=List.getElem_of_mem hm;obtain⟨x,hx1,hx2⟩:=hat t (ms[t]'(by omega)) (Qv (by omega))
  rw[Qv ht]at hx1;obtain rfl:=Option.some.inj hx1;exact Ea (h _ (Q0 _)) hes hx2
end
end Go.Proofs.YtkgenianmdfmdaaGreat
namespace Go.Proofs.YtkgenianmdfmdaaGreat
open Go.TQ
def aV:ByteArray:=ByteArray.mk #[97]
def firstM(n:Nat)(k:Int)(i:Int)(v:ByteArray):af:={dF (gI i 1 (flat n k)) v with aG:=1}
def Fo(n:Nat)(k:Int)(s:List af):Option (List af):=D8 n k (s.map bU) s
def ZM(n:Nat)(k:Int)(s:List af):Option (List af):=(Fo n k s).bind fun s=>(Fo n k s).bind fun s=>(Fo n k s).bind fun s=>(Fo n k s).bind fun s=>(Fo n k s).bind fun s=>Fo n k s
def T4(m:af):Bool:=decide (m.aH=3)&&decide (m.ab.Value=aV)
def XC:List af:=[firstM 4 3 0 aV,firstM 4 3 1 aV,firstM 4 3 2 aV,firstM 4 3 3 aV]
theorem Vh:([0,1,2,3]:List Int).all (fun i=>(runT 4 3 5 (dF (gI i 1 (flat 4 3)) aV)).any (lJ (firstM 4 3 i aV)))=true:=by decide+kernel
theorem ZL:((ZM 4 3 XC).map (List.all · T4))=some true:=by decide+kernel
section
variable {n : Nat} {k : Int} (hn : n <= 10) (hk1 : 1 <= k) (hkn : k <= n) {i : Int} (hi0 : 0 <= i) (hi9 : i < 10) {v : ByteArray} (hv : 1 <= v.size /\ v.size <= 200)
 include hn hk1 hkn hi0 hi9
theorem UY:bc (gI i 1 (flat n k))/\fY (gI i 1 (flat n k))/\nT n k (gI i 1 (flat n k)):=by
 obtain⟨h1,h2⟩:=Se hi0 hi9 (show(1:Int)<=1 by omega) (show(1:Int)<=1000000 by omega) (zX n hn k hk1 hkn)
 exact⟨h1,h2,hn,hk1,hkn,rfl,fun e he=>absurd he QR⟩
 include hv
theorem WJ{z:af}(hz:runT n k 5 (dF (gI i 1 (flat n k)) v)=some z):iq (gI i 1 (flat n k)) v=some ({z with aG:=1},(0:Int),())/\oX n k {z with aG:=1}:=by
 obtain⟨h1,h2,h3⟩:=UY hn hk1 hkn hi0 hi9;have hp:=yF h1 hv;have hz0:aC (gI i 1 (flat n k)).ab=true:=bD
 have henv:(dF (gI i 1 (flat n k)) v).aa=flat n k/\(dF (gI i 1 (flat n k)) v).az=[]/\(dF (gI i 1 (flat n k)) v).bm=1:=by
  unfold dF;split<;>exact⟨rfl,rfl,rfl⟩
 have hf:nT n k (dF (gI i 1 (flat n k)) v):=⟨hn,hk1,hkn,henv.1,fun e he=>by rw[henv.2.1]at he;cases he⟩
 obtain⟨q,hq,m2,rfl,ha⟩:=Ws (R:=Reach (dF (gI i 1 (flat n k)) v)) (ui hp) uh h1 h2 hv (uj hp);have hnz:=OI h1 hv;have e1:=XX hp hf hz ha
 have hsq:(cr (dF (gI i 1 (flat n k)) v)).aG=1:=by
  unfold cr;rw[Qr hnz,jX.2];rfl
 have hs2:m2.aG=1:=by
  have:=ha.num;rw[hsq]at this;omega
 have hb:iB (gI i 1 (flat n k)) m2=m2:=by
  unfold iB;rw[Qs (fun e=>by rw[hz0]at e;cases e.1)]
 rw[hb]at hq;rw[hs2]at e1;obtain⟨f1,f2,f3,f4,f5,f6⟩:=vQ (dF (gI i 1 (flat n k)) v);refine⟨by rw[hq,e1],?_⟩
 rw[<-e1];exact⟨ha.inv,ha.seq,⟨hn,hk1,hkn,ha.env.2.2.1.trans (f3.trans hf.aO),fun e he=>by rw[ha.env.2.2.2.2,f5,henv.2.1]at he;cases he⟩,ha.nz (by rw[f6];exact hnz),ha.env.2.1.trans (f2.trans henv.2.2)⟩
end
theorem XY:1<=aV.size/\aV.size<=200:=by decide
theorem EE(i:Int)(hi:i=0\/i=1\/i=2\/i=3):iq (gI i 1 (flat 4 3)) aV=some (firstM 4 3 i aV,(0:Int),())/\oX 4 3 (firstM 4 3 i aV):=by
 have h:=QH.1 Vh i (by simp;exact hi)
 cases hr:runT 4 3 5 (dF (gI i 1 (flat 4 3)) aV)with
 |none=>rw[hr]at h;cases h
 |some z=>
  rw[hr]at h;have h:lJ (firstM 4 3 i aV) z=true:=h;have hg:=WJ (n:=4) (k:=3) (by omega) (by omega) (by omega) (by omega) (by omega) XY hr
  obtain⟨h1,h2,h3⟩:=UY (n:=4) (k:=3) (i:=i) (by omega) (by omega) (by omega) (by omega) (by omega)
  have hp:=yF h1 XY
  have hf:nT 4 3 (dF (gI i 1 (flat 4 3)) aV):=⟨by omega,by omega,by omega,by unfold dF;split<;>rfl,fun e he=>by
   have:(dF (gI i 1 (flat 4 3)) aV).az=[]:=by unfold dF;split<;>rfl
   rw[this]at he;cases he⟩
  obtain⟨j,hj,_⟩:=Ol hp hf hr
  have henv:∀(j:Nat) (m:af),fe m (uv j m):=by
   intro j
   induction j with
   |zero=>exact fun m=>fe.refl m
   |succ j ih=>
    intro m;have a:=uf m;have b:=ih (cd m);exact⟨b.ax.trans a.ax,b.bz.trans a.bz,b.seq.trans a.seq,b.aO.trans a.aO,b.n5.trans a.n5,b.heard.trans a.heard⟩
  have he:=henv j (dF (gI i 1 (flat 4 3)) aV);rw[hj]at he
  have hz:({z with aG:=1}:af)=firstM 4 3 i aV:=tD (m:=firstM 4 3 i aV) (m':={z with aG:=1}) ⟨he.ax,he.bz,rfl,he.aO,he.n5,he.heard⟩
   (by simp only[lJ,Qm,Qi]at h;exact h.1.1.1.1.1.1.symm)
   (by simp only[lJ,Qm,Qi,qo]at h;exact h.1.1.1.1.1.2.symm)
   (by simp only[lJ,Qm,Qi,qo]at h;exact h.1.1.1.1.2.symm)
   (by simp only[lJ,Qm,Qi,qo]at h;exact h.1.1.1.2.symm)
   (by simp only[lJ,Qm,Qi,qo]at h;exact h.1.1.2.symm)
   (by simp only[lJ,Qm,Qi]at h;exact h.1.2.symm)
   (by simp only[lJ,Qm,Qi]at h;exact h.2.symm)
  rw[hz]at hg;exact hg
theorem Vn{n:Nat}{k:Int}{m:af}(h:oX n k m)(hd:T4 m=true):lE m=some (aV,true,()):=by
 simp only[T4,Qm,Qi]at hd;rw[Wu h.inv h.seq,Qg hd.1,hd.2];rfl
theorem ZN:qY=some true:=by
 have hF:s7 4 3=some (flat 4 3):=ZA 4 (by omega) 3
 have hlo:∀{c:Nat},c<=1000000->bx 240 c=true:=fun hc=>bZ ⟨QK (Nat.mul_le_mul hc (QI 240)) (by decide),hc⟩
 have hN:∀i:Int,(i=0\/i=1\/i=2\/i=3)->pA i 1 (flat 4 3)=some (gI i 1 (flat 4 3),(0:Int),()):=fun i hi=>acz (by omega) (by omega) (by omega) (by omega) (zX 4 (by omega) 3 (by omega) (by omega))
 have ha:(ByteArray.mk #[97]:ByteArray)=aV:=rfl;have hsim:=ZL;obtain⟨s6,hs6,hdone⟩:=Qb.1 hsim;unfold ZM at hs6;obtain⟨s1,e1,hs6⟩:=Qc.1 hs6;obtain⟨s2,e2,hs6⟩:=Qc.1 hs6;obtain⟨s3,e3,hs6⟩:=Qc.1 hs6;obtain⟨s4,e4,hs6⟩:=Qc.1 hs6;obtain⟨s5,e5,e6⟩:=Qc.1 hs6
 have h0:∀m∈XC,oX 4 3 m:=by
  intro m hm;simp only[XC,QA,QR,or_false]at hm;rcases hm with rfl|rfl|rfl|rfl
  ·exact(EE 0 (by omega)).2
  ·exact(EE 1 (by omega)).2
  ·exact(EE 2 (by omega)).2
  ·exact(EE 3 (by omega)).2
 obtain⟨g1,h1,l1⟩:=yb (by decide) h0 e1
 have l1:s1.length=4:=l1;obtain⟨g2,h2,l2⟩:=yb (by omega) h1 e2
 obtain⟨g3,h3,l3⟩:=yb (by omega) h2 e3
 obtain⟨g4,h4,l4⟩:=yb (by omega) h3 e4
 obtain⟨g5,h5,l5⟩:=yb (by omega) h4 e5
 obtain⟨g6,h6,l6⟩:=yb (by omega) h5 e6
 have l6':s6.length=4:=by omega
 unfold qY
 have hbeg:∀(i:Int) (l:List af),(i=0\/i=1\/i=2\/i=3)->l.length<=1000->iq (gI i 1 (flat 4 3)) aV=some (firstM 4 3 i aV,(0:Int),())/\decide (i<4)=true/\aA .i64 i 1=i+1/\bx 240 (l.length+[firstM 4 3 i aV].length)=true:=fun i l hi hl=>
  ⟨(EE i hi).1,Qg (by omega),bM (by omega) (by omega),hlo (by simp only[List.length_singleton];omega)⟩
 obtain⟨a1,a2,a3,a4⟩:=hbeg 0 [] (by omega) (by decide)
 obtain⟨b1,b2,b3,b4⟩:=hbeg 1 ([]++[firstM 4 3 0 aV]) (by omega) (by decide)
 obtain⟨c1,c2,c3,c4⟩:=hbeg 2 ([]++[firstM 4 3 0 aV]++[firstM 4 3 1 aV]) (by omega) (by decide)
 obtain⟨d1,d2,d3,d4⟩:=hbeg 3 ([]++[firstM 4 3 0 aV]++[firstM 4 3 1 aV]++[firstM 4 3 2 aV]) (by omega) (by decide)
 rw[bl (s':=(1,[]++[firstM 4 3 0 aV],())) (by simp only[hF,hN 0 (by omega),a1,a2,a3,a4,ha,al.eta,af.eta,Qa,Qk,Ql,decide_true,Qo];rfl)]
 rw[bl (s':=(2,[]++[firstM 4 3 0 aV]++[firstM 4 3 1 aV],())) (by simp only[hF,hN 1 (by omega),b1,b2,b3,b4,ha,al.eta,af.eta,Qa,Qk,Ql,decide_true,Qo];rfl)]
 rw[bl (s':=(3,[]++[firstM 4 3 0 aV]++[firstM 4 3 1 aV]++[firstM 4 3 2 aV],())) (by simp only[hF,hN 2 (by omega),c1,c2,c3,c4,ha,al.eta,af.eta,Qa,Qk,Ql,decide_true,Qo];rfl)]
 rw[bl (s':=(4,XC,())) (by simp only[hF,hN 3 (by omega),d1,d2,d3,d4,ha,al.eta,af.eta,Qa,Qk,Ql,decide_true,Qo];rfl)]
 refine(bS (r:=true) ?_);have hk:∀j:Int,0<=j->j<6->decide (j<6)=true/\aA .i64 j 1=j+1:=fun j h0 h6=>⟨Qg h6,bM (by omega) (by omega)⟩
 simp only[show decide ((4:Int)<4)=false from rfl,Ql]
 rw[bl (s':=(s1,1,())) (by simp only[(hk 0 (by omega) (by omega)).1,(hk 0 (by omega) (by omega)).2,Qk,g1,Qa];rfl)]
 rw[bl (s':=(s2,2,())) (by simp only[(hk 1 (by omega) (by omega)).1,(hk 1 (by omega) (by omega)).2,Qk,g2,Qa];rfl)]
 rw[bl (s':=(s3,3,())) (by simp only[(hk 2 (by omega) (by omega)).1,(hk 2 (by omega) (by omega)).2,Qk,g3,Qa];rfl)]
 rw[bl (s':=(s4,4,())) (by simp only[(hk 3 (by omega) (by omega)).1,(hk 3 (by omega) (by omega)).2,Qk,g4,Qa];rfl)]
 rw[bl (s':=(s5,5,())) (by simp only[(hk 4 (by omega) (by omega)).1,(hk 4 (by omega) (by omega)).2,Qk,g5,Qa];rfl)]
 rw[bl (s':=(s6,6,())) (by simp only[(hk 5 (by omega) (by omega)).1,(hk 5 (by omega) (by omega)).2,Qk,g6,Qa];rfl)]
 rw[bS (r:=true) ?_]
 ·rfl
 simp only[show decide ((6:Int)<6)=false from rfl,Ql]
 rw[Ma s6.length (fin:=some true) (by omega) (fun i hi hd hw=> ?_) (fun hd=> ?_)]
 ·rfl
 ·have hx:idx s6 (i:Int)=some s6[i]:=by rw[bB];exact Qv hi
  have hm:s6[i]∈s6:=Q0 hi;have hdec:=Vn (h6 _ hm) (QH.1 hdone _ hm);simp only[hd,hx,hw,hdec,ha,Qk,Qa,af.eta,al.eta,Qo,Ql,decide_true]
 ·simp only[hd,Ql]
end Go.Proofs.YtkgenianmdfmdaaGreat
namespace Go.Proofs.YtkgenianmdfmdaaGreat
open Go.TQ
def xc(m m1:af):Prop:=
 (∃v,(1<=v.size/\v.size<=200)/\m1=dF m v)\/(∃e,sY m e/\m1=kP m e)\/(m.aH≠3/\db m≠eZ/\m.ab.aj<1000/\m1=kN m)\/(∃t,gA t/\m1=zY m t)
structure X0 (m m1:af):Prop where
 inv:bc m1
 ax:m1.ar=m.ar
 bz:m1.bm=m.bm
 seq:m1.aG=m.aG
 nz:aC m.ab=false->aC m1.ab=false
theorem wj{m m1:af}(h:bc m)(hb:xc m m1):X0 m m1:=by
 rcases hb with⟨v,hv,rfl⟩|⟨e,he,rfl⟩|⟨h3,hv,hc,rfl⟩|⟨t,ht,rfl⟩
 ·exact⟨yF h hv,by unfold dF;split<;>rfl,by unfold dF;split<;>rfl,jX.2,jX.1⟩
 ·exact⟨yU h he,rfl,rfl,rfl,fun e=>e⟩
 ·exact⟨N6 h h3 hv hc,rfl,rfl,rfl,fun _=>Fa h⟩
 ·exact⟨PA h ht,rfl,rfl,rfl,fun e=>e⟩
def FF(m x:af):Prop:=x=m\/∃m1 m2,xc m m1/\AR (Reach m1) (cr m1) m2/\x=iB m m2
structure E5 (m:af):Prop where
 inv:bc m
 seq:fY m
 fix:ze m
 ax:m.ar=0
 bz:m.bm=1
theorem PU(m m2:af):(iB m m2).ar=m2.ar/\(iB m m2).bm=m2.bm/\(iB m m2).az=m2.az/\(iB m m2).ab=m2.ab:=by
 obtain⟨s,e,_⟩:=PS m m2;rw[e];exact⟨rfl,rfl,rfl,rfl⟩
theorem aaz{m m1 m2:af}{R:af->Prop}(h:E5 m)(hf:X0 m m1)(ha:AR R (cr m1) m2):E5 (iB m m2):=by
 obtain⟨e1,e2,e3,e4⟩:=PU m m2;obtain⟨f1,f2,f3,f4,f5,f6⟩:=vQ m1;exact⟨PT ha.inv,SL ha.inv ha.seq (fun hz=>ha.nz (by rw[f6];exact hf.nz hz)),Xd ha.inv ha.fix,by rw[e1,ha.env.1,f1,hf.ax];exact h.ax,by rw[e2,ha.env.2.1,f2,hf.bz];exact h.bz⟩
theorem N8{m x:af}(h:E5 m)(hq:FF m x):E5 x:=by
 rcases hq with rfl|⟨m1,m2,hb,ha,rfl⟩
 ·exact h
 ·exact aaz h (wj h.inv hb) ha
theorem Cg{m m1:af}(hb:xc m m1){q:af×Int×Unit}(hq:GU (Reach m1) m m1 q):q.2.1=0/\FF m q.1:=by
 obtain⟨m2,rfl,ha⟩:=hq;exact⟨rfl,.inr ⟨m1,m2,hb,ha,rfl⟩⟩
theorem Ye{m:af}(h:bc m)(hs:fY m){e:ai}(ht:dK e.aa)(hbad:aJ e=false\/e.ar=m.ar\/e.bm≠m.bm):kU m e=some (BM,(61:Int),()):=by
 unfold kU;simp only[af.eta,al.eta,ai.eta,ym h hs,Qa,Qo,Ql,iy ht]
 cases hv:aJ e with
 |false=>rfl
 |true=>
  by_cases hn:e.ar=m.ar
  ·rw[Qg hn];rfl
  ·have hsl:e.bm≠m.bm:=(hbad.resolve_left (by rw[hv];decide)).resolve_left hn
   rw[Qh hn,Qh hsl];rfl
theorem Ux{v:ByteArray}(h:Ko v):1<=v.size/\v.size<=200:=by
 have:=h.size;omega
theorem ZJ{m:af}(h:E5 m){s:dB}(hO:ly s):Yd (vp s m) fun q=>ly q.2/\FF m q.1:=by
 unfold vp;simp only[af.eta,al.eta,aW];refine Yd.bind (pQ hO (by omega)) fun p3 ⟨hO3,_,_,_⟩=> ?_
 have fin:∀{x:af×Int×Unit} {s':dB},ly s'->((x.2.1=0/\FF m x.1)\/x.2.1≠0)->Yd (bif !decide (x.2.1=0)then some (m,s')else some (x.1,s')) fun q=>ly q.2/\FF m q.1:=fun{x s'} hO' hx=>by
  rcases hx with⟨h0,hq⟩|h0
  ·rw[Qg h0];exact .some ⟨hO',hq⟩
  ·rw[Qh h0];exact .some ⟨hO',.inl rfl⟩
 refine Yd.cond (fun _=> ?_) (fun _=>Yd.cond (fun _=> ?_) (fun _=>Yd.cond (fun _=> ?_) (fun _=> ?_)))
 ·refine Yd.bind (H8 hO3) fun p4 ⟨hO4,hv⟩=> ?_
  have hb:xc m (dF m p4.1):= .inl ⟨p4.1,Ux hv,rfl⟩;have hi:=(wj h.inv hb).inv;refine Yd.bind (Wh (R:=Reach (dF m p4.1)) (ui hi) uh h.inv h.seq (Ux hv) (uj hi)) fun q hq=> ?_
  exact fin hO4 (.inl (Cg hb hq))
 ·have hR:∃R:af->Prop,(∀m,bc m->R m->R (cd m))/\(∀m,R m->R (cr m))/\R (kN m)/\(bc (kN m)->∀x,R x->Reach (kN m) x):=by
   by_cases hi:bc (kN m)
   ·exact⟨Reach (kN m),ui hi,uh,uj hi,fun _ x hx=>hx⟩
   ·exact⟨fun _=>True,fun _ _ _=>trivial,fun _ _=>trivial,trivial,fun hi'=>absurd hi' hi⟩
  obtain⟨R,hR1,hR2,hR0,hRR⟩:=hR;refine Yd.bind (Wf hR1 hR2 h.inv h.seq hR0) fun q hq=> ?_
  refine fin hO3 ?_;rcases hq with⟨⟨m2,rfl,ha⟩,h3,hv,hc⟩|⟨rfl,_⟩|⟨rfl,_⟩
  ·have hb:xc m (kN m):= .inr (.inr (.inl ⟨h3,hv,hc,rfl⟩));refine .inl (Cg hb ⟨m2,rfl,ha.inv,ha.seq,ha.env,ha.num,ha.nz,hRR (wj h.inv hb).inv _ ha.rel,ha.fix⟩)
  ·exact .inr (by decide)
  ·exact .inr (by decide)
 ·refine Yd.bind (H9 hO3 (n:=5) (by omega) (by omega)) fun p7 ⟨hO7,ht,_,_⟩=> ?_
  have hb:xc m (zY m p7.1):= .inr (.inr (.inr ⟨p7.1,ht,rfl⟩));have hi:=(wj h.inv hb).inv;refine Yd.bind (Wk (R:=Reach (zY m p7.1)) (ui hi) uh h.inv h.seq ht (uj hi)) fun q hq=> ?_
  exact fin hO7 (.inl (Cg hb hq))
 ·refine Yd.bind (nL hO3 (by omega) (by omega) (by omega)) fun p9 ⟨hO9,hlo,hhi,_⟩=> ?_
  have hhi:=hhi (by omega)
  refine Yd.bind (GX hO9 (by omega) (by omega) (by omega) (by omega) (n:=5) (by omega) (by omega)) fun p10 ⟨hO10,he⟩=> ?_
  have hsq:=h.inv.seq;have hseq:=he.seq;have hmul:Z5 .i64 3 m.aG=3*m.aG:=wrap64 (by omega) (by omega)
  have hadd:aA .i64 p10.1.aG (3*m.aG)=p10.1.aG+3*m.aG:=bM (by omega) (by omega)
  rw[hmul,hadd];generalize hE:(ai.mk p10.1.ar p10.1.bm (p10.1.aG+3*m.aG) p10.1.aa p10.1.br p10.1.ab p10.1.ao p10.1.aw p10.1.aI p10.1.aQ)=E;have hT:gA E.aa:=by rw[<-hE];exact he.aO
  have hN:E.ar=p9.1:=by rw[<-hE];exact he.ax
  have hS:E.bm=1:=by rw[<-hE];exact he.bz
  cases hv:aJ E with
  |false=>
   rw[Ye h.inv h.seq hT.sm (.inl hv)];simp only[Qa];exact fin (x:=(BM,(61:Int),())) hO10 (.inr (by decide))
  |true=>
   have hh:sY m E:=⟨hv,hT,by rw[hS,h.bz],by rw[hN,h.ax];omega⟩
   have hb:xc m (kP m E):= .inr (.inl ⟨E,hh,rfl⟩);have hi:=(wj h.inv hb).inv;refine Yd.bind (Wg (R:=Reach (kP m E)) (ui hi) uh h.inv h.seq hh (uj hi)) fun q hq=> ?_
   refine fin hO10 ?_;rcases hq with⟨hq,_⟩|⟨rfl,_⟩
   ·exact .inl (Cg hb hq)
   ·exact .inr (by decide)
theorem acC{t:al}(ht:gA t):E5 (gI 0 1 t):=by
 obtain⟨h1,h2⟩:=Se (ax:=0) (bz:=1) (by omega) (by omega) (by omega) (by omega) ht
 exact⟨h1,h2,YF h1,rfl,rfl⟩
theorem Z7{s:dB}(hO:ly s):Yd (vq s) fun q=>ly q.2/\E5 q.1:=by
 unfold vq;simp only[af.eta,al.eta];refine Yd.bind (H9 hO (n:=5) (by omega) (by omega)) fun p1 ⟨hO1,ht,_,_⟩=> ?_
 rw[acw (by omega) (by omega) (by omega) (by omega) ht]
 simp only[Qa];refine Yd.bind (pQ hO1 (by omega)) fun p3 ⟨hO3,h0,h14,_⟩=> ?_
 have h14:=h14 (by omega)
 refine Yd.down (fun v=>0<=v.1/\v.1<=14/\ly v.2.1/\E5 v.2.2.1) (fun v=>v.1.toNat) ?_ ⟨h0,by omega,hO3,acC ht⟩
 rintro⟨i,s',m,_⟩ ⟨hi0,hi14,hOs,hm⟩;simp only at hi0 hi14 hOs hm;simp only
 by_cases hi:(0:Int)<i
 ·rw[Qg hi];simp only[Qk];refine Yd.bind (ZJ hm hOs) fun q ⟨hq1,hq2⟩=> ?_
  have hsub:de .i64 i 1=i - 1:=pV (by omega) (by omega)
  rw[hsub];exact .some ⟨⟨by omega,by omega,hq1,N8 hm hq2⟩,by show(i - 1).toNat<i.toNat;omega⟩
 ·rw[Qh hi];exact .some ⟨hOs,hm⟩
theorem Yo{l:List ai}{e y:ai}(hl:l.Pairwise (fun a b=>a.ar<b.ar))(hv:aJ e=true)(hy:y∈l)(hn:y.ar=e.ar)(hs:e.aG<=y.aG):(jW l e).2.1=false:=by
 rcases zJ (l:=l) hv with⟨x,_,_,_,h⟩|⟨a,b,h1,h⟩
 ·rw[h]
 ·exfalso;rcases h1 with⟨x,rfl,hx,hxs⟩|⟨rfl,hne,_,_⟩
  ·have:y=x:=by
    rw[List.pairwise_append,Q4]at hl;obtain⟨_,⟨g2,_⟩,g4⟩:=hl;rcases Qz.1 hy with hy|hy
    ·have:=g4 y hy x Qx;omega
    ·rcases QA.1 hy with hy|hy
     ·exact hy
     ·have:=g2 y hy;omega
   subst this;omega
  ·exact hne y hy hn
theorem ZW{l:List ai}{e:ai}(hv:aJ e=true)(hok:(jW l e).2.1=true):e∈(jW l e).1:=by
 rcases zJ (l:=l) hv with⟨x,_,_,_,h⟩|⟨a,b,h1,h⟩
 ·rw[h]at hok;cases hok
 ·rw[h];exact List.mem_append_right _ Qx
theorem aa8{m:af}(h:E5 m){e:ai}(he:sY m e):Yd (cU m e) fun q=>(q.2.1=0/\FF m q.1/\e∈q.1.az)\/(q.2.1=9/\(jW m.az e).2.1=false):=by
 have hb:xc m (kP m e):= .inr (.inl ⟨e,he,rfl⟩);have hi:=(wj h.inv hb).inv;refine(Hy (R:=Reach (kP m e)) (ui hi) uh h.inv h.seq he (uj hi)).mono fun q hq=> ?_
 rcases hq with⟨⟨m2,rfl,ha⟩,hok⟩|⟨rfl,hok⟩
 ·refine .inl ⟨rfl,.inr ⟨_,m2,hb,ha,rfl⟩,?_⟩;rw[(PU m m2).2.2.1,ha.env.2.2.2.2,(vQ _).2.2.2.2.1];exact ZW he.valid hok
 ·exact .inr ⟨rfl,hok⟩
theorem ZY{m:af}(h:E5 m){e y:ai}(he:sY m e)(hy:y∈m.az)(hn:y.ar=e.ar)(hs:e.aG<=y.aG):Yd (cU m e) fun q=>q.2.1=9:=by
 have hi:=yU h.inv he;refine(Hy (R:=Reach (kP m e)) (ui hi) uh h.inv h.seq he (uj hi)).mono fun q hq=> ?_
 rcases hq with⟨_,hok⟩|⟨rfl,_⟩
 ·rw[Yo h.inv.mW he.valid hy hn hs]at hok;cases hok
 ·rfl
theorem LQ{e:ai}{s:Int}(h:aJ e=true)(hs:1<=s/\s<=1000000):aJ {e with aG:=s}=true:=by
 unfold aJ at h ⊢;unfold fo at h ⊢;simp only[Qm]at h ⊢;refine⟨⟨?_,h.1.2⟩,h.2⟩;have h1:=h.1.1;simp only[sR,Qm,Qi]at h1 ⊢;exact⟨⟨h1.1.1,hs.1⟩,hs.2⟩
theorem abb(l:List Int):pb l=some true:=by
 refine Yd.eq_true ?_;unfold pb;simp only[af.eta,al.eta,ZN,Qa];refine Yd.bind (aaH l) fun s hO=> ?_
 refine Yd.bind (Z7 hO) fun p2 ⟨hO2,hm⟩=> ?_
 refine Yd.bind (nL hO2 (by omega) (by omega) (by omega)) fun p3 ⟨hO3,hlo,hhi,_⟩=> ?_
 have hhi:=hhi (by omega)
 refine Yd.bind (GX hO3 (by omega) (by omega) (by omega) (by omega) (n:=5) (by omega) (by omega)) fun p4 ⟨hO4,he⟩=> ?_
 have hseq:=he.seq;have hadd:aA .i64 p4.1.aG 50=p4.1.aG+50:=bM (by omega) (by omega)
 have hsub:de .i64 (p4.1.aG+50) 1=p4.1.aG+49:=by rw[pV (by omega) (by omega)];omega
 rw[hadd,hsub]
 have hv:aJ p4.1=true:=by
  unfold aJ;rw[Dv he.aO];exact he.valid
 generalize hE:(ai.mk p4.1.ar p4.1.bm (p4.1.aG+50) p4.1.aa p4.1.br p4.1.ab p4.1.ao p4.1.aw p4.1.aI p4.1.aQ)=E;generalize hE2:(ai.mk p4.1.ar p4.1.bm (p4.1.aG+49) p4.1.aa p4.1.br p4.1.ab p4.1.ao p4.1.aw p4.1.aI p4.1.aQ)=E2;generalize hE3:(ai.mk p4.1.ar 2 (p4.1.aG+50) p4.1.aa p4.1.br p4.1.ab p4.1.ao p4.1.aw p4.1.aI p4.1.aQ)=E3;generalize hE4:(ai.mk 0 p4.1.bm (p4.1.aG+50) p4.1.aa p4.1.br p4.1.ab p4.1.ao p4.1.aw p4.1.aI p4.1.aQ)=E4;have hvE:aJ E=true:=by rw[<-hE];exact LQ hv (by omega)
 have hvE2:aJ E2=true:=by rw[<-hE2];exact LQ hv (by omega)
 have hh:∀{m:af},E5 m->sY m E/\sY m E2:=fun{m} hm=>by
  have hne:p4.1.ar≠0:=by have:=he.ax;omega
  exact⟨⟨hvE,by rw[<-hE];exact he.aO,by rw[<-hE,hm.bz];exact he.bz,by rw[<-hE,hm.ax];exact hne⟩,⟨hvE2,by rw[<-hE2];exact he.aO,by rw[<-hE2,hm.bz];exact he.bz,by rw[<-hE2,hm.ax];exact hne⟩⟩
 refine Yd.bind (aa8 hm (hh hm).1) fun r5 hr5=> ?_
 rcases hr5 with⟨h0,hst,hin⟩|⟨h9,_⟩
 ·have hx:=N8 hm hst;rw[h0];simp only[show decide ((0:Int)=9)=false from rfl,Ql]
  refine Yd.bind (ZY hx (hh hx).1 hin rfl (Int.le_refl _)) fun r7 h7=> ?_
  refine Yd.bind (ZY hx (hh hx).2 hin (by rw[<-hE,<-hE2]) (by rw[<-hE,<-hE2];show p4.1.aG+49<=p4.1.aG+50;omega)) fun r8 h8=> ?_
  rw[K7 hx.inv hx.seq (by rw[<-hE3];exact he.aO.sm) (.inr (.inr (by rw[<-hE3,hx.bz];show¬(2:Int)=1;omega))),K7 hx.inv hx.seq (by rw[<-hE4];exact he.aO.sm) (.inr (.inl (by rw[<-hE4,hx.ax])))]
  rw[h7,h8];exact .some rfl
 ·rw[h9];exact .some rfl
end Go.Proofs.YtkgenianmdfmdaaGreat
end
noncomputable section
namespace Go.TQ
open Go.RowKit
theorem Wb{w:World}{M:Nat->Prop}{G:Gh}{a:Option Addr}{len cap:Nat}{zs:List Int}(hM:∀b,¬M b)
  (h:(a=none/\len=0/\cap=0/\zs=[])\/∃x,a=some x/\len<=cap/\cap<=maxLen/\zs.length=cap/\(∀i,i<zs.length->w.cell? (x.add i)=some (.int .i64 (zs.getD i 0)))/\∀n∈zs,(Lit.int .i64 n).wf=true):
  aS w M G (.sl ((zs.take len).map fun n=>[.int .i64 n])) (.slice a len cap):=by
 rcases h with⟨rfl,rfl,rfl,rfl⟩|⟨x,rfl,h1,h2,h3,h4,_⟩
 ·exact .slnil
 ·have hfl:∀l:List Int,(l.map fun n=>[PV.int .i64 n]).flatten=l.map fun n=> .int .i64 n:=by
   intro l
   induction l with
   |nil=>rfl
   |cons n l ih=>simp only[QD,List.flatten_cons,ih];rfl
  have hlen:((zs.take len).map fun n=>[PV.int .i64 n]).length=len:=by simp;omega
  have:=aS.sl (w:=w) (M:=M) (G:=G) ((zs.take len).map fun n=>[.int .i64 n]) x cap 1 ((zs.take len).map fun n=> .int .i64 n) (fun e he=>by obtain⟨n,_,rfl⟩:=QP.1 he;rfl) (by rw[hfl];simp)
   (fun i v hv=> ?_) (fun i y v hy hv=> ?_) (by rw[hlen];exact h1) h2
  ·rw[hlen]at this;exact this
  ·refine⟨?_,hM _⟩;rw[QT,Qb]at hv;obtain⟨n,hn,rfl⟩:=hv;rw[List.getElem?_take]at hn;split at hn
   ·have hi:i<zs.length:=(Qw.1 hn).1;rw[h4 i hi,List.getD_eq_getElem?_getD,hn];rfl
   ·cases hn
  ·rw[hfl]at hy;rw[QT]at hy hv;rw[Qb]at hy hv;obtain⟨n,hn,rfl⟩:=hy;obtain⟨n',hn',rfl⟩:=hv;rw[hn]at hn';injection hn' with e
   subst e;exact .int _ _
theorem U7{P:Program}{f:FuncId}{args:List PV}{vs:List Value}{w:World}(h:VQ P f false [] args (.bool true) [])(hr:aT w (fun _=>False) cJ args vs):
  Calls P f vs.toArray w fun e w'=>e= .returned (.bool true)/\Below w.heap.size w w':=by
 refine(h w (fun _=>False) (fun _ hb=>hb.elim) 0 0 [] vs (fun hq=>by cases hq) ?_).mono ?_
 ·exact⟨hr.1,fun i x v hx hv=>(hr.2 i x v hx hv).mono (dq.of fun _ _=>fun hq=>by rcases hq with⟨hq,_⟩|hq;cases hq;exact hq) (Gh.le.refl _)⟩
 ·rintro e w' ⟨v,_,rfl,hv,_,hF⟩;refine⟨by rw[hv.lj],hF.os,hF.tape,hF.output,hF.size,fun k hk=>hF.block k hk (by simp)⟩
end Go.TQ
end
