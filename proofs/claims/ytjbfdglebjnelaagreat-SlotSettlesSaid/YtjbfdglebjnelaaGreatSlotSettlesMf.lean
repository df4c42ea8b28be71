/-
  Texts made small by a program (see NOTES). Conditions: those that each theorem names.
-/
import Derived.Test.YtjbfdglebjnelaaGreatSlotSettlesMe
set_option linter.unusedVariables false
set_option linter.unusedSimpArgs false
set_option linter.unusedSectionVars false
set_option maxHeartbeats 2000000
noncomputable section
namespace Go.Proofs.YtjbfdglebjnelaaGreat
open Go.TQ
section
def k7{A ρ:Type}(g:A->Int->A⊕ρ)(fin:A->Option ρ):List Int->A->Option ρ
 |[],a=>fin a
 |x::l,a=>match g a x with
  | .inl a'=>k7 g fin l a'
  | .inr r=>some r
theorem yD{A σ ρ:Type}(b:List Int)(hb:b.length<=1000000)(st:A->Int->σ)(g:A->Int->A⊕ρ)(fin:A->Option ρ){step:σ->Option (σ⊕ρ)}
  (h1:∀(i:Nat) (x:Int) (a:A),idx b (i:Int)=some x->decide ((0:Int)<=(i:Int))=true->de .i64 (i:Int) 1=(i:Int) - 1->step (st a (i:Int))=some (match g a x with| .inl a'=> .inl (st a' ((i:Int) - 1))| .inr r=> .inr r))
  (h2:∀a,decide ((0:Int)<=(-1:Int))=false->step (st a (-1))=Option.map Sum.inr (fin a)):∀n:Nat,n<=b.length->∀a:A,aC step (st a ((n:Int) - 1))=k7 g fin (b.take n).reverse a
 |0,_,a=>by
  rw[show((0:Nat):Int) - 1= -1 by omega,fb,h2 a rfl,List.take_zero,List.reverse_nil,k7]
  cases fin a<;>rfl
 |n+1,hn,a=>by
  have hlt:n<b.length:=by omega
  have hs:=h1 n b[n] a (by rw[bg];exact Qv hlt) (Qg (by omega)) (qb (by omega) (by omega))
  rw[show((n+1:Nat):Int) - 1=(n:Int)by omega,Q7 hlt,List.reverse_append,List.reverse_singleton,List.singleton_append,k7]
  cases hg:g a b[n]with
  |inl a'=>rw[hg]at hs;rw[bj hs,yD b hb st g fin h1 h2 n (by omega) a']
  |inr r=>rw[hg]at hs;rw[bw hs]
theorem Jd(b:List Int)(hb:b.length<=1000000):de .i64 ((b.length:Nat):Int) 1=((b.length:Nat):Int) - 1:=qb (by omega) (by omega)
theorem DH{ρ:Type}(q:Int->Bool)(f:Int->ρ):∀(l:List Int) (lo:Int),k7 (fun lo x=>if lo<=x then .inl lo else if q x then .inl x else .inr (f lo)) (fun lo=>some (f lo)) l lo=some (f (cI q l lo))
 |[],lo=>rfl
 |x::l,lo=>by
  rw[k7,cI]
  by_cases h1:lo<=x
  ·rw[Qr h1,Qr h1];exact DH q f l lo
  ·rw[Qs h1,Qs h1]
   cases hq:q x with
   |true=>rw[Qr rfl,Qr rfl];exact DH q f l x
   |false=>rw[Qs (by simp),Qs (by simp)]
theorem PI{A ρ:Type}(s:A)(c p:Int->Bool)(f:Int->ρ)(d:ρ)(g:A->Int->A⊕ρ)(fin:A->Option ρ)(hg:∀z,g s z=if c z then(if p z then .inr (f z)else .inl s)else .inr d)(hfin:fin s=some d)(hc:∀a b,b<a->c b=true->c a=true):
  ∀r:List Int,r.Pairwise (fun a b=>b<a)->k7 g fin r s=some (match r.find? (fun n=>c n&&p n)with|some n=>f n|none=>d)
 |[],_=>hfin
 |z::r,h=>by
  rw[k7,hg,List.find?_cons];rw[Q4]at h
  cases hz:c z with
  |false=>
   have:r.find? (fun n=>c n&&p n)=none:=by
    rw[List.find?_eq_none];intro n hn hcn;rw[Qm]at hcn;rw[hc z n (h.1 n hn) hcn.1]at hz;cases hz
   simp[this]
  |true=>
   cases hp:p z with
   |true=>simp
   |false=>
    simp only[Qt,Bool.true_and];exact PI s c p f d g fin hg hfin hc r h.2
theorem Mq{ρ:Type}(q:Int->Bool)(f:Int->ρ):∀(r:List Int) (lo:Int),(∀z∈r,z<lo)->r.Pairwise (fun a b=>b<a)->k7 (fun lo z=>if q z then .inl z else .inr (f lo)) (fun lo=>some (f lo)) r lo=some (f (cI q r lo))
 |[],lo,_,_=>rfl
 |z::r,lo,h,hs=>by
  rw[Q4]at hs;have hz:=h z (by simp)
  have h0:¬lo<=z:=by omega
  rw[k7,cI,Qs h0]
  cases hq:q z with
  |true=>rw[Qr rfl,Qr rfl];exact Mq q f r z hs.1 hs.2
  |false=>rw[Qs (by simp),Qs (by simp)]
theorem NJ{α B ρ:Type}(l:List α)(hl:l.length<=1000000)(f:B->α->B){step:Int×B×Unit->Option ((Int×B×Unit)⊕ρ)}{fin:B->Option ρ}
  (h1:∀(i:Nat) (x:α) (b:B),x∈l->decide ((i:Int)<((l.length:Nat):Int))=true->idx l (i:Int)=some x->aA .i64 (i:Int) 1=((i+1:Nat):Int)->step ((i:Int),b,())=some (.inl (((i+1:Nat):Int),f b x,())))
  (h2:∀b,decide (((l.length:Nat):Int)<((l.length:Nat):Int))=false->step (((l.length:Nat):Int),b,())=Option.map Sum.inr (fin b)) (b:B):aC step ((0:Int),b,())=fin (l.foldl f b):=by
 suffices key:∀(k i:Nat) (b:B),i+k=l.length->aC step ((i:Int),b,())=fin ((l.drop i).foldl f b)from key l.length 0 b (by omega)
 intro k
 induction k with
 |zero=>
  intro i b hi;obtain rfl:i=l.length:=by omega
  rw[fb,h2 b (Qh (Qq64 _)),Qq66,List.foldl_nil];cases fin b<;>rfl
 |succ k ih=>
  intro i b hi;have hlt:i<l.length:=by omega
  rw[bj (h1 i l[i] b (Q0 hlt) (Qg (by omega)) (by rw[bg];exact Qv hlt) (bE (by omega) (by omega))),ih (i+1) _ (by omega),QM hlt,QU]
theorem KC(q:Int->Bool):∀(l r:List Int) (lo:Int),(∀x∈l,lo<=x)->cI q (l++r) lo=cI q r lo
 |[],r,lo,_=>rfl
 |x::l,r,lo,h=>by
  rw[List.cons_append,cI,Qr (h x (by simp))]
  exact KC q l r lo fun y hy=>h y (by simp[hy])
theorem GC(q:Int->Bool):∀(r:List Int) (lo:Int),(∀x∈r,0<=x/\x<=1000000)->0<=lo/\lo<=1000000->0<=cI q r lo/\cI q r lo<=1000000
 |[],lo,_,h=>h
 |x::r,lo,hx,h=>by
  rw[cI];split
  ·exact GC q r lo (fun y hy=>hx y (by simp[hy])) h
  ·split
   ·exact GC q r x (fun y hy=>hx y (by simp[hy])) (hx x (by simp))
   ·exact h
 def fS(x:ByteArray->Int->Int->Bool)(p q:ai)(v:ByteArray)(s:Bool×ai)(n:Int):Bool×ai:=
 if bx s.2 ⟨n,v⟩&& !mX p q v n&&x v n n then(true,⟨n,v⟩)else s
 def gN(x:ByteArray->Int->Int->Bool)(l:List ae)(p q:ai):Bool×ai:=
 (gk l).foldl (fun s v=>(bs l v).foldl (fS x p q v) s) (false,⟨0,fE⟩)
 def oY(x:ByteArray->Int->Int->Bool)(l:List ae)(p q:ai)(s:Bool×ai):ByteArray×Int×Int×Bool×Unit:=
 if s.1 then(s.2.Value,cI (fun n=> !mX p q s.2.Value n&&x s.2.Value n s.2.aj) (bs l s.2.Value).reverse s.2.aj,s.2.aj,true,())else(fE,0,0,false,())
section
variable {S : gO} {x y : ByteArray -> Int -> Int -> Bool} (hx : ∀ v lo hi, iC S v lo hi = some (x v lo hi)) (hy : ∀ v lo hi, nX S v lo hi = some (y v lo hi))
section
 include hx
theorem abu(b:List Int)(lo:Int)(p q z:ai):jU b lo p q z S=some (cI (fun n=> !mX p q z.Value n&&x z.Value n z.aj) b.reverse lo):=by
 have:=Cz (p:=fun e=>nN e p q z S) (q:=fun n=> !mX p q z.Value n&&x z.Value n z.aj) (fun e=>by
  simp only[nN,Of,hx,Qa,lx]
  cases mX p q z.Value e<;>simp) b.reverse lo
 simp only[jU,cj,aP,Qa];exact this
theorem abt(b:List Int)(lo:Int)(v:ByteArray)(hi:Int):kj b lo S v hi=some (cI (fun z=>x v z hi) b.reverse lo):=by
 have:=Cz (p:=fun e=>rq e S v hi) (q:=fun z=>x v z hi) (fun e=>by simp only[rq,hx,Qa]) b.reverse lo
 simp only[kj,cj,aP,Qa];exact this
theorem Us(b:List Int)(lo:Int)(v:ByteArray)(hi:Int):iD b lo S v hi=some (cI (fun z=>x v z hi) b.reverse lo):=by
 have:=Cz (p:=fun e=>rp e S v hi) (q:=fun z=>x v z hi) (fun e=>by simp only[rp,hx,Qa]) b.reverse lo
 simp only[iD,cj,aP,Qa];exact this
theorem Rp(b:List Int)(v:ByteArray)(low bU:Int)(hb:∀x∈b,0<=x/\x<=1000000):∀r:List Int,(∀x∈r,x∈b)->ny (Cy S b v) (ZM S b v) r (low,bU,())=
  some (match r.find? (fun n=>decide (bU<n)&&x v n n)with
   |none=>(cI (fun z=>x v z bU) b.reverse low,bU,())
   |some n=>(cI (fun z=>x v z n) b.reverse (if bU<cI (fun z=>x v z n) b.reverse n - 1\/cI (fun z=>x v z n) b.reverse n<low then cI (fun z=>x v z n) b.reverse n else low),n,()))
 |[],_=>by simp only[ny,ZM,Us hx,Qa,List.find?_nil]
 |e::r,hr=>by
  have ih:=Rp b v low bU hb r (fun x hx=>hr x (by simp[hx]))
  rw[List.find?_cons,ny]
  by_cases hle:e<=bU
  ·have h2:decide (bU<e)=false:=Qh (by omega)
   have h1:decide (e<=bU)=true:=Qg hle;have hst:Cy S b v r.length e (low,bU,())=some (.inl (low,bU,())):=by simp only[Cy,h1,Qk,Qa]
   rw[hst,h2,Bool.false_and];exact ih
  ·have h2:decide (bU<e)=true:=Qg (by omega)
   have h1:decide (e<=bU)=false:=Qh hle;rw[h2,Bool.true_and]
   cases hr':x v e e with
   |false=>
    have hst:Cy S b v r.length e (low,bU,())=some (.inl (low,bU,())):=by simp only[Cy,h1,Ql,hx,hr',Qp,Qa,Qk]
    rw[hst];exact ih
   |true=>
    have hb9:=GC (fun z=>x v z e) b.reverse e (fun z hz=>hb z (by simpa using hz)) (hb e (hr e (by simp)))
    simp only[Cy,h1,Ql,hx,hr',Qo,abt hx,Us hx,Qa,aP,lx,Bool.cond_true_left,Qe];generalize cI (fun z=>x v z e) b.reverse e=bt at*
    have e3:de .i64 bt 1=bt - 1:=qb (by omega) (by omega)
    rw[e3]
    by_cases hc:bU<bt - 1\/bt<low
    ·have:(decide (bU<bt - 1)||decide (bt<low))=true:=by rw[Qn];simpa using hc
     rw[this,Qr hc];rfl
    ·have:(decide (bU<bt - 1)||decide (bt<low))=false:=by
      rw[<-QX,Qn];simpa using hc
     rw[this,Qs hc];rfl
end
section
 include hy
theorem aei(b:List Int)(lo:Int)(v:ByteArray)(hi:Int):ki b lo S v hi=some (cI (fun z=>y v z hi) b.reverse lo):=by
 have:=Cz (p:=fun e=>s7 e S v hi) (q:=fun z=>y v z hi) (fun e=>by simp only[s7,hy,Qa]) b.reverse lo
 simp only[ki,cj,aP,Qa];exact this
end
variable {aB : Int} {t : af} {l : List ae} (hl : qZ l) (hlen : l.length <= 1000) (hL : fP aB t l = some S)
 include hl hlen hL
section
 include hx
theorem agd(p q:ai):si aB t l p q=some (oY x l p q (gN x l p q)):=by
 obtain⟨h1,_,h3,_⟩:=sx hl.aL hlen;unfold si;simp only[etas,hL,h1,Qa];refine(NK (gk l) (by omega) (fun s v=>(bs l v).foldl (fS x p q v) s) (fin:=fun s=>some (oY x l p q s)) (fun i v a b hv hd hx' hw=> ?_) (fun a b hd=> ?_) false ⟨0,ByteArray.mk #[]⟩)
 ·obtain⟨g1,_,g3,_⟩:=iQ hl.aL hlen v;simp only[hd,hx',hw,Qk,Qa,g1];refine(NK (bs l v) (by omega) (fS x p q v) (fin:=fun s=>some (Sum.inl (s.1,((i+1:Nat):Int),s.2,()))) (fun i' n a' b' hv' hd' hx'' hw'=> ?_) (fun a' b' hd'=> ?_) a b)
  ·simp only[hd',hx'',hw',Qk,aP,Qa,jL,Of,hx,lx];unfold fS;cases bx b' ⟨n,v⟩<;>cases mX p q v n<;>cases x v n n<;>simp
  ·simp only[hd',Ql]
 ·simp only[hd,Ql];obtain⟨g1,_,g3,_⟩:=iQ hl.aL hlen b.Value;unfold oY;cases a
  ·rfl
  ·simp only[Qo,Ql,g1,Qa,abu hx,Qt]
theorem aeO(v:ByteArray)(low bU:Int):qJ aB t l v low bU=some ((EA (bs l v) (x v) low bU).1,(EA (bs l v) (x v) low bU).2,()):=by
 obtain⟨h1,_,_,_⟩:=iQ hl.aL hlen v;have hin:=D5 hl hlen v;unfold qJ;simp only[etas,hL,h1,Qa,cj];refine(Rp hx (bs l v) v low bU (fun x hx=>by have:=hin x hx;omega) (bs l v).reverse (by simp)).trans ?_
 unfold EA;cases (bs l v).reverse.find? (fun n=>decide (bU<n)&&x v n n)<;>rfl
end
section
 include hy
theorem age(v:ByteArray):sj aB t l v=some (wO (bs l v) (y v)):=by
 obtain⟨h1,_,_,_⟩:=iQ hl.aL hlen v
 have:=Wp (p:=fun e=>nX S v e e) (q:=fun e=>y v e e) (d:=fun e=>ki (bs l v) e S v e) (f:=fun e=>cI (fun z=>y v z e) (bs l v).reverse e)
  (fun e=>hy v e e) (fun e=>aei hy (bs l v) e v e) (bs l v).reverse
 simp only[sj,etas,hL,h1,cj,Qa,wO];exact this
end
end
 def DF(x:ByteArray->Int->Int->Bool)(p q:ai)(v:ByteArray)(s:ai)(n:Int):ai:=if bx s ⟨n,v⟩&& !mX p q v n&&x v n n then⟨n,v⟩else s
theorem UM{x:ByteArray->Int->Int->Bool}{p q:ai}(v:ByteArray):∀(b:List Int),(∀n∈b,1<=n)->∀s:Bool×ai,s.1= !aF s.2->
  (b.foldl (fS x p q v) s).2=b.foldl (DF x p q v) s.2/\(b.foldl (fS x p q v) s).1= !aF (b.foldl (fS x p q v) s).2
 |[],_,s,h=>⟨rfl,h⟩
 |n::b,hb,s,h=>by
  rw[QU,QU];have hn:=hb n (by simp)
  have h1:(fS x p q v s n).2=DF x p q v s.2 n:=by unfold fS DF;split<;>rfl
  have h2:(fS x p q v s n).1= !aF (fS x p q v s n).2:=by
   unfold fS;split
   ·have:decide (n=0)=false:=Qh (by omega)
    simp[aF,this]
   ·exact h
  rw[<-h1];exact UM v b (fun n hn=>hb n (by simp[hn])) _ h2
theorem UN{x:ByteArray->Int->Int->Bool}{p q:ai}{l:List ae}(hl:qZ l)(hlen:l.length<=1000):∀(vs:List ByteArray) (s:Bool×ai),s.1= !aF s.2->
  (vs.foldl (fun s v=>(bs l v).foldl (fS x p q v) s) s).2=vs.foldl (fun s v=>(bs l v).foldl (DF x p q v) s) s.2/\(vs.foldl (fun s v=>(bs l v).foldl (fS x p q v) s) s).1= !aF (vs.foldl (fun s v=>(bs l v).foldl (fS x p q v) s) s).2
 |[],s,h=>⟨rfl,h⟩
 |v::vs,s,h=>by
  rw[QU,QU];obtain⟨h1,h2⟩:=UM (x:=x) (p:=p) (q:=q) v (bs l v) (fun n hn=>(D5 hl hlen v n hn).1) s h
  rw[<-h1];exact UN hl hlen vs _ h2
section
variable {aB : Int} {t : af} {l : List ae} (hl : qZ l) (hlen : l.length <= 1000) {x y : ByteArray -> Int -> Int -> Bool} (hx : ∀ v lo hi, jS aB t l v lo hi = some (x v lo hi)) (hy : ∀ v lo hi, mB aB t l v lo hi = some (y v lo hi))
 include hl hlen
section
 include hx
theorem aaD(v:ByteArray)(lo hi:Int):uZ aB t l v lo hi=some (cI (fun z=>x v z hi) (bs l v).reverse lo):=by
 obtain⟨_,_,h3,_⟩:=iQ hl.aL hlen v;unfold uZ;simp only[etas,yz hl.aL hlen,Qa,Jd _ (by omega:(bs l v).length<=1000000),aP]
 refine(yD (bs l v) (by omega) (fun lo i=>(lo,i,())) (fun lo z=>if lo<=z then .inl lo else if x v z hi then .inl z else .inr lo) (fun lo=>some lo) (fun i z a hi' hd hs=> ?_) (fun a hd=> ?_) (bs l v).length (QI _) lo).trans ?_
 ·simp only[hi',hd,hs,Qk,Qa,hx]
  by_cases h1:a<=z
  ·simp[h1]
  ·cases x v z hi<;>simp[h1]
 ·simp only[hd,Ql]
 ·rw[Qq62];exact DH (fun z=>x v z hi) (fun lo=>lo) _ _
theorem aaN(v:ByteArray)(low bU:Int):oK aB t l v low bU=some ((EA (bs l v) (x v) low bU).1,(EA (bs l v) (x v) low bU).2,()):=by
 obtain⟨_,h2,h3,_⟩:=iQ hl.aL hlen v;have hin:=D5 hl hlen v;unfold oK;simp only[etas,yz hl.aL hlen,aaD hl hlen hx,Qa,Jd _ (by omega:(bs l v).length<=1000000),aP]
 refine(yD (bs l v) (by omega) (fun(s:Int×Int) i=>(s.1,s.2,i,()))
  (fun s z=>if s.2<z then(if x v z z then .inr (cI (fun w=>x v w z) (bs l v).reverse (if s.2<cI (fun w=>x v w z) (bs l v).reverse z - 1\/cI (fun w=>x v w z) (bs l v).reverse z<s.1 then cI (fun w=>x v w z) (bs l v).reverse z else s.1),z,())else .inl s)
   else .inr (cI (fun w=>x v w s.2) (bs l v).reverse s.1,s.2,()))
  (fun s=>some (cI (fun w=>x v w s.2) (bs l v).reverse s.1,s.2,())) (fun i z s hi' hd hs=> ?_) (fun s hd=> ?_) (bs l v).length (QI _) (low,bU)).trans ?_
 ·have hz:z∈bs l v:=by rw[bg]at hi';exact Q8 hi'
  have hb9:=GC (fun w=>x v w z) (bs l v).reverse z (fun w hw=>by have:=hin w (by simpa using hw);omega) (by have:=hin z hz;omega)
  simp only[hi',hd,hs,Qk,Qa,hx]
  by_cases h1:s.2<z
  ·simp only[h1,decide_true,Qk,Qt]
   cases hxz:x v z z with
   |false=>simp
   |true=>
    generalize cI (fun w=>x v w z) (bs l v).reverse z=bt at*
    have e3:de .i64 bt 1=bt - 1:=qb (by omega) (by omega)
    simp only[Qo,Ql,e3,Qt]
    by_cases h4:s.2<bt - 1
    ·simp[h4]
    ·by_cases h5:bt<s.1
     ·simp[h4,h5,dF]
     ·simp[h4,h5,dF]
  ·simp[h1]
 ·simp only[hd,Ql,Qa]
 ·rw[Qq62]
  refine(PI (low,bU) (fun z=>decide (bU<z)) (fun z=>x v z z) (fun z=>(cI (fun w=>x v w z) (bs l v).reverse (if bU<cI (fun w=>x v w z) (bs l v).reverse z - 1\/cI (fun w=>x v w z) (bs l v).reverse z<low then cI (fun w=>x v w z) (bs l v).reverse z else low),z,()))
   (cI (fun w=>x v w bU) (bs l v).reverse low,bU,()) _ _ (fun z=> ?_) rfl (fun a b h h'=> ?_) _ (List.pairwise_reverse.2 h2)).trans ?_
  ·by_cases h4:bU<z<;>simp[h4]
  ·simp only[Qi]at h' ⊢;omega
  ·unfold EA;cases (bs l v).reverse.find? (fun n=>decide (bU<n)&&x v n n)<;>rfl
 omit hl hlen hx in
theorem Wo(p q:ai)(n:Int)(v:ByteArray):uY p q n v=some (!mX p q v n):=by
  simp only[uY,BZ,Qa,mX];cases eI p ⟨n,v⟩<;>cases eI q ⟨n,v⟩<;>rfl
theorem adh(p q:ai):pU aB t l p q=some (oY x l p q (gN x l p q)):=by
 obtain⟨_,_,h3,_⟩:=sx hl.aL hlen;obtain⟨e1,e2⟩:=UN (x:=x) (p:=p) (q:=q) hl hlen (gk l) (false,⟨0,fE⟩) rfl;unfold pU;simp only[etas,Xm hl.aL hlen,Qa];refine(NJ (gk l) (by omega) (fun s v=>(bs l v).foldl (DF x p q v) s) (fin:=fun s=>some (oY x l p q (!aF s,s))) (fun i v b hv hd hx' hw=> ?_) (fun b hd=> ?_) ⟨0,ByteArray.mk #[]⟩).trans ?_
 ·obtain⟨_,_,g3,_⟩:=iQ hl.aL hlen v;simp only[hd,hx',hw,Qk,Qa,yz hl.aL hlen];refine(NJ (bs l v) (by omega) (DF x p q v) (fin:=fun s=>some (Sum.inl (((i+1:Nat):Int),s,()))) (fun i' n b' hv' hd' hx'' hw'=> ?_) (fun b' hd'=> ?_) b)
  ·simp only[hd',hx'',hw',Qk,aP,Qa,jT,Wo,hx,lx];unfold DF;cases bx b' ⟨n,v⟩<;>cases mX p q v n<;>cases x v n n<;>simp
  ·simp only[hd',Ql]
 ·obtain⟨_,_,g3,_⟩:=iQ hl.aL hlen b.Value;simp only[hd,Ql,cv,Qa];unfold oY
  cases aF b with
  |true=>rfl
  |false=>
   simp only[Qp,Qt,Ql,yz hl.aL hlen,Qa,aP,Jd _ (by omega:(bs l b.Value).length<=1000000)]
   refine congrArg (Option.map Sum.inr) ((yD (bs l b.Value) (by omega) (fun lo i=>(lo,i,())) (fun lo z=>if lo<=z then .inl lo else if !mX p q b.Value z&&x b.Value z b.aj then .inl z else .inr (b.Value,lo,b.aj,true,())) (fun lo=>some (b.Value,lo,b.aj,true,())) (fun i z a hi' hd hs=> ?_) (fun a hd=> ?_) (bs l b.Value).length (QI _) b.aj).trans ?_)
   ·simp only[hi',hd,hs,Qk,Qa,hx,Wo]
    by_cases h1:a<=z
    ·simp[h1]
    ·cases mX p q b.Value z<;>cases x b.Value z b.aj<;>simp[h1]
   ·simp only[hd,Ql]
   ·rw[Qq62];exact DH (fun z=> !mX p q b.Value z&&x b.Value z b.aj) (fun lo=>(b.Value,lo,b.aj,true,())) _ _
 ·unfold gN;rw[show(gk l).foldl (fun s v=>(bs l v).foldl (DF x p q v) s) ⟨0,ByteArray.mk #[]⟩=((gk l).foldl (fun s v=>(bs l v).foldl (fS x p q v) s) (false,⟨0,fE⟩)).2 from e1.symm,<-e2]
end
section
 include hy
theorem adj(v:ByteArray):pV aB t l v=some (wO (bs l v) (y v)):=by
 obtain⟨_,h2,h3,_⟩:=iQ hl.aL hlen v;unfold pV;simp only[etas,yz hl.aL hlen,Qa,Jd _ (by omega:(bs l v).length<=1000000),aP]
 unfold wO;generalize bs l v=b at*
 suffices key:∀n:Nat,n<=b.length->aC _ (((n:Nat):Int) - 1,())=some (match(b.take n).reverse.find? (fun e=>y v e e)with|some e=>(cI (fun z=>y v z e) b.reverse e,e,true,())|none=>(0,0,false,()))by
  have:=key b.length (QI _);rw[Qq62]at this;exact this
 intro n
 induction n with
 |zero=>
  intro _;rw[show((0:Nat):Int) - 1= -1 by omega]
  have hd:decide ((0:Int)<= -1)=false:=rfl;exact bw (by simp only[hd,Ql,Qe,List.take_zero,List.reverse_nil,List.find?_nil])
 |succ n ih=>
  intro hn;have hlt:n<b.length:=by omega
  have hxn:idx b (n:Int)=some b[n]:=by rw[bg];exact Qv hlt
  have hd:decide ((0:Int)<=(n:Int))=true:=Qg (by omega)
  have hs:de .i64 (n:Int) 1=(n:Int) - 1:=qb (by omega) (by omega)
  rw[show((n+1:Nat):Int) - 1=(n:Int)by omega,Q7 hlt,List.reverse_append,List.reverse_singleton,List.singleton_append,List.find?_cons]
  cases hyn:y v b[n] b[n]with
  |false=>
   rw[bj (s':=((n:Int) - 1,())) (by simp only[hd,hxn,hs,hy,hyn,Qk,Qa,Qp])]
   exact ih (by omega)
  |true=>
   have hb:b=b.take n++b[n]::b.drop (n+1):=by rw[<-QM hlt,List.take_append_drop]
   have hp:(b.take n++b[n]::b.drop (n+1)).Pairwise (·<·):=hb▸h2;rw[Qq69,Q4]at hp;obtain⟨p1,⟨p2,p3⟩,p4⟩:=hp;refine bw ?_;simp only[hd,hxn,hs,hy,hyn,Qk,Ql,Qa,Qo];refine(yD b (by omega) (fun lo i=>(lo,i,())) (fun lo z=>if y v z b[n]then .inl z else .inr (.inr (lo,b[n],true,()))) (fun lo=>some (.inr (lo,b[n],true,()))) (fun i z a hi' hd' hs'=> ?_) (fun a hd'=> ?_) n (by omega) b[n]).trans ?_
   ·simp only[hi',hd',hs',Qk,Qa];cases y v z b[n]<;>simp
   ·simp only[hd',Ql,Qe]
   ·rw[Mq (fun z=>y v z b[n]) (fun lo=>Sum.inr (lo,b[n],true,())) _ _ (fun z hz=>p4 z (List.mem_reverse.1 hz) _ (Qx ..)) (List.pairwise_reverse.2 p1)]
    have:cI (fun z=>y v z b[n]) b.reverse b[n]=cI (fun z=>y v z b[n]) (b.take n).reverse b[n]:=by
     have hr:b.reverse=((b.drop (n+1)).reverse++[b[n]])++(b.take n).reverse:=by
      rw[<-List.reverse_cons,<-List.reverse_append,<-hb]
     rw[hr];refine KC _ _ _ _ fun z hz=> ?_
     rw[Qz,List.mem_reverse,Q5]at hz;rcases hz with hz|rfl
     ·exact Int.le_of_lt (p2 z hz)
     ·exact Int.le_refl _
    rw[this]
end
end
end
section
section
variable {aB : Nat} (hn : aB < 10) {t : af} (ht : c8 t) {l : List ae} (hl : qZ l) (hlen : l.length <= 1000)
 include hn ht hl hlen
theorem aff(b:ai):qD aB t l b=some (lj aB t l b):=by
 have hin:=mR l;have hsm:=ml (aB:=aB) ht hl;simp only[qD,etas,PC hl.aL hlen,zU hn hl,Qa,vn hsm hn (mj hin) (mj hin)];rfl
theorem adk(b:ai):pd aB t l b=some (jY aB t l b):=by
 have hin:=mR l;have hsm:=ml (aB:=aB) ht hl;simp only[pd,etas,PC hl.aL hlen,zU hn hl,Qa,tQ hsm hn (mj hin)];rfl
theorem afu(b:ai):il ⟨aB,⟨gy aB t l⟩,(bW l).map bG.mk⟩ b=some (lj aB t l b):=by
 have hin:=mR l;have hsm:=ml (aB:=aB) ht hl;rw[Mj hl.len,xc hsm hn (mj hin) (mj hin)];rfl
theorem adE(b:ai):fl ⟨aB,⟨gy aB t l⟩,(bW l).map bG.mk⟩ b=some (jY aB t l b):=by
 have hin:=mR l;have hsm:=ml (aB:=aB) ht hl;rw[KZ hl.len,vD hsm hn (mj hin)];rfl
 def jq(aB:Nat)(t:af)(l:List ae)(p q:ai)(v:ByteArray):ai:=((eR l).find? (w7 (lj aB t l) p q v)).getD zI
 def xa(aB:Nat)(t:af)(l:List ae)(a:ai):ai:=((eR l).find? (w9 (jY aB t l) a)).getD zI
theorem adb(p q:ai)(v:ByteArray):rU aB t l p q v=some (jq aB t l p q v):=aay hl hlen (aff hn ht hl hlen) p q v
theorem adf(a:ai):nF aB t l a=some (xa aB t l a):=aaz hl hlen (adk hn ht hl hlen) a
theorem ady(p q:ai)(v:ByteArray):oP aB t l p q v=some (jq aB t l p q v):=adM hl hlen (Pn hn ht hl) (afu hn ht hl hlen) p q v
theorem adB(a:ai):lK aB t l a=some (xa aB t l a):=adW hl hlen (Pn hn ht hl) (adE hn ht hl hlen) a
end
end
section
theorem mq{bytes n:Nat}(h:bytes<=200)(hn:n<=1000000):bb bytes n=true:=
 br ⟨QK (Nat.mul_le_mul hn h) (by decide),hn⟩
theorem F1{α ρ:Type}(l:List α)(hl:l.length<=1000000)(p:α->Bool){step:Int×Unit->Option ((Int×Unit)⊕ρ)}{fin:Option ρ}{f:Nat->α->Option ρ}
  (h1:∀(i:Nat) (x:α),i<l.length->l[i]?=some x->decide ((i:Int)<((l.length:Nat):Int))=true->idx l (i:Int)=some x->aA .i64 (i:Int) 1=((i+1:Nat):Int)->step ((i:Int),())=bif p x then Option.map Sum.inr (f i x)else some (.inl (((i+1:Nat):Int),())))
  (h2:(∀x∈l,p x=false)->decide (((l.length:Nat):Int)<((l.length:Nat):Int))=false->step (((l.length:Nat):Int),())=Option.map Sum.inr fin):
  aC step ((0:Int),())=match l.findIdx? p with|some i=>(l[i]?).bind (f i)|none=>fin:=by
 suffices key:∀(k i:Nat),i+k=l.length->(∀x∈l.take i,p x=false)->aC step ((i:Int),())=match(l.drop i).findIdx? p with|some j=>(l[i+j]?).bind (f (i+j))|none=>fin by
  have:=key l.length 0 (by omega) (by simp)
  rw[List.drop_zero]at this;simp only[Nat.zero_add]at this;exact this
 intro k
 induction k with
 |zero=>
  intro i hi hpre;obtain rfl:i=l.length:=by omega
  rw[Qq62]at hpre;rw[fb,h2 hpre (Qh (Qq64 _)),Qq66];cases fin<;>rfl
 |succ k ih=>
  intro i hi hpre;have hlt:i<l.length:=by omega
  have hx:l[i]?=some l[i]:=Qv hlt;have hs:=h1 i l[i] hlt hx (Qg (by omega)) (by rw[bg];exact hx) (bE (by omega) (by omega))
  rw[QM hlt,List.findIdx?_cons]
  cases hp:p l[i]with
  |true=>
   rw[hp]at hs;rw[fb,hs];simp only[Qk,Qt,Nat.add_zero,hx,Qa];cases f i l[i]<;>rfl
  |false=>
   rw[hp]at hs
   rw[bj hs,ih (i+1) (by omega) (fun x hx=>by
    rw[Q7 hlt,Qz,Q5]at hx;rcases hx with hx|rfl
    ·exact hpre x hx
    ·exact hp)]
   simp only[Qq,Qu]
   cases (l.drop (i+1)).findIdx? p with
   |none=>rfl
   |some j=>
    simp only[Qe];rw[show i+1+j=i+(j+1)by omega]
def N4(l:List ae)(e:ae):Nat:=(l.findIdx? fun x=>decide (e.al<x.al)).getD l.length
 def zY(l:List ae)(e:ae):List ae×Bool×Unit:=
 if aW e then
  match l.findIdx? fun x=>decide (x.al=e.al)with
  |some i=>if e.aE<=((l[i]?).getD e).aE then(l,false,())else(l.set i e,true,())
  |none=>(l.take (N4 l e)++[e]++l.drop (N4 l e),true,())
 else(l,false,())
section
variable {l : List ae} (hl : ∀ x ∈ l, c8 x.ak) (hlen : l.length <= 1000)
 include hlen
 include hl
theorem aal:eL l=some l:=by
 unfold eL
 suffices key:∀(k i:Nat),i+k=l.length->aC _ ((i:Int),l.take i,())=some l from key l.length 0 (by omega)
 intro k
 induction k with
 |zero=>
  intro i hi;obtain rfl:i=l.length:=by omega
  have hd:decide (((l.length:Nat):Int)<((l.length:Nat):Int))=false:=Qh (Qq64 _);exact bw (by simp only[hd,Ql,Qe,Qq62])
 |succ k ih=>
  intro i hi;have hlt:i<l.length:=by omega
  have hd:decide ((i:Int)<((l.length:Nat):Int))=true:=Qg (by omega)
  have hw:aA .i64 (i:Int) 1=((i+1:Nat):Int):=bE (by omega) (by omega)
  have hx:idx l (i:Int)=some l[i]:=by rw[bg];exact Qv hlt
  have hc:rn l[i]=some l[i]:=by simp only[rn,etas,qt (hl _ (Q0 hlt)),Qa]
  refine(bj ?_).trans (ih (i+1) (by omega))
  simp only[hd,hx,hw,Qk,Qa,etas,ae.eta,hc];rw[mq (by omega) (by simp;omega),Q7 hlt]
  rfl
end
end
section
section
variable {l : List ae} (hlen : l.length <= 1000)
 include hlen
theorem HZ(e:ae){a b:Nat}(ha:a<=b)(hb:b<=l.length):cJ (0:Int) (a:Int) l.length=true/\bb 176 (List.length ((l.take (Int.toNat (a:Int))).drop (Int.toNat (0:Int))))=true/\
  bb 176 (List.length ((l.take (Int.toNat (a:Int))).drop (Int.toNat (0:Int)))+List.length [e])=true/\cJ (b:Int) (l.length:Int) l.length=true/\
  bb 176 (List.length (((l.take (Int.toNat (a:Int))).drop (Int.toNat (0:Int)))++[e])+List.length ((l.take (Int.toNat (l.length:Int))).drop (Int.toNat (b:Int))))=true/\
  (((l.take (Int.toNat (a:Int))).drop (Int.toNat (0:Int)))++[e])++((l.take (Int.toNat (l.length:Int))).drop (Int.toNat (b:Int)))=l.take a++[e]++l.drop b:=by
 refine⟨by simp[cJ];omega,jb (by omega) (by simp;omega),jb (by omega) (by simp;omega),by simp[cJ];omega,jb (by omega) (by simp;omega),?_⟩
 simp only[QV,Int.toNat_zero,List.drop_zero,Qq62]
end
theorem Hg{α:Type}{p q:α->Bool}:∀{l:List α},(∀x∈l,p x=q x)->l.findIdx? p=l.findIdx? q
 |[],_=>rfl
 |x::l,h=>by rw[List.findIdx?_cons,List.findIdx?_cons,h x (by simp),Hg fun y hy=>h y (by simp[hy])]
theorem ac9{l:List ae}(hl:∀x∈l,c8 x.ak)(hlen:l.length<=1000){e:ae}(he:c8 e.ak):AT l e=some (zY l e):=by
 unfold AT;simp only[etas,ae.eta,jN he,Qa,aP];unfold zY
 cases aW e with
 |false=>rfl
 |true=>
  simp only[Qo,Ql,Qt];refine(F1 l (by omega) (fun x=>decide (x.al=e.al)) (f:=fun i x=>if e.aE<=x.aE then some (l,false,())else some (l.take i++[e]++l.drop (i+1),true,())) (fin:=some (l.take (N4 l e)++[e]++l.drop (N4 l e),true,())) (fun i x hi hx0 hd hx hw=> ?_) (fun hall hd=> ?_)).trans ?_
  ·simp only[hd,hx,hw,Qk,Qa]
   cases decide (x.al=e.al)with
   |false=>rfl
   |true=>
    simp only[Qk];obtain⟨f1,f2,f3,f4,f5,f6⟩:=HZ hlen e (show i<=i+1 by omega) (show i+1<=l.length by omega)
    simp only[f1,f2,f3,f4,f5,f6,Qk]
    by_cases hs:e.aE<=x.aE<;>simp[hs]
  ·simp only[hd,Ql];refine congrArg (Option.map Sum.inr) ?_
   have hcg:(l.findIdx? fun x=> !decide (x.al<e.al))=l.findIdx? fun x=>decide (e.al<x.al):=Hg fun x hx=>by
    have:=hall x hx;have hne:x.al≠e.al:=of_decide_eq_false this
    by_cases h:x.al<e.al
    ·have h':¬e.al<x.al:=by omega
     simp[h,h']
    ·have h':e.al<x.al:=by omega
     simp[h,h']
   refine(F1 l (by omega) (fun x=> !decide (x.al<e.al)) (f:=fun i x=>some (l.take i++[e]++l.drop i,true,())) (fin:=some (l.take l.length++[e]++l.drop l.length,true,())) (fun i x hi hx0 hd hx hw=> ?_) (fun _ hd=> ?_)).trans ?_
   ·simp only[hd,hx,hw,Qk,Qa]
    cases decide (x.al<e.al)with
    |true=>rfl
    |false=>
     simp only[Ql,Qp,Qk];obtain⟨f1,f2,f3,f4,f5,f6⟩:=HZ hlen e (QI i) (show i<=l.length by omega)
     simp only[f1,f2,f3,f4,f5,f6,Qk]
   ·simp only[hd,Ql];obtain⟨f1,f2,f3,f4,f5,f6⟩:=HZ hlen e (QI l.length) (QI _);simp only[f1,f2,f3,f4,f5,f6,Qk]
   ·rw[hcg];unfold N4
    cases h:l.findIdx? fun x=>decide (e.al<x.al)with
    |none=>rfl
    |some i=>
     have hi:=(List.findIdx?_eq_some_iff_getElem.1 h).1;simp only[Qv hi,Qa,Q3]
  ·cases h:l.findIdx? fun x=>decide (x.al=e.al)with
   |none=>rfl
   |some i=>
    have hi:=(List.findIdx?_eq_some_iff_getElem.1 h).1;simp only[Qv hi,Qa,Q3]
    by_cases hs:e.aE<=l[i].aE
    ·simp[hs]
    ·simp only[hs,Qu];rw[List.set_eq_take_append_cons_drop,Qr hi];simp
end
section
structure ve (m:aa):Prop where
 n0:0<=m.al
 n1:m.al<10
 aL:c8 m.ak
 len:m.au.length<=100
 sm:∀e∈m.au,c8 e.ak
 valid:∀e∈m.au,aW e=true
theorem Av{m:aa}{e:ae}(h:e∈bh m):e∈m.au\/(aF m.ab=false/\e=ja m):=by
 unfold bh at h;split at h
 ·exact .inl h
 ·rename_i hz;rw[(DY _ _).mem_iff,Qz,Q5]at h;rcases h with h|h
  ·exact .inl h
  ·exact .inr ⟨by simpa using hz,h⟩
theorem abU(m:aa):(bh m).length<=m.au.length+1:=by
 unfold bh;split
 ·omega
 ·rw[(DY _ _).length_eq,QB,Q6];omega
theorem F3(m:aa):(ja m).ak=m.ak:=sL m
theorem ve.lZ{m:aa}(h:ve m):qZ (bh m)/\(bh m).length<=1000:=by
 have h1:=abU m;have h2:=h.len;refine⟨⟨by omega,fun e he=> ?_⟩,by omega⟩
 rcases Av he with he|⟨_,rfl⟩
 ·exact h.sm e he
 ·rw[F3];exact h.aL
theorem ve.aB{m:aa}(h:ve m):((m.al.toNat:Nat):Int)=m.al/\m.al.toNat<10:=by
 have:=h.n0;have:=h.n1;omega
def dH(b:ai):ai:=if 1000<b.aj then⟨1000,b.Value⟩else b
theorem ag7(b:ai):rS b=some (dH b):=abn b
def c7(p q b:ai):ai×ai:=
 if aF b=true then(p,q)else if aF p=true then(b,q)else if bx p b=true then(if bM p b=true then(b,if bM q b=true then bY else q)else(b,p))
 else if(bx b p&& !bM b p&&(aF q||bx q b))=true then(p,b)else(p,q)
theorem KF(a b:ai):bM a b=bM b a:=decide_eq_decide.2 ⟨Eq.symm,Eq.symm⟩
theorem afE(p q b:ai):zo p q b=some ((c7 p q b).1,(c7 p q b).2,()):=by
 unfold zo c7;simp only[cv,jT,gH,Qa,aP];cases aF b<;>cases aF p<;>cases bx p b<;>cases bM p b<;>cases bM q b<;>cases bx b p<;>cases bM b p<;>cases aF q<;>cases bx q b<;>rfl
theorem adp(p q b:ai):vU p q b=some ((c7 p q b).1,(c7 p q b).2,()):=by
 unfold vU c7;simp only[cD,jL,fM,Qa,aP,KF b p,KF b q];cases aF b<;>cases aF p<;>cases bx p b<;>cases bM p b<;>cases bM q b<;>cases bx b p<;>cases aF q<;>cases bx q b<;>rfl
def DE(m:aa):ByteArray:=if m.aI=2 then m.ab.Value else fE
 def eE(m:aa):ai:=jq m.al.toNat m.ak (bh m) m.ao m.ay (DE m)
def rD(m:aa)(p q:ai):Int:=
 if m.aI=1/\m.aS≠0 then(if fo m<k9 m.ab.Value m.aS p q then 0 else k9 m.ab.Value m.aS p q)else m.aS
 def cQ(m:aa):aa:=
 if m.aI=3\/aF m.ab=true then m else
  {m with ao:=(c7 m.ao m.ay (dH (eE m))).1,ay:=(c7 m.ao m.ay (dH (eE m))).2,aS:=rD m (c7 m.ao m.ay (dH (eE m))).1 (c7 m.ao m.ay (dH (eE m))).2}
theorem ae8{m:aa}(h:ve m)(p q:ai)(v:ByteArray):rU m.al m.ak (bh m) p q v=some (jq m.al.toNat m.ak (bh m) p q v):=by
 have:=adb h.aB.2 h.aL h.lZ.1 h.lZ.2 p q v
 rwa [h.aB.1]at this
theorem afb{m:aa}(h:ve m)(a:ai):nF m.al m.ak (bh m) a=some (xa m.al.toNat m.ak (bh m) a):=by
 have:=adf h.aB.2 h.aL h.lZ.1 h.lZ.2 a
 rwa [h.aB.1]at this
theorem XA{m:aa}(h:ve m):sZ m=some (cQ m):=by
 have hl:m.au.length<=1000:=by have:=h.len;omega
 unfold sZ cQ;simp only[aa.eta,etas,cv,N7 hl,ae8 h,ag7,afE,ze,TB,Qa,aP]
 by_cases h3:m.aI=3
 ·rw[Qg h3,Qr (.inl h3)];rfl
 ·rw[Qh h3]
  cases hz:aF m.ab with
  |true=>rw[Qr (.inr rfl)];rfl
  |false=>
   rw[Qs (by simp[h3])]
   simp only[Ql,Qa]
   by_cases h2:m.aI=2
   ·have h1:¬m.aI=1:=by omega
    simp only[Qg h2,Qh h1,Qk,Ql,Qa,rD,DE,eE,Qr h2,h1,false_and,Qu];rfl
   ·simp only[Qh h2,Ql];have hv:ByteArray.mk #[]=DE m:=by simp only[DE,Qs h2];rfl
    rw[hv];have hn:jq m.al.toNat m.ak (bh m) m.ao m.ay (DE m)=eE m:=rfl;simp only[hn]
    by_cases h1:m.aI=1
    ·have hh:∀p q:ai,(c5 {m with ao:=p,ay:=q}).bf=fo m:=fun p q=>by unfold c5;rw[Qr (show({m with ao:=p,ay:=q}:aa).aI=1 from h1)];rfl
     simp only[Qg h1,Qk,Qa]
     by_cases hL:m.aS=0
     ·rw[Qg hL];unfold rD;rw[Qs (fun h=>h.2 hL)]
      rfl
     ·rw[Qh hL];unfold rD;rw[Qr ⟨h1,hL⟩];simp only[Qp,Qk];rw[show(c5 (aa.mk m.al m.bc m.aE m.ak m.aI m.ab (c7 m.ao m.ay (dH (eE m))).1 (c7 m.ao m.ay (dH (eE m))).2 m.ax m.aS m.bf m.ba m.au)).bf=fo m from hh _ _]
      by_cases hlt:fo m<k9 m.ab.Value m.aS (c7 m.ao m.ay (dH (eE m))).1 (c7 m.ao m.ay (dH (eE m))).2
      ·rw[Qg hlt,Qr hlt];rfl
      ·rw[Qh hlt,Qs hlt];rfl
    ·rw[Qh h1];unfold rD;rw[Qs (fun h=>h1 h.1)]
     rfl
 def gr(m:aa):ai:=xa m.al.toNat m.ak (bh m) m.ax
def Bl(m:aa)(b:ai):aa:=
 if bx m.ab b=true then{m with ax:=b,ab:=b,aS:=if bM m.ab b=true then m.aS else 0}else{m with ax:=b}
def py(m:aa)(b:ai):aa:=
 if m.aS=0/\bM m.ab b=true/\k9 b.Value m.ab.aj m.ao m.ay<=b.aj then{m with aS:=k9 b.Value m.ab.aj m.ao m.ay}else m
 def fR(m:aa):aa:=
 if m.aI≠1\/aF m.ab=true\/aF (gr m)=true then m else py (Bl m (gr m)) (gr m)
theorem Ol(m:aa)(b:ai){α:Type}(j:aa->Option α):
  ((bif decide (m.aS=(0:Int))then some (bM m.ab b)else some false).bind fun x=>bif x then(bif decide (k9 b.Value m.ab.aj m.ao m.ay<=b.aj)then j {m with aS:=k9 b.Value m.ab.aj m.ao m.ay}else j m)else j m)=j (py m b):=by
 unfold py
 by_cases hL:m.aS=0
 ·rw[Qg hL]
  cases hc:bM m.ab b with
  |true=>
   by_cases hle:k9 b.Value m.ab.aj m.ao m.ay<=b.aj
   ·rw[Qr ⟨hL,rfl,hle⟩,Qg hle];rfl
   ·rw[Qs (fun h=>hle h.2.2),Qh hle];rfl
  |false=>
   rw[Qs (fun h=>by cases h.2.1)];rfl
 ·rw[Qh hL,Qs (fun h=>hL h.1)];rfl
theorem VE{m:aa}(h:ve m):ra m=some (fR m):=by
 have hl:m.au.length<=1000:=by have:=h.len;omega
 unfold ra fR;simp only[aa.eta,etas,cv,N7 hl,afb h,TB,Qa,aP,gH,jT];have hb:xa m.al.toNat m.ak (bh m) m.ax=gr m:=rfl;simp only[hb]
 by_cases h1:m.aI=1
 ·rw[Qg h1]
  cases hz:aF m.ab with
  |true=>rw[Qr (.inr (.inl rfl))];rfl
  |false=>
   cases hzb:aF (gr m)with
   |true=>rw[Qr (.inr (.inr rfl))];rfl
   |false=>
    rw[Qs (by simp[h1])]
    simp only[Qo,Ql,Qa];unfold Bl
    cases hlt:bx m.ab (gr m)with
    |true=>
     cases hcp:bM m.ab (gr m)with
     |true=>simp only[Qk,Qo,Ql,Qt];exact Ol {m with ax:=gr m,ab:=gr m} (gr m) some
     |false=>simp only[Qk,Qp,Qt,Qq,Qu];exact Ol {m with ax:=gr m,ab:=gr m,aS:=0} (gr m) some
    |false=>simp only[Ql,Qq,Qu];exact Ol {m with ax:=gr m} (gr m) some
 ·rw[Qh h1,Qr (.inl h1)];rfl
section
variable {aB : Nat} (hn : aB < 10) {t : af} (ht : c8 t) {l : List ae} (hl : qZ l) (hlen : l.length <= 1000)
 include hn ht hl hlen
theorem V0(v:ByteArray)(lo hi:Int):jS aB t l v lo hi=some (lQ aB t l v lo hi):=by
 have hin:=mR l;have hsm:=ml (aB:=aB) ht hl;simp only[jS,etas,PB hl.aL hlen,zU hn hl,Qa,vn hsm hn (mj hin) (mj hin)];rfl
theorem aaP(v:ByteArray)(lo hi:Int):mB aB t l v lo hi=some (sQ aB t l v lo hi):=by
 have hin:=mR l;have hsm:=ml (aB:=aB) ht hl;simp only[mB,etas,PB hl.aL hlen,zU hn hl,Qa,tQ hsm hn (mj hin)];rfl
theorem aaM(p q:ai):pU aB t l p q=some (oY (lQ aB t l) l p q (gN (lQ aB t l) l p q)):=adh hl hlen (V0 hn ht hl hlen) p q
theorem afd(v:ByteArray)(low bU:Int):oK aB t l v low bU=some ((EA (bs l v) (lQ aB t l v) low bU).1,(EA (bs l v) (lQ aB t l v) low bU).2,()):=aaN hl hlen (V0 hn ht hl hlen) v low bU
theorem afc(v:ByteArray):pV aB t l v=some (wO (bs l v) (sQ aB t l v)):=adj hl hlen (aaP hn ht hl hlen) v
end
 def gD(m:aa):ByteArray->Int->Int->Bool:=lQ m.al.toNat m.ak (bh m)
 def FI(m:aa):ByteArray->Int->Int->Bool:=sQ m.al.toNat m.ak (bh m)
 def fu(m:aa):ByteArray×Int×Int×Bool×Unit:=oY (gD m) (bh m) m.ao m.ay (gN (gD m) (bh m) m.ao m.ay)
 def ez(m:aa):Int×Int:=EA (bs (bh m) m.ab.Value) (gD m m.ab.Value) m.aS m.bf
 def mU(m:aa):Int×Int×Bool×Unit:=wO (bs (bh m) m.ab.Value) (FI m m.ab.Value)
theorem adi{m:aa}(h:ve m):pU m.al m.ak (bh m) m.ao m.ay=some (fu m):=by
 have:=aaM h.aB.2 h.aL h.lZ.1 h.lZ.2 m.ao m.ay
 rwa [h.aB.1]at this
theorem agz{m:aa}(h:ve m):oK m.al m.ak (bh m) m.ab.Value m.aS m.bf=some ((ez m).1,(ez m).2,()):=by
 have:=afd h.aB.2 h.aL h.lZ.1 h.lZ.2 m.ab.Value m.aS m.bf
 rwa [h.aB.1]at this
theorem agy{m:aa}(h:ve m):pV m.al m.ak (bh m) m.ab.Value=some (mU m):=by
 have:=afc h.aB.2 h.aL h.lZ.1 h.lZ.2 m.ab.Value
 rwa [h.aB.1]at this
def IP(m:aa)(v:ByteArray)(lo hi:Int):aa:=
 {m with ab:=if(!bM m.ab ⟨hi,v⟩||bx m.ab ⟨hi,v⟩)=true then⟨bD m.ab.aj hi,v⟩else m.ab,ao:=if jA m.ao ⟨hi,v⟩=true then m.ao else⟨hi,v⟩,aI:=2,aS:=lo,bf:=hi,ax:=⟨hi,v⟩,ay:=bY}
def zO(m:aa)(lo hi:Int):aa:=
 {m with ab:=⟨bD m.ab.aj hi,m.ab.Value⟩,ao:=⟨bD m.ao.aj hi,m.ao.Value⟩,ax:=⟨bD m.ax.aj hi,m.ab.Value⟩,aS:=lo,bf:=hi}
 def fD(m:aa):aa:=
 if m.aI=1 then(if(fu m).2.2.2.1=true then IP m (fu m).1 (fu m).2.1 (fu m).2.2.1 else m)
 else if m.aI=2 then zO m (ez m).1 (ez m).2 else m
theorem VF{m:aa}(h:ve m):rh m=some (fD m):=by
 have hl:m.au.length<=1000:=by have:=h.len;omega
 unfold rh fD;simp only[aa.eta,etas,cv,N7 hl,adi h,agz h,Qa,aP,gH,jT,BY]
 by_cases h1:m.aI=1
 ·rw[Qg h1,Qr h1]
  cases hk:(fu m).2.2.2.1 with
  |false=>simp only[Qk,Qp,Qq,Qu]
  |true=>
   simp only[Qk,Qo,Ql,Qt];unfold IP;cases bM m.ab ⟨(fu m).2.2.1,(fu m).1⟩<;>cases bx m.ab ⟨(fu m).2.2.1,(fu m).1⟩<;>cases jA m.ao ⟨(fu m).2.2.1,(fu m).1⟩<;>rfl
 ·rw[Qh h1,Qs h1]
  by_cases h2:m.aI=2
  ·rw[Qg h2,Qr h2];rfl
  ·rw[Qh h2,Qs h2];rfl
def JB(m:aa)(lo hi:Int):aa:={m with aI:=3,aS:=lo,bf:=hi,ab:=⟨hi,m.ab.Value⟩,ao:=bY,ay:=bY,ax:=bY}
 def ix(m:aa):aa:=if m.aI=2/\(mU m).2.2.1=true then JB m (mU m).1 (mU m).2.1 else m
theorem aee{m:aa}(h:ve m):xi m=some (ix m):=by
 have hl:m.au.length<=1000:=by have:=h.len;omega
 unfold xi ix;simp only[aa.eta,etas,N7 hl,agy h,Qa]
 by_cases h2:m.aI=2
 ·rw[Qg h2]
  cases hk:(mU m).2.2.1 with
  |false=>rw[Qs (fun h=>by cases h.2)];rfl
  |true=>rw[Qr ⟨h2,rfl⟩];rfl
 ·rw[Qh h2,Qs (fun h=>h2 h.1)];rfl
end
section
theorem D2{α β ρ:Type}(l:List α)(hl:l.length<=1000)(f:α->β){step:Int×List β×Unit->Option ((Int×List β×Unit)⊕ρ)}{fin:List β->Option ρ}
  (h1:∀(i:Nat) (e:α) (s:List β),s.length<=1000->e∈l->decide ((i:Int)<((l.length:Nat):Int))=true->idx l (i:Int)=some e->aA .i64 (i:Int) 1=((i+1:Nat):Int)->step ((i:Int),s,())=some (.inl (((i+1:Nat):Int),s++[f e],())))
  (h2:∀s,decide (((l.length:Nat):Int)<((l.length:Nat):Int))=false->step (((l.length:Nat):Int),s,())=Option.map Sum.inr (fin s)):aC step ((0:Int),[],())=fin (l.map f):=by
 suffices key:∀(k i:Nat) (s:List β),i+k=l.length->s.length=i->aC step ((i:Int),s,())=fin (s++(l.drop i).map f)by
  have:=key l.length 0 [] (by omega) rfl
  simpa using this
 intro k
 induction k with
 |zero=>
  intro i s hi hs;obtain rfl:i=l.length:=by omega
  have hd:decide (((l.length:Nat):Int)<((l.length:Nat):Int))=false:=Qh (Qq64 _);have h:=h2 s hd;rw[Qq66,QO,List.append_nil]
  cases hf:fin s with
  |none=>rw[hf]at h;exact M0 h
  |some r=>rw[hf]at h;exact bw h
 |succ k ih=>
  intro i s hi hs;have hlt:i<l.length:=by omega
  rw[bj (h1 i l[i] s (by omega) (Q0 hlt) (Qg (by omega)) (by rw[bg];exact Qv hlt) (bE (by omega) (by omega))),ih (i+1) (s++[f l[i]]) (by omega) (by simp;omega),
   QM hlt,QD,QL]
  rfl
theorem ZL{α β ρ:Type}(l:List α)(hl:l.length<=1000)(f:α->β){step:Int×List β×Unit->Option ((Int×List β×Unit)⊕ρ)}{fin:List β->Option ρ}
  (h1:∀(i:Nat) (e:α) (s:List β),s.length=l.length->e∈l->i<l.length->decide ((i:Int)<((l.length:Nat):Int))=true->idx l (i:Int)=some e->aA .i64 (i:Int) 1=((i+1:Nat):Int)->step ((i:Int),s,())=some (.inl (((i+1:Nat):Int),s.set i (f e),())))
  (h2:∀s,decide (((l.length:Nat):Int)<((l.length:Nat):Int))=false->step (((l.length:Nat):Int),s,())=Option.map Sum.inr (fin s)) {s0:List β} (hs0:s0.length=l.length):aC step ((0:Int),s0,())=fin (l.map f):=by
 suffices key:∀(k i:Nat) (s:List β),i+k=l.length->s.length=l.length->aC step ((i:Int),s,())=fin (s.take i++(l.drop i).map f)by
  have:=key l.length 0 s0 (by omega) hs0
  simpa using this
 intro k
 induction k with
 |zero=>
  intro i s hi hs;obtain rfl:i=l.length:=by omega
  have hd:decide (((l.length:Nat):Int)<((l.length:Nat):Int))=false:=Qh (Qq64 _);have h:=h2 s hd;rw[Qq66,QO,List.append_nil,<-hs,Qq62];rw[<-hs]at h
  cases hf:fin s with
  |none=>rw[hf]at h;exact M0 h
  |some r=>rw[hf]at h;exact bw h
 |succ k ih=>
  intro i s hi hs;have hlt:i<l.length:=by omega
  rw[bj (h1 i l[i] s hs (Q0 hlt) hlt (Qg (by omega)) (by rw[bg];exact Qv hlt) (bE (by omega) (by omega))),ih (i+1) (s.set i (f l[i])) (by omega) (by simpa using hs),
   QM hlt,QD]
  congr 1;rw[List.take_add_one,List.take_set_of_le (QI i),List.getElem?_set_self (by omega)]
  simp
def IC(z:ai):List ai->ai
 |[]=>z
 |x::l=>l.foldl (fun a y=>if bx a y=true then y else a) x
theorem NG(l:List ai)(hl:l.length<=1000000)(z:ai){step:Int×ai×Unit->Option ((Int×ai×Unit)⊕ai)}
  (h1:∀(i:Nat) (x s:ai),decide ((i:Int)<((l.length:Nat):Int))=true->idx l (i:Int)=some x->aA .i64 (i:Int) 1=((i+1:Nat):Int)->step ((i:Int),s,())=some (.inl (((i+1:Nat):Int),(if i=0 then x else if bx s x=true then x else s),())))
  (h2:∀s,decide (((l.length:Nat):Int)<((l.length:Nat):Int))=false->step (((l.length:Nat):Int),s,())=some (.inr s)):aC step ((0:Int),z,())=some (IC z l):=by
 have hd:decide (((l.length:Nat):Int)<((l.length:Nat):Int))=false:=Qh (Qq64 _)
 have key:∀(k i:Nat) (s:ai),i+k=l.length->1<=i->aC step ((i:Int),s,())=some ((l.drop i).foldl (fun a y=>if bx a y=true then y else a) s):=by
  intro k
  induction k with
  |zero=>
   intro i s hi h1i;obtain rfl:i=l.length:=by omega
   rw[Qq66];exact bw (h2 s hd)
  |succ k ih=>
   intro i s hi h1i;have hlt:i<l.length:=by omega
   rw[bj (h1 i l[i] s (Qg (by omega)) (by rw[bg];exact Qv hlt) (bE (by omega) (by omega))),ih (i+1) _ (by omega) (by omega),QM hlt,QU,Qs (by omega:¬i=0)]
 cases l with
 |nil=>exact bw (h2 z hd)
 |cons x l=>
  have hx:=h1 0 x z (Qg (by simp)) (by rw[bg];rfl) (bE (by omega) (by omega))
  rw[Qr rfl]at hx;exact(bj hx).trans (key l.length 1 x (by simp;omega) (by omega))
theorem adZ(l:List ai)(hl:l.length<=1000000):pf l=some (IC bY l):=by
 unfold pf;refine NG l hl bY (fun i x s hd hx hw=> ?_) (fun s hd=> ?_)
 ·simp only[hd,hx,hw,Qk,aP,Qa,jT]
  by_cases hi:i=0
  ·subst hi;rfl
  ·have:decide ((i:Int)=0)=false:=Qh (by omega)
   rw[this,Qs hi];cases bx s x<;>rfl
 ·simp only[hd,Ql,Qe]
theorem aaX(l:List ai)(hl:l.length<=1000000):nm l=some (IC bY l):=by
 unfold nm;refine NG l hl bY (fun i x s hd hx hw=> ?_) (fun s hd=> ?_)
 ·simp only[hd,hx,hw,Qk,aP,Qa,jL]
  by_cases hi:i=0
  ·subst hi;rfl
  ·have:decide ((i:Int)=0)=false:=Qh (by omega)
   rw[this,Qs hi];cases bx s x<;>rfl
 ·simp only[hd,Ql,Qe]
def dI(m:aa):ByteArray:=
 if aF m.ax=false then m.ax.Value else if m.aI≠1 then m.ab.Value else if m.ba≠fE then m.ba else(IC bY (m.au.map (·.ab))).Value
theorem On{m:aa}(h:ve m):nT m=some (dI m):=by
 have hl:m.au.length<=1000:=by have:=h.len;omega
 unfold nT dI;simp only[cv,Qa]
 cases hz:aF m.ax with
 |false=>rfl
 |true=>
  simp only[Qo,Ql,Bool.true_eq_false,Qu]
  by_cases h1:m.aI=1
  ·rw[Qg h1,Qs (fun h=>h h1)]
   simp only[Qo,Ql]
   by_cases hp:m.ba=fE
   ·have hp':decide (m.ba=ByteArray.mk #[])=true:=Qg hp;rw[hp',Qs (fun h=>h hp)]
    simp only[Qo,Ql]
    rw[D2 m.au hl (·.ab) (fin:=fun s=>Option.bind (pf s) fun r=>some r.Value) (fun i e s hs he hd hx hw=>by
     simp only[hd,hx,hw,Qk,Qa]
     rw[br (by simp;omega),Qk]) (fun s hd=>by simp only[hd,Ql]),adZ _ (by simp;omega)]
    rfl
   ·have hp':decide (m.ba=ByteArray.mk #[])=false:=Qh hp;rw[hp',Qr hp];rfl
  ·rw[Qh h1,Qr h1];rfl
theorem FY{e:ae}(h:c8 e.ak)(hv:aW e=true):lA e=some (eA e):=by
 simp only[lA,etas,ae.eta,jN h,Qa,hv,eA]
 by_cases h3:e.bF=3
 ·rw[Qg h3,Qr h3];rfl
 ·rw[Qh h3,Qs h3];rfl
theorem Tn{e:ae}(h:c8 e.ak)(hv:aW e=true):jW e=some (eA e):=by
 rw[U6 (VO h)];have:gW (FG e.ak) e=true:=hv;rw[this,Qr rfl]
def Dk(m:aa)(n:Int):Nat:=dE (fun e=>decide (n<eA e)) m.au
 def iR(m:aa)(n:Int):Bool:=vK (gy m.al.toNat m.ak (bh m)) m.al.toNat (Dk m n)
theorem ve.O6{m:aa}(h:ve m):vO m.au:=fun e he=>jc (h.valid e he)
theorem RE{m:aa}(h:ve m)(n:Int):Dk m n<1024:=mj h.O6
theorem WK{m:aa}(h:ve m)(n:Int):tl m n=some (iR m n):=by
 have hl:m.au.length<=1000:=by have:=h.len;omega
 unfold tl
 rw[D2 m.au hl (fun e=>decide (n<eA e)) (fin:=fun s=>Option.bind (ll m) fun r4=>Option.bind (jf m.al m.ak r4) fun r5=>Option.bind (gd m.au s) fun r6=>Option.bind (oN r5 m.al r6) fun r7=>some r7)
  (fun i e s hs he hd hx hw=>by
   simp only[hd,hx,hw,Qk,Qa,etas,ae.eta,FY (h.sm e he) (h.valid e he)]
   rw[br (by simp;omega),Qk])
  (fun s hd=>by simp only[hd,Ql,aa.eta,etas])]
 have hv:=zU h.aB.2 (t:=m.ak) h.lZ.1;have hb:=MC (ml (aB:=m.al.toNat) h.aL h.lZ.1) (v:=m.al.toNat) (RE h n);rw[h.aB.1]at hv hb;rw[N7 hl,Qa,hv,Qa,Aw m.au hl _ (fun e he _=>h.O6 e he),Qa,show dE (fun e=>decide (n<eA e)) m.au=Dk m n from rfl,hb]
 rfl
 def my(m:aa)(Ar:Int)(e:ae):Int:=
 if m.ab.aj<eA e/\eA e<Ar/\iR m (eA e)=false then eA e else Ar
 def gU(m:aa):Int:=m.au.foldl (my m) 1000000
 def nO(m:aa):ByteArray:=if m.aI=1 then dI m else m.ab.Value
 def fm(m:aa):aa:=
 if m.aI=3\/iR m m.ab.aj=false then m
 else{m with aS:=if nO m=m.ab.Value then m.aS else 0,ab:=⟨bD m.ab.aj (dF (gU m) 1000),nO m⟩}
open Classical in
theorem UJ{m:aa}(h:ve m){ρ:Type}{step:Int×Int×Unit->Option ((Int×Int×Unit)⊕ρ)}{fin:Int->Option ρ}
  (h1:∀(i:Nat) (e:ae) (s:Int),e∈m.au->decide ((i:Int)<((m.au.length:Nat):Int))=true->idx m.au (i:Int)=some e->aA .i64 (i:Int) 1=((i+1:Nat):Int)->step (s,(i:Int),())=some (.inl (my m s e,((i+1:Nat):Int),())))
  (h2:∀s,decide (((m.au.length:Nat):Int)<((m.au.length:Nat):Int))=false->step (s,((m.au.length:Nat):Int),())=Option.map Sum.inr (fin s)):aC step ((1000000:Int),(0:Int),())=fin (gU m):=by
 have hl:=h.len
 have key:=iA m.au (by omega) (fun i s=>(s,i,())) (fun e s=>if e∈m.au then some (.inl (my m s e))else none) fin (step:=step) (fun i x s hd hx hw=>by
  have hm:x∈m.au:=by rw[bg]at hx;exact Q8 hx
  rw[h1 i x s hm hd hx hw,Qr hm]) (fun s hd=>h2 s hd) 1000000
 refine key.trans ?_;unfold gU
 suffices h3:∀(l:List ae),(∀e∈l,e∈m.au)->∀s,fG (fun e s=>if e∈m.au then some (Sum.inl (β:=ρ) (my m s e))else none) fin l s=fin (l.foldl (my m) s)from h3 _ (fun e he=>he) _
 intro l
 induction l with
 |nil=>intro _ s;rfl
 |cons x l ih=>
  intro hx s;rw[fG,Qr (hx x Qx),QU];exact ih (fun e he=>hx e (Qy _ he)) _
theorem abJ{m:aa}(h:ve m):vS m=some (fm m):=by
 unfold vS fm;simp only[aa.eta,etas,WK h,On h,Qa]
 by_cases h3:m.aI=3
 ·rw[Qg h3,Qr (.inl h3)];rfl
 ·rw[Qh h3]
  cases ha:iR m m.ab.aj with
  |false=>rw[Qr (.inr rfl)];rfl
  |true=>
   rw[Qs (by simp[h3])]
   simp only[Ql,Qo];refine(UJ h (fin:=fun c=>some {m with aS:=if nO m=m.ab.Value then m.aS else 0,ab:=⟨bD m.ab.aj (dF c 1000),nO m⟩}) (fun i e s he hd hx hw=> ?_) (fun s hd=> ?_)).trans rfl
   ·simp only[hd,hx,hw,Qk,aP,Qa,etas,ae.eta,FY (h.sm e he) (h.valid e he),WK h];unfold my
    by_cases c1:m.ab.aj<eA e
    ·by_cases c2:eA e<s
     ·rw[Qg c1,Qg c2]
      cases c3:iR m (eA e)with
      |true=>rw[Qs (by simp)];rfl
      |false=>rw[Qr ⟨c1,c2,rfl⟩];rfl
     ·rw[Qg c1,Qh c2,Qs (fun h=>c2 h.2.1)];rfl
    ·rw[Qh c1,Qs (fun h=>c1 h.1)];rfl
   ·simp only[hd,Ql,aP,Qa];unfold nO
    by_cases h1:m.aI=1
    ·rw[Qg h1,Qr h1]
     by_cases hv:dI m=m.ab.Value
     ·simp only[Qk,Qg hv,Qo,Ql,Qr hv]
     ·simp only[Qk,Qh hv,Qp,Qs hv]
    ·rw[Qh h1,Qs h1];simp only[Ql,decide_true,Qo,Qt]
end
section
def df(b:ai):Prop:=1<=b.aj/\b.aj<=1000/\1<=b.Value.size/\b.Value.size<=200
theorem df.valid{b:ai}(h:df b):cO b=true:=by
 obtain⟨h1,h2,h3,h4⟩:=h;simp only[cO,Qm,Qn,Qi];exact⟨⟨.inl ⟨h1,h2⟩,h3⟩,h4⟩
theorem df.finite{b:ai}(h:df b):finite b=true:=by
 unfold Go.Proofs.YtjbfdglebjnelaaGreat.finite;rw[h.valid,Qg h.2.1];rfl
theorem Wq{b:ai}(h:cO b=true)(hc:b.aj<=1000):df b:=by
 simp only[cO,Qm,Qn,Qi]at h;obtain⟨⟨h1,h2⟩,h3⟩:=h;exact⟨by omega,hc,h2,h3⟩
theorem df.nz{b:ai}(h:df b):aF b=false:=MZ h.1
theorem df.ne{b:ai}(h:df b):b.Value≠fE:=by
 intro e;have:=h.2.2.1;rw[e]at this;exact absurd this (by decide)
theorem xV{b:ai}:aF b=true↔b=bY:=by
 obtain⟨c,v⟩:=b;simp[aF,bY]
theorem bP:aF bY=true:=xV.2 rfl
structure P1 (m:aa):Prop where
 aT:m.aI=1
 aQ:df m.ab
 dB:m.ao=bY\/df m.ao
 bV:m.ay=bY\/(df m.ay/\df m.ao/\bx m.ay m.ao=true/\bM m.ay m.ao=false)
 dS:m.ax=bY\/(df m.ax/\dP m.ao m.ay m.ax=true)
 up:bx m.ab m.ax=false
 bU:m.bf=0
 low:m.aS=0\/(1<=m.aS/\m.aS<=fo m/\mX m.ao m.ay m.ab.Value m.aS=false)
structure P2 (m:aa):Prop where
 aT:m.aI=2
 aQ:df m.ab
 dB:df m.ao/\m.ao.Value=m.ab.Value
 bV:m.ay=bY
 dS:m.ax=bY\/(df m.ax/\m.ax.Value=m.ab.Value)
 range:1<=m.aS/\m.aS<=m.bf/\m.bf<=m.ao.aj
structure P3 (m:aa):Prop where
 aT:m.aI=3
 aQ:df m.ab
 dB:m.ao=bY
 bV:m.ay=bY
 dS:m.ax=bY
 range:1<=m.aS/\m.aS<=m.bf/\m.bf<=1000
structure P0 (m:aa):Prop where
 aT:m.aI=1
 aQ:m.ab=bY
 dB:m.ao=bY
 bV:m.ay=bY
 dS:m.ax=bY
 low:m.aS=0
 bU:m.bf=0
structure bo (m:aa):Prop where
 n0:0<=m.al
 n1:m.al<10
 aK:1<=m.bc/\m.bc<=1000000
 seq:0<=m.aE/\m.aE<=1000000
 aL:et m.ak
 sz:m.ba.size<=200
 hv:∀e∈m.au,aW e=true/\et e.ak/\e.bc=m.bc/\e.al≠m.al
 eV:m.au.Pairwise (fun a b=>a.al<b.al)
 body:P0 m\/P1 m\/P2 m\/P3 m
theorem Mf:∀(l:List ae) (k:Nat),k<=10->(∀e∈l,(k:Int)<=e.al/\e.al<10)->l.Pairwise (fun a b=>a.al<b.al)->l.length+k<=10
 |[],k,hk,_,_=>by simpa using hk
 |x::l,k,hk,h,hp=>by
  rw[Q4]at hp;have hx:=h x Qx;have:=Mf l (k+1) (by omega) (fun e he=>⟨by have:=hp.1 e he;omega,(h e (Qy _ he)).2⟩) hp.2
  rw[QE];omega
theorem bo.len{m:aa}(h:bo m):m.au.length<=10:=by
 have:=Mf m.au 0 (by omega) (fun e he=>by have:=jc (h.hv e he).1;omega) h.eV
 omega
theorem bo.ev{m:aa}(h:bo m):ve m:=
 ⟨h.n0,h.n1,h.aL.sm,by have:=h.len;omega,fun e he=>(h.hv e he).2.1.sm,fun e he=>(h.hv e he).1⟩
theorem Ny{m:aa}(h:P1 m):0<=fo m/\fo m<=m.ab.aj/\(fo m=0\/(df m.ax/\m.ax.Value=m.ab.Value/\fo m=m.ax.aj)):=by
 unfold fo;split
 ·rename_i hc;simp only[Qm,Bool.not_eq_true',bM,Qi]at hc;rcases h.dS with e|⟨hf,_⟩
  ·rw[e,bP]at hc;cases hc.1
  ·have hup:=h.up;unfold bx at hup;split at hup
   ·rename_i e;exact⟨by have:=hf.1;omega,by omega,.inr ⟨hf,hc.2,rfl⟩⟩
   ·simp only[Qj]at hup;exact⟨by have:=hf.1;omega,by omega,.inr ⟨hf,hc.2,rfl⟩⟩
 ·exact⟨Int.le_refl _,by have:=h.aQ.1;omega,.inl rfl⟩
theorem P4{m:aa}(h:bo m)(hz:aF m.ab=false):aW (ja m)=true:=by
 have hseq:1<=(ja m).aE/\(ja m).aE<=1000000:=by
  have h1:(ja m).aE=bD m.aE 1:=by show bD (c5 m).aE 1=_;rw[Uo]
  have:=h.seq;rw[h1];unfold bD;split<;>omega
 have hnode:(ja m).al=m.al:=yf m;have hslot:(ja m).bc=m.bc:=D1 m
 have hhead:yX (ja m)=true:=by
  unfold yX;rw[hnode,hslot];simp only[Qm,Qi];exact⟨⟨⟨⟨⟨h.n0,h.n1⟩,h.aK.1⟩,h.aK.2⟩,hseq.1⟩,hseq.2⟩
 unfold aW;rw[F3,Pv h.aL];unfold gW;rw[hhead];have hkind:(ja m).bF=m.aI:=ZP m;rw[hkind];rcases h.body with h0|h1|h2|h3
 ·rw[h0.aQ,bP]at hz;cases hz
 ·rw[Qr h1.aT];have hh:=Ny h1;have e:ja m=⟨m.al,m.bc,bD (c5 m).aE 1,m.ak,m.aI,m.ab,m.ao,m.ay,m.aS,fo m⟩:=by unfold ja c5;rw[Qr h1.aT]
  have hp:(aF m.ao||cO m.ao)=true:=by
   rcases h1.dB with e|hf
   ·rw[e,bP];rfl
   ·rw[hf.valid,Bool.or_true]
  have hq:(aF m.ay||cO m.ay)=true:=by
   rcases h1.bV with e|hf
   ·rw[e,bP];rfl
   ·rw[hf.1.valid,Bool.or_true]
  have hpo:Cr (ja m)=true:=by
   rw[e];unfold Cr;rcases h1.bV with e|⟨_,hf,hl,hc⟩
   ·simp only[e,bP,Bool.true_or]
   ·simp only[hf.nz,hl,hc,Qp,Bool.and_self,Bool.or_true]
  have hhp:(decide (fo m=0)||dP m.ao m.ay ⟨fo m,m.ab.Value⟩)=true:=by
   rcases hh.2.2 with e|⟨hf,hv,e⟩
   ·rw[Qg e];rfl
   ·rw[e,<-hv];rcases h1.dS with e2|⟨_,hp⟩
    ·have:=hf.nz;rw[e2,bP]at this;cases this
    ·rw[hp,Bool.or_true]
  have hlow:0<=m.aS/\m.aS<=fo m/\(decide (m.aS=0)||(!eI m.ao ⟨m.aS,m.ab.Value⟩&& !eI m.ay ⟨m.aS,m.ab.Value⟩))=true:=by
   rcases h1.low with e|⟨h5,h6,h7⟩
   ·rw[e];exact⟨Int.le_refl _,hh.1,rfl⟩
   ·refine⟨by omega,h6,?_⟩
    unfold mX at h7;rw[Qq74]at h7;rw[h7.1,h7.2];simp
  unfold gX;rw[hpo];rw[e];unfold at_
  simp only[h1.aQ.finite,hp,hq,Qg hlow.1,Qg hlow.2.1,Qg hh.2.1,hhp,hlow.2.2,Bool.and_self,decide_true]
 ·rw[Qs (by rw[h2.aT];decide),Qr h2.aT]
  have e:ja m=⟨m.al,m.bc,bD (c5 m).aE 1,m.ak,m.aI,m.ab,m.ao,bY,m.aS,m.bf⟩:=by unfold ja c5;rw[Qs (by rw[h2.aT];decide),Qr h2.aT]
  have hc:m.bf<=1000:=by have:=h2.range.2.2;have:=h2.dB.1.2.1;omega
  unfold uO td;rw[e];simp only[h2.aQ.finite,h2.dB.1.valid,bM,Qg h2.dB.2,bP,Qg h2.range.1,Qg h2.range.2.1,Qg h2.range.2.2,Qg hc,Bool.and_self,decide_true]
 ·rw[Qs (by rw[h3.aT];decide),Qs (by rw[h3.aT];decide),Qr h3.aT]
  have e:ja m=⟨m.al,m.bc,bD (c5 m).aE 1,m.ak,m.aI,m.ab,bY,bY,m.aS,m.bf⟩:=by unfold ja c5;rw[Qs (by rw[h3.aT];decide),Qs (by rw[h3.aT];decide)]
  unfold AN td;rw[e];simp only[h3.aQ.valid,bP,Qg h3.range.1,Qg h3.range.2.1,Qg h3.range.2.2,Bool.and_self,decide_true]
theorem bo.lR{m:aa}(h:bo m):∀e∈bh m,aW e=true:=by
 intro e he;rcases Av he with he|⟨hz,rfl⟩
 ·exact(h.hv e he).1
 ·exact P4 h hz
theorem bo.adF{m:aa}(h:bo m){e:ae}(he:e∈bh m)(hn:e.al.toNat=m.al.toNat):aF m.ab=false/\e=ja m:=by
 rcases Av he with he|⟨hz,rfl⟩
 ·have h1:=(h.hv e he).2.2.2;have h2:=jc (h.hv e he).1;have:=h.n0;omega
 ·exact⟨hz,rfl⟩
end
section
theorem yb(a b:ai):bx a b=true↔a.aj<b.aj\/(a.aj=b.aj/\bJ a.Value b.Value=true):=by
 unfold bx;split
 ·rename_i e;rw[e];simp
 ·rename_i e;simp only[Qi];constructor
  ·exact .inl
  ·rintro(h|h)
   ·exact h
   ·exact absurd h.1 e
theorem mJ{a b c:ai}(h:bx a b=true)(h':bx b c=true):bx a c=true:=Az.trans _ _ _ h h'
theorem Zy(a:ai):bx a a=false:=Az.irrefl a
theorem Ij{a b:ai}(h:bx a b=false)(h':a≠b):bx b a=true:=by
 cases h1:bx b a with
 |true=>rfl
 |false=>exact absurd (Az.total a b h h1) h'
theorem iW{a b:ai}(h:bx a b=true):a.aj<=b.aj:=by
 rw[yb]at h;omega
theorem Ld{a b:ai}(h:bx a b=false):b.aj<=a.aj:=by
 rcases Int.lt_or_le a.aj b.aj with h1|h1
 ·rw[(yb a b).2 (.inl h1)]at h;cases h
 ·exact h1
theorem Zw(v:ByteArray):bJ v v=false:=ic.irrefl v
theorem Ge{a b:ai}(hv:a.Value=b.Value):bx a b=decide (a.aj<b.aj):=by
 unfold bx;split
 ·rename_i e;rw[hv,Zw,e];simp
 ·rfl
theorem IN{p x:ai}(h:jA p x=true):bx p x=false:=by
 obtain⟨_,h2,h3⟩:=(lv p x).1 h;rw[Ge h2,Qj];omega
theorem Rw{p x q:ai}(h:jA p x=true)(hq:bx p q=true):bx x q=true:=by
 by_cases e:x=p
 ·rw[e];exact hq
 ·exact mJ (Ij (IN h) (fun h=>e h.symm)) hq
theorem ju{a b:ai}:bM a b=true↔a.Value=b.Value:=decide_eq_true_iff
theorem jm{a b:ai}:bM a b=false↔a.Value≠b.Value:=Qj
theorem CN(p q x:ai):dP p q x=true↔jA p x=true\/jA q x=true\/(aF q=false/\bx x q=true):=by
 unfold dP;simp only[Qn,Qm,Bool.not_eq_true'];exact⟨fun h=>by rcases h with(h|h)|h<;>simp[h],fun h=>by rcases h with h|h|h<;>simp[h]⟩
def tj(p q:ai):Prop:=(p=bY\/df p)/\(q=bY\/(df q/\df p/\bx q p=true/\bM q p=false))
theorem P1.gX{m:aa}(h:P1 m):tj m.ao m.ay:=⟨h.dB,h.bV⟩
theorem LI{b:ai}(h:df b):b≠bY:=fun e=>by have:=h.nz;rw[e,bP]at this;cases this
inductive vN (p q b:ai):ai->ai->Prop where
 |same:vN p q b p q
 |first (hp:p=bY) (hq:q=bY):vN p q b b bY
 |up (hp:df p) (hl:bx p b=true) (hc:p.Value=b.Value):vN p q b b q
 |CP (hp:df p) (hl:bx p b=true) (hc:p.Value≠b.Value):vN p q b b p
 |under (hp:df p) (hl:bx b p=true) (hc:b.Value≠p.Value) (hq:q=bY\/bx q b=true):vN p q b p b
theorem adR{p q b:ai}(h:tj p q)(hb:b=bY\/df b):vN p q b (c7 p q b).1 (c7 p q b).2:=by
 unfold c7;rcases hb with rfl|hb
 ·rw[Qr bP];exact .same
 rw[Qs (by rw[hb.nz];decide)]
 rcases h.1 with rfl|hp
 ·have hq:q=bY:=by
   rcases h.2 with e|⟨_,e,_⟩
   ·exact e
   ·exact absurd rfl (LI e)
  rw[Qr bP,hq];exact .first rfl rfl
 rw[Qs (by rw[hp.nz];decide)]
 by_cases hl:bx p b=true
 ·rw[Qr hl]
  by_cases hc:bM p b=true
  ·rw[Qr hc]
   have hcq:bM q b=false:=by
    rw[ju]at hc;rw[jm];rcases h.2 with rfl|⟨_,_,_,e⟩
    ·exact fun e=>hb.ne e.symm
    ·rw[jm]at e;rw[<-hc];exact e
   rw[Qs (by rw[hcq];decide)]
   exact .up hp hl (ju.1 hc)
  ·rw[Qs hc];exact .CP hp hl (jm.1 (by simpa using hc))
 ·rw[Qs hl];split
  ·rename_i hu;simp only[Qm,Qn,Bool.not_eq_true']at hu;refine .under hp hu.1.1 (jm.1 hu.1.2) ?_;rcases hu.2 with e|e
   ·exact .inl (xV.1 e)
   ·exact .inr e
  ·exact .same
theorem vN.ok{p q b p' q':ai}(h:tj p q)(hb:b=bY\/df b)(hj:vN p q b p' q'):tj p' q':=by
 have hbf:∀{x:ai},bx x b=true\/df b\/(df x/\bx b x=true)->True:=fun _=>trivial
 cases hj with
 |same=>exact h
 |first hp hq=>exact⟨hb,.inl rfl⟩
 |up hp hl hc=>
  have hb':df b:=by
   rcases hb with rfl|hb
   ·have h1:=iW hl;have h2:=hp.1;have:(bY:ai).aj=0:=rfl;omega
   ·exact hb
  refine⟨.inr hb',?_⟩;rcases h.2 with e|⟨h1,h2,h3,h4⟩
  ·exact .inl e
  ·refine .inr ⟨h1,hb',mJ h3 hl,?_⟩;rw[jm]at h4 ⊢;rw[<-hc];exact h4
 |CP hp hl hc=>
  have hb':df b:=by
   rcases hb with rfl|hb
   ·have h1:=iW hl;have h2:=hp.1;have:(bY:ai).aj=0:=rfl;omega
   ·exact hb
  exact⟨.inr hb',.inr ⟨hp,hb',hl,jm.2 hc⟩⟩
 |under hp hl hc hq=>
  refine⟨.inr hp,?_⟩;rcases hb with e|hb
  ·exact .inl e
  ·exact .inr ⟨hb,hp,hl,jm.2 hc⟩
theorem vN.mono{p q b p' q':ai}(h:tj p q)(hj:vN p q b p' q'){x:ai}(hx:dP p q x=true):dP p' q' x=true:=by
 rw[CN]at hx ⊢
 have hqp:aF q=false->bx q p=true:=fun hz=>by
  rcases h.2 with e|⟨_,_,e,_⟩
  ·rw[e,bP]at hz;cases hz
  ·exact e
 have hcq:jA q x=true->aF q=false:=fun hc=>((lv q x).1 hc).1
 cases hj with
 |same=>exact hx
 |first hp hq=>
  subst hp hq;rcases hx with hx|hx|hx
  ·have:=((lv _ _).1 hx).1;rw[bP]at this;cases this
  ·have:=((lv _ _).1 hx).1;rw[bP]at this;cases this
  ·rw[bP]at hx;cases hx.1
 |up hp hl hc=>
  rcases hx with hx|hx|hx
  ·obtain⟨h1,h2,h3⟩:=(lv _ _).1 hx;refine .inl ((lv _ _).2 ⟨?_,hc.symm.trans h2,Int.le_trans h3 (iW hl)⟩);have:=hp.1;have:=iW hl;exact MZ (by omega)
  ·exact .inr (.inl hx)
  ·exact .inr (.inr hx)
 |CP hp hl hc=>
  rcases hx with hx|hx|hx
  ·exact .inr (.inl hx)
  ·exact .inr (.inr ⟨hp.nz,Rw hx (hqp (hcq hx))⟩)
  ·exact .inr (.inr ⟨hp.nz,mJ hx.2 (hqp hx.1)⟩)
 |under hp hl hc hq=>
  have hbz:aF q=false->bx q b=true:=fun hz=>by
   rcases hq with e|e
   ·rw[e,bP]at hz;cases hz
   ·exact e
  have hbn:aF q=false->aF b=false:=fun hz=>by
   have h1:=iW (hbz hz);rcases h.2 with e|⟨e,_⟩
   ·rw[e,bP]at hz;cases hz
   ·have:=e.1;exact MZ (by omega)
  rcases hx with hx|hx|hx
  ·exact .inl hx
  ·exact .inr (.inr ⟨hbn (hcq hx),Rw hx (hbz (hcq hx))⟩)
  ·exact .inr (.inr ⟨hbn hx.1,mJ hx.2 (hbz hx.1)⟩)
theorem aaf{p:ai}{v:ByteArray}{n k:Int}(h:eI p ⟨n,v⟩=false)(hk:n<=k):eI p ⟨k,v⟩=false:=VI hk h
theorem SM{v:ByteArray}{n:Int}{x:ai}(hx:x=bY\/cO x=true):n<=wY v n x/\eI x ⟨wY v n x,v⟩=false:=by
 unfold wY;split
 ·rename_i hc;rw[Qm]at hc;have ha:=hc.2;unfold eI at ha;rw[Qm,Qm]at ha;have hle:n<=x.aj:=iW ha.2;split
  ·refine⟨by omega,?_⟩
   unfold eI;rw[Bool.and_eq_false_iff];right
   cases hl:bx ⟨x.aj+1,v⟩ x with
   |false=>rfl
   |true=>have:=iW hl;simp only at this;omega
  ·rename_i hn;exact⟨hle,by simpa using hn⟩
 ·rename_i hc;refine⟨Int.le_refl _,?_⟩;rcases hx with rfl|hv
  ·unfold eI;rw[bP];rfl
  ·rw[hv,Bool.true_and]at hc;simpa using hc
theorem Wg{v:ByteArray}{n:Int}{p q:ai}(hp:p=bY\/cO p=true)(hq:q=bY\/cO q=true):n<=k9 v n p q/\1<=k9 v n p q/\mX p q v (k9 v n p q)=false:=by
 unfold k9;obtain⟨h1,h2⟩:=SM (v:=v) (n:=bD n 1) hp;obtain⟨h3,h4⟩:=SM (v:=v) (n:=wY v (bD n 1) p) hq;have hm:n<=bD n 1/\1<=bD n 1:=by unfold bD;split<;>omega
 refine⟨by omega,by omega,?_⟩
 unfold mX;rw[h4,Bool.or_false];exact aaf h2 h3
theorem Mb{v:ByteArray}{n:Int}{x:ai}(h:eI x ⟨n,v⟩=false):wY v n x=n:=by
 unfold wY;rw[h,Bool.and_false];rfl
theorem Zu{v:ByteArray}{n:Int}{p q:ai}(h1:1<=n)(h:mX p q v n=false):k9 v n p q=n:=by
 unfold mX at h;rw[Qq74]at h;have hm:bD n 1=n:=by unfold bD;split<;>omega
 unfold k9;rw[hm,Mb h.1,Mb h.2]
theorem tj.valid{p q:ai}(h:tj p q):(p=bY\/cO p=true)/\(q=bY\/cO q=true):=
 ⟨h.1.imp id df.valid,h.2.imp id fun h=>h.1.valid⟩
theorem Xa{e:ae}(hv:aW e=true){x:ai}(hx:x∈said e)(hz:aF x=false):cO x=true:=by
 have hv':=hv;unfold aW gW at hv';unfold said at hx;rw[Qr hv]at hx;rw[Qm,Qm]at hv';have hb:=hv'.2
 by_cases h1:e.bF=1
 ·rw[Qr h1]at hb hx;unfold gX at hb;simp only[Qm,Qn]at hb;obtain⟨⟨⟨⟨⟨⟨⟨⟨hf,hp⟩,hq⟩,_⟩,_⟩,_⟩,_⟩,_⟩,_⟩:=hb;simp only[QA,QR,or_false]at hx;rcases hx with rfl|rfl|rfl
  ·unfold finite at hf;rw[Qm]at hf;exact hf.1
  ·rcases hp with hp|hp
   ·rw[hp]at hz;cases hz
   ·exact hp
  ·rcases hq with hq|hq
   ·rw[hq]at hz;cases hz
   ·exact hq
 ·rw[Qs h1]at hb hx
  have hinf:∀{b:ai},cO b=true->cO ⟨1000000,b.Value⟩=true:=by
   intro b hb;simp only[cO,Qm,Qn,Qi]at hb ⊢;exact⟨⟨.inr trivial,hb.1.2⟩,hb.2⟩
  by_cases h2:e.bF=2
  ·rw[Qr h2]at hb hx;unfold uO at hb;simp only[Qm]at hb;obtain⟨⟨⟨⟨⟨hf,hp⟩,hc⟩,_⟩,_⟩,_⟩:=hb;simp only[QA,QR,or_false]at hx;rcases hx with rfl|rfl
   ·exact hp
   ·unfold finite at hf;rw[Qm]at hf;exact hinf hf.1
  ·rw[Qs h2]at hb hx;simp only[QA,QR,or_false]at hx;subst hx
   by_cases h3:e.bF=3
   ·rw[Qr h3]at hb;unfold AN at hb;simp only[Qm]at hb;exact hinf hb.1.1.1
   ·rw[Qs h3]at hb;cases hb
theorem Kh{e:ae}(hv:aW e=true):1<=e.ab.Value.size/\e.ab.Value.size<=200:=by
 have hv':=hv;unfold aW gW at hv';rw[Qm,Qm]at hv';have hb:=hv'.2
 have go:∀{b:ai},cO b=true->1<=b.Value.size/\b.Value.size<=200:=by
  intro b hb;simp only[cO,Qm,Qn,Qi]at hb;exact⟨hb.1.2,hb.2⟩
 have gof:∀{b:ai},finite b=true->1<=b.Value.size/\b.Value.size<=200:=by
  intro b hb;unfold finite at hb;rw[Qm]at hb;exact go hb.1
 by_cases h1:e.bF=1
 ·rw[Qr h1]at hb;unfold gX at hb;simp only[Qm]at hb;exact gof hb.1.1.1.1.1.1.1.1
 ·rw[Qs h1]at hb
  by_cases h2:e.bF=2
  ·rw[Qr h2]at hb;unfold uO at hb;simp only[Qm]at hb;exact gof hb.1.1.1.1.1
  ·rw[Qs h2]at hb
   by_cases h3:e.bF=3
   ·rw[Qr h3]at hb;unfold AN at hb;simp only[Qm]at hb;exact go hb.1.1.1
   ·rw[Qs h3]at hb;cases hb
theorem aew{b:ai}(h:cO b=true):df (dH b):=by
 simp only[cO,Qm,Qn,Qi]at h;obtain⟨⟨h1,h2⟩,h3⟩:=h;unfold dH;split
 ·exact⟨(by decide:(1:Int)<=1000),(by decide:(1000:Int)<=1000),h2,h3⟩
 ·exact⟨by omega,by omega,h2,h3⟩
theorem Uk{α:Type}{l:List α}{p:α->Bool}{z:α}:(l.find? p).getD z=z\/((l.find? p).getD z∈l/\p ((l.find? p).getD z)=true):=by
 cases h:l.find? p with
 |none=>exact .inl rfl
 |some x=>exact .inr ⟨List.mem_of_find?_eq_some h,List.find?_some h⟩
theorem Hh{m:aa}(h:bo m){x:ai}(hx:x∈eR (bh m)):cO x=true:=by
 obtain⟨e,he,h1,h2⟩:=((mL h.ev.lZ.1.aL h.ev.lZ.2).2.2.2 x).1 hx;exact Xa (h.lR e he) h1 h2
theorem P6{m:aa}(h:bo m):eE m=bY\/(cO (eE m)=true/\(DE m=fE\/(eE m).Value=DE m)/\dP (rJ m.ao) (rJ m.ay) (eE m)=false/\lj m.al.toNat m.ak (bh m) (eE m)=true):=by
 unfold eE jq;rcases Uk (l:=eR (bh m)) (p:=w7 (lj m.al.toNat m.ak (bh m)) m.ao m.ay (DE m)) (z:=zI)with e|⟨h1,h2⟩
 ·exact .inl e
 ·right;unfold w7 at h2;simp only[Qm,Qn,Bool.not_eq_true',Qi]at h2;exact⟨Hh h h1,h2.1.1,h2.1.2,h2.2⟩
theorem zg{m:aa}(h:bo m):dH (eE m)=bY\/df (dH (eE m)):=by
 rcases P6 h with e|⟨h1,_⟩
 ·left;rw[e];decide
 ·exact .inr (aew h1)
theorem Jo{m:aa}(h:bo m)(h1:tj m.ao m.ay):vN m.ao m.ay (dH (eE m)) (c7 m.ao m.ay (dH (eE m))).1 (c7 m.ao m.ay (dH (eE m))).2:=adR h1 (zg h)
theorem P2.gX{m:aa}(h:P2 m):tj m.ao m.ay:=⟨.inr h.dB.1,.inl h.bV⟩
theorem adr{m:aa}(h:bo m)(h1:P1 m):P1 (cQ m):=by
 unfold cQ;rw[Qs (by rw[h1.aT,h1.aQ.nz];decide)]
 have hj:=Jo h h1.gX;generalize (c7 m.ao m.ay (dH (eE m))).1=p at hj;generalize (c7 m.ao m.ay (dH (eE m))).2=q at hj;have hok:=hj.ok h1.gX (zg h);refine⟨h1.aT,h1.aQ,hok.1,hok.2,?_,h1.up,h1.bU,?_⟩
 ·rcases h1.dS with e|⟨hf,hp⟩
  ·exact .inl e
  ·exact .inr ⟨hf,hj.mono h1.gX hp⟩
 ·show rD m p q=0\/(1<=rD m p q/\rD m p q<=fo m/\mX p q m.ab.Value (rD m p q)=false);unfold rD
  by_cases hL:m.aS=0
  ·rw[Qs (fun h=>h.2 hL)];exact .inl hL
  ·rw[Qr ⟨h1.aT,hL⟩];split
   ·exact .inl rfl
   ·rename_i hlt;obtain⟨h2,h3,h4⟩:=Wg (v:=m.ab.Value) (n:=m.aS) hok.valid.1 hok.valid.2;exact .inr ⟨h3,by omega,h4⟩
theorem V2{m:aa}(h:bo m)(h2:P2 m):P2 (cQ m)/\m.ao.aj<=(cQ m).ao.aj/\(cQ m).ay=bY:=by
 unfold cQ;rw[Qs (by rw[h2.aT,h2.aQ.nz];decide)]
 have hv:dH (eE m)=bY\/(dH (eE m)).Value=m.ab.Value:=by
  rcases P6 h with e|⟨h3,h4,_⟩
  ·left;rw[e];decide
  ·right;have hc:(dH (eE m)).Value=(eE m).Value:=by unfold dH;split<;>rfl
   have hvo:DE m=m.ab.Value:=Qr h2.aT;rw[hvo]at h4;rw[hc];exact h4.resolve_left h2.aQ.ne
 have hj:=Jo h h2.gX;have hlow:∀p q,rD m p q=m.aS:=fun p q=>Qs (fun h=>by have:=h.1;rw[h2.aT]at this;cases this)
 simp only[hlow];have hok:=hj.ok h2.gX (zg h);generalize (c7 m.ao m.ay (dH (eE m))).1=p at hj hok;generalize (c7 m.ao m.ay (dH (eE m))).2=q at hj hok;generalize hb:dH (eE m)=b at hj hv
 have key:df p/\p.Value=m.ab.Value/\m.ao.aj<=p.aj/\q=bY:=by
  cases hj with
  |same=>exact⟨h2.dB.1,h2.dB.2,Int.le_refl _,h2.bV⟩
  |first hp hq=>exact absurd hp (LI h2.dB.1)
  |up hp hl hc=>exact⟨hok.1.resolve_left (fun e=>by have:=iW hl;rw[e]at this;have h9:=h2.dB.1.1;have:(bY:ai).aj=0:=rfl;omega),hc.symm.trans h2.dB.2,iW hl,h2.bV⟩
  |CP hp hl hc=>
   exfalso;rcases hv with e|e
   ·have:=iW hl;rw[e]at this;have h9:=h2.dB.1.1;have:(bY:ai).aj=0:=rfl;omega
   ·exact hc (h2.dB.2.trans e.symm)
  |under hp hl hc hq=>
   rcases hv with e|e
   ·exact⟨h2.dB.1,h2.dB.2,Int.le_refl _,e⟩
   ·exact absurd (e.trans h2.dB.2.symm) hc
 exact⟨⟨h2.aT,h2.aQ,⟨key.1,key.2.1⟩,key.2.2.2,h2.dS,⟨h2.range.1,h2.range.2.1,Int.le_trans h2.range.2.2 key.2.2.1⟩⟩,key.2.2.1,key.2.2.2⟩
theorem PT{m:aa}(h:bo m):bo (cQ m):=by
 have hid:m.aI=3\/aF m.ab=true->cQ m=m:=fun hc=>Qr hc
 have mk:(P0 (cQ m)\/P1 (cQ m)\/P2 (cQ m)\/P3 (cQ m))->bo (cQ m):=by
  intro hb;unfold cQ at hb ⊢;split at hb
  ·rename_i hc;rw[Qr hc];exact h
  ·rename_i hc;rw[Qs hc];exact⟨h.n0,h.n1,h.aK,h.seq,h.aL,h.sz,h.hv,h.eV,hb⟩
 rcases h.body with h0|h1|h2|h3
 ·rw[hid (.inr (by rw[h0.aQ];exact bP))];exact h
 ·exact mk (.inr (.inl (adr h h1)))
 ·exact mk (.inr (.inr (.inl (V2 h h2).1)))
 ·rw[hid (.inl h3.aT)];exact h
end
section
end
section
theorem uN(q:Int->Bool):∀(r:List Int) (lo:Int),cI q r lo<=lo
 |[],lo=>Int.le_refl _
 |e::r,lo=>by
  rw[cI];split
  ·exact uN q r lo
  ·split
   ·exact Int.le_trans (uN q r e) (by omega)
   ·exact Int.le_refl _
theorem Da(q:Int->Bool):∀(r:List Int) (lo:Int),cI q r lo=lo\/q (cI q r lo)=true/\cI q r lo∈r
 |[],lo=> .inl rfl
 |e::r,lo=>by
  rw[cI];split
  ·exact(Da q r lo).imp id fun h=>⟨h.1,by simp[h.2]⟩
  ·split
   ·rename_i hq;rcases Da q r e with h|h
    ·exact .inr ⟨by rw[h];exact hq,by rw[h];simp⟩
    ·exact .inr ⟨h.1,by simp[h.2]⟩
   ·exact .inl rfl
theorem Db(q:Int->Bool)(r:List Int)(lo:Int)(h:∀x∈r,1<=x)(h1:1<=lo):1<=cI q r lo:=by
 rcases Da q r lo with e|⟨_,e⟩
 ·omega
 ·exact h _ e
section
variable {aB : Nat} {t : af} {l : List ae} (p q : ai)
end
end
section
theorem acM{m:aa}(h:bo m){p:ae->Bool}(hb:(dE p (bW (bh m))).testBit m.al.toNat=true):aF m.ab=false/\p (ja m)=true:=by
 rw[xm,List.any_eq_true]at hb;obtain⟨e,he,hp⟩:=hb;rw[Qm,Qi]at hp;obtain⟨h1,h2⟩:=h.adF ((List.mem_filter.1 he).1) hp.2;rw[<-h2];exact⟨h1,hp.1⟩
theorem UD{m:aa}(h:bo m){b:ai}(hc:jY m.al.toNat m.ak (bh m) b=true):aF m.ab=false/\dj (ja m) b=true:=by
 have hsm:=ml (aB:=m.al.toNat) h.aL.sm h.ev.lZ.1;have hg:=Cg hsm (mj (p:=(dj · b)) (mR (bh m)));exact acM h (hg.inside _ hc).1
theorem Vq{m:aa}(h1:m.aI=1){b:ai}(ha:dj (ja m) b=true):aF b=false/\dP m.ao m.ay b=true:=by
 have e:ja m=⟨m.al,m.bc,bD (c5 m).aE 1,m.ak,m.aI,m.ab,m.ao,m.ay,m.aS,fo m⟩:=by unfold ja c5;rw[Qr h1]
 rw[e]at ha;unfold dj at ha;rw[Qm,Qr h1]at ha;simpa using ha
theorem ZE{m:aa}(h:bo m)(h1:P1 m):gr m=bY\/(df (gr m)/\bx m.ax (gr m)=true/\dP m.ao m.ay (gr m)=true):=by
 unfold gr xa;rcases Uk (l:=eR (bh m)) (p:=w9 (jY m.al.toNat m.ak (bh m)) m.ax) (z:=zI)with e|⟨h2,h3⟩
 ·exact .inl e
 ·right;unfold w9 at h3;simp only[Qm,Qi]at h3;exact⟨Wq (Hh h h2) h3.1.2,h3.1.1,(Vq h1.aT (UD h h3.2).2).2⟩
theorem adQ{p q b:ai}{v:ByteArray}{n:Int}(hok:tj p q)(hb:dP p q b=true)(hv:b.Value≠v)(ha:mX p q v n=false):b.aj<=n:=by
 unfold mX at ha;rw[Qq74]at ha
 have key:∀x:ai,aF x=false->x.Value≠v->eI x ⟨n,v⟩=false->x.aj<=n:=by
  intro x hz hx h;unfold eI at h;rw[hz,(jm (a:=x) (b:=⟨n,v⟩)).2 hx,Qp,Bool.and_self,Bool.true_and]at h;exact Ld h
 have hqp:aF q=false->df q/\df p/\bx q p=true/\q.Value≠p.Value:=fun hz=>by
  rcases hok.2 with e|⟨e1,e2,e3,e4⟩
  ·rw[e,bP]at hz;cases hz
  ·exact⟨e1,e2,e3,jm.1 e4⟩
 rw[CN]at hb;rcases hb with hb|hb|⟨hz,hl⟩
 ·obtain⟨h1,h2,h3⟩:=(lv _ _).1 hb;have:=key p h1 (by rw[h2];exact hv) ha.1
  omega
 ·obtain⟨h1,h2,h3⟩:=(lv _ _).1 hb;have:=key q h1 (by rw[h2];exact hv) ha.2
  omega
 ·obtain⟨e1,e2,e3,e4⟩:=hqp hz;have h5:=iW hl
  by_cases hqv:q.Value=v
  ·have:=key p e2.nz (by rw[<-hqv];exact fun e=>e4 e.symm) ha.1
   have:=iW e3;omega
  ·have:=key q hz hqv ha.2;omega
theorem agQ{m:aa}(h1:P1 m){b:ai}(hb:df b)(hl:bx m.ax b=true)(hp:dP m.ao m.ay b=true):P1 (Bl m b)/\(Bl m b).ao=m.ao/\(Bl m b).ay=m.ay/\(Bl m b).ax=b/\m.ab.aj<=(Bl m b).ab.aj:=by
 unfold Bl;have hh:=Ny h1;split
 ·rename_i hlt
  have hhigh:∀L:Int,fo {m with ax:=b,ab:=b,aS:=L}=b.aj:=by
   intro L;unfold fo;rw[Qr];rw[hb.nz,ju.2 rfl];rfl
  refine⟨⟨h1.aT,hb,h1.dB,h1.bV,.inr ⟨hb,hp⟩,Zy b,h1.bU,?_⟩,rfl,rfl,rfl,iW hlt⟩;show(if bM m.ab b=true then m.aS else 0)=0\/(1<=(if bM m.ab b=true then m.aS else 0)/\(if bM m.ab b=true then m.aS else 0)<=fo {m with ax:=b,ab:=b,aS:=if bM m.ab b=true then m.aS else 0}/\mX m.ao m.ay b.Value (if bM m.ab b=true then m.aS else 0)=false)
  rw[hhigh];split
  ·rename_i hc;rw[ju]at hc;rcases h1.low with e|⟨h2,h3,h4⟩
   ·exact .inl e
   ·refine .inr ⟨h2,?_,by rw[<-hc];exact h4⟩
    have:=iW hlt;omega
  ·exact .inl rfl
 ·rename_i hlt;have hlt:bx m.ab b=false:=by simpa using hlt
  refine⟨⟨h1.aT,h1.aQ,h1.dB,h1.bV,.inr ⟨hb,hp⟩,hlt,h1.bU,?_⟩,rfl,rfl,rfl,Int.le_refl _⟩;rcases h1.low with e|⟨h2,h3,h4⟩
  ·exact .inl e
  ·refine .inr ⟨h2,?_,h4⟩;show m.aS<=fo {m with ax:=b}
   have hv:b.Value=m.ab.Value:=by
    refine Classical.byContradiction fun hv=> ?_
    have h5:=adQ h1.gX hp hv h4;have h6:=iW hl;rcases hh.2.2 with e|⟨e1,e2,e3⟩
    ·omega
    ·
     have e4:bx b m.ax=false:=Az.asymm hl;have e5:=hl;rw[yb]at e5;have hbc:b.aj=m.ax.aj:=by omega
     have hlow:m.aS=m.ax.aj:=by omega
     have e6:bx ⟨m.aS,m.ab.Value⟩ b=true:=by
      have:(⟨m.aS,m.ab.Value⟩:ai)=m.ax:=by rw[hlow,<-e2]
      rw[this];exact hl
     unfold mX at h4;rw[Qq74]at h4
     have key:∀x:ai,aF x=false->x.Value≠m.ab.Value->eI x ⟨m.aS,m.ab.Value⟩=false->bx ⟨m.aS,m.ab.Value⟩ x=false:=by
      intro x hz hx h;unfold eI at h;rw[hz,(jm (a:=x) (b:=⟨m.aS,m.ab.Value⟩)).2 hx,Qp,Bool.and_self,Bool.true_and]at h;exact h
     rw[CN]at hp;rcases hp with hp|hp|⟨hz,hq⟩
     ·obtain⟨g1,g2,g3⟩:=(lv _ _).1 hp;have g4:=key _ g1 (by rw[g2];exact hv) h4.1
      have g5:bx ⟨m.aS,m.ab.Value⟩ m.ao=true:=by
       by_cases e:b=m.ao
       ·rw[<-e];exact e6
       ·exact mJ e6 (Ij (IN hp) (fun e'=>e e'.symm))
      rw[g5]at g4;cases g4
     ·obtain⟨g1,g2,g3⟩:=(lv _ _).1 hp;have g4:=key _ g1 (by rw[g2];exact hv) h4.2
      have g5:bx ⟨m.aS,m.ab.Value⟩ m.ay=true:=by
       by_cases e:b=m.ay
       ·rw[<-e];exact e6
       ·exact mJ e6 (Ij (IN hp) (fun e'=>e e'.symm))
      rw[g5]at g4;cases g4
     ·rcases h1.bV with e|⟨f1,f2,f3,f4⟩
      ·rw[e,bP]at hz;cases hz
      ·by_cases hqv:m.ay.Value=m.ab.Value
       ·have g4:=key _ f2.nz (by rw[<-hqv];exact fun e=>(jm.1 f4) e.symm) h4.1
        rw[mJ e6 (mJ hq f3)]at g4;cases g4
       ·have g4:=key _ hz hqv h4.2;rw[mJ e6 hq]at g4;cases g4
   have hhigh:fo {m with ax:=b}=b.aj:=by
    unfold fo;rw[Qr];show(!aF b&&bM b m.ab)=true;rw[hb.nz,ju.2 hv];rfl
   rw[hhigh];rcases hh.2.2 with e|⟨e1,e2,e3⟩
   ·omega
   ·have:=iW hl;omega
theorem acO{m:aa}(h1:P1 m){b:ai}(hb:df b)(hc:m.ax=b):P1 (py m b):=by
 unfold py;split
 ·rename_i hv;obtain⟨hL,hcp,hle⟩:=hv;rw[ju]at hcp;refine⟨h1.aT,h1.aQ,h1.dB,h1.bV,h1.dS,h1.up,h1.bU,?_⟩;obtain⟨h2,h3,h4⟩:=Wg (v:=b.Value) (n:=m.ab.aj) h1.gX.valid.1 h1.gX.valid.2;refine .inr ⟨h3,?_,by show mX m.ao m.ay m.ab.Value _=false;rw[hcp];exact h4⟩
  show k9 b.Value m.ab.aj m.ao m.ay<=fo {m with aS:=k9 b.Value m.ab.aj m.ao m.ay}
  have hhigh:fo {m with aS:=k9 b.Value m.ab.aj m.ao m.ay}=b.aj:=by
   unfold fo;rw[Qr]
   ·show m.ax.aj=_;rw[hc]
   ·show(!aF m.ax&&bM m.ax m.ab)=true;rw[hc,hb.nz,ju.2 hcp.symm];rfl
  rw[hhigh];exact hle
 ·exact h1
theorem WR(m:aa)(b:ai):(py m b).ao=m.ao/\(py m b).ay=m.ay/\(py m b).ax=m.ax/\(py m b).ab=m.ab:=by
 unfold py;split<;>exact⟨rfl,rfl,rfl,rfl⟩
theorem uo{m:aa}(h:m.aI≠1\/aF m.ab=true\/aF (gr m)=true):fR m=m:=Qr h
theorem DT{m m':aa}(h:bo m)(he:m'.al=m.al/\m'.bc=m.bc/\m'.aE=m.aE/\m'.ak=m.ak/\m'.ba=m.ba/\m'.au=m.au)(hb:P0 m'\/P1 m'\/P2 m'\/P3 m'):bo m':=by
 obtain⟨e1,e2,e3,e4,e5,e6⟩:=he;exact⟨by rw[e1];exact h.n0,by rw[e1];exact h.n1,by rw[e2];exact h.aK,by rw[e3];exact h.seq,by rw[e4];exact h.aL,by rw[e5];exact h.sz,by rw[e6,e1,e2];exact h.hv,by rw[e6];exact h.eV,hb⟩
structure ib (m m':aa):Prop where
 aB:m'.al=m.al
 aK:m'.bc=m.bc
 seq:m'.aE=m.aE
 aL:m'.ak=m.ak
 sz:m'.ba=m.ba
 heard:m'.au=m.au
theorem ib.refl(m:aa):ib m m:=⟨rfl,rfl,rfl,rfl,rfl,rfl⟩
theorem ib.all{m m':aa}(h:ib m m'):m'.al=m.al/\m'.bc=m.bc/\m'.aE=m.aE/\m'.ak=m.ak/\m'.ba=m.ba/\m'.au=m.au:=⟨h.aB,h.aK,h.seq,h.aL,h.sz,h.heard⟩
theorem uq(m:aa):ib m (cQ m):=by unfold cQ;split<;>exact⟨rfl,rfl,rfl,rfl,rfl,rfl⟩
theorem ad2(m:aa)(b:ai):ib m (Bl m b):=by unfold Bl;split<;>exact⟨rfl,rfl,rfl,rfl,rfl,rfl⟩
theorem YC(m:aa)(b:ai):ib m (py m b):=by unfold py;split<;>exact⟨rfl,rfl,rfl,rfl,rfl,rfl⟩
theorem ss(m:aa):ib m (fR m):=by
 unfold fR;split
 ·exact .refl m
 ·have h1:=YC (Bl m (gr m)) (gr m);have h2:=ad2 m (gr m);exact⟨h1.aB.trans h2.aB,h1.aK.trans h2.aK,h1.seq.trans h2.seq,h1.aL.trans h2.aL,h1.sz.trans h2.sz,h1.heard.trans h2.heard⟩
theorem sv(m:aa):ib m (fD m):=by
 unfold fD IP zO;split
 ·split<;>exact⟨rfl,rfl,rfl,rfl,rfl,rfl⟩
 ·split<;>exact⟨rfl,rfl,rfl,rfl,rfl,rfl⟩
theorem su(m:aa):ib m (ix m):=by unfold ix JB;split<;>exact⟨rfl,rfl,rfl,rfl,rfl,rfl⟩
theorem AZ(m:aa):ib m (fm m):=by unfold fm;split<;>exact⟨rfl,rfl,rfl,rfl,rfl,rfl⟩
theorem OA{m:aa}(h:bo m)(h1:P1 m):P1 (fR m)/\(fR m=m\/((fR m).ao=m.ao/\(fR m).ay=m.ay/\bx m.ax (fR m).ax=true/\m.ab.aj<=(fR m).ab.aj)):=by
 unfold fR;split
 ·exact⟨h1,.inl rfl⟩
 ·rename_i hc;rcases ZE h h1 with e|⟨hf,hl,hp⟩
  ·exact absurd (.inr (.inr (by rw[e];exact bP))) hc
  ·obtain⟨g1,g2,g3,g4,g5⟩:=agQ h1 hf hl hp;obtain⟨v1,v2,v3,v4⟩:=WR (Bl m (gr m)) (gr m);exact⟨acO g1 hf g4,.inr ⟨v1.trans g2,v2.trans g3,by rw[v3,g4];exact hl,by rw[v4];exact g5⟩⟩
theorem PS{m:aa}(h:bo m):bo (fR m):=by
 rcases h.body with h0|h1|h2|h3
 ·rw[uo (.inr (.inl (by rw[h0.aQ];exact bP)))];exact h
 ·exact DT h (ss m).all (.inr (.inl (OA h h1).1))
 ·rw[uo (.inl (by rw[h2.aT];decide))];exact h
 ·rw[uo (.inl (by rw[h3.aT];decide))];exact h
theorem Aq{m:aa}(h:bo m)(v:ByteArray):∀x∈bs (bh m) v,1<=x/\x<=1000:=D5 h.ev.lZ.1 h.ev.lZ.2 v
theorem aap{m:aa}(h:bo m):∀v∈gk (bh m),1<=v.size/\v.size<=200:=by
 intro v hv;obtain⟨e,he,h1,h2⟩:=((sx h.ev.lZ.1.aL h.ev.lZ.2).2.2.2 v).1 hv;rw[h2];exact Kh h1
theorem Yf{m:aa}(h:bo m){x:ByteArray->Int->Int->Bool}{p q:ai}:(gN x (bh m) p q).1=false\/(df (gN x (bh m) p q).2/\(gN x (bh m) p q).2.Value∈gk (bh m)/\(gN x (bh m) p q).2.aj∈bs (bh m) (gN x (bh m) p q).2.Value/\
  mX p q (gN x (bh m) p q).2.Value (gN x (bh m) p q).2.aj=false/\x (gN x (bh m) p q).2.Value (gN x (bh m) p q).2.aj (gN x (bh m) p q).2.aj=true):=by
 let G:Bool×ai->Prop:=fun s=>s.1=false\/(df s.2/\s.2.Value∈gk (bh m)/\s.2.aj∈bs (bh m) s.2.Value/\mX p q s.2.Value s.2.aj=false/\x s.2.Value s.2.aj s.2.aj=true)
 have inner:∀(v:ByteArray),v∈gk (bh m)->∀(b:List Int),(∀n∈b,n∈bs (bh m) v)->∀s,G s->G (b.foldl (fS x p q v) s):=by
  intro v hv b
  induction b with
  |nil=>intro _ s hs;exact hs
  |cons n b ih=>
   intro hb s hs;rw[QU];refine ih (fun k hk=>hb k (Qy _ hk)) _ ?_
   unfold fS;split
   ·rename_i hc;simp only[Qm,Bool.not_eq_true']at hc;have hn:=hb n Qx;have h1:=Aq h v n hn;have h2:=aap h v hv;exact .inr ⟨⟨h1.1,h1.2,h2.1,h2.2⟩,hv,hn,hc.1.2,hc.2⟩
   ·exact hs
 have outer:∀(vs:List ByteArray),(∀v∈vs,v∈gk (bh m))->∀s,G s->G (vs.foldl (fun s v=>(bs (bh m) v).foldl (fS x p q v) s) s):=by
  intro vs
  induction vs with
  |nil=>intro _ s hs;exact hs
  |cons v vs ih=>
   intro hv s hs;rw[QU];exact ih (fun u hu=>hv u (Qy _ hu)) _ (inner v (hv v Qx) _ (fun n hn=>hn) s hs)
 exact outer _ (fun v hv=>hv) (false,⟨0,fE⟩) (.inl rfl)
structure ahg (m:aa) (v:ByteArray) (lo hi:Int):Prop where
 fin:df ⟨hi,v⟩
 lo1:1<=lo
 le:lo<=hi
 val:v∈gk (bh m)
 top:gD m v hi hi=true
 all:gD m v lo hi=true
theorem NH{m:aa}(h:bo m)(hk:(fu m).2.2.2.1=true):ahg m (fu m).1 (fu m).2.1 (fu m).2.2.1:=by
 rcases Yf (x:=gD m) (p:=m.ao) (q:=m.ay) h with e|⟨h1,h2,h3,h4,h5⟩
 ·unfold fu oY at hk;rw[e]at hk;cases hk
 ·have hb:(gN (gD m) (bh m) m.ao m.ay).1=true:=by
   unfold fu oY at hk;split at hk
   ·assumption
   ·cases hk
  have e:fu m=((gN (gD m) (bh m) m.ao m.ay).2.Value,cI (fun n=> !mX m.ao m.ay (gN (gD m) (bh m) m.ao m.ay).2.Value n&&gD m (gN (gD m) (bh m) m.ao m.ay).2.Value n (gN (gD m) (bh m) m.ao m.ay).2.aj) (bs (bh m) (gN (gD m) (bh m) m.ao m.ay).2.Value).reverse (gN (gD m) (bh m) m.ao m.ay).2.aj,(gN (gD m) (bh m) m.ao m.ay).2.aj,true,()):=by
   unfold fu oY;rw[Qr hb]
  rw[e];refine⟨h1,Db _ _ _ (fun x hx=>(Aq h _ x (List.mem_reverse.1 hx)).1) h1.1,uN _ _ _,h2,h5,?_⟩
  simp only;rcases Da (fun n=> !mX m.ao m.ay (gN (gD m) (bh m) m.ao m.ay).2.Value n&&gD m (gN (gD m) (bh m) m.ao m.ay).2.Value n (gN (gD m) (bh m) m.ao m.ay).2.aj) (bs (bh m) (gN (gD m) (bh m) m.ao m.ay).2.Value).reverse (gN (gD m) (bh m) m.ao m.ay).2.aj with e|⟨e,_⟩
  ·rw[e];exact h5
  ·rw[Qm]at e;exact e.2
theorem UE{m:aa}(hb0:m.ab=bY\/df m.ab)(hp0:m.ao=bY\/df m.ao){v:ByteArray}{lo hi:Int}(hf:df ⟨hi,v⟩)(hlo:1<=lo)(hle:lo<=hi):P2 (IP m v lo hi):=by
 unfold IP
 have hmax:df ⟨bD m.ab.aj hi,v⟩:=by
  rcases hb0 with e|h2
  ·have:bD m.ab.aj hi=hi:=by
    have h3:=hf.1;simp only at h3;have h4:m.ab.aj=0:=by rw[e];rfl
    unfold bD;split<;>omega
   rw[this];exact hf
  ·have:bD m.ab.aj hi=m.ab.aj\/bD m.ab.aj hi=hi:=by unfold bD;split<;>simp
   rcases this with e|e<;>rw[e]
   ·exact⟨h2.1,h2.2.1,hf.2.2⟩
   ·exact hf
 have hbv:∀b:ai,b=(if(!bM m.ab ⟨hi,v⟩||bx m.ab ⟨hi,v⟩)=true then⟨bD m.ab.aj hi,v⟩else m.ab)->df b/\b.Value=v:=by
  intro b hb;split at hb
  ·rw[hb];exact⟨hmax,rfl⟩
  ·rename_i hc;rw[hb];simp only[Qn,Bool.not_eq_true',not_or,Bool.not_eq_false]at hc;refine⟨hb0.resolve_left (fun e=> ?_),ju.1 hc.1⟩
   have:=ju.1 hc.1;rw[e]at this;exact hf.ne this.symm
 obtain⟨b1,b2⟩:=hbv _ rfl
 have hpv:∀p:ai,p=(if jA m.ao ⟨hi,v⟩=true then m.ao else⟨hi,v⟩)->df p/\p.Value=v/\hi<=p.aj:=by
  intro p hp;split at hp
  ·rename_i hc;rw[hp];obtain⟨g1,g2,g3⟩:=(lv _ _).1 hc;refine⟨?_,g2,g3⟩;rcases hp0 with e|e
   ·rw[e,bP]at g1;cases g1
   ·exact e
  ·rw[hp];exact⟨hf,rfl,Int.le_refl _⟩
 obtain⟨p1,p2,p3⟩:=hpv _ rfl;exact⟨rfl,b1,⟨p1,p2.trans b2.symm⟩,rfl,.inr ⟨hf,b2.symm⟩,⟨hlo,hle,p3⟩⟩
theorem Um{m:aa}(h:bo m)(h2:P2 m):1<=(ez m).1/\(ez m).1<=(ez m).2/\(ez m).2<=1000/\(((ez m).2=m.bf/\(ez m).1<=m.aS)\/m.bf<(ez m).2):=by
 have hr:=h2.range;have hH:m.bf<=1000:=by have:=h2.dB.1.2.1;omega
 have hb:∀x∈(bs (bh m) m.ab.Value).reverse,1<=x:=fun x hx=>(Aq h _ x (List.mem_reverse.1 hx)).1
 unfold ez EA;split
 ·refine⟨Db _ _ _ hb hr.1,?_,hH,.inl ⟨rfl,uN _ _ _⟩⟩;exact Int.le_trans (uN _ _ _) hr.2.1
 ·rename_i n hn;have hnb:=Aq h _ n (List.mem_reverse.1 (List.mem_of_find?_eq_some hn));have hnp:=List.find?_some hn;simp only[Qm,Qi]at hnp;have h5:1<=cI (fun x=>gD m m.ab.Value x n) (bs (bh m) m.ab.Value).reverse n:=Db _ _ _ hb hnb.1
  have h6:=uN (fun x=>gD m m.ab.Value x n) (bs (bh m) m.ab.Value).reverse n
  simp only;refine⟨Db _ _ _ hb ?_,?_,hnb.2,.inr hnp.1⟩
  ·split
   ·exact h5
   ·exact hr.1
  ·refine Int.le_trans (uN _ _ _) ?_;split
   ·exact h6
   ·omega
theorem XX{m:aa}(h2:P2 m){lo hi:Int}(hlo:1<=lo)(hle:lo<=hi)(hhi:hi<=1000):P2 (zO m lo hi):=by
 unfold zO;have hb:=h2.aQ;have hp:=h2.dB;have e1:∀c:Int,bD c hi=c\/bD c hi=hi:=fun c=>by unfold bD;split<;>simp
 have e2:∀c:Int,hi<=bD c hi:=fun c=>by unfold bD;split<;>omega
 have mx:∀c:Int,c<=1000->df ⟨bD c hi,m.ab.Value⟩:=by
  intro c hc;refine⟨by have:=e2 c;simp only;omega,?_,hb.2.2.1,hb.2.2.2⟩
  rcases e1 c with e|e<;>simp only[e]<;>omega
 refine⟨h2.aT,mx _ hb.2.1,⟨?_,?_⟩,h2.bV,.inr ⟨mx _ ?_,rfl⟩,⟨hlo,hle,e2 _⟩⟩
 ·show df ⟨bD m.ao.aj hi,m.ao.Value⟩;rw[hp.2];exact mx _ hp.1.2.1
 ·exact hp.2
 ·rcases h2.dS with e|e
  ·rw[e];decide
  ·exact e.1.2.1
theorem PX{m:aa}(h:bo m):bo (fD m):=by
 refine DT h (sv m).all ?_;unfold fD;rcases h.body with h0|h1|h2|h3
 ·rw[Qr h0.aT];split
  ·rename_i hk;have hf:=NH h hk;exact .inr (.inr (.inl (UE (.inl h0.aQ) (.inl h0.dB) hf.fin hf.lo1 hf.le)))
  ·exact .inl h0
 ·rw[Qr h1.aT];split
  ·rename_i hk;have hf:=NH h hk;exact .inr (.inr (.inl (UE (.inr h1.aQ) h1.dB hf.fin hf.lo1 hf.le)))
  ·exact .inr (.inl h1)
 ·rw[Qs (by rw[h2.aT];decide),Qr h2.aT]
  have:=Um h h2;exact .inr (.inr (.inl (XX h2 this.1 this.2.1 this.2.2.1)))
 ·rw[Qs (by rw[h3.aT];decide),Qs (by rw[h3.aT];decide)]
  exact .inr (.inr (.inr h3))
theorem afS{m:aa}(h:bo m)(hk:(mU m).2.2.1=true):1<=(mU m).1/\(mU m).1<=(mU m).2.1/\(mU m).2.1<=1000/\FI m m.ab.Value (mU m).1 (mU m).2.1=true:=by
 unfold mU wO at hk ⊢;split at hk
 ·rename_i n hn;have hnb:=Aq h _ n (List.mem_reverse.1 (List.mem_of_find?_eq_some hn));have hs:=List.find?_some hn;simp only;refine⟨Db _ _ _ (fun x hx=>(Aq h _ x (List.mem_reverse.1 hx)).1) hnb.1,uN _ _ _,hnb.2,?_⟩
  rcases Da (fun x=>FI m m.ab.Value x n) (bs (bh m) m.ab.Value).reverse n with e|⟨e,_⟩
  ·rw[e];exact hs
  ·exact e
 ·cases hk
theorem V4{m:aa}(h:bo m)(h2:P2 m)(hk:(mU m).2.2.1=true):P3 (JB m (mU m).1 (mU m).2.1):=by
 obtain⟨g1,g2,g3,_⟩:=afS h hk;unfold JB;exact⟨rfl,⟨by simp only;omega,g3,h2.aQ.2.2.1,h2.aQ.2.2.2⟩,rfl,rfl,rfl,⟨g1,g2,g3⟩⟩
theorem PW{m:aa}(h:bo m):bo (ix m):=by
 refine DT h (su m).all ?_;unfold ix;split
 ·rename_i hc;rcases h.body with h0|h1|h2|h3
  ·have:=h0.aT;have:=hc.1;omega
  ·have:=h1.aT;have:=hc.1;omega
  ·exact .inr (.inr (.inr (V4 h h2 hc.2)))
  ·have:=h3.aT;have:=hc.1;omega
 ·exact h.body
theorem XO{z:ai}:∀{l:List ai},l≠[]->IC z l∈l
 |[],h=>absurd rfl h
 |x::l,_=>by
  show l.foldl (fun a y=>if bx a y=true then y else a) x∈x::l
  suffices key:∀(l:List ai) (a:ai),l.foldl (fun a y=>if bx a y=true then y else a) a=a\/l.foldl (fun a y=>if bx a y=true then y else a) a∈l by
   rcases key l x with e|e
   ·rw[e];exact Qx
   ·exact Qy _ e
  intro l
  induction l with
  |nil=>intro a;exact .inl rfl
  |cons y l ih=>
   intro a;rw[QU];rcases ih (if bx a y=true then y else a)with e|e
   ·rw[e];split
    ·exact .inr Qx
    ·exact .inl rfl
   ·exact .inr (Qy _ e)
theorem acY{t:af}(h:et t){s:Nat}(hs:∀k,k<10->s.testBit k=true):lq s t=true:=by
 have hn:∀x:Int,0<=x->x<10->lU s x=true:=by
  intro x h0 h1;unfold lU eH;rw[Qg h0,Qg h1,hs _ (by omega)]
  rfl
 have hc:t.aX.countP (lU s)=t.aX.length:=List.countP_eq_length.2 fun x hx=>hn x (h.nodes x hx).1 (h.nodes x hx).2
 have hi:xr s t.aN=t.aN.length:=by
  rcases h.inner with e|⟨x,h0,h1,e⟩
  ·rw[e];rfl
  ·rw[e]
   have:lq s ⟨1,[x],[]⟩=true:=by
    rw[Jg];simp[List.countP_cons,hn x h0 h1,xr]
   simp[xr,this]
 rw[Jg,hc,hi,Qi];have:=h.th.2;omega
theorem Ym{m:aa}(h:bo m){n:Int}(ha:iR m n=true):∃e∈m.au,n<eA e:=by
 refine Classical.byContradiction fun hno=> ?_
 have hz:Dk m n=0:=by
  refine Cv fun k=> ?_
  unfold Dk;rw[xm,Nat.zero_testBit,List.any_eq_false];intro e he;have:¬n<eA e:=fun hlt=>hno ⟨e,he,hlt⟩
  simp[this]
 unfold iR vK at ha;rw[hz,Qm]at ha
 have hown:mm (gy m.al.toNat m.ak (bh m)) m.al.toNat=m.ak:=by
  unfold mm;rw[HA h.ev.aB.2 m.ak (bh m) h.ev.aB.2,Qr rfl];rfl
 rw[hown,acY h.aL (fun k hk=>by rw[B7 (by omega)];simp[hk])]at ha
 cases ha.2
theorem VN{m:aa}(h:bo m)(h1:m.aI=1)(hc:m.ax=bY\/df m.ax)(hh:m.au≠[]\/m.ba≠fE\/m.ax≠bY):1<=(dI m).size/\(dI m).size<=200:=by
 unfold dI;split
 ·rename_i hz;rcases hc with e|e
  ·rw[e,bP]at hz;cases hz
  ·exact e.2.2
 ·rename_i hz;have hz:aF m.ax=true:=by simpa using hz
  rw[Qs (fun h=>h h1)]
  split
  ·rename_i hp;refine⟨?_,h.sz⟩;rcases Nat.eq_zero_or_pos m.ba.size with e|e
   ·exfalso;apply hp;have:m.ba.data=#[]:=Array.eq_empty_of_size_eq_zero e
    cases hm:m.ba with
    |mk d=>rw[hm]at this;simp only at this;rw[this];rfl
   ·exact e
  ·rename_i hp
   have hne:m.au≠[]:=by
    rcases hh with e|e|e
    ·exact e
    ·exact absurd e hp
    ·exact absurd (xV.1 hz) e
   have hm:=XO (z:=bY) (l:=m.au.map (·.ab)) (by simpa using hne)
   obtain⟨e,he,heq⟩:=QP.1 hm;rw[<-heq];exact Kh (h.hv e he).1
theorem ZU{e:ae}(hv:aW e=true):1<=eA e/\(eA e<=1000\/eA e=1000000):=by
 unfold eA;split
 ·exact⟨by decide,.inr rfl⟩
 ·rename_i h3;have hv':=hv;unfold aW gW at hv';rw[Qm,Qm]at hv';have hb:=hv'.2
  have gof:∀{b:ai},finite b=true->1<=b.aj/\b.aj<=1000:=by
   intro b hb;unfold finite at hb;rw[Qm,Qi]at hb;have:=(Wq hb.1 hb.2);exact⟨this.1,this.2.1⟩
  by_cases h1:e.bF=1
  ·rw[Qr h1]at hb;unfold gX at hb;simp only[Qm]at hb;have:=gof hb.1.1.1.1.1.1.1.1;exact⟨this.1,.inl this.2⟩
  ·rw[Qs h1]at hb
   by_cases h2:e.bF=2
   ·rw[Qr h2]at hb;unfold uO at hb;simp only[Qm]at hb;have:=gof hb.1.1.1.1.1;exact⟨this.1,.inl this.2⟩
   ·rw[Qs h2,Qs h3]at hb;cases hb
theorem Z2(m:aa):gU m=1000000\/(m.ab.aj<gU m/\gU m<1000000/\iR m (gU m)=false/\∃e∈m.au,gU m=eA e):=by
 unfold gU
 suffices key:∀(l:List ae),(∀e∈l,e∈m.au)->∀s,(s=1000000\/(m.ab.aj<s/\s<1000000/\iR m s=false/\∃e∈m.au,s=eA e))->
   (l.foldl (my m) s=1000000\/(m.ab.aj<l.foldl (my m) s/\l.foldl (my m) s<1000000/\iR m (l.foldl (my m) s)=false/\∃e∈m.au,l.foldl (my m) s=eA e))from key _ (fun e he=>he) _ (.inl rfl)
 intro l
 induction l with
 |nil=>intro _ s hs;exact hs
 |cons x l ih=>
  intro hm s hs;rw[QU];refine ih (fun e he=>hm e (Qy _ he)) _ ?_
  unfold my;split
  ·rename_i hc;exact .inr ⟨hc.1,by rcases hs with e|e<;>omega,hc.2.2,x,hm x Qx,rfl⟩
  ·exact hs
theorem IS{m:aa}(h:bo m)(hb:0<=m.ab.aj/\m.ab.aj<=1000):m.ab.aj<=bD m.ab.aj (dF (gU m) 1000)/\bD m.ab.aj (dF (gU m) 1000)<=1000/\1<=bD m.ab.aj (dF (gU m) 1000)/\
  (bD m.ab.aj (dF (gU m) 1000)=m.ab.aj->m.ab.aj=1000)/\bD m.ab.aj (dF (gU m) 1000)=dF (gU m) 1000:=by
 have hmin:dF (gU m) 1000<=1000/\1<=dF (gU m) 1000/\(m.ab.aj<dF (gU m) 1000\/dF (gU m) 1000=1000):=by
  rcases Z2 m with e|⟨g1,g2,_,x,hx,g4⟩
  ·rw[e];exact⟨by decide,by decide,.inr (by decide)⟩
  ·have hc:=ZU (h.hv x hx).1;rw[<-g4]at hc;have:gU m<=1000:=by omega
   have e:dF (gU m) 1000=gU m:=by unfold dF;split<;>omega
   rw[e];omega
 unfold bD;split<;>omega
theorem OB{m:aa}(h:bo m)(h1:P0 m\/P1 m)(ha:iR m m.ab.aj=true):P1 (fm m):=by
 have hph:m.aI=1:=by rcases h1 with h|h<;>exact h.aT
 have hbc:0<=m.ab.aj/\m.ab.aj<=1000:=by
  rcases h1 with h|h
  ·rw[h.aQ];decide
  ·have:=h.aQ;exact⟨by have:=this.1;omega,this.2.1⟩
 obtain⟨c1,c2,c3,_⟩:=IS h hbc;obtain⟨e0,he0,_⟩:=Ym h ha
 have hconf:m.ax=bY\/df m.ax:=by
  rcases h1 with h|h
  ·exact .inl h.dS
  ·exact h.dS.imp id (·.1)
 have hv:=VN h hph hconf (.inl (List.ne_nil_of_mem he0));unfold fm;rw[Qs (by rw[hph,ha];decide)]
 have hnv:nO m=dI m:=Qr hph;rw[hnv];generalize hn:bD m.ab.aj (dF (gU m) 1000)=n at c1 c2 c3 ⊢
 have hpo:tj m.ao m.ay:=by
  rcases h1 with h|h
  ·exact⟨.inl h.dB,.inl h.bV⟩
  ·exact h.gX
 refine⟨hph,⟨c3,c2,hv.1,hv.2⟩,hpo.1,hpo.2,?_,?_,?_,?_⟩
 ·rcases h1 with h|h
  ·exact .inl h.dS
  ·exact h.dS
 ·show bx ⟨n,dI m⟩ m.ax=false;rcases hconf with e|e
  ·rw[e]
   cases hl:bx ⟨n,dI m⟩ bY with
   |false=>rfl
   |true=>have:=iW hl;have h0:(bY:ai).aj=0:=rfl;simp only at this;omega
  ·have hvc:dI m=m.ax.Value:=by unfold dI;rw[Qr e.nz]
   rw[Ge (show(⟨n,dI m⟩:ai).Value=m.ax.Value from hvc),Qj]
   rcases h1 with h|h
   ·exact absurd h.dS (LI e)
   ·have:=Ld h.up;simp only;omega
 ·rcases h1 with h|h<;>exact h.bU
 ·show(if dI m=m.ab.Value then m.aS else 0)=0\/(1<=(if dI m=m.ab.Value then m.aS else 0)/\_<=_/\mX m.ao m.ay (dI m) (if dI m=m.ab.Value then m.aS else 0)=false)
  split
  ·rename_i hve;rcases h1 with h|h
   ·exact .inl h.low
   ·rcases h.low with e|⟨g1,g2,g3⟩
    ·exact .inl e
    ·refine .inr ⟨g1,?_,by rw[hve];exact g3⟩
     have:fo {m with aS:=m.aS,ab:=⟨n,dI m⟩}=fo m:=by
      unfold fo bM;simp only[hve]
     show m.aS<=fo {m with aS:=m.aS,ab:=⟨n,dI m⟩}
     rw[this];exact g2
  ·exact .inl rfl
theorem V3{m:aa}(h:bo m)(h2:P2 m):P2 (fm m):=by
 unfold fm;split
 ·exact h2
 ·obtain⟨c1,c2,c3,_⟩:=IS h ⟨by have:=h2.aQ.1;omega,h2.aQ.2.1⟩
  have hnv:nO m=m.ab.Value:=Qs (by rw[h2.aT];decide)
  rw[hnv,Qr rfl];exact⟨h2.aT,⟨c3,c2,h2.aQ.2.2⟩,h2.dB,h2.bV,h2.dS,h2.range⟩
theorem PU{m:aa}(h:bo m):bo (fm m):=by
 have hid:m.aI=3\/iR m m.ab.aj=false->fm m=m:=fun hc=>Qr hc
 cases ha:iR m m.ab.aj with
 |false=>rw[hid (.inr ha)];exact h
 |true=>
  refine DT h (AZ m).all ?_;rcases h.body with h0|h1|h2|h3
  ·exact .inr (.inl (OB h (.inl h0) ha))
  ·exact .inr (.inl (OB h (.inr h1) ha))
  ·exact .inr (.inr (.inl (V3 h h2)))
  ·rw[hid (.inl h3.aT)];exact .inr (.inr (.inr h3))
end
section
theorem lexLt{a a' b b' B:Nat}(hb:b<B)(h:a<a'):a*B+b<a'*B+b':=by
 have h1:(a+1)*B<=a'*B:=Qq63 B h;rw[Qq73]at h1;omega
theorem AH{a a' b b' B:Nat}(h:a=a')(hb:b<b'):a*B+b<a'*B+b':=by rw[h];omega
theorem Gd{a b A B:Nat}(ha:a<A)(hb:b<B):a*B+b<A*B:=by
 have h1:(a+1)*B<=A*B:=Qq63 B ha;rw[Qq73]at h1;omega
theorem df.sm{b:ai}(h:df b):Sm b:=⟨by have:=h.1;omega,h.2.1,h.2.2.2⟩
theorem Zp:Sm bY:=⟨by decide,by decide,by decide⟩
theorem sy{b:ai}(h:b=bY\/df b):Sm b:=by
 rcases h with rfl|h
 ·exact Zp
 ·exact h.sm
theorem Pf{b:ai}(h:df b):ou bY<ou b:=uA Zp h.sm ((yb _ _).2 (.inl h.1))
 def t1(m:aa):Nat:=2*m.ab.aj.toNat+(if m.ab.Value=nO m then 1 else 0)
 def pq(m:aa):Nat:=ou m.ao*WB+ou m.ay
 def r1(m:aa):Nat:=(pq m*WB+ou m.ax)*2002+t1 m
def K1:Nat:=(WB*WB)*WB*2002
 def r2(m:aa):Nat:=(((m.bf.toNat*1001+(1000 - m.aS).toNat)*WB+ou m.ao)*WB+ou m.ax)*1001+m.ab.aj.toNat
def K2:Nat:=((1001*1001)*WB*WB)*1001
 def jX(m:aa):Nat:=if m.aI=1 then r1 m else if m.aI=2 then K1+r2 m else K1+K2
def AF(m:aa):Prop:=(m.ao=bY\/df m.ao)/\(m.ay=bY\/df m.ay)/\(m.ax=bY\/df m.ax)/\(m.ab=bY\/df m.ab)
theorem P0.ok{m:aa}(h:P0 m):AF m:=⟨.inl h.dB,.inl h.bV,.inl h.dS,.inl h.aQ⟩
theorem P1.ok{m:aa}(h:P1 m):AF m:=⟨h.dB,h.bV.imp id (·.1),h.dS.imp id (·.1),.inr h.aQ⟩
theorem P2.ok{m:aa}(h:P2 m):AF m:=⟨.inr h.dB.1,.inl h.bV,h.dS.imp id (·.1),.inr h.aQ⟩
theorem WZ{m:aa}(h:AF m):t1 m<2002:=by
 have:m.ab.aj<=1000:=by
  rcases h.2.2.2 with e|e
  ·rw[e];decide
  ·exact e.2.1
 unfold t1;split<;>omega
theorem agB{m:aa}(h:AF m):pq m<WB*WB:=Gd (pQ (sy h.1)) (pQ (sy h.2.1))
theorem Xs{m:aa}(h:AF m):r1 m<K1:=Gd (Gd (agB h) (pQ (sy h.2.2.1))) (WZ h)
theorem P2.bU{m:aa}(h:P2 m):m.bf<=1000:=by have:=h.range.2.2;have:=h.dB.1.2.1;omega
theorem aco{m:aa}(h:P2 m):r2 m<K2:=by
 have h1:=h.range;have h2:=h.bU;refine Gd (Gd (Gd (Gd (A:=1001) ?_ ?_) (pQ h.dB.1.sm)) (pQ (sy h.ok.2.2.1))) ?_
 ·omega
 ·omega
 ·have:=h.aQ.2.1;omega
theorem yy{m:aa}(h:m.aI=1):jX m=r1 m:=Qr h
theorem yx{m:aa}(h:m.aI=2):jX m=K1+r2 m:=by unfold jX;rw[Qs (by omega),Qr h]
theorem YR{m:aa}(h:m.aI=3):jX m=K1+K2:=by unfold jX;rw[Qs (by omega),Qs (by omega)]
theorem VV{m:aa}(h:bo m):jX m<=K1+K2:=by
 rcases h.body with h0|h1|h2|h3
 ·rw[yy h0.aT];have:=Xs h0.ok;omega
 ·rw[yy h1.aT];have:=Xs h1.ok;omega
 ·rw[yx h2.aT];have:=aco h2;omega
 ·rw[YR h3.aT];exact QI _
theorem vN.up_{p q b p' q':ai}(h:tj p q)(hb:b=bY\/df b)(hj:vN p q b p' q'):(p'=p/\q'=q)\/ou p*WB+ou q<ou p'*WB+ou q':=by
 have hok:=hj.ok h hb;have hp:=sy h.1;have hq:Sm q:=sy (h.2.imp id (·.1))
 cases hj with
 |same=>exact .inl ⟨rfl,rfl⟩
 |first h1 h2=>
  subst h1 h2;rcases hb with e|e
  ·exact .inl ⟨e,rfl⟩
  ·exact .inr (lexLt (pQ hq) (Pf e))
 |up h1 hl hc=>exact .inr (lexLt (pQ hq) (uA hp (sy hb) hl))
 |CP h1 hl hc=>exact .inr (lexLt (pQ hq) (uA hp (sy hb) hl))
 |under h1 hl hc hq'=>
  rcases hq' with e|e
  ·subst e;rcases hb with e2|e2
   ·exact .inl ⟨rfl,e2⟩
   ·exact .inr (AH rfl (Pf e2))
  ·exact .inr (AH rfl (uA hq (sy hb) e))
theorem Ac{m m':aa}(he:ib m m')(h1:m'.aI=m.aI)(h2:m'.ab=m.ab)(h3:m'.ao=m.ao)(h4:m'.ay=m.ay)(h5:m'.ax=m.ax)(h6:m'.aS=m.aS)(h7:m'.bf=m.bf):m'=m:=by
 obtain⟨e1,e2,e3,e4,e5,e6⟩:=he;cases m;cases m';simp only at*;subst e1 e2 e3 e4 e5 e6 h1 h2 h3 h4 h5 h6 h7;rfl
theorem SQ{m m':aa}(he:ib m m')(h:AB m m'=true):m'=m:=by
 unfold AB at h;simp only[Qm,Qi,PG]at h;obtain⟨⟨⟨⟨⟨⟨h1,h2⟩,h3⟩,h4⟩,h5⟩,h6⟩,h7⟩:=h;exact Ac he h1.symm h2.symm h3.symm h4.symm h5.symm h6.symm h7.symm
theorem vk(m:aa):AB m m=true:=by
 unfold AB;simp only[decide_true,PG.2 rfl,Bool.and_self]
theorem agA{m m':aa}(h:AF m)(hlt:pq m<pq m'):r1 m<r1 m':=lexLt (WZ h) (lexLt (pQ (sy h.2.2.1)) hlt)
theorem ahX{m m':aa}(h:AF m)(hpq:pq m=pq m')(hlt:ou m.ax<ou m'.ax):r1 m<r1 m':=lexLt (WZ h) (AH hpq hlt)
theorem ahW{m m':aa}(hpq:pq m=pq m')(hc:m.ax=m'.ax)(hlt:t1 m<t1 m'):r1 m<r1 m':=AH (by rw[hpq,hc]) hlt
theorem MH{m:aa}(h1:P1 m):rD m m.ao m.ay=m.aS:=by
 unfold rD;split
 ·rename_i hc;rcases h1.low with e|⟨g1,g2,g3⟩
  ·exact absurd e hc.2
  ·rw[Zu g1 g3,Qs (by omega)]
 ·rfl
theorem ahJ{m:aa}(h:bo m):cQ m=m\/jX m<jX (cQ m):=by
 have hid:m.aI=3\/aF m.ab=true->cQ m=m:=fun hc=>Qr hc
 rcases h.body with h0|h1|h2|h3
 ·exact .inl (hid (.inr (by rw[h0.aQ];exact bP)))
 ·have hj:=(Jo h h1.gX).up_ h1.gX (zg h);have he:cQ m={m with ao:=(c7 m.ao m.ay (dH (eE m))).1,ay:=(c7 m.ao m.ay (dH (eE m))).2,aS:=rD m (c7 m.ao m.ay (dH (eE m))).1 (c7 m.ao m.ay (dH (eE m))).2}:=Qs (by rw[h1.aT,h1.aQ.nz];decide)
  rcases hj with⟨e1,e2⟩|hlt
  ·left;rw[he,e1,e2,MH h1]
  ·right;rw[yy h1.aT,yy (by rw[he];exact h1.aT)]
   exact agA h1.ok (by rw[he];exact hlt)
 ·have hj:=(Jo h h2.gX).up_ h2.gX (zg h);have hk:=V2 h h2;have he:cQ m={m with ao:=(c7 m.ao m.ay (dH (eE m))).1,ay:=(c7 m.ao m.ay (dH (eE m))).2,aS:=rD m (c7 m.ao m.ay (dH (eE m))).1 (c7 m.ao m.ay (dH (eE m))).2}:=Qs (by rw[h2.aT,h2.aQ.nz];decide)
  have hlow:∀p q,rD m p q=m.aS:=fun p q=>Qs (fun h=>by have:=h.1;rw[h2.aT]at this;cases this)
  rcases hj with⟨e1,e2⟩|hlt
  ·left;rw[he,e1,e2,hlow]
  ·right;rw[yx h2.aT,yx (by rw[he];exact h2.aT)]
   have e2:(c7 m.ao m.ay (dH (eE m))).2=m.ay:=by
    have h3:=hk.2.2;rw[he]at h3;exact h3.trans h2.bV.symm
   have hp:ou m.ao<ou (cQ m).ao:=by
    rw[he];simp only;rw[e2]at hlt;refine Nat.lt_of_not_le fun hle=> ?_
    have:=Qq63 WB hle;omega
   have e3:(cQ m).bf=m.bf/\(cQ m).aS=m.aS/\(cQ m).ax=m.ax/\(cQ m).ab=m.ab:=by rw[he];exact⟨rfl,hlow _ _,rfl,rfl⟩
   have:r2 m<r2 (cQ m):=by
    unfold r2;rw[e3.1,e3.2.1,e3.2.2.1,e3.2.2.2];exact lexLt (by have:=h2.aQ.2.1;omega) (lexLt (pQ (sy h2.ok.2.2.1)) (AH rfl hp))
   omega
 ·exact .inl (hid (.inl h3.aT))
theorem ahI{m:aa}(h:bo m):fR m=m\/jX m<jX (fR m):=by
 rcases h.body with h0|h1|h2|h3
 ·exact .inl (uo (.inr (.inl (by rw[h0.aQ];exact bP))))
 ·obtain⟨g1,g2⟩:=OA h h1;rcases g2 with e|⟨e1,e2,e3,_⟩
  ·exact .inl e
  ·right;rw[yy h1.aT,yy g1.aT];exact ahX h1.ok (by unfold pq;rw[e1,e2]) (uA (sy h1.ok.2.2.1) (sy g1.ok.2.2.1) e3)
 ·exact .inl (uo (.inl (by rw[h2.aT];decide)))
 ·exact .inl (uo (.inl (by rw[h3.aT];decide)))
theorem MW(a b:Int):(bD a b=a/\b<=a)\/(bD a b=b/\a<b):=by unfold bD;split<;>omega
theorem ox{a b:ai}(h1:a.aj=b.aj)(h2:a.Value=b.Value):a=b:=by cases a;cases b;simp only at h1 h2;rw[h1,h2]
theorem ahM{m:aa}(h:bo m):fD m=m\/jX m<jX (fD m):=by
 have hC:m.aI=1->AF m->fD m=m\/jX m<jX (fD m):=by
  intro hp hok
  by_cases hk:(fu m).2.2.2.1=true
  ·right;have e:fD m=IP m (fu m).1 (fu m).2.1 (fu m).2.2.1:=by unfold fD;rw[Qr hp,Qr hk]
   rw[yy hp,yx (by rw[e];rfl)]
   have:=Xs hok;omega
  ·left;unfold fD;rw[Qr hp,Qs hk]
 rcases h.body with h0|h1|h2|h3
 ·exact hC h0.aT h0.ok
 ·exact hC h1.aT h1.ok
 ·have e:fD m=zO m (ez m).1 (ez m).2:=by unfold fD;rw[Qs (by rw[h2.aT];decide),Qr h2.aT]
  obtain⟨g1,g2,g3,g4⟩:=Um h h2;have h2':=XX h2 g1 g2 g3;rw[e]
  have hr:m.bf.toNat<=1000/\(1000 - m.aS).toNat<1001/\m.ab.aj.toNat<1001:=by
   have:=h2.bU;have:=h2.range;have:=h2.aQ.2.1;omega
  have hcB:m.ax=(zO m (ez m).1 (ez m).2).ax\/ou m.ax<ou (zO m (ez m).1 (ez m).2).ax:=by
   rcases h2.dS with e|⟨hf,hv⟩
   ·right;rw[e]
    exact Pf (h2'.dS.resolve_left (fun e=>by
     have h1:=h2'.range;have h3:(zO m (ez m).1 (ez m).2).ax.aj=bD m.ax.aj (ez m).2:=rfl;rw[e]at h3;have h4:=MW m.ax.aj (ez m).2;have h5:(bY:ai).aj=0:=rfl
     omega)).1
   ·rcases MW m.ax.aj (ez m).2 with⟨e1,_⟩|⟨e1,e2⟩
    ·exact .inl (ox e1.symm hv)
    ·right;refine uA hf.sm (sy h2'.ok.2.2.1) ((yb _ _).2 (.inl ?_));show m.ax.aj<bD m.ax.aj (ez m).2;omega
  have hpB:m.ao=(zO m (ez m).1 (ez m).2).ao\/ou m.ao<ou (zO m (ez m).1 (ez m).2).ao:=by
   rcases MW m.ao.aj (ez m).2 with⟨e1,_⟩|⟨e1,e2⟩
   ·exact .inl (ox e1.symm rfl)
   ·right;refine uA h2.dB.1.sm h2'.dB.1.sm ((yb _ _).2 (.inl ?_));show m.ao.aj<bD m.ao.aj (ez m).2;omega
  have hbB:m.ab=(zO m (ez m).1 (ez m).2).ab\/m.ab.aj<(zO m (ez m).1 (ez m).2).ab.aj:=by
   rcases MW m.ab.aj (ez m).2 with⟨e1,_⟩|⟨e1,e2⟩
   ·exact .inl (ox e1.symm rfl)
   ·right;show m.ab.aj<bD m.ab.aj (ez m).2;omega
  rw[yx h2.aT,yx h2'.aT];have hPs:=pQ h2.dB.1.sm;have hCs:=pQ (sy h2.ok.2.2.1);have hHi:(zO m (ez m).1 (ez m).2).bf=(ez m).2:=rfl;have hLo:(zO m (ez m).1 (ez m).2).aS=(ez m).1:=rfl;have fin:r2 m<r2 (zO m (ez m).1 (ez m).2)->K1+r2 m<K1+r2 (zO m (ez m).1 (ez m).2):=fun h=>by omega
  have hrng:=h2.range;rcases g4 with⟨e1,e2⟩|e1
  ·rcases Int.lt_or_eq_of_le e2 with e3|e3
   ·
    refine .inr (fin (lexLt hr.2.2 (lexLt hCs (lexLt hPs (AH ?_ ?_)))))
    ·rw[hHi,e1]
    ·rw[hLo];omega
   ·rcases hpB with hp|hp
    ·rcases hcB with hc|hc
     ·rcases hbB with hb|hb
      ·left;exact Ac ⟨rfl,rfl,rfl,rfl,rfl,rfl⟩ rfl hb.symm hp.symm rfl hc.symm e3 e1
      ·refine .inr (fin (AH ?_ (by have:=h2.aQ.1;omega)))
       rw[hHi,hLo,<-hp,<-hc,e1,e3]
     ·refine .inr (fin (lexLt hr.2.2 (AH ?_ hc)));rw[hHi,hLo,<-hp,e1,e3]
    ·refine .inr (fin (lexLt hr.2.2 (lexLt hCs (AH ?_ hp))));rw[hHi,hLo,e1,e3]
  ·refine .inr (fin (lexLt hr.2.2 (lexLt hCs (lexLt hPs (lexLt hr.2.1 ?_)))));rw[hHi];omega
 ·left;unfold fD;rw[Qs (by rw[h3.aT];decide),Qs (by rw[h3.aT];decide)]
theorem ahL{m:aa}(h:bo m):ix m=m\/jX m<jX (ix m):=by
 by_cases hc:m.aI=2/\(mU m).2.2.1=true
 ·right;have e:ix m=JB m (mU m).1 (mU m).2.1:=Qr hc;rw[yx hc.1,YR (by rw[e];rfl)]
  rcases h.body with h0|h1|h2|h3
  ·have:=h0.aT;have:=hc.1;omega
  ·have:=h1.aT;have:=hc.1;omega
  ·have:=aco h2;omega
  ·have:=h3.aT;have:=hc.1;omega
 ·exact .inl (Qs hc)
theorem ahK{m:aa}(h:bo m):fm m=m\/jX m<jX (fm m):=by
 have hid:m.aI=3\/iR m m.ab.aj=false->fm m=m:=fun hc=>Qr hc
 cases ha:iR m m.ab.aj with
 |false=>exact .inl (hid (.inr ha))
 |true=>
  have hC:m.aI=1->AF m->0<=m.ab.aj/\m.ab.aj<=1000->fm m=m\/jX m<jX (fm m):=by
   intro hp hok hb;obtain⟨c1,c2,c3,c4,_⟩:=IS h hb;have e:fm m={m with aS:=if nO m=m.ab.Value then m.aS else 0,ab:=⟨bD m.ab.aj (dF (gU m) 1000),nO m⟩}:=Qs (by rw[hp,ha];decide)
   have hnv:nO (fm m)=nO m:=by
    unfold nO dI;rw[e];simp only[hp,Qt,not_true_eq_false,Qu,ne_eq]
   by_cases hs:bD m.ab.aj (dF (gU m) 1000)=m.ab.aj/\nO m=m.ab.Value
   ·left;rw[e];refine Ac ⟨rfl,rfl,rfl,rfl,rfl,rfl⟩ rfl (ox hs.1 hs.2) rfl rfl rfl ?_ rfl;exact Qr hs.2
   ·right;rw[yy hp,yy (by rw[e];exact hp)]
    refine ahW (by rw[e];rfl) (by rw[e]) ?_
    unfold t1;rw[hnv];have hb':(fm m).ab=⟨bD m.ab.aj (dF (gU m) 1000),nO m⟩:=by rw[e]
    rw[hb',Qr rfl];simp only
    by_cases hv:nO m=m.ab.Value
    ·rw[Qr hv.symm];have:bD m.ab.aj (dF (gU m) 1000)≠m.ab.aj:=fun e=>hs ⟨e,hv⟩
     omega
    ·rw[Qs (fun e=>hv e.symm)]
     omega
  rcases h.body with h0|h1|h2|h3
  ·exact hC h0.aT h0.ok (by rw[h0.aQ];decide)
  ·exact hC h1.aT h1.ok ⟨by have:=h1.aQ.1;omega,h1.aQ.2.1⟩
  ·obtain⟨c1,c2,c3,c4,_⟩:=IS h ⟨by have:=h2.aQ.1;omega,h2.aQ.2.1⟩
   have hnv:nO m=m.ab.Value:=Qs (by rw[h2.aT];decide)
   have e:fm m={m with ab:=⟨bD m.ab.aj (dF (gU m) 1000),m.ab.Value⟩}:=by
    unfold fm;rw[Qs (by rw[h2.aT,ha];decide),hnv,Qr rfl]
   rw[e]
   by_cases hs:bD m.ab.aj (dF (gU m) 1000)=m.ab.aj
   ·left;exact Ac ⟨rfl,rfl,rfl,rfl,rfl,rfl⟩ rfl (ox hs rfl) rfl rfl rfl rfl rfl
   ·right;rw[yx h2.aT,yx (show({m with ab:=⟨bD m.ab.aj (dF (gU m) 1000),m.ab.Value⟩}:aa).aI=2 from h2.aT)]
    have:r2 m<r2 {m with ab:=⟨bD m.ab.aj (dF (gU m) 1000),m.ab.Value⟩}:=by
     refine AH rfl ?_;have:=h2.aQ.1;show m.ab.aj.toNat<(bD m.ab.aj (dF (gU m) 1000)).toNat;omega
    omega
  ·exact .inl (hid (.inl h3.aT))
end
section
def ahd(p:ae->Bool):Prop:=∀e s,p {e with aE:=s}=p e
structure Alike (l l':List ae):Prop where
 view:∀aB,aB<10->∀t,gy aB t l=gy aB t l'
 VM:∀p,ahd p->dE p (bW l)=dE p (bW l')
 bal:eR l=eR l'
 val:gk l=gk l'
 jB:∀v,bs l v=bs l' v
section
variable {l l' : List ae} (h : Alike l l')
 include h
theorem Alike.acc{aB:Nat}(hn:aB<10)(t:af):lj aB t l=lj aB t l':=by
 funext b
 unfold lj;rw[h.view aB hn t,h.VM _ (fun e s=>rfl),h.VM _ (fun e s=>rfl)]
theorem Alike.dS{aB:Nat}(hn:aB<10)(t:af):jY aB t l=jY aB t l':=by
 funext b
 unfold jY;rw[h.view aB hn t,h.VM _ (fun e s=>rfl)]
theorem Alike.ready{aB:Nat}(hn:aB<10)(t:af):lQ aB t l=lQ aB t l':=by
 funext v lo hi
 unfold lQ;rw[h.view aB hn t,h.VM _ (fun e s=>rfl),h.VM _ (fun e s=>rfl)]
theorem Alike.sure{aB:Nat}(hn:aB<10)(t:af):sQ aB t l=sQ aB t l':=by
 funext v lo hi
 unfold sQ;rw[h.view aB hn t,h.VM _ (fun e s=>rfl)]
theorem Alike.next{aB:Nat}(hn:aB<10)(t:af)(p q:ai)(v:ByteArray):jq aB t l p q v=jq aB t l' p q v:=by
 unfold jq;rw[h.bal,h.acc hn t]
theorem Alike.bU{aB:Nat}(hn:aB<10)(t:af)(a:ai):xa aB t l a=xa aB t l' a:=by
 unfold xa;rw[h.bal,h.dS hn t]
theorem Alike.Ar(x:ByteArray->Int->Int->Bool)(p q:ai):gN x l p q=gN x l' p q:=by
 unfold gN;rw[h.val];congr 1
 funext s v
 rw[h.jB]
theorem Alike.first(x:ByteArray->Int->Int->Bool)(p q:ai)(s:Bool×ai):oY x l p q s=oY x l' p q s:=by
 unfold oY;rw[h.jB]
end
theorem N8{l l':List ae}(hl:qZ l)(hn:l.length<=1000)(hl':qZ l')(hn':l'.length<=1000)
  (h1:∀x,(∃e∈l,x∈said e/\aF x=false)↔∃e∈l',x∈said e/\aF x=false) (h2:∀x,(∃e∈l,aW e=true/\x=e.ab.Value)↔∃e∈l',aW e=true/\x=e.ab.Value)
  (h3:∀v x,x∈ends v l↔x∈ends v l'):eR l=eR l'/\gk l=gk l'/\∀v,bs l v=bs l' v:=by
 obtain⟨_,a2,_,a4⟩:=mL hl.aL hn;obtain⟨_,b2,_,b4⟩:=mL hl'.aL hn';obtain⟨_,c2,_,c4⟩:=sx hl.aL hn;obtain⟨_,d2,_,d4⟩:=sx hl'.aL hn';refine⟨Az.flip.unique a2 b2 fun x=> ?_,ic.unique c2 d2 fun x=> ?_,fun v=> ?_⟩
 ·rw[a4,b4];exact h1 x
 ·rw[c4,d4];exact h2 x
 ·obtain⟨_,e2,_,e4⟩:=iQ hl.aL hn v;obtain⟨_,f2,_,f4⟩:=iQ hl'.aL hn' v;refine Cq.unique (e2.imp fun h=>Qg h) (f2.imp fun h=>Qg h) fun x=> ?_
  rw[e4,f4];exact h3 v x
theorem Yl{l l':List ae}(hl:qZ l)(hn:l.length<=1000)(ha:AV l)(h:l.Perm l'):Alike l l':=by
 have hl':qZ l':=⟨by rw[<-h.length_eq];exact hl.len,fun e he=>hl.aL e (h.mem_iff.2 he)⟩
 have hm:∀(P:ae->Prop),(∃e∈l,P e)↔∃e∈l',P e:=fun P=>⟨fun⟨e,he,hp⟩=>⟨e,h.mem_iff.1 he,hp⟩,fun⟨e,he,hp⟩=>⟨e,h.mem_iff.2 he,hp⟩⟩
 obtain⟨a,b,c⟩:=N8 hl hn hl' (by rw[<-h.length_eq];exact hn) (fun x=>hm _) (fun x=>hm _) (fun v x=>by rw[Ab,Ab];exact hm _)
 exact⟨fun aB hn t=>WT hn t ha h,fun p _=>YA (Vj h) p,a,b,c⟩
theorem aab{l:List ae}(hl:qZ l)(hn:l.length<=1000)(f:ae->ae)(hf:∀e∈l,f e={e with aE:=(f e).aE}/\aW (f e)=aW e):Alike l (l.map f):=by
 have e1:∀e∈l,(f e).al=e.al/\(f e).ak=e.ak/\(f e).ab=e.ab/\(f e).bF=e.bF/\(f e).ao=e.ao/\(f e).ay=e.ay/\(f e).aS=e.aS/\(f e).bf=e.bf:=fun e he=>by
  have:=(hf e he).1;rw[this];exact⟨rfl,rfl,rfl,rfl,rfl,rfl,rfl,rfl⟩
 have hl':qZ (l.map f):=⟨by rw[QC];exact hl.len,fun e he=>by
  obtain⟨x,hx,rfl⟩:=QP.1 he
  rw[(e1 x hx).2.1];exact hl.aL x hx⟩
 have hm:∀(P:ae->Prop),(∀e∈l,P e↔P (f e))->((∃e∈l,P e)↔∃e∈l.map f,P e):=fun P hP=>⟨fun⟨e,he,hp⟩=>⟨f e,QP.2 ⟨e,he,rfl⟩,(hP e he).1 hp⟩,fun⟨e,he,hp⟩=>by
  obtain⟨x,hx,rfl⟩:=QP.1 he
  exact⟨x,hx,(hP x hx).2 hp⟩⟩
 have hsaid:∀e∈l,said (f e)=said e:=fun e he=>by
  obtain⟨g1,g2,g3,g4,g5,g6,g7,g8⟩:=e1 e he;unfold said at_
  rw[(hf e he).2,g4,g3,g5,g6]
 have hbnd:∀v,∀e∈l,iI v (f e)=iI v e:=fun v e he=>by
  obtain⟨g1,g2,g3,g4,g5,g6,g7,g8⟩:=e1 e he;unfold iI;simp only[(hf e he).2,g4,g3,g7,g8]
 obtain⟨a,b,c⟩:=N8 hl hn hl' (by rw[QC];exact hn) (fun x=>hm _ fun e he=>by rw[hsaid e he]) (fun x=>hm _ fun e he=>by rw[(hf e he).2,(e1 e he).2.2.1])
  (fun v x=>by rw[Ab,Ab];exact hm _ fun e he=>by rw[hbnd v e he,(e1 e he).2.2.2.2.2.2.1,(e1 e he).2.2.2.2.2.2.2])
 refine⟨fun aB hn t=> ?_,fun p hp=> ?_,a,b,c⟩
 ·unfold gy;generalize (List.replicate 10 gE).set aB ⟨true,t⟩=ms
  suffices key:∀(k:List ae) (ms:List aR),(∀e∈k,e∈l)->k.foldl dC ms=(k.map f).foldl dC ms from key l ms fun e he=>he
  intro k
  induction k with
  |nil=>intro ms _;rfl
  |cons x k ih=>
   intro ms hk;have hx:=hk x Qx
   have:dC ms (f x)=dC ms x:=by
    unfold dC;rw[(hf x hx).2,(e1 x hx).1,(e1 x hx).2.1]
   rw[QD,QU,QU,this];exact ih _ fun e he=>hk e (Qy _ he)
 ·unfold bW
  suffices key:∀(k:List ae),(∀e∈k,e∈l)->dE p (k.filter aW)=dE p ((k.map f).filter aW)from key l fun e he=>he
  intro k
  induction k with
  |nil=>intro _;rfl
  |cons x k ih=>
   intro hk;have hx:=hk x Qx
   have hpx:p (f x)=p x:=by
    rw[(hf x hx).1];exact hp x _
   rw[QD,List.filter_cons,List.filter_cons,(hf x hx).2];split
   ·rw[dE,dE,hpx,(e1 x hx).1,ih fun e he=>hk e (Qy _ he)]
   ·exact ih fun e he=>hk e (Qy _ he)
structure fT (m:aa):Prop where
 zero:aF m.ab=true->m.aE=0
 pos:aF m.ab=false->1<=m.aE
def Ia(m:aa):ae:=⟨m.al,m.bc,m.aE,m.ak,m.aI,m.ab,m.ao,m.ay,m.aS,if m.aI=1 then fo m else m.bf⟩
theorem A7(m:aa):eX m=some (Ia m):=by
 unfold eX Ia fo;simp only[aP,etas,cD,fM,Qa]
 by_cases h1:m.aI=1
 ·rw[Qg h1,Qr h1];cases aF m.ax<;>cases bM m.ax m.ab<;>rfl
 ·rw[Qh h1,Qs h1];rfl
theorem E3{m:aa}(h:bo m):Ia m=c5 m:=by
 unfold Ia c5;rcases h.body with h0|h1|h2|h3
 ·rw[Qr h0.aT,Qr h0.aT]
 ·rw[Qr h1.aT,Qr h1.aT]
 ·rw[Qs (by rw[h2.aT];decide),Qs (by rw[h2.aT];decide),Qr h2.aT,h2.bV]
 ·rw[Qs (by rw[h3.aT];decide),Qs (by rw[h3.aT];decide),Qs (by rw[h3.aT];decide),h3.bV,h3.dB]
theorem V9{m:aa}(hs:fT m)(hz:aF m.ab=false):ja m=c5 m:=by
 unfold ja
 have:bD (c5 m).aE 1=(c5 m).aE:=by
  have:=hs.pos hz;rw[Uo];unfold bD;split<;>omega
 rw[this]
def vr(m:aa):List ae:=if aF m.ab=true then m.au else m.au++[Ia m]
theorem Z0{l:List ae}(hl:l.length<=1000):fe l=some l:=by
 unfold fe;have h1:bb 176 (List.length ([]:List ae)+List.length l)=true:=br (by simp;omega)
 rw[h1]
 cases l with
 |nil=>simp
 |cons x l=>rfl
theorem H5{m:aa}(h:m.au.length<=100):du ⟨m⟩=some (vr m,⟨m⟩):=by
 unfold du vr;simp only[aa.eta,etas,ae.eta,aH.eta,cD,A7,Qa,Z0 (show m.au.length<=1000 by omega)]
 cases aF m.ab with
 |true=>rfl
 |false=>
  simp only[Ql,Qq,Qu];rw[br (by simp;omega)]
  rfl
theorem bo.apart{m:aa}(h:bo m):AV (bh m):=by
 have hs:∀a∈m.au,∀b∈m.au,a.al=b.al->a=b:=by
  have:=h.eV;revert this;generalize m.au=l;intro hp
  induction l with
  |nil=>intro a ha;cases ha
  |cons x l ih=>
   rw[Q4]at hp;intro a ha b hb e;rcases QA.1 ha with ha'|ha'<;>rcases QA.1 hb with hb'|hb'
   ·rw[ha',hb']
   ·have:=hp.1 b hb';rw[ha']at e;omega
   ·have:=hp.1 a ha';rw[hb']at e;omega
   ·exact ih hp.2 a ha' b hb' e
 intro a ha b hb e;rcases Av ha with ha|⟨_,rfl⟩<;>rcases Av hb with hb|⟨_,rfl⟩
 ·exact hs a ha b hb e
 ·exact absurd (e.trans (yf m)) (h.hv a ha).2.2.2
 ·exact absurd (e.symm.trans (yf m)) (h.hv b hb).2.2.2
 ·rfl
theorem PY{m:aa}(h:bo m)(hs:fT m):(bh m).Perm (vr m):=by
 unfold bh vr;split
 ·exact .refl _
 ·rename_i hz;rw[E3 h,<-V9 hs (by simpa using hz)]
  exact DY _ _
theorem mI{m:aa}(h:bo m)(hs:fT m):Alike (bh m) (vr m):=Yl h.ev.lZ.1 h.ev.lZ.2 h.apart (PY h hs)
theorem sA{m:aa}(h:bo m)(hs:fT m):qZ (vr m)/\(vr m).length<=1000:=by
 have hp:=PY h hs;have:=h.ev.lZ;exact⟨⟨by rw[<-hp.length_eq];exact this.1.len,fun e he=>this.1.aL e (hp.mem_iff.2 he)⟩,by rw[<-hp.length_eq];exact this.2⟩
section
variable {m : aa} (h : bo m) (hs : fT m)
 include h hs
theorem afk(p q:ai)(v:ByteArray):oP m.al m.ak (vr m) p q v=some (jq m.al.toNat m.ak (bh m) p q v):=by
 have:=ady h.ev.aB.2 h.ev.aL (sA h hs).1 (sA h hs).2 p q v
 rwa [h.ev.aB.1,<-(mI h hs).next h.ev.aB.2]at this
theorem afm(a:ai):lK m.al m.ak (vr m) a=some (xa m.al.toNat m.ak (bh m) a):=by
 have:=adB h.ev.aB.2 h.ev.aL (sA h hs).1 (sA h hs).2 a
 rwa [h.ev.aB.1,<-(mI h hs).bU h.ev.aB.2]at this
theorem adD:si m.al m.ak (vr m) m.ao m.ay=some (fu m):=by
 have hl:=sA h hs;have:=agd (S6 h.ev.aB.2 h.ev.aL hl.1) hl.1 hl.2 (look_eq h.ev.aB.2 h.ev.aL hl.1) m.ao m.ay;rw[h.ev.aB.1,<-(mI h hs).ready h.ev.aB.2,<-(mI h hs).Ar,<-(mI h hs).first]at this
 exact this
theorem agG:qJ m.al m.ak (vr m) m.ab.Value m.aS m.bf=some ((ez m).1,(ez m).2,()):=by
 have hl:=sA h hs;have:=aeO (S6 h.ev.aB.2 h.ev.aL hl.1) hl.1 hl.2 (look_eq h.ev.aB.2 h.ev.aL hl.1) m.ab.Value m.aS m.bf;rw[h.ev.aB.1,<-(mI h hs).ready h.ev.aB.2,<-(mI h hs).jB]at this;exact this
theorem agF:sj m.al m.ak (vr m) m.ab.Value=some (mU m):=by
 have hl:=sA h hs;have:=age (acV h.ev.aB.2 h.ev.aL hl.1) hl.1 hl.2 (look_eq h.ev.aB.2 h.ev.aL hl.1) m.ab.Value;rw[h.ev.aB.1,<-(mI h hs).sure h.ev.aB.2,<-(mI h hs).jB]at this;exact this
end
theorem PQ(v:ByteArray)(n:Int)(p q:ai):pw v n p q=some (k9 v n p q):=by
 unfold pw k9;generalize bD n 1=k
 have hst:∀(i:Nat) (x:ai) (k:Int),i<2->[p,q][i]?=some x->
   (fun(v1:Int×Int×Unit)=>
    bif (decide (v1.2.1<((List.length [p,q]:Nat):Int)))then
    aY (fun(v2:Int×Unit)=>some (Sum.inl (v2.1,(aA .i64 v1.2.1 (1:Int)),()))) fun j3=>
    Option.bind (idx [p,q] v1.2.1) fun x4=>
    Option.bind (gR x4) fun r5=>
    Option.bind (bif (!r5)then some true else Option.bind (eo x4 (ai.mk v1.1 v)) fun r6=>some (!r6)) fun b7=>
    bif b7 then j3 (v1.1,())
    else Option.bind (eo x4 (ai.mk x4.aj v)) fun r8=>
     bif r8 then j3 ((aA .i64 x4.aj (1:Int)),())else j3 (x4.aj,())
    else(Option.map Sum.inr (some v1.1):Option ((Int×Int×Unit)⊕Int))) (k,(i:Int),())=some (Sum.inl (wY v k x,((i+1:Nat):Int),())):=by
  intro i x k hi hx;have hd:decide ((i:Int)<((List.length [p,q]:Nat):Int))=true:=Qg (by simp;omega)
  have hw:aA .i64 (i:Int) 1=((i+1:Nat):Int):=bE (by omega) (by omega)
  have hx':idx [p,q] (i:Int)=some x:=by rw[bg];exact hx
  simp only[hd,hw,hx',Qk,aP,Qa,vb,tO];unfold wY
  cases hv:cO x with
  |false=>simp
  |true=>
   have hc:aA .i64 x.aj 1=x.aj+1:=by
    have:1<=x.aj/\x.aj<=1000000:=by
     simp only[cO,Qm,Qn,Qi]at hv;omega
    exact bE (by omega) (by omega)
   cases h1:eI x ⟨k,v⟩with
   |false=>simp
   |true=>cases h2:eI x ⟨x.aj,v⟩<;>simp[hc]
 refine(bj (hst 0 p k (by omega) rfl)).trans ((bj (hst 1 q _ (by omega) rfl)).trans (bw ?_))
 rfl
theorem abd(b:ai):(⟨dF b.aj 1000,b.Value⟩:ai)=dH b:=by
 unfold dF dH;split<;>rfl
section
variable {m : aa} (h : bo m) (hs : fT m)
 include h
theorem XB(hz:aF (eE m)=true):cQ m=m:=by
 have hid:m.aI=3\/aF m.ab=true->cQ m=m:=fun hc=>Qr hc
 have hj:c7 m.ao m.ay (dH (eE m))=(m.ao,m.ay):=by
  have:dH (eE m)=bY:=by rw[xV.1 hz];decide
  rw[this];exact Qr bP
 have he:¬(m.aI=3\/aF m.ab=true)->rD m m.ao m.ay=m.aS->cQ m=m:=by
  intro hc hl;unfold cQ;rw[Qs hc,hj];simp only;rw[hl]
 rcases h.body with h0|h1|h2|h3
 ·exact hid (.inr (by rw[h0.aQ];exact bP))
 ·exact he (by rw[h1.aT,h1.aQ.nz];decide) (MH h1)
 ·exact he (by rw[h2.aT,h2.aQ.nz];decide) (Qs (fun h=>by have:=h.1;rw[h2.aT]at this;cases this))
 ·exact hid (.inl h3.aT)
 include hs
theorem Xz:kY ⟨m⟩=some ((),⟨cQ m⟩):=by
 have hl:m.au.length<=100:=by have:=h.len;omega
 unfold kY;simp only[aa.eta,etas,aH.eta,cD,H5 hl,afk h hs,adp,PQ,A7,Qa,aP,abd]
 by_cases h3:m.aI=3\/aF m.ab=true
 ·have e:cQ m=m:=Qr h3;rw[e];rcases h3 with h3|h3
  ·rw[Qg h3];cases aF m.ab<;>rfl
  ·rw[h3];rfl
 ·have hz:aF m.ab=false:=by
   cases hz:aF m.ab with
   |true=>exact absurd (.inr hz) h3
   |false=>rfl
  have h3':¬m.aI=3:=fun e=>h3 (.inl e)
  rw[hz,Qh h3'];simp only[Ql,Qa]
  have hmain:∀v:ByteArray,v=DE m->(bif aF (jq m.al.toNat m.ak (bh m) m.ao m.ay v)then some ((),(⟨m⟩:aH))else
    Option.bind (bif decide (m.aI=1)then some (!decide (m.aS=0))else some false) fun b9=>
    bif b9 then
     bif decide ((Ia ⟨m.al,m.bc,m.aE,m.ak,m.aI,m.ab,(c7 m.ao m.ay (dH (jq m.al.toNat m.ak (bh m) m.ao m.ay v))).1,(c7 m.ao m.ay (dH (jq m.al.toNat m.ak (bh m) m.ao m.ay v))).2,m.ax,k9 m.ab.Value m.aS (c7 m.ao m.ay (dH (jq m.al.toNat m.ak (bh m) m.ao m.ay v))).1 (c7 m.ao m.ay (dH (jq m.al.toNat m.ak (bh m) m.ao m.ay v))).2,m.bf,m.ba,m.au⟩).bf<k9 m.ab.Value m.aS (c7 m.ao m.ay (dH (jq m.al.toNat m.ak (bh m) m.ao m.ay v))).1 (c7 m.ao m.ay (dH (jq m.al.toNat m.ak (bh m) m.ao m.ay v))).2)then
      some ((),(⟨⟨m.al,m.bc,m.aE,m.ak,m.aI,m.ab,(c7 m.ao m.ay (dH (jq m.al.toNat m.ak (bh m) m.ao m.ay v))).1,(c7 m.ao m.ay (dH (jq m.al.toNat m.ak (bh m) m.ao m.ay v))).2,m.ax,0,m.bf,m.ba,m.au⟩⟩:aH))
     else some ((),(⟨⟨m.al,m.bc,m.aE,m.ak,m.aI,m.ab,(c7 m.ao m.ay (dH (jq m.al.toNat m.ak (bh m) m.ao m.ay v))).1,(c7 m.ao m.ay (dH (jq m.al.toNat m.ak (bh m) m.ao m.ay v))).2,m.ax,k9 m.ab.Value m.aS (c7 m.ao m.ay (dH (jq m.al.toNat m.ak (bh m) m.ao m.ay v))).1 (c7 m.ao m.ay (dH (jq m.al.toNat m.ak (bh m) m.ao m.ay v))).2,m.bf,m.ba,m.au⟩⟩:aH))
    else some ((),(⟨⟨m.al,m.bc,m.aE,m.ak,m.aI,m.ab,(c7 m.ao m.ay (dH (jq m.al.toNat m.ak (bh m) m.ao m.ay v))).1,(c7 m.ao m.ay (dH (jq m.al.toNat m.ak (bh m) m.ao m.ay v))).2,m.ax,m.aS,m.bf,m.ba,m.au⟩⟩:aH)))=some ((),(⟨cQ m⟩:aH)):=by
   intro v hv;subst hv;rw[show jq m.al.toNat m.ak (bh m) m.ao m.ay (DE m)=eE m from rfl]
   cases hzn:aF (eE m)with
   |true=>rw[XB h hzn];rfl
   |false=>
    simp only[Ql];have e:cQ m={m with ao:=(c7 m.ao m.ay (dH (eE m))).1,ay:=(c7 m.ao m.ay (dH (eE m))).2,aS:=rD m (c7 m.ao m.ay (dH (eE m))).1 (c7 m.ao m.ay (dH (eE m))).2}:=Qs h3
    rw[e];unfold rD
    by_cases hc:m.aI=1/\m.aS≠0
    ·rw[Qg hc.1,Qh hc.2,Qr hc];simp only[Qk,Qa,Qp];have hh:∀(p q:ai) (L:Int),(Ia {m with ao:=p,ay:=q,aS:=L}).bf=fo m:=fun p q L=>by unfold Ia;exact Qr hc.1
     rw[hh];split
     ·rename_i hlt;rw[Qg hlt];rfl
     ·rename_i hlt;rw[Qh hlt];rfl
    ·rw[Qs hc]
     by_cases h1:m.aI=1
     ·rw[Qg h1,Qg (show m.aS=0 from Classical.byContradiction fun hn=>hc ⟨h1,hn⟩)];rfl
     ·rw[Qh h1];rfl
  by_cases h2:m.aI=2
  ·rw[Qg h2];exact hmain _ (Qr h2).symm
  ·rw[Qh h2];exact hmain _ (Qs h2).symm
end
theorem YK(m:aa)(b:ai):kU ⟨m⟩ b=some ((),⟨{m with aS:=bif bM m.ab b then m.aS else 0,ab:=b}⟩):=by
 unfold kU;simp only[aa.eta,etas,aH.eta,fM,Qa,aP];cases bM m.ab b<;>rfl
theorem K6(m:aa)(b:ai){α:Type}(j:aa->Option α):
  (bif decide (m.aS=(0:Int))then(bif bM m.ab b then(bif decide (k9 b.Value m.ab.aj m.ao m.ay<=b.aj)then j {m with aS:=k9 b.Value m.ab.aj m.ao m.ay}else j m)else j m)else(bif false then(bif decide (k9 b.Value m.ab.aj m.ao m.ay<=b.aj)then j {m with aS:=k9 b.Value m.ab.aj m.ao m.ay}else j m)else j m))=j (py m b):=by
 unfold py
 by_cases hL:m.aS=0
 ·rw[Qg hL]
  cases hc:bM m.ab b with
  |true=>
   by_cases hle:k9 b.Value m.ab.aj m.ao m.ay<=b.aj
   ·rw[Qr ⟨hL,rfl,hle⟩,Qg hle];rfl
   ·rw[Qs (fun h=>hle h.2.2),Qh hle];rfl
  |false=>
   rw[Qs (fun h=>by cases h.2.1)];rfl
 ·rw[Qh hL,Qs (fun h=>hL h.1)];rfl
section
variable {m : aa} (h : bo m) (hs : fT m)
 include h hs
theorem aeT:nK ⟨m⟩=some ((),⟨fR m⟩):=by
 have hl:m.au.length<=100:=by have:=h.len;omega
 unfold nK;simp only[aa.eta,etas,aH.eta,cD,H5 hl,afm h hs,PQ,YK,fM,jL,Qa,aP];have hb:xa m.al.toNat m.ak (bh m) m.ax=gr m:=rfl;simp only[hb];unfold fR
 cases hz:aF m.ab with
 |true=>rw[Qr (.inr (.inl rfl))];rfl
 |false=>
  by_cases h1:m.aI=1
  ·rw[Qg h1]
   cases hzb:aF (gr m)with
   |true=>rw[Qr (.inr (.inr rfl))];rfl
   |false=>
    rw[Qs (by simp[h1])]
    simp only[Qo,Ql,Qa];unfold Bl
    cases hlt:bx m.ab (gr m)with
    |true=>
     simp only[Qk,Qt]
     cases hcp:bM m.ab (gr m)with
     |true=>exact K6 {m with ax:=gr m,ab:=gr m} (gr m) (fun x=>some ((),(⟨x⟩:aH)))
     |false=>exact K6 {m with ax:=gr m,ab:=gr m,aS:=0} (gr m) (fun x=>some ((),(⟨x⟩:aH)))
    |false=>
     simp only[Ql,Qq,Qu];exact K6 {m with ax:=gr m} (gr m) (fun x=>some ((),(⟨x⟩:aH)))
  ·rw[Qh h1,Qr (.inl h1)];rfl
theorem ZX:lD ⟨m⟩=some ((),⟨fD m⟩):=by
 have hl:m.au.length<=100:=by have:=h.len;omega
 unfold lD;simp only[aa.eta,etas,aH.eta,H5 hl,adD h hs,agG h hs,fM,jL,Qa,aP];unfold fD
 by_cases h1:m.aI=1
 ·rw[Qg h1,Qr h1];simp only[Qk]
  cases hk:(fu m).2.2.2.1 with
  |false=>rfl
  |true=>
   have hf:=NH h hk
   have hcov:jA m.ao ⟨(fu m).2.2.1,(fu m).1⟩= !(bx m.ao ⟨(fu m).2.2.1,(fu m).1⟩|| !bM m.ao ⟨(fu m).2.2.1,(fu m).1⟩):=by
    cases hc:bM m.ao ⟨(fu m).2.2.1,(fu m).1⟩with
    |false=>unfold jA;rw[hc];simp
    |true=>
     have hv:=ju.1 hc
     have hnz:aF m.ao=false:=by
      cases hz:aF m.ao with
      |false=>rfl
      |true=>rw[xV.1 hz]at hv;exact absurd hv.symm hf.fin.ne
     unfold jA;rw[hc,hnz,Ge hv,Qo,Bool.or_false,Qp,Bool.and_self,Bool.true_and];rw[QW];simp only[Qi,Bool.not_eq_true',Qj];omega
   simp only[Qo,Ql,Qt];unfold IP;rw[hcov];cases bM m.ab ⟨(fu m).2.2.1,(fu m).1⟩<;>cases bx m.ab ⟨(fu m).2.2.1,(fu m).1⟩<;>cases bx m.ao ⟨(fu m).2.2.1,(fu m).1⟩<;>cases bM m.ao ⟨(fu m).2.2.1,(fu m).1⟩<;>rfl
 ·rw[Qh h1,Qs h1]
  by_cases h2:m.aI=2
  ·rw[Qg h2,Qr h2];rcases h.body with k|k|k|k
   ·exact absurd k.aT h1
   ·exact absurd k.aT h1
   ·unfold zO;rw[k.dB.2];rfl
   ·have:=k.aT;omega
  ·rw[Qh h2,Qs h2];rfl
theorem abv:lX ⟨m⟩=some ((),⟨ix m⟩):=by
 have hl:m.au.length<=100:=by have:=h.len;omega
 unfold lX ix;simp only[aa.eta,etas,aH.eta,H5 hl,agF h hs,Qa]
 by_cases h2:m.aI=2
 ·rw[Qg h2]
  cases hk:(mU m).2.2.1 with
  |false=>rw[Qs (fun h=>by cases h.2)];rfl
  |true=>rw[Qr ⟨h2,rfl⟩];rfl
 ·rw[Qh h2,Qs (fun h=>h2 h.1)];rfl
end
theorem Tg{m:aa}(h:ve m):iB ⟨m⟩=some (dI m):=by
 have hl:m.au.length<=1000:=by have:=h.len;omega
 unfold iB dI;simp only[cD,Qa]
 cases hz:aF m.ax with
 |false=>rfl
 |true=>
  simp only[Qo,Ql,Bool.true_eq_false,Qu]
  by_cases h1:m.aI=1
  ·rw[Qg h1,Qs (fun h=>h h1)]
   simp only[Qo,Ql]
   by_cases hp:m.ba=fE
   ·have hp':decide (m.ba=ByteArray.mk #[])=true:=Qg hp;rw[hp',Qs (fun h=>h hp)]
    simp only[Qo,Ql]
    rw[D2 m.au hl (·.ab) (fin:=fun s=>Option.bind (nm s) fun r=>some r.Value) (fun i e s hs he hd hx hw=>by
     simp only[hd,hx,hw,Qk,Qa]
     rw[br (by simp;omega),Qk]) (fun s hd=>by simp only[hd,Ql]),aaX _ (by simp;omega)]
    rfl
   ·have hp':decide (m.ba=ByteArray.mk #[])=false:=Qh hp;rw[hp',Qr hp];rfl
  ·rw[Qh h1,Qr h1];rfl
theorem adw(l:List ae)(hlen:l.length<=1000)(p:ae->Bool)(hp:∀e∈l,p e=true->0<=e.al/\e.al<10):qH l (l.map p)=some ((dE p l:Nat):Int):=by
 unfold qH
 suffices key:∀(k i s:Nat),i+k=l.length->s<1024->aC _ ((s:Int),(i:Int),())=some ((s|||dE p (l.drop i):Nat):Int)by
  have:=key l.length 0 0 (by omega) (by omega)
  rw[Nat.zero_or,List.drop_zero]at this;exact this
 intro k
 induction k with
 |zero=>
  intro i s hi hs;obtain rfl:i=l.length:=by omega
  have hd:decide (((l.length:Nat):Int)<((l.length:Nat):Int))=false:=Qh (Qq64 _);rw[bw (r:=(s:Int)) (by simp only[hd,Ql,Qe]),Qq66,dE]
  simp
 |succ k ih=>
  intro i s hi hs;have hlt:i<l.length:=by omega
  have hd:decide ((i:Int)<((l.length:Nat):Int))=true:=Qg (by omega)
  have hd2:decide ((i:Int)<(((l.map p).length:Nat):Int))=true:=Qg (by rw[QC];omega)
  have hw:aA .i64 (i:Int) 1=((i+1:Nat):Int):=bE (by omega) (by omega)
  have hx:idx l (i:Int)=some l[i]:=by rw[bg];exact Qv hlt
  have hx2:idx (l.map p) (i:Int)=some (p l[i]):=by rw[bg,QT,Qv hlt];rfl
  rw[QM hlt,dE]
  cases hpe:p l[i]with
  |false=>
   rw[bj (s':=((s:Int),((i+1:Nat):Int),())) (by simp only[hd,hd2,hx,hx2,hw,hpe,Qk,Ql,aP,Qa]),ih (i+1) s (by omega) hs]
   simp
  |true=>
   obtain⟨h0,h1⟩:=hp _ (Q0 hlt) hpe;have hn0:¬l[i].al<0:=by omega
   have d1:decide ((0:Int)<=l[i].al)=true:=Qg h0;have d2:decide (l[i].al<(10:Int))=true:=Qg (by omega)
   rw[bj (s':=(((s|||2 ^ l[i].al.toNat:Nat):Int),((i+1:Nat):Int),())) (by
    simp only[hd,hd2,hx,hx2,hw,hpe,Qk,aP,Qa,d1,d2,hn0,Qu]
    rw[nu hs h0 h1]),ih (i+1) _ (by omega) (AE hs h1)]
   simp[Nat.or_assoc]
theorem aaZ{m:aa}(h:ve m)(n:Int):mQ ⟨m⟩ n=some ((Dk m n:Nat):Int):=by
 have hl:m.au.length<=1000:=by have:=h.len;omega
 unfold mQ;have d1:decide (((m.au.length:Nat):Int)=((m.au.length:Nat):Int))=true:=Qg rfl;have d2:decide (0<=((m.au.length:Nat):Int))=true:=Qg (Int.natCast_nonneg _);have d3:bb 1 m.au.length=true:=br (by omega)
 simp only[d1,d2,d3,QV,Bool.and_self,Qk]
 rw[ZL m.au hl (fun e=>decide (n<eA e)) (fin:=fun s=>Option.bind (qH m.au s) fun r=>some r)
  (fun i e s hsl he hi hd hx hw=>by
   have h1:idx s (i:Int)=some s[i]:=by rw[bg];exact Qv (by omega)
   have h2:s[i]?=some s[i]:=Qv (by omega)
   simp only[hd,hx,hw,h1,h2,Qk,Qa,etas,ae.eta,Tn (h.sm e he) (h.valid e he),QV])
  (fun s hd=>by simp only[hd,Ql]) (by simp),adw m.au hl _ (fun e he _=>h.O6 e he)]
 rfl
section
variable {m : aa} (h : bo m) (hs : fT m)
 include h hs
theorem Rl(n:Int):iT n ⟨gy m.al.toNat m.ak (vr m)⟩ ⟨m⟩=some (iR m n):=by
 unfold iT;simp only[aa.eta,etas,aH.eta,aaZ h.ev,Qa];have hb:=RI (ml (aB:=m.al.toNat) h.ev.aL (sA h hs).1) (v:=m.al.toNat) (RE h.ev n);rw[h.ev.aB.1]at hb;rw[hb,Qa];unfold iR;rw[(mI h hs).view _ h.ev.aB.2]
theorem abm:lW ⟨m⟩=some ((),⟨fm m⟩):=by
 have hl:m.au.length<=100:=by have:=h.len;omega
 have hv:=WL h.ev.aB.2 h.ev.aL (sA h hs).1;rw[h.ev.aB.1]at hv;unfold lW fm;simp only[aa.eta,etas,aH.eta,cD,H5 hl,hv,Rl h hs,Tg h.ev,YK,Qa,aP]
 by_cases h3:m.aI=3
 ·rw[Qg h3,Qr (.inl h3)];rfl
 ·rw[Qh h3]
  cases ha:iR m m.ab.aj with
  |false=>rw[Qr (.inr rfl)];rfl
  |true=>
   rw[Qs (by simp[h3])]
   simp only[Ql,Qo]
   have hbc:0<=m.ab.aj/\m.ab.aj<=1000:=by
    rcases h.body with k|k|k|k
    ·rw[k.aQ];decide
    ·exact⟨by have:=k.aQ.1;omega,k.aQ.2.1⟩
    ·exact⟨by have:=k.aQ.1;omega,k.aQ.2.1⟩
    ·exact absurd k.aT h3
   have hz1:aF m.ab=true->m.aI=1:=by
    intro hz;rcases h.body with k|k|k|k
    ·exact k.aT
    ·exact k.aT
    ·rw[k.aQ.nz]at hz;cases hz
    ·exact absurd k.aT h3
   refine(UJ h.ev (fin:=fun c=>some ((),(⟨{m with aS:=bif bM m.ab ⟨dF c 1000,nO m⟩then m.aS else 0,ab:=⟨dF c 1000,nO m⟩}⟩:aH))) (fun i e s he hd hx hw=> ?_) (fun s hd=> ?_)).trans ?_
   ·simp only[hd,hx,hw,Qk,aP,Qa,etas,ae.eta,Tn (h.ev.sm e he) (h.ev.valid e he),Rl h hs];unfold my
    by_cases c1:m.ab.aj<eA e
    ·by_cases c2:eA e<s
     ·rw[Qg c1,Qg c2]
      cases c3:iR m (eA e)with
      |true=>rw[Qs (by simp)];rfl
      |false=>rw[Qr ⟨c1,c2,rfl⟩];rfl
     ·rw[Qg c1,Qh c2,Qs (fun h=>c2 h.2.1)];rfl
    ·rw[Qh c1,Qs (fun h=>c1 h.1)];rfl
   ·simp only[hd,Ql,aP,Qa];unfold nO
    by_cases h1:m.aI=1
    ·rw[Qg h1,Qr h1];cases aF m.ab<;>rfl
    ·rw[Qh h1,Qs h1]
     cases hz:aF m.ab with
     |true=>exact absurd (hz1 hz) h1
     |false=>rfl
   ·have hm:=(IS h hbc).2.2.2.2;rw[hm]
    have hcp:(bif bM m.ab ⟨dF (gU m) 1000,nO m⟩then m.aS else 0)=(if nO m=m.ab.Value then m.aS else 0):=by
     by_cases e:nO m=m.ab.Value
     ·rw[Qr e,(ju (a:=m.ab) (b:=⟨dF (gU m) 1000,nO m⟩)).2 e.symm];rfl
     ·rw[Qs e,(jm (a:=m.ab) (b:=⟨dF (gU m) 1000,nO m⟩)).2 (fun hc=>e hc.symm)];rfl
    rw[hcp]
end
end
section
theorem US{m:aa}(h:bo m)(s:Int):bh {m with aE:=s}=(bh m).map (fun e=>if e.al=m.al then{e with aE:=bD s 1}else e):=by
 have hf:∀e∈m.au,(if e.al=m.al then{e with aE:=bD s 1}else e)=e:=fun e he=>Qs (h.hv e he).2.2.2
 have hmap:m.au.map (fun e=>if e.al=m.al then{e with aE:=bD s 1}else e)=m.au:=by
  rw[Qq71 hf];simp
 have hown:ja {m with aE:=s}={ja m with aE:=bD s 1}:=by
  unfold ja c5 fo;split
  ·rfl
  ·split<;>rfl
 unfold bh;split
 ·exact hmap.symm
 ·rw[hown];have hn:(ja m).al=m.al:=yf m
  suffices key:∀l:List ae,(∀e∈l,(if e.al=m.al then{e with aE:=bD s 1}else e)=e)->yW {ja m with aE:=bD s 1} l=(yW (ja m) l).map (fun e=>if e.al=m.al then{e with aE:=bD s 1}else e)from key _ hf
  intro l
  induction l with
  |nil=>
   intro _;simp only[yW,QD,QO,hn,Qt]
  |cons x l ih=>
   intro hx;unfold yW;simp only;split
   ·rw[QD,QD,hn,Qr rfl,hx x Qx,Qq71 (fun e he=>hx e (Qy _ he))]
    simp
   ·rw[QD,hx x Qx,ih fun e he=>hx e (Qy _ he)]
theorem O4{m:aa}(h:bo m){s:Int}(hs:0<=s/\s<=1000000):bo {m with aE:=s}:=by
 refine⟨h.n0,h.n1,h.aK,hs,h.aL,h.sz,h.hv,h.eV,?_⟩;rcases h.body with k|k|k|k
 ·exact .inl ⟨k.aT,k.aQ,k.dB,k.bV,k.dS,k.low,k.bU⟩
 ·exact .inr (.inl ⟨k.aT,k.aQ,k.dB,k.bV,k.dS,k.up,k.bU,k.low⟩)
 ·exact .inr (.inr (.inl ⟨k.aT,k.aQ,k.dB,k.bV,k.dS,k.range⟩))
 ·exact .inr (.inr (.inr ⟨k.aT,k.aQ,k.dB,k.bV,k.dS,k.range⟩))
theorem qy{m:aa}(h:bo m){s:Int}(hs:0<=s/\s<=1000000):Alike (bh m) (bh {m with aE:=s}):=by
 rw[US h s];refine aab h.ev.lZ.1 h.ev.lZ.2 _ fun e he=> ?_
 split
 ·rename_i hn;refine⟨rfl,?_⟩;rw[h.lR e he];have hv:=h.lR e he
  have hm:{e with aE:=bD s 1}∈bh {m with aE:=s}:=by
   rw[US h s];exact QP.2 ⟨e,he,Qr hn⟩
  exact(O4 h hs).lR _ hm
 ·exact⟨rfl,rfl⟩
theorem ad1(m:aa)(s:Int)(b:ai):Bl {m with aE:=s} b={Bl m b with aE:=s}:=by
 unfold Bl
 by_cases h:bx m.ab b=true
 ·simp only[Qr h]
 ·simp only[Qs h]
theorem YB(m:aa)(s:Int)(b:ai):py {m with aE:=s} b={py m b with aE:=s}:=by
 unfold py
 by_cases h:m.aS=0/\bM m.ab b=true/\k9 b.Value m.ab.aj m.ao m.ay<=b.aj
 ·simp only[Qr h]
 ·simp only[Qs h]
section
variable {m : aa} (h : bo m) {s : Int} (hs : 0 <= s /\ s <= 1000000)
 include h hs
theorem adJ:eE {m with aE:=s}=eE m:=((qy h hs).next h.ev.aB.2 m.ak _ _ _).symm
theorem adX:gr {m with aE:=s}=gr m:=((qy h hs).bU h.ev.aB.2 m.ak _).symm
theorem PK:gD {m with aE:=s}=gD m:=((qy h hs).ready h.ev.aB.2 m.ak).symm
theorem aat:FI {m with aE:=s}=FI m:=((qy h hs).sure h.ev.aB.2 m.ak).symm
theorem aeb:fu {m with aE:=s}=fu m:=by
 unfold fu;rw[PK h hs];simp only;rw[<-(qy h hs).Ar,<-(qy h hs).first]
theorem aeg:ez {m with aE:=s}=ez m:=by
 unfold ez;rw[PK h hs];simp only;rw[<-(qy h hs).jB]
theorem aef:mU {m with aE:=s}=mU m:=by
 unfold mU;rw[aat h hs];simp only;rw[<-(qy h hs).jB]
theorem RD(n:Int):iR {m with aE:=s} n=iR m n:=by
 unfold iR;simp only;rw[<-(qy h hs).view _ h.ev.aB.2];rfl
theorem aev:gU {m with aE:=s}=gU m:=by
 unfold gU;simp only;congr 1
 funext b e
 unfold my;simp only[RD h hs]
theorem DM:cQ {m with aE:=s}={cQ m with aE:=s}:=by
 unfold cQ;simp only[adJ h hs];split<;>rfl
theorem DL:fR {m with aE:=s}={fR m with aE:=s}:=by
 unfold fR;simp only[adX h hs];split
 ·rfl
 ·rw[ad1,YB]
theorem DO:fD {m with aE:=s}={fD m with aE:=s}:=by
 unfold fD;simp only[aeb h hs,aeg h hs];split
 ·split<;>rfl
 ·split<;>rfl
theorem DN:ix {m with aE:=s}={ix m with aE:=s}:=by
 unfold ix;simp only[aef h hs];split<;>rfl
theorem H4:fm {m with aE:=s}={fm m with aE:=s}:=by
 unfold fm;simp only[RD h hs,aev h hs];split<;>rfl
end
open Classical in
 def cm(m:aa):aa:=
 if cQ m=m then(if fR m=m then(if fD m=m then(if ix m=m then fm m else ix m)else fD m)else fR m)else cQ m
structure I5 (m:aa):Prop where
 p:cQ m=m
 s:fR m=m
 c:fD m=m
 f:ix m=m
 k:fm m=m
theorem aau{m:aa}(h:cm m=m):I5 m:=by
 unfold cm at h;split at h
 ·split at h
  ·split at h
   ·split at h
    ·exact⟨by assumption,by assumption,by assumption,by assumption,h⟩
    ·contradiction
   ·contradiction
  ·contradiction
 ·contradiction
theorem Uj{m:aa}(h:I5 m):cm m=m:=by
 unfold cm;rw[Qr h.p,Qr h.s,Qr h.c,Qr h.f,h.k]
theorem FJ{m:aa}{Q:aa->Prop}(h1:Q (cQ m))(h2:Q (fR m))(h3:Q (fD m))(h4:Q (ix m))(h5:Q (fm m)):Q (cm m):=by
 unfold cm;split
 ·split
  ·split
   ·split
    ·exact h5
    ·exact h4
   ·exact h3
  ·exact h2
 ·exact h1
theorem ya{m:aa}(h:bo m):bo (cm m):=FJ (PT h) (PS h) (PX h) (PW h) (PU h)
theorem AW(m:aa):ib m (cm m):=FJ (uq m) (ss m) (sv m) (su m) (AZ m)
theorem SL{m:aa}(h:bo m):cm m=m\/jX m<jX (cm m):=FJ (Q:=fun x=>x=m\/jX m<jX x) (ahJ h) (ahI h) (ahM h) (ahL h) (ahK h)
theorem ahZ(m:aa):(cQ m).ab=m.ab:=by unfold cQ;split<;>rfl
theorem KX{m:aa}(h:bo m)(hz:aF m.ab=false):aF (cm m).ab=false:=by
 have hb:P1 m\/P2 m\/P3 m:=h.body.resolve_left fun k=>by rw[k.aQ,bP]at hz;cases hz
 refine FJ (Q:=fun x=>aF x.ab=false) (by rw[ahZ];exact hz) ?_ ?_ ?_ ?_
 ·rcases hb with k|k|k
  ·exact(OA h k).1.aQ.nz
  ·rw[uo (.inl (by rw[k.aT];decide))];exact hz
  ·rw[uo (.inl (by rw[k.aT];decide))];exact hz
 ·unfold fD;rcases hb with k|k|k
  ·rw[Qr k.aT];split
   ·rename_i hk;have hf:=NH h hk;exact(UE (.inr k.aQ) k.dB hf.fin hf.lo1 hf.le).aQ.nz
   ·exact hz
  ·rw[Qs (by rw[k.aT];decide),Qr k.aT]
   obtain⟨g1,g2,g3,_⟩:=Um h k;exact(XX k g1 g2 g3).aQ.nz
  ·rw[Qs (by rw[k.aT];decide),Qs (by rw[k.aT];decide)];exact hz
 ·unfold ix;split
  ·rename_i hc;rcases hb with k|k|k
   ·have:=k.aT;have:=hc.1;omega
   ·exact(V4 h k hc.2).aQ.nz
   ·have:=k.aT;have:=hc.1;omega
  ·exact hz
 ·cases ha:iR m m.ab.aj with
  |false=>
   have:fm m=m:=Qr (.inr ha);rw[this];exact hz
  |true=>
   rcases hb with k|k|k
   ·exact(OB h (.inr k) ha).aQ.nz
   ·exact(V3 h k).aQ.nz
   ·have:fm m=m:=Qr (.inl k.aT);rw[this];exact hz
def c6(m:aa):aa:=if aF m.ab=false then{m with aE:=bD m.aE 1}else m
theorem Wc{m:aa}(h:bo m):0<=bD m.aE 1/\bD m.aE 1<=1000000:=by
 have:=h.seq;unfold bD;split<;>omega
theorem z7{m:aa}(h:bo m):bo (c6 m):=by
 unfold c6;split
 ·exact O4 h (Wc h)
 ·exact h
theorem Jr{m:aa}(h:aF m.ab=true->m.aE=0):fT (c6 m):=by
 unfold c6;split
 ·rename_i hz;exact⟨fun e=>(by rw[show({m with aE:=bD m.aE 1}:aa).ab=m.ab from rfl,hz]at e;cases e),fun _=>by show 1<=bD m.aE 1;unfold bD;split<;>omega⟩
 ·rename_i hz;exact⟨h,fun e=>absurd e hz⟩
theorem aed{m:aa}(h:bo m)(hf:I5 m){s:Int}(hs:0<=s/\s<=1000000):I5 {m with aE:=s}:=
 ⟨by rw[DM h hs,hf.p],by rw[DL h hs,hf.s],by rw[DO h hs,hf.c],by rw[DN h hs,hf.f],by rw[H4 h hs,hf.k]⟩
theorem aa7{m:aa}(h:bo m)(hf:I5 m):I5 (c6 m):=by
 unfold c6;split
 ·exact aed h hf (Wc h)
 ·exact hf
theorem adK{m:aa}(hs:fT m):c6 m=m:=by
 unfold c6;split
 ·rename_i hz;have:=hs.pos hz;have e:bD m.aE 1=m.aE:=by unfold bD;split<;>omega
  rw[e]
 ·rfl
theorem aaE(m:aa):jX (c6 m)=jX m:=by
 unfold c6;split<;>rfl
theorem Tt{m:aa}(h:0<=m.aE):dy ⟨m⟩=some ((),⟨c6 m⟩):=by
 unfold dy c6;simp only[aa.eta,etas,aH.eta,cD,Qa]
 cases hz:aF m.ab with
 |true=>rfl
 |false=>
  simp only[Qp,Qk,Qa,Qt]
  by_cases hs:m.aE=0
  ·have e:bD m.aE 1=1:=by unfold bD;split<;>omega
   rw[Qg hs,e];rfl
  ·have e:bD m.aE 1=m.aE:=by unfold bD;split<;>omega
   rw[Qh hs,e];rfl
theorem wE{m m':aa}(he:ib m m'):
  (decide (m'.aI=m.aI)&&(decide (m'.aS=m.aS)&&(decide (m'.bf=m.bf)&&(decide (m'.ab.aj=m.ab.aj)&&(decide (m'.ab.Value=m.ab.Value)&&(decide (m'.ao.aj=m.ao.aj)&&(decide (m'.ao.Value=m.ao.Value)&&(decide (m'.ay.aj=m.ay.aj)&&(decide (m'.ay.Value=m.ay.Value)&&(decide (m'.ax.aj=m.ax.aj)&&(decide (m'.ax.Value=m.ax.Value)&&true)))))))))))=true↔m'=m:=by
 simp only[Qm,Qi];constructor
 ·rintro⟨h1,h2,h3,h4,h5,h6,h7,h8,h9,h10,h11,_⟩;exact Ac he h1 (ox h4 h5) (ox h6 h7) (ox h8 h9) (ox h10 h11) h2 h3
 ·rintro rfl;simp
open Classical in
theorem aeV{m:aa}(h:bo m)(hs:fT m):nL ⟨m⟩=some (if cm m=m then(false,⟨m⟩)else(true,⟨c6 (cm m)⟩)):=by
 have hnum:∀{x:aa},bo x->dy ⟨x⟩=some ((),⟨c6 x⟩):=fun hx=>Tt hx.seq.1
 unfold nL;simp only[aa.eta,etas,aH.eta,fV,Qa,Xz h hs]
 by_cases hP:cQ m=m
 ·simp only[(wE (uq m)).2 hP,Bool.xor_true,Qo,Ql,show xor true true=false from rfl]
  rw[hP,aeT h hs];simp only[Qa]
  by_cases hS:fR m=m
  ·simp only[(wE (ss m)).2 hS,Ql,show xor true true=false from rfl]
   rw[hS,ZX h hs];simp only[Qa]
   by_cases hC:fD m=m
   ·simp only[(wE (sv m)).2 hC,Ql,show xor true true=false from rfl]
    rw[hC,abv h hs];simp only[Qa]
    by_cases hF:ix m=m
    ·simp only[(wE (su m)).2 hF,Ql,show xor true true=false from rfl]
     rw[hF,abm h hs];simp only[Qa];have e:cm m=fm m:=by unfold cm;rw[Qr hP,Qr hS,Qr hC,Qr hF]
     rw[e]
     by_cases hK:fm m=m
     ·simp only[(wE (AZ m)).2 hK,Ql,show xor true true=false from rfl]
      rw[Qr hK,hK]
     ·have hb:=mt (wE (AZ m)).1 hK;rw[QX]at hb;simp only[hb,Qk,show xor true false=true from rfl]
      rw[hnum (PU h),Qs hK];rfl
    ·have e:cm m=ix m:=by unfold cm;rw[Qr hP,Qr hS,Qr hC,Qs hF]
     have hb:=mt (wE (su m)).1 hF;rw[QX]at hb;simp only[hb,Qk,show xor true false=true from rfl]
     rw[hnum (PW h),e,Qs hF];rfl
   ·have e:cm m=fD m:=by unfold cm;rw[Qr hP,Qr hS,Qs hC]
    have hb:=mt (wE (sv m)).1 hC;rw[QX]at hb;simp only[hb,Qk,show xor true false=true from rfl]
    rw[hnum (PX h),e,Qs hC];rfl
  ·have e:cm m=fR m:=by unfold cm;rw[Qr hP,Qs hS]
   have hb:=mt (wE (ss m)).1 hS;rw[QX]at hb;simp only[hb,Qk,show xor true false=true from rfl]
   rw[hnum (PS h),e,Qs hS];rfl
 ·have e:cm m=cQ m:=by unfold cm;rw[Qs hP]
  have hb:=mt (wE (uq m)).1 hP;rw[QX]at hb;simp only[hb,Qk,show xor true false=true from rfl]
  rw[hnum (PT h),e,Qs hP];rfl
structure EK (R:aa->Prop) (m m':aa):Prop where
 inv:bo m'
 seq:fT m'
 env:m'.al=m.al/\m'.bc=m.bc/\m'.ak=m.ak/\m'.ba=m.ba/\m'.au=m.au
 num:m'.aE=m.aE\/(m.aE=0/\m'.aE=1)
 nz:aF m.ab=false->aF m'.ab=false
 rel:R m'
 fix:I5 m'
theorem aac{R:aa->Prop}(hR1:∀m,bo m->R m->R (cm m))(hR2:∀m,R m->R (c6 m)){m:aa}(h:bo m)(hs:aF m.ab=true->m.aE=0)(hr:R m):Yd (jj ⟨m⟩) fun q=>∃m',q=((),⟨m'⟩)/\EK R m m':=by
 unfold jj;simp only[aa.eta,etas,aH.eta,Tt h.seq.1,Qa]
 have num1:∀{x:aa},bo x->(c6 x).aE=x.aE\/(x.aE=0/\(c6 x).aE=1):=fun{x} hx=>by
  have:=hx.seq;unfold c6;split
  ·show bD x.aE 1=x.aE\/(x.aE=0/\bD x.aE 1=1);unfold bD;split<;>omega
  ·exact .inl rfl
 have env1:∀x:aa,(c6 x).al=x.al/\(c6 x).bc=x.bc/\(c6 x).ak=x.ak/\(c6 x).ba=x.ba/\(c6 x).au=x.au/\(c6 x).ab=x.ab:=fun x=>by
  unfold c6;split<;>exact⟨rfl,rfl,rfl,rfl,rfl,rfl⟩
 refine Yd.down (fun s=>∃x,s=((⟨x⟩:aH),())/\bo x/\fT x/\R x/\(x.al=m.al/\x.bc=m.bc/\x.ak=m.ak/\x.ba=m.ba/\x.au=m.au)/\(x.aE=m.aE\/(m.aE=0/\x.aE=1))/\(aF m.ab=false->aF x.ab=false)) (fun s=>K1+K2 - jX s.1.an) ?_ ⟨c6 m,rfl,z7 h,Jr hs,hR2 _ hr,⟨(env1 m).1,(env1 m).2.1,(env1 m).2.2.1,(env1 m).2.2.2.1,(env1 m).2.2.2.2.1⟩,num1 h,fun hz=>by rw[(env1 m).2.2.2.2.2];exact hz⟩
 rintro s ⟨x,rfl,hx,hsx,hrx,hex,hnx,hzx⟩;simp only[aeV hx hsx,Qa]
 by_cases hst:cm x=x
 ·rw[Qr hst];exact .some ⟨x,rfl,⟨hx,hsx,hex,hnx,hzx,hrx,aau hst⟩⟩
 ·rw[Qs hst];have hi:=ya hx;have hv:=AW x;have hup:=(SL hx).resolve_left hst;refine .some ⟨⟨c6 (cm x),rfl,z7 hi,Jr ?_,hR2 _ (hR1 _ hx hrx),?_,?_,?_⟩,?_⟩
  ·intro hz;rw[hv.seq];refine hsx.zero ?_
   cases hzz:aF x.ab with
   |true=>rfl
   |false=>rw[KX hx hzz]at hz;cases hz
  ·obtain⟨e1,e2,e3,e4,e5,_⟩:=env1 (cm x);exact⟨e1.trans (hv.aB.trans hex.1),e2.trans (hv.aK.trans hex.2.1),e3.trans (hv.aL.trans hex.2.2.1),e4.trans (hv.sz.trans hex.2.2.2.1),e5.trans (hv.heard.trans hex.2.2.2.2)⟩
  ·have h1:=num1 hi;rw[hv.seq]at h1;rcases h1 with e|⟨e1,e2⟩
   ·rw[e];exact hnx
   ·right;rcases hnx with e3|⟨_,e3⟩
    ·exact⟨by rw[<-e3];exact e1,e2⟩
    ·omega
  ·intro hz;rw[(env1 (cm x)).2.2.2.2.2];exact KX hx (hzx hz)
  ·have h1:=VV hi;show K1+K2 - jX (c6 (cm x))<K1+K2 - jX x;rw[aaE];omega
end
section
theorem UT{α:Type}{s t:List α}(hl:s.length=t.length)(hn:s.length<=1000000){step:Int×Unit->Option ((Int×Unit)⊕Bool)}
  (h1:∀(i:Nat) (h:i<s.length) (h':i<t.length),decide ((i:Int)<((s.length:Nat):Int))=true->idx s (i:Int)=some s[i]->idx t (i:Int)=some t[i]->aA .i64 (i:Int) 1=((i+1:Nat):Int)->∃b:Bool,step ((i:Int),())=some (bif b then .inl (((i+1:Nat):Int),())else .inr false)/\(b=true↔s[i]=t[i]))
  (h2:decide (((s.length:Nat):Int)<((s.length:Nat):Int))=false->step (((s.length:Nat):Int),())=some (.inr true)):∃b,aC step (0,())=some b/\(b=true↔s=t):=by
 suffices key:∀(k i:Nat),i+k=s.length->∃b,aC step ((i:Int),())=some b/\(b=true↔s.drop i=t.drop i)from by simpa using key s.length 0 (by omega)
 intro k
 induction k with
 |zero=>
  intro i hi;obtain rfl:i=s.length:=by omega
  refine⟨true,bw (h2 (Qh (Qq64 _))),?_⟩;rw[List.drop_eq_nil_of_le (by omega),List.drop_eq_nil_of_le (by omega)]
  simp
 |succ k ih=>
  intro i hi;have hi':i<s.length:=by omega
  have hi'':i<t.length:=by omega
  obtain⟨b,h3,h4⟩:=h1 i hi' hi'' (Qg (by omega)) (by rw[bg];exact Qv hi') (by rw[bg];exact Qv hi'') (bE (by omega) (by omega))
  rw[QM hi',QM hi'',List.cons.injEq]
  cases b with
  |false=>
   refine⟨false,bw h3,?_⟩;simp only[Qq,false_iff]at h4 ⊢;exact fun h=>h4 h.1
  |true=>
   obtain⟨b,h5,h6⟩:=ih (i+1) (by omega)
   refine⟨b,(bj h3).trans h5,?_⟩;rw[h6];exact⟨fun h=>⟨h4.1 rfl,h⟩,fun h=>h.2⟩
theorem M3{α:Type}{s t:List α}(h:s.length≠t.length):(false=true↔s=t):=by
 simp only[Qq,false_iff];exact fun h1=>h (by rw[h1])
 def acF(a0:List Int)(a1:List Int):Option Bool:=
 bif (!decide (((List.length a0:Nat):Int)=((List.length a1:Nat):Int)))then
 some false
 else
 aC (fun(v1:Int×Unit)=>
 bif (decide (v1.1<((List.length a0:Nat):Int)))then
 Option.bind (idx a0 v1.1) fun x2=>
 Option.bind (idx a1 v1.1) fun x3=>
 bif (!decide (x2=x3))then
 Option.map Sum.inr (some false)
 else
 some (Sum.inl ((aA .i64 v1.1 (1:Int)),()))
 else
 Option.map Sum.inr (some true)) ((0:Int),())
theorem acy(s t:List Int)(h:s.length<=1000000):∃b,acF s t=some b/\(b=true↔s=t):=by
 unfold acF
 by_cases hl:s.length=t.length
 ·rw[Qg (by omega:((s.length:Nat):Int)=((t.length:Nat):Int)),Qo,Ql]
  refine UT hl h (fun i hi hi' hd hx hy hw=> ?_) (fun hd=> ?_)
  ·refine⟨decide (s[i]=t[i]),?_,by simp⟩
   simp only[hd,hx,hy,hw,Qk,Qa];cases decide (s[i]=t[i])<;>rfl
  ·simp only[hd,Ql];rfl
 ·rw[Qh (by omega:¬((s.length:Nat):Int)=((t.length:Nat):Int)),Qp,Qk]
  exact⟨false,rfl,M3 hl⟩
theorem afF(s t:List Int)(h:s.length<=1000000):∃b,Dt s t=some b/\(b=true↔s=t):=acy s t h
theorem agO(s t:List Int)(h:s.length<=1000000):∃b,qW s t=some b/\(b=true↔s=t):=acy s t h
theorem Pw(a b:af):a=b↔a.aG=b.aG/\a.aX=b.aX/\a.aN=b.aN:=by
 cases a;cases b;simp
theorem agc{n:Nat}:∀{a b:af},SizeOf.sizeOf a<n->c8 a->∃r,Dp n (a,b,())=some r/\(r=true↔a=b):=by
 induction n with
 |zero=>intro a b h;omega
 |succ n ih=>
  intro a b hs hm;show∃r,zD (Dp n) a b=some r/\(r=true↔a=b);have hl:=hm.len;have hns:=hm.nodes;obtain⟨r,h1,h2⟩:=afF a.aX b.aX hns;rw[Pw];unfold zD
  by_cases ht:a.aG=b.aG
  ·rw[Qg ht];simp only[Qo,Ql,h1,Qa]
   cases r with
   |false=>
    simp only[Qp,Qk,Qa];refine⟨false,rfl,?_⟩;simp only[Qq,false_iff]at h2 ⊢;exact fun h=>h2 h.2.1
   |true=>
    simp only[Qo,Ql,Qa]
    by_cases hi:a.aN.length=b.aN.length
    ·rw[Qg (by omega:((a.aN.length:Nat):Int)=((b.aN.length:Nat):Int)),Qo,Ql]
     have key:∀step:Int×Unit->Option ((Int×Unit)⊕Bool),(∃r,aC step (0,())=some r/\(r=true↔a.aN=b.aN))->∃r,aC step (0,())=some r/\(r=true↔a.aG=b.aG/\a.aX=b.aX/\a.aN=b.aN):=by
      rintro step ⟨r,h3,h4⟩;exact⟨r,h3,by rw[h4];exact⟨fun h=>⟨ht,h2.1 rfl,h⟩,fun h=>h.2.2⟩⟩
     refine key _ (UT hi hl (fun i hi hi' hd hx hy hw=> ?_) (fun hd=> ?_))
     ·have hu:=Q0 hi;obtain⟨r,h3,h4⟩:=ih (a:=a.aN[i]) (b:=b.aN[i]) (by have:=qS hu;omega) (hm.inner _ hu)
      refine⟨r,?_,h4⟩;simp only[hd,hx,hy,hw,Qk,Qa,etas,h3];cases r<;>rfl
     ·simp only[hd,Ql];rfl
    ·rw[Qh (by omega:¬((a.aN.length:Nat):Int)=((b.aN.length:Nat):Int)),Qp,Qk]
     refine⟨false,rfl,?_⟩;simp only[Qq,false_iff];exact fun h=>hi (by rw[h.2.2])
  ·rw[Qh ht];refine⟨false,rfl,?_⟩;simp only[Qq,false_iff];exact fun h=>ht h.1
theorem Un{a b:af}(h:c8 a):∃r,pk a b=some r/\(r=true↔a=b):=agc (by omega) h
theorem ahf{n:Nat}:∀{a b:af},SizeOf.sizeOf a<n->c8 a->∃r,xP n (a,b,())=some r/\(r=true↔a=b):=by
 induction n with
 |zero=>intro a b h;omega
 |succ n ih=>
  intro a b hs hm;show∃r,s8 (xP n) a b=some r/\(r=true↔a=b);have hl:=hm.len;have hns:=hm.nodes;obtain⟨r,h1,h2⟩:=agO a.aX b.aX hns;rw[Pw];unfold s8
  by_cases ht:a.aG=b.aG
  ·rw[Qg ht];simp only[Qk,h1,Qa]
   cases r with
   |false=>
    simp only[Ql,Qa];refine⟨false,rfl,?_⟩;simp only[Qq,false_iff]at h2 ⊢;exact fun h=>h2 h.2.1
   |true=>
    simp only[Qk,Qa]
    have key:∀o:Option Bool,(∃r,o=some r/\(r=true↔a.aN=b.aN))->∃r,(Option.bind (Option.bind o fun r3=>some r3) fun b4=>some b4)=some r/\(r=true↔a.aG=b.aG/\a.aX=b.aX/\a.aN=b.aN):=by
     rintro o ⟨r,rfl,h4⟩;exact⟨r,rfl,by rw[h4];exact⟨fun h=>⟨ht,h2.1 rfl,h⟩,fun h=>h.2.2⟩⟩
    refine key _ ?_;unfold dD
    by_cases hi:a.aN.length=b.aN.length
    ·rw[Qg (by omega:((a.aN.length:Nat):Int)=((b.aN.length:Nat):Int)),Qo,Ql]
     refine UT hi hl (fun i hi hi' hd hx hy hw=> ?_) (fun hd=> ?_)
     ·have hu:=Q0 hi;obtain⟨r,h3,h4⟩:=ih (a:=a.aN[i]) (b:=b.aN[i]) (by have:=qS hu;omega) (hm.inner _ hu)
      refine⟨r,?_,h4⟩;simp only[hd,hx,hy,hw,Qk,Qa,etas,h3];cases r<;>rfl
     ·simp only[hd,Ql];rfl
    ·rw[Qh (by omega:¬((a.aN.length:Nat):Int)=((b.aN.length:Nat):Int)),Qp,Qk]
     exact⟨false,rfl,M3 hi⟩
  ·rw[Qh ht];refine⟨false,rfl,?_⟩;simp only[Qq,false_iff];exact fun h=>ht h.1
theorem eqT{a b:af}(h:c8 a):∃r,pa a b=some r/\(r=true↔a=b):=ahf (by omega) h
theorem Wr(a b:Int)(s t:ByteArray):lP false a b s t=(decide (a=b)&&decide (s=t)):=by
 simp
theorem N3(a b:ai):a=b↔a.aj=b.aj/\a.Value=b.Value:=by
 cases a;cases b;simp
theorem Ws(a b:ae):a=b↔a.al=b.al/\a.bc=b.bc/\a.aE=b.aE/\a.ak=b.ak/\a.bF=b.bF/\a.ab=b.ab/\a.ao=b.ao/\a.ay=b.ay/\a.aS=b.aS/\a.bf=b.bf:=by
 cases a;cases b;simp
theorem WA(a b:Bool):(bif a then some b else some false)=some (a&&b):=by cases a<;>rfl
theorem ah2{a b:ae}(h:c8 a.ak):∃r,zp a b=some r/\(r=true↔a=b):=by
 obtain⟨r,h1,h2⟩:=Un (a:=a.ak) (b:=b.ak) h;have hc:∀x:Bool,(bif x then some r else some false)=some (x&&r):=fun x=>by cases x<;>rfl
 refine⟨_,by simp only[zp,etas,h1,Qa,WA,hc,Wr];rfl,?_⟩
 rw[Ws];simp only[Qm,Qi,h2,N3];constructor
 ·rintro⟨⟨⟨⟨⟨⟨⟨⟨⟨h1,h2⟩,h3⟩,h4⟩,h5⟩,h6⟩,h7⟩,h8⟩,h9⟩,h10⟩;exact⟨h1,h2,h3,h4,h5,h6,h7,h8,h9,h10⟩
 ·rintro⟨h1,h2,h3,h4,h5,h6,h7,h8,h9,h10⟩;exact⟨⟨⟨⟨⟨⟨⟨⟨⟨h1,h2⟩,h3⟩,h4⟩,h5⟩,h6⟩,h7⟩,h8⟩,h9⟩,h10⟩
end
section
theorem Nz{m:aa}(h:bo m){ρ:Type}{step:Int×Unit->Option ((Int×Unit)⊕ρ)}{fin:Option ρ}
  (h1:∀(i:Nat) (e:ae),e∈m.au->decide ((i:Int)<((m.au.length:Nat):Int))=true->idx m.au (i:Int)=some e->aA .i64 (i:Int) 1=((i+1:Nat):Int)->
   (i=0\/(decide ((0:Int)<(i:Int))=true/\∃x,idx m.au (de .i64 (i:Int) 1)=some x/\decide (e.al<=x.al)=false))->step ((i:Int),())=some (.inl (((i+1:Nat):Int),())))
  (h2:decide (((m.au.length:Nat):Int)<((m.au.length:Nat):Int))=false->step (((m.au.length:Nat):Int),())=Option.map Sum.inr fin):aC step (0,())=fin:=by
 have hl:=h.len;refine YP m.au.length (by omega) (fun i hi hd hw=> ?_) h2
 have hx:idx m.au (i:Int)=some m.au[i]:=by rw[bg];exact Qv hi
 refine h1 i m.au[i] (Q0 hi) hd hx hw ?_
 cases i with
 |zero=>exact .inl rfl
 |succ i=>
  refine .inr ⟨Qg (by omega),m.au[i],?_,?_⟩
  ·have:de .i64 ((i+1:Nat):Int) 1=(i:Int):=by rw[qb (by omega) (by omega)];omega
   rw[this,bg];exact Qv (by omega)
  ·have:=List.pairwise_iff_getElem.1 h.eV i (i+1) (by omega) hi (by omega)
   exact Qh (by omega)
theorem adY{m:aa}(h:bo m):ud m=some true:=by
 unfold ud;refine Nz h (fun i e he hd hx hw hi=> ?_) (fun hd=>by simp only[hd,Ql])
 obtain⟨g1,g2,g3,g4⟩:=h.hv e he;simp only[hd,hx,hw,Qk,Qa,aP,etas,ae.eta,xN g2.sm,g1,Qo,Ql,Qg g3,Qh g4];rcases hi with rfl|⟨hi,x,hx2,hn⟩
 ·rfl
 ·rw[hi,hx2];simp only[Qk,Qa,hn,Ql]
theorem Jp{m:aa}(h:bo m)(hs:fT m)(hz:aF m.ab=false):aW (c5 m)=true:=by
 rw[<-V9 hs hz];exact P4 h hz
theorem adL:lP false bY.aj (0:Int) bY.Value (ByteArray.mk #[])=true:=by decide
theorem JE{m:aa}(h:bo m)(hs:fT m):lE m=some true:=by
 have d1:decide (m.al<0)=false:=Qh (by have:=h.n0;omega)
 have d2:decide ((10:Int)<=m.al)=false:=Qh (by have:=h.n1;omega)
 have d3:decide (m.bc<1)=false:=Qh (by have:=h.aK;omega)
 have d4:decide ((1000000:Int)<m.bc)=false:=Qh (by have:=h.aK;omega)
 have d5:decide (m.aE<0)=false:=Qh (by have:=h.seq;omega)
 have d6:decide ((1000000:Int)<m.aE)=false:=Qh (by have:=h.seq;omega)
 have d7:decide ((200:Int)<((m.ba.size:Nat):Int))=false:=Qh (by have:=h.sz;omega)
 have hm:c8 (c5 m).ak:=by rw[sL];exact h.aL.sm
 unfold lE;simp only[d1,d2,d3,d4,d5,d6,d7,Ql,Qa,etas,aa.eta,ae.eta,dn h.aL,decide_true,Qo,adY h,cD,A7,E3 h,xN hm]
 cases hz:aF m.ab with
 |true=>
  have h0:P0 m:=by
   rcases h.body with k|k|k|k
   ·exact k
   ·rw[k.aQ.nz]at hz;cases hz
   ·rw[k.aQ.nz]at hz;cases hz
   ·rw[k.aQ.nz]at hz;cases hz
  unfold zw;simp only[h0.aT,hs.zero hz,h0.dB,h0.bV,h0.dS,h0.low,h0.bU,adL,decide_true,Qk,Qa]
 |false=>
  have hv:=Jp h hs hz;simp only[hv,Ql,Qk]
  have hconf:pD m=some true:=by
   unfold pD;simp only[cD,vb,sn,fM,Qa]
   have fin:∀(hf:df m.ax) (hp:(dP m.ao m.ay m.ax||(!decide (m.aI=1)&&bM m.ax m.ab))=true),_:=fun hf hp=>(show(bif aF m.ax then some true else
     (bif !cO m.ax then some true else some (decide (1000<m.ax.aj))).bind fun b3=>bif b3 then some false else
     (bif dP m.ao m.ay m.ax then some true else(bif !decide (m.aI=1)then some (bM m.ax m.ab)else some false).bind fun b6=>some b6).bind fun b7=>some b7)=some true by
    rw[hf.nz,hf.valid,Qh (show¬1000<m.ax.aj by have:=hf.2.1;omega)]
    revert hp
    cases dP m.ao m.ay m.ax<;>cases decide (m.aI=1)<;>cases bM m.ax m.ab<;>simp)
   have nob:m.ax=bY->(bif aF m.ax then some true else
     (bif !cO m.ax then some true else some (decide (1000<m.ax.aj))).bind fun b3=>bif b3 then some false else
     (bif dP m.ao m.ay m.ax then some true else(bif !decide (m.aI=1)then some (bM m.ax m.ab)else some false).bind fun b6=>some b6).bind fun b7=>some b7)=some true:=fun e=>by rw[e,bP];rfl
   rcases h.body with k|k|k|k
   ·exact nob k.dS
   ·rcases k.dS with e|⟨hf,hp⟩
    ·exact nob e
    ·exact fin hf (by rw[hp];rfl)
   ·rcases k.dS with e|⟨hf,hp⟩
    ·exact nob e
    ·exact fin hf (by rw[ju.2 hp,Qh (show¬m.aI=1 by have:=k.aT;omega)];simp)
   ·exact nob k.dS
  rw[hconf];simp only[Qa,Qk];rcases h.body with k|k|k|k
  ·rw[k.aQ,bP]at hz;cases hz
  ·simp only[k.aT,k.bU,decide_true,Qo,Ql,Qa,Qp,Qk,show decide ((1:Int)=3)=false from rfl]
  ·simp only[k.aT,k.bV,bP,show decide ((2:Int)=1)=false from rfl,show decide ((2:Int)=3)=false from rfl,Qo,Ql,Qa,Qp,Qk]
  ·simp only[k.aT,k.bV,k.dB,bP,show decide ((3:Int)=1)=false from rfl,decide_true,Qo,Ql,Qa,Qp,Qk]
theorem vI{m:aa}(h:bo m)(hs:fT m):iw m=some true:=by
 have d1:decide (m.al<0)=false:=Qh (by have:=h.n0;omega)
 have d2:decide ((9:Int)<m.al)=false:=Qh (by have:=h.n1;omega)
 have d3:decide (m.bc<1)=false:=Qh (by have:=h.aK;omega)
 have d4:decide ((1000000:Int)<m.bc)=false:=Qh (by have:=h.aK;omega)
 have d5:decide (m.aE<0)=false:=Qh (by have:=h.seq;omega)
 have d6:decide ((1000000:Int)<m.aE)=false:=Qh (by have:=h.seq;omega)
 have d7:decide ((200:Int)<((m.ba.size:Nat):Int))=false:=Qh (by have:=h.sz;omega)
 have hm:c8 (c5 m).ak:=by rw[sL];exact h.aL.sm
 unfold iw;simp only[d1,d2,d3,d4,d5,d6,d7,Ql,Qa,etas,eD h.aL,decide_true,Qo];refine Nz h (fun i e he hd hx hw hi=> ?_) (fun hd=> ?_)
 ·obtain⟨g1,g2,g3,g4⟩:=h.hv e he;simp only[hd,hx,hw,Qk,Qa,aP,etas,ae.eta,jN g2.sm,g1,Qo,Ql,Qg g3,Qh g4];rcases hi with rfl|⟨hi,x,hx2,hn⟩
  ·rfl
  ·rw[hi,hx2];simp only[Qk,Qa,hn,Ql]
 ·simp only[hd,Ql];congr 1;simp only[cv,Dr,tL,gH,Qa,etas,aa.eta,ae.eta,ze,jN hm]
  cases hz:aF m.ab with
  |true=>
   have h0:P0 m:=by
    rcases h.body with k|k|k|k
    ·exact k
    ·rw[k.aQ.nz]at hz;cases hz
    ·rw[k.aQ.nz]at hz;cases hz
    ·rw[k.aQ.nz]at hz;cases hz
   simp only[h0.aT,hs.zero hz,h0.dB,h0.bV,h0.dS,h0.low,h0.bU,bP,decide_true,Qk,Qa]
  |false=>
   have hv:=Jp h hs hz;simp only[hv,Ql,Qo];rcases h.body with k|k|k|k
   ·rw[k.aQ,bP]at hz;cases hz
   ·simp only[k.aT,k.bU,decide_true,Qo,Ql,Qa,Qp,Qk,show decide ((1:Int)=3)=false from rfl,show decide ((1:Int)=2)=false from rfl]
    rcases k.dS with e|⟨hf,hp⟩
    ·rw[e,bP];rfl
    ·rw[hf.nz,hf.valid,Qh (show¬1000<m.ax.aj by have:=hf.2.1;omega),hp];rfl
   ·simp only[k.aT,k.bV,bP,show decide ((2:Int)=1)=false from rfl,show decide ((2:Int)=3)=false from rfl,decide_true,Qo,Ql,Qa,Qp,Qk]
    rcases k.dS with e|⟨hf,hp⟩
    ·rw[e,bP];rfl
    ·rw[hf.nz,hf.valid,Qh (show¬1000<m.ax.aj by have:=hf.2.1;omega),ju.2 hp];rfl
   ·simp only[k.aT,k.bV,k.dB,k.dS,bP,show decide ((3:Int)=1)=false from rfl,show decide ((3:Int)=2)=false from rfl,decide_true,Qo,Ql,Qa,Qp,Qk]
end
section
theorem CR(x:aa):(c6 x).al=x.al/\(c6 x).bc=x.bc/\(c6 x).ak=x.ak/\(c6 x).ba=x.ba/\(c6 x).au=x.au/\(c6 x).ab=x.ab:=by
 unfold c6;split<;>exact⟨rfl,rfl,rfl,rfl,rfl,rfl⟩
theorem aa6{x:aa}(hx:bo x):(c6 x).aE=x.aE\/(x.aE=0/\(c6 x).aE=1):=by
 have:=hx.seq;unfold c6;split
 ·show bD x.aE 1=x.aE\/(x.aE=0/\bD x.aE 1=1);unfold bD;split<;>omega
 ·exact .inl rfl
theorem z8{m m':aa}(he:ib m m')(h:¬m'=m):AB m m'=false:=by
 cases hs:AB m m' with
 |false=>rfl
 |true=>exact absurd (SQ he hs) h
theorem aad{R:aa->Prop}(hR1:∀m,bo m->R m->R (cm m))(hR2:∀m,R m->R (c6 m)){m:aa}(h:bo m)(hs:fT m)(hr:R m):Yd (ua m) (EK R m):=by
 unfold ua;simp only[aa.eta,etas,vI h hs,Qa,Qo,Ql];refine Yd.down (fun s=>bo s.1/\R s.1/\ib m s.1/\(aF m.ab=false->aF s.1.ab=false)) (fun s=>K1+K2 - jX s.1) ?_ ⟨h,hr,ib.refl m,id⟩
 rintro⟨x,z,_⟩ ⟨hx,hrx,hex,hzx⟩;simp only at hx hrx hex hzx;simp only[aa.eta,aP,XA hx.ev,Qa,ae3]
 have hgo:∀{y:aa},y=cm x->¬y=x->(bo y/\R y/\ib m y/\(aF m.ab=false->aF y.ab=false))/\K1+K2 - jX y<K1+K2 - jX x:=by
  rintro y rfl hne;have hv:=AW x;have hup:=(SL hx).resolve_left hne;have h1:=VV (ya hx);exact⟨⟨ya hx,hR1 _ hx hrx,⟨hv.aB.trans hex.aB,hv.aK.trans hex.aK,hv.seq.trans hex.seq,hv.aL.trans hex.aL,hv.sz.trans hex.sz,hv.heard.trans hex.heard⟩,fun hz=>KX hx (hzx hz)⟩,by omega⟩
 by_cases hP:cQ x=x
 ·simp only[hP,vk,Qk,VE hx.ev,Qa]
  by_cases hS:fR x=x
  ·simp only[hS,vk,Qk,VF hx.ev,Qa]
   by_cases hC:fD x=x
   ·simp only[hC,vk,Qk,aee hx.ev,Qa]
    by_cases hF:ix x=x
    ·simp only[hF,vk,Qk,abJ hx.ev,Qa];have e:cm x=fm x:=by unfold cm;rw[Qr hP,Qr hS,Qr hC,Qr hF]
     by_cases hK:fm x=x
     ·simp only[hK,vk,Qk,cv,Qa]
      have hnum:(bif !aF x.ab then Option.map Sum.inr (some (⟨x.al,x.bc,bD x.aE (1:Int),x.ak,x.aI,x.ab,x.ao,x.ay,x.ax,x.aS,x.bf,x.ba,x.au⟩:aa))else Option.map (Sum.inr (α:=aa×aa×Unit)) (some x))=some (Sum.inr (c6 x)):=by
       unfold c6;cases aF x.ab<;>rfl
      rw[hnum];obtain⟨e1,e2,e3,e4,e5,e6⟩:=CR x;refine .some ⟨z7 hx,Jr fun hz=> ?_,⟨e1.trans hex.aB,e2.trans hex.aK,e3.trans hex.aL,e4.trans hex.sz,e5.trans hex.heard⟩,?_,fun hz=>by rw[e6];exact hzx hz,hR2 _ hrx,aa7 hx ⟨hP,hS,hC,hF,hK⟩⟩
      ·rw[hex.seq];refine hs.zero ?_
       cases hzz:aF m.ab with
       |true=>rfl
       |false=>rw[hzx hzz]at hz;cases hz
      ·have:=aa6 hx;rw[hex.seq]at this;exact this
     ·simp only[z8 (AZ x) hK,Ql];exact .some (hgo e.symm hK)
    ·simp only[z8 (su x) hF,Ql];have e:cm x=ix x:=by unfold cm;rw[Qr hP,Qr hS,Qr hC,Qs hF]
     exact .some (hgo e.symm hF)
   ·simp only[z8 (sv x) hC,Ql];have e:cm x=fD x:=by unfold cm;rw[Qr hP,Qr hS,Qs hC]
    exact .some (hgo e.symm hC)
  ·simp only[z8 (ss x) hS,Ql];have e:cm x=fR x:=by unfold cm;rw[Qr hP,Qs hS]
   exact .some (hgo e.symm hS)
 ·simp only[z8 (uq x) hP,Ql];have e:cm x=cQ x:=by unfold cm;rw[Qs hP]
  exact .some (hgo e.symm hP)
open Classical in
 def qw(m m2:aa):aa:=if aF m.ab=false/\{c5 m with aE:=0}≠{c5 m2 with aE:=0}then{m2 with aE:=dF (m2.aE+1) 1000000}else m2
theorem GL(m m2:aa):∃s,qw m m2={m2 with aE:=s}/\(s=m2.aE\/s=dF (m2.aE+1) 1000000):=by
 unfold qw;split
 ·exact⟨_,rfl,.inr rfl⟩
 ·exact⟨m2.aE,rfl,.inl rfl⟩
theorem VH{m m2:aa}(h:bo m2):∃s,qw m m2={m2 with aE:=s}/\m2.aE<=s/\0<=s/\s<=1000000:=by
 obtain⟨s,h1,h2⟩:=GL m m2;have:=h.seq;refine⟨s,h1,?_⟩;rcases h2 with rfl|rfl
 ·omega
 ·unfold dF;split<;>omega
theorem abM{m m2:aa}(h:bo m2):bo (qw m m2):=by
 obtain⟨s,h1,h2⟩:=VH (m:=m) h;rw[h1];exact O4 h h2.2
theorem aex{m m2:aa}(h:bo m2)(hs:fT m2)(hnz:aF m.ab=false->aF m2.ab=false):fT (qw m m2):=by
 unfold qw;split
 ·rename_i hc;have:=hs.pos (hnz hc.1);refine⟨fun hz=> ?_,fun _=> ?_⟩
  ·rw[show({m2 with aE:=dF (m2.aE+1) 1000000}:aa).ab=m2.ab from rfl,hnz hc.1]at hz
   cases hz
  ·show 1<=dF (m2.aE+1) 1000000;unfold dF;split<;>omega
 ·exact hs
def I3(R:aa->Prop)(m m1:aa)(q:aa×Int×Unit):Prop:=∃m2,q=(qw m m2,(0:Int),())/\EK R (c6 m1) m2
theorem aeB{R:aa->Prop}{m1 m2:aa}(h1:bo m1)(h:EK R m1 m2):EK R (c6 m1) m2:=by
 obtain⟨e1,e2,e3,e4,e5,e6⟩:=CR m1;refine⟨h.inv,h.seq,?_,?_,fun hz=>h.nz (by rw[e6]at hz;exact hz),h.rel,h.fix⟩
 ·obtain⟨a1,a2,a3,a4,a5⟩:=h.env;exact⟨a1.trans e1.symm,a2.trans e2.symm,a3.trans e3.symm,a4.trans e4.symm,a5.trans e5.symm⟩
 ·have hn:=h.num;have hq:=h1.seq
  cases hz:aF m1.ab with
  |true=>
   have:c6 m1=m1:=Qs (by rw[hz];decide)
   rw[this];exact hn
  |false=>
   have h3:=h.seq.pos (h.nz hz);have:(c6 m1).aE=bD m1.aE 1:=by unfold c6;rw[Qr hz]
   rw[this];left;unfold bD;split<;>omega
theorem aeh{m:aa}(h:bo m):c8 ({c5 m with aE:=0}:ae).ak:=by rw[show({c5 m with aE:=0}:ae).ak=(c5 m).ak from rfl,sL];exact h.aL.sm
theorem B9{R:aa->Prop}(hR1:∀m,bo m->R m->R (cm m))(hR2:∀m,R m->R (c6 m)){m m1:aa}(h:bo m)(h1:bo m1)(hz1:aF m1.ab=true->m1.aE=0)(hnz:aF m.ab=false->aF m1.ab=false)(hr:R m1):
  Yd (ig m (c6 m1)) fun q=>∃m2,q=qw m m2/\EK R (c6 m1) m2:=by
 unfold ig;simp only[aa.eta,etas];refine Yd.bind (aad hR1 hR2 (z7 h1) (Jr hz1) (hR2 _ hr)) fun m2 ha=> ?_
 have hq:=ha.inv.seq;obtain⟨r,g1,g2⟩:=ah2 (a:={c5 m with aE:=0}) (b:={c5 m2 with aE:=0}) (aeh h)
 have hadd:aA .i64 m2.aE 1=m2.aE+1:=bE (by omega) (by omega)
 simp only[cv,Qa,ze,aP,g1,hadd]
 cases hz2:aF m2.ab with
 |true=>
  have hz:aF m.ab=true:=by
   cases hc:aF m.ab with
   |true=>rfl
   |false=>rw[ha.nz (by rw[(CR m1).2.2.2.2.2];exact hnz hc)]at hz2;cases hz2
  refine .some ⟨m2,?_,ha⟩;unfold qw;rw[Qs (by rw[hz];rintro⟨e,_⟩;cases e)]
 |false=>
  refine Yd.of_eq (x:=qw m m2) ?_ ⟨m2,rfl,ha⟩;unfold qw
  cases hz:aF m.ab with
  |true=>rw[Qs (by rintro⟨e,_⟩;cases e)];rfl
  |false=>
   cases r with
   |true=>rw[Qs (fun e=>e.2 (g2.1 rfl))];rfl
   |false=>rw[Qr ⟨rfl,fun e=>by have:=g2.2 e;cases this⟩];rfl
theorem ae2(a b:ae)(h:c8 a.ak)(hn:a.al=b.al)(hs:a.bc=b.bc):∃r,se a b=some r/\(r=true↔{a with aE:=0}={b with aE:=0}):=by
 obtain⟨r,h1,h2⟩:=eqT (a:=a.ak) (b:=b.ak) h;refine⟨r&&decide (a.bF=b.bF)&&decide (a.ab=b.ab)&&decide (a.ao=b.ao)&&decide (a.ay=b.ay)&&decide (a.aS=b.aS)&&decide (a.bf=b.bf),?_,?_⟩
 ·unfold se;simp only[etas,h1,Qa,WA,Wr,<-Bool.decide_and,<-N3,Qa]
 ·rw[Ws];simp only[Qm,Qi,hn,hs,h2,true_and];simp only[and_assoc]
theorem UC{m:aa}(h:bo m):pn m=some m:=by
 unfold pn;simp only[etas,qt h.aL.sm,Qa];rw[aal (fun e he=>(h.hv e he).2.1.sm) (by have:=h.len;omega)]
 rfl
theorem PN{l:List ae}{e:ae}(hv:aW e=true):
  (∃x∈l,x.al=e.al/\e.aE<=x.aE/\zY l e=(l,false,()))\/
  (∃a b,((∃x,l=a++x::b/\x.al=e.al/\x.aE<e.aE)\/(l=a++b/\(∀x∈l,x.al≠e.al)/\(∀x∈a,¬e.al<x.al)/\(∀x,b.head?=some x->e.al<x.al)))/\zY l e=(a++e::b,true,())):=by
 unfold zY;rw[Qr hv]
 cases hf:l.findIdx? (fun x=>decide (x.al=e.al))with
 |some i=>
  obtain⟨hi,h2,_⟩:=List.findIdx?_eq_some_iff_getElem.1 hf;have hx:l[i]?=some l[i]:=Qv hi;have h2:=of_decide_eq_true h2;simp only[hx,Q3]
  by_cases hle:e.aE<=l[i].aE
  ·left;rw[Qr hle];exact⟨l[i],Q0 hi,h2,hle,rfl⟩
  ·right;rw[Qs hle];refine⟨l.take i,l.drop (i+1),.inl ⟨l[i],?_,h2,by omega⟩,?_⟩
   ·rw[List.getElem_cons_drop];exact(List.take_append_drop i l).symm
   ·rw[List.set_eq_take_append_cons_drop,Qr hi]
 |none=>
  right
  have hne:∀x∈l,x.al≠e.al:=fun x hx he=>by
   have:=List.findIdx?_eq_none_iff.1 hf x hx;rw[he]at this;simp at this
  refine⟨l.take (N4 l e),l.drop (N4 l e),.inr ⟨(List.take_append_drop _ l).symm,hne,?_,?_⟩,by rw[QL];rfl⟩
  ·intro x hx hlt;obtain⟨j,hj,rfl⟩:=List.getElem_of_mem hx;rw[List.getElem_take]at hlt;rw[List.length_take]at hj;unfold N4 at hj
   cases hg:l.findIdx? (fun x=>decide (e.al<x.al))with
   |none=>
    have:=List.findIdx?_eq_none_iff.1 hg _ (Q0 (show j<l.length by omega))
    simp[hlt]at this
   |some k=>
    obtain⟨_,_,h3⟩:=List.findIdx?_eq_some_iff_getElem.1 hg;rw[hg,Q3]at hj;have:=h3 j (by omega)
    simp[hlt]at this
  ·intro x hx;rw[List.head?_drop]at hx;unfold N4 at hx
   cases hg:l.findIdx? (fun x=>decide (e.al<x.al))with
   |none=>rw[hg,Option.getD_none,Qq72 (QI _)]at hx;cases hx
   |some k=>
    obtain⟨hk,h2,_⟩:=List.findIdx?_eq_some_iff_getElem.1 hg;rw[hg,Q3,Qv hk]at hx;obtain rfl:=Option.some.inj hx;exact of_decide_eq_true h2
theorem adn{l:List ae}{e:ae}{y:ae}(hy:y∈(zY l e).1):y=e\/y∈l:=by
 by_cases hv:aW e=true
 ·rcases PN (l:=l) hv with⟨x,_,_,_,h⟩|⟨a,b,h1,h⟩
  ·rw[h]at hy;exact .inr hy
  ·rw[h]at hy;rcases Qz.1 hy with hy|hy
   ·rcases h1 with⟨x,rfl,_⟩|⟨rfl,_⟩
    ·exact .inr (List.mem_append_left _ hy)
    ·exact .inr (List.mem_append_left _ hy)
   ·rcases QA.1 hy with hy|hy
    ·exact .inl hy
    ·rcases h1 with⟨x,rfl,_⟩|⟨rfl,_⟩
     ·exact .inr (List.mem_append_right _ (Qy _ hy))
     ·exact .inr (List.mem_append_right _ hy)
 ·unfold zY at hy;rw[Qs hv]at hy;exact .inr hy
theorem Xx{l:List ae}{e:ae}(hl:l.Pairwise (fun a b=>a.al<b.al)):(zY l e).1.Pairwise (fun a b=>a.al<b.al):=by
 by_cases hv:aW e=true
 ·rcases PN (l:=l) hv with⟨x,_,_,_,h⟩|⟨a,b,h1,h⟩
  ·rw[h];exact hl
  ·rw[h];show(a++e::b).Pairwise _;rcases h1 with⟨x,rfl,hn,_⟩|⟨rfl,hne,ha,hb⟩
   ·rw[Qq69,Q4]at hl ⊢;obtain⟨g1,⟨g2,g3⟩,g4⟩:=hl;refine⟨g1,⟨fun y hy=> ?_,g3⟩,fun y hy z hz=> ?_⟩
    ·rw[<-hn];exact g2 y hy
    ·rcases QA.1 hz with rfl|hz
     ·rw[<-hn];exact g4 y hy x Qx
     ·exact g4 y hy z (Qy _ hz)
   ·rw[Qq69]at hl;rw[Qq69,Q4];obtain⟨g1,g3,g4⟩:=hl
    have hbe:∀y∈b,e.al<y.al:=by
     intro y hy
     cases b with
     |nil=>cases hy
     |cons z b=>
      have:=hb z rfl;rcases QA.1 hy with rfl|hy
      ·exact this
      ·have:=(Q4.1 g3).1 y hy;omega
    refine⟨g1,⟨hbe,g3⟩,fun y hy z hz=> ?_⟩
    rcases QA.1 hz with rfl|hz
    ·have h2:=ha y hy;have h3:=hne y (List.mem_append_left _ hy);omega
    ·exact g4 y hy z hz
 ·unfold zY;rw[Qs hv];exact hl
structure Fx (m:aa) (e:ae):Prop where
 valid:aW e=true
 aL:et e.ak
 aK:e.bc=m.bc
 aB:e.al≠m.al
 def Gw(m:aa)(e:ae):aa:={m with au:=(zY m.au e).1}
theorem Ua{m:aa}(h:bo m){e:ae}(he:Fx m e):bo (Gw m e):=by
 refine⟨h.n0,h.n1,h.aK,h.seq,h.aL,h.sz,fun y hy=> ?_,Xx h.eV,?_⟩
 ·rcases adn hy with rfl|hy
  ·exact⟨he.valid,he.aL,he.aK,he.aB⟩
  ·exact h.hv y hy
 ·rcases h.body with k|k|k|k
  ·exact .inl ⟨k.aT,k.aQ,k.dB,k.bV,k.dS,k.low,k.bU⟩
  ·exact .inr (.inl ⟨k.aT,k.aQ,k.dB,k.bV,k.dS,k.up,k.bU,k.low⟩)
  ·exact .inr (.inr (.inl ⟨k.aT,k.aQ,k.dB,k.bV,k.dS,k.range⟩))
  ·exact .inr (.inr (.inr ⟨k.aT,k.aQ,k.dB,k.bV,k.dS,k.range⟩))
def GD(m:aa)(t:af):aa:={m with ak:=t}
theorem Uu{m:aa}(h:bo m){t:af}(ht:et t):bo (GD m t):=by
 refine⟨h.n0,h.n1,h.aK,h.seq,ht,h.sz,h.hv,h.eV,?_⟩;rcases h.body with k|k|k|k
 ·exact .inl ⟨k.aT,k.aQ,k.dB,k.bV,k.dS,k.low,k.bU⟩
 ·exact .inr (.inl ⟨k.aT,k.aQ,k.dB,k.bV,k.dS,k.up,k.bU,k.low⟩)
 ·exact .inr (.inr (.inl ⟨k.aT,k.aQ,k.dB,k.bV,k.dS,k.range⟩))
 ·exact .inr (.inr (.inr ⟨k.aT,k.aQ,k.dB,k.bV,k.dS,k.range⟩))
def dV(m:aa)(v:ByteArray):aa:=if aF m.ab=true then{m with ba:=v,ab:=⟨1,dI {m with ba:=v}⟩}else{m with ba:=v}
theorem acX{v:ByteArray}(h:1<=v.size):v≠fE:=by
 rintro rfl;exact absurd h (by decide)
theorem Sz{m:aa}(h:P0 m){v:ByteArray}(hv:1<=v.size):dI {m with ba:=v}=v:=by
 unfold dI;rw[Qs (by rw[show({m with ba:=v}:aa).ax=m.ax from rfl,h.dS,bP];decide),Qs (by rw[show({m with ba:=v}:aa).aI=m.aI from rfl,h.aT];decide),Qr (acX hv)]
theorem CM{m:aa}(h:bo m){v:ByteArray}(hv:1<=v.size/\v.size<=200):bo (dV m v):=by
 unfold dV;rcases h.body with k|k|k|k
 ·rw[Qr (by rw[k.aQ];exact bP),Sz k hv.1]
  refine⟨h.n0,h.n1,h.aK,h.seq,h.aL,hv.2,h.hv,h.eV,.inr (.inl ⟨k.aT,⟨by show(1:Int)<=1;omega,by show(1:Int)<=1000;omega,hv.1,hv.2⟩,.inl k.dB,.inl k.bV,.inl k.dS,?_,k.bU,.inl k.low⟩)⟩
  show bx _ m.ax=false;rw[k.dS]
  cases hl:bx (⟨1,v⟩:ai) bY with
  |false=>rfl
  |true=>have:=iW hl;exact absurd (show(1:Int)<=0 from this) (by decide)
 ·rw[Qs (by rw[k.aQ.nz];decide)]
  exact⟨h.n0,h.n1,h.aK,h.seq,h.aL,hv.2,h.hv,h.eV,.inr (.inl ⟨k.aT,k.aQ,k.dB,k.bV,k.dS,k.up,k.bU,k.low⟩)⟩
 ·rw[Qs (by rw[k.aQ.nz];decide)]
  exact⟨h.n0,h.n1,h.aK,h.seq,h.aL,hv.2,h.hv,h.eV,.inr (.inr (.inl ⟨k.aT,k.aQ,k.dB,k.bV,k.dS,k.range⟩))⟩
 ·rw[Qs (by rw[k.aQ.nz];decide)]
  exact⟨h.n0,h.n1,h.aK,h.seq,h.aL,hv.2,h.hv,h.eV,.inr (.inr (.inr ⟨k.aT,k.aQ,k.dB,k.bV,k.dS,k.range⟩))⟩
def pz(m:aa):aa:={m with aS:=if dI m=m.ab.Value then m.aS else 0,ab:=⟨m.ab.aj+1,dI m⟩}
theorem aaq{m:aa}(h:bo m)(h3:m.aI≠3)(hv:dI m≠fE):1<=(dI m).size/\(dI m).size<=200:=by
 have h1:m.aI=1->(m.ax=bY\/df m.ax)->1<=(dI m).size/\(dI m).size<=200:=fun hp hc=>by
  refine VN h hp hc ?_;refine Classical.byContradiction fun hn=>hv ?_
  simp only[not_or,Classical.not_not]at hn;obtain⟨a1,a2,a3⟩:=hn;unfold dI;rw[Qs (by rw[a3,bP];decide),Qs (by rw[hp];decide),Qs (by rw[a2];exact fun e=>e rfl),a1]
  rfl
 rcases h.body with k|k|k|k
 ·exact h1 k.aT (.inl k.dS)
 ·exact h1 k.aT (k.dS.imp_right And.left)
 ·unfold dI;rcases k.dS with e|⟨hf,_⟩
  ·rw[Qs (by rw[e,bP];decide),Qr (by rw[k.aT];decide)]
   exact k.aQ.2.2
  ·rw[Qr hf.nz];exact hf.2.2
 ·exact absurd k.aT h3
theorem agl{m:aa}(k:P2 m):dI m=m.ab.Value:=by
 unfold dI;rcases k.dS with e|⟨hf,he⟩
 ·rw[Qs (by rw[e,bP];decide),Qr (by rw[k.aT];decide)]
 ·rw[Qr hf.nz,he]
theorem SJ{m:aa}(h:bo m)(h3:m.aI≠3)(hv:dI m≠fE)(hc:m.ab.aj<1000):bo (pz m):=by
 have hsz:=aaq h h3 hv;refine⟨h.n0,h.n1,h.aK,h.seq,h.aL,h.sz,h.hv,h.eV,?_⟩;have hfin:0<=m.ab.aj->df (pz m).ab:=fun h0=>⟨by show 1<=m.ab.aj+1;omega,by show m.ab.aj+1<=1000;omega,hsz⟩
 rcases h.body with k|k|k|k
 ·have h0:m.ab.aj=0:=by rw[k.aQ];rfl
  refine .inr (.inl ⟨k.aT,hfin (by omega),.inl k.dB,.inl k.bV,.inl k.dS,?_,k.bU,.inl ?_⟩)
  ·show bx (⟨m.ab.aj+1,dI m⟩:ai) m.ax=false;rw[k.dS]
   cases hl:bx (⟨m.ab.aj+1,dI m⟩:ai) bY with
   |false=>rfl
   |true=>have:=iW hl;exact absurd (show m.ab.aj+1<=0 from this) (by omega)
  ·show(if dI m=m.ab.Value then m.aS else 0)=0
   rw[k.low,ite_self]
 ·have hb:=k.aQ;have h0:0<=m.ab.aj:=by have:=hb.1;omega
  refine .inr (.inl ⟨k.aT,hfin h0,k.dB,k.bV,k.dS,?_,k.bU,?_⟩)
  ·show bx (⟨m.ab.aj+1,dI m⟩:ai) m.ax=false
   cases hl:bx (⟨m.ab.aj+1,dI m⟩:ai) m.ax with
   |false=>rfl
   |true=>
    have h1:=iW hl;have h2:=Ld k.up;exact absurd (show m.ab.aj+1<=m.ax.aj from h1) (by omega)
  ·show(if dI m=m.ab.Value then m.aS else 0)=0\/_
   by_cases he:dI m=m.ab.Value
   ·have hlow:(pz m).aS=m.aS:=by show(if dI m=m.ab.Value then m.aS else 0)=m.aS;rw[Qr he]
    have hhigh:fo (pz m)=fo m:=by
     show(if(!aF m.ax&&bM m.ax ⟨m.ab.aj+1,dI m⟩)=true then m.ax.aj else 0)=fo m
     rw[he];rfl
    rw[Qr he,hlow,hhigh];rcases k.low with e|⟨g1,g2,g3⟩
    ·exact .inl e
    ·refine .inr ⟨g1,g2,?_⟩;show mX m.ao m.ay (dI m) m.aS=false;rw[he];exact g3
   ·rw[Qs he];exact .inl rfl
 ·have hb:=k.aQ;have h0:0<=m.ab.aj:=by have:=hb.1;omega
  have hv2:=agl k;have hval:(pz m).ab.Value=m.ab.Value:=hv2;have hlow:(pz m).aS=m.aS:=by show(if dI m=m.ab.Value then m.aS else 0)=m.aS;rw[Qr hv2]
  refine .inr (.inr (.inl ⟨k.aT,hfin h0,?_,k.bV,?_,?_⟩))
  ·rw[hval];exact k.dB
  ·rw[hval];exact k.dS
  ·rw[hlow];exact k.range
 ·exact absurd k.aT h3
end
section
def agk:af:=⟨0,[],[]⟩
def Sa:aa:=⟨0,0,0,agk,0,bY,bY,bY,bY,0,0,fE,[]⟩
theorem Tu{m m1:aa}(hs:fT m)(hb:aF m1.ab=aF m.ab)(hq:m1.aE=m.aE):c6 m1=m1:=by
 refine adK ⟨fun hz=> ?_,fun hz=> ?_⟩
 ·rw[hq];exact hs.zero (by rw[<-hb];exact hz)
 ·rw[hq];exact hs.pos (by rw[<-hb];exact hz)
theorem nq{m:aa}{v:ByteArray}:(aF m.ab=false->aF (dV m v).ab=false)/\(dV m v).aE=m.aE:=by
 unfold dV;split
 ·rename_i hz;refine⟨fun e=> ?_,rfl⟩
  rw[hz]at e;cases e
 ·exact⟨fun e=>e,rfl⟩
theorem aaW{m:aa}(h:bo m){v:ByteArray}(hv:1<=v.size/\v.size<=200):aF (dV m v).ab=false:=by
 rcases h.body with k|k|k|k
 ·unfold dV;rw[Qr (by rw[k.aQ];exact bP),Sz k hv.1]
  exact df.nz ⟨by show(1:Int)<=1;omega,by show(1:Int)<=1000;omega,hv.1,hv.2⟩
 ·exact nq.1 k.aQ.nz
 ·exact nq.1 k.aQ.nz
 ·exact nq.1 k.aQ.nz
theorem Jb{m:aa}(h:bo m):aF (pz m).ab=false:=by
 have:0<=m.ab.aj:=by
  rcases h.body with k|k|k|k
  ·rw[k.aQ];decide
  ·have:=k.aQ.1;omega
  ·have:=k.aQ.1;omega
  ·have:=k.aQ.1;omega
 cases hz:aF (pz m).ab with
 |false=>rfl
 |true=>
  have:=xV.1 hz;have h2:m.ab.aj+1=0:=congrArg ai.aj this;omega
section
variable {R : aa -> Prop} (hR1 : ∀ m, bo m -> R m -> R (cm m)) (hR2 : ∀ m, R m -> R (c6 m)) {m : aa} (h : bo m) (hs : fT m)
 include hR1 hR2 h hs
theorem K5{v:ByteArray}(hv:1<=v.size/\v.size<=200)(hr:R (dV m v)):Yd (jR m v) (I3 R m (dV m v)):=by
 have d1:decide (((ByteArray.size v:Nat):Int)<(1:Int))=false:=Qh (by omega)
 have d2:decide ((200:Int)<((ByteArray.size v:Nat):Int))=false:=Qh (by omega)
 have hi:=CM h hv;have hval:nT {m with ba:=v}=some (dI {m with ba:=v}):=On (m:={m with ba:=v}) ⟨h.ev.n0,h.ev.n1,h.ev.aL,h.ev.len,h.ev.sm,h.ev.valid⟩
 unfold jR;simp only[aa.eta,etas,vI h hs,Qa,Qo,Ql,d1,d2,cv,aP]
 have key:Yd ((ig m (c6 (dV m v))).bind fun r5=>some (r5,(0:Int),())) (I3 R m (dV m v)):=
  Yd.bind (B9 hR1 hR2 h hi (fun hz=>by rw[nq.2];exact hs.zero (by cases hc:aF m.ab with|true=>rfl|false=>rw[nq.1 hc]at hz;cases hz)) nq.1 hr) fun q hq=>by
   obtain⟨m2,rfl,ha⟩:=hq;exact .some ⟨m2,rfl,ha⟩
 cases hz:aF m.ab with
 |true=>
  have hsq:=hs.zero hz
  have he:c6 (dV m v)=⟨m.al,m.bc,1,m.ak,m.aI,⟨1,dI {m with ba:=v}⟩,m.ao,m.ay,m.ax,m.aS,m.bf,v,m.au⟩:=by
   unfold c6;rw[Qr (aaW h hv),nq.2,hsq];unfold dV;rw[Qr hz];rfl
  rw[he]at key;simp only[Qk];rw[show(⟨m.al,m.bc,m.aE,m.ak,m.aI,m.ab,m.ao,m.ay,m.ax,m.aS,m.bf,v,m.au⟩:aa)={m with ba:=v}from rfl,hval]
  exact key
 |false=>
  have he:c6 (dV m v)=⟨m.al,m.bc,m.aE,m.ak,m.aI,m.ab,m.ao,m.ay,m.ax,m.aS,m.bf,v,m.au⟩:=by
   rw[Tu hs (by rw[nq.1 hz,hz]) nq.2]
   unfold dV;rw[Qs (by rw[hz];decide)]
  rw[he]at key;exact key
theorem aaI{e:ae}(he:Fx m e)(hr:R (Gw m e)):Yd (lz m e) fun q=>(I3 R m (Gw m e) q/\(zY m.au e).2.1=true)\/(q=(Sa,(9:Int),())/\(zY m.au e).2.1=false):=by
 have hi:=Ua h he;have hlen:=h.len;have hput:=ac9 (l:=m.au) (fun x hx=>(h.hv x hx).2.1.sm) (by omega) (e:=e) he.aL.sm
 have hid:c6 (Gw m e)=Gw m e:=Tu hs rfl rfl;unfold lz;simp only[aa.eta,etas,ae.eta,vI h hs,Qa,Qo,Ql,jN he.aL.sm,he.valid,Qh he.aB,Qg he.aK,hput]
 cases hp:(zY m.au e).2.1 with
 |false=>exact .some (.inr ⟨rfl,rfl⟩)
 |true=>
  have:=B9 hR1 hR2 h hi hs.zero (fun e=>e) hr
  rw[hid]at this;refine Yd.bind this fun q hq=> ?_
  obtain⟨m2,rfl,ha⟩:=hq;exact .some (.inl ⟨⟨m2,rfl,by rw[hid];exact ha⟩,rfl⟩)
theorem aaG(hr:R (pz m)):Yd (qA m) fun q=>(I3 R m (pz m) q/\m.aI≠3/\dI m≠fE/\m.ab.aj<1000)\/(q=(Sa,(62:Int),())/\(m.aI=3\/dI m=fE))\/(q=(Sa,(3:Int),())/\1000<=m.ab.aj):=by
 unfold qA;simp only[aa.eta,etas,vI h hs,Qa,Qo,Ql,On h.ev,aP]
 by_cases h3:m.aI=3
 ·rw[Qg h3];exact .some (.inr (.inl ⟨rfl,.inl h3⟩))
 ·rw[Qh h3]
  by_cases hv:dI m=ByteArray.mk #[]
  ·rw[Qg hv];exact .some (.inr (.inl ⟨rfl,.inr hv⟩))
  ·rw[Qh hv]
   by_cases hc:(1000:Int)<=m.ab.aj
   ·rw[Qg hc];exact .some (.inr (.inr ⟨rfl,hc⟩))
   ·rw[Qh hc];have hi:=SJ h h3 hv (by omega)
    have hb0:0<=m.ab.aj:=by
     rcases h.body with k|k|k|k
     ·rw[k.aQ];decide
     ·have:=k.aQ.1;omega
     ·have:=k.aQ.1;omega
     ·have:=k.aQ.1;omega
    have hadd:aA .i64 m.ab.aj 1=m.ab.aj+1:=bE (by omega) (by omega)
    have key:Yd ((ig m (c6 (pz m))).bind fun r5=>some (r5,(0:Int),())) (I3 R m (pz m)):=
     Yd.bind (B9 hR1 hR2 h hi (fun hz=>by rw[Jb h]at hz;cases hz) (fun _=>Jb h) hr) fun q hq=>by
      obtain⟨m2,rfl,ha⟩:=hq;exact .some ⟨m2,rfl,ha⟩
    have he:c6 (pz m)=⟨m.al,m.bc,bD m.aE 1,m.ak,m.aI,⟨m.ab.aj+1,dI m⟩,m.ao,m.ay,m.ax,(if dI m=m.ab.Value then m.aS else 0),m.bf,m.ba,m.au⟩:=by
     unfold c6;rw[Qr (Jb h)];rfl
    rw[he]at key;simp only[hadd,Ql,Qk]
    by_cases hev:dI m=m.ab.Value
    ·simp only[Qg hev,Qo,Ql];rw[Qr hev]at key;exact key.mono fun q hq=> .inl ⟨hq,h3,hv,by omega⟩
    ·simp only[Qh hev,Qp,Qk];rw[Qs hev]at key;exact key.mono fun q hq=> .inl ⟨hq,h3,hv,by omega⟩
theorem aaO{t:af}(ht:et t)(hr:R (GD m t)):Yd (qB m t) (I3 R m (GD m t)):=by
 have hi:=Uu h ht;have hid:c6 (GD m t)=GD m t:=Tu hs rfl rfl;unfold qB;simp only[aa.eta,etas,vI h hs,Qa,Qo,Ql,eD ht,decide_true];have:=B9 hR1 hR2 h hi hs.zero (fun e=>e) hr
 rw[hid]at this;refine Yd.bind this fun q hq=> ?_
 obtain⟨m2,rfl,ha⟩:=hq;exact .some ⟨m2,rfl,by rw[hid];exact ha⟩
end
def Ei(aB aK:Int)(t:af):aa:=⟨aB,aK,0,t,1,bY,bY,bY,bY,0,0,fE,[]⟩
theorem ahU{aB aK:Int}{t:af}(h0:0<=aB)(h1:aB<10)(h2:1<=aK)(h3:aK<=1000000)(ht:et t):AS aB aK t=some (Ei aB aK t,(0:Int),()):=by
 unfold AS;simp only[etas,Qh (show¬aB<0 by omega),Qh (show¬(9:Int)<aB by omega),Qh (show¬aK<1 by omega),Qh (show¬(1000000:Int)<aK by omega),Ql,Qa,eD ht,decide_true,Qo]
 rfl
theorem ahY{aB aK:Int}{t:af}(h0:0<=aB)(h1:aB<10)(h2:1<=aK)(h3:aK<=1000000)(ht:et t):xk aB aK t=some (Ei aB aK t,(0:Int),()):=by
 unfold xk;simp only[etas,Qh (show¬aB<0 by omega),Qh (show¬(10:Int)<=aB by omega),Qh (show¬aK<1 by omega),Qh (show¬(1000000:Int)<aK by omega),Ql,Qa,dn ht,decide_true,Qo,qt ht.sm]
 rfl
theorem We{aB aK:Int}{t:af}(h0:0<=aB)(h1:aB<10)(h2:1<=aK)(h3:aK<=1000000)(ht:et t):bo (Ei aB aK t)/\fT (Ei aB aK t):=
 ⟨⟨h0,h1,⟨h2,h3⟩,⟨by show(0:Int)<=0;omega,by show(0:Int)<=1000000;omega⟩,ht,(by show fE.size<=200;decide),(fun e he=>absurd he QR),List.Pairwise.nil,.inl ⟨rfl,rfl,rfl,rfl,rfl,rfl,rfl⟩⟩,⟨fun _=>rfl,fun hz=>absurd (show aF bY=false from hz) (by rw[bP];decide)⟩⟩
section
variable {R : aa -> Prop} (hR1 : ∀ m, bo m -> R m -> R (cm m)) (hR2 : ∀ m, R m -> R (c6 m)) {m : aa} (h : bo m) (hs : fT m)
 include hR1 hR2 h hs
theorem abI{m1:aa}(h1:bo m1)(hz1:aF m1.ab=true->m1.aE=0)(hnz:aF m.ab=false->aF m1.ab=false)(hn:m1.al=m.al)(hsl:m1.bc=m.bc)(hr:R m1):
  Yd (Option.bind (jj ⟨m1⟩) fun p4=>
   aY (fun(v5:aH×Unit)=>some (v5.1.an,(0:Int),())) fun j6=>
   aY (fun(v7:Bool×Unit)=>
   bif v7.1 then
   j6 ((aH.mk (aa.mk p4.2.an.al p4.2.an.bc (dF (aA .i64 p4.2.an.aE (1:Int)) (1000000:Int)) p4.2.an.ak p4.2.an.aI p4.2.an.ab p4.2.an.ao p4.2.an.ay p4.2.an.ax p4.2.an.aS p4.2.an.bf p4.2.an.ba p4.2.an.au)),())
   else
   j6 (p4.2,())) fun j8=>
   Option.bind (bB m.ab) fun r9=>
   bif (!r9)then
   Option.bind (eX m) fun r10=>
   Option.bind (eX p4.2.an) fun r11=>
   Option.bind (se r10 r11) fun r12=>
   j8 ((!r12),())
   else
   j8 (false,())) (I3 R m m1):=by
 refine Yd.bind (aac hR1 hR2 h1 hz1 hr) fun q hq=> ?_
 obtain⟨m2,rfl,ha⟩:=hq;have hq:=ha.inv.seq;have hadd:aA .i64 m2.aE 1=m2.aE+1:=bE (by omega) (by omega)
 obtain⟨r,g1,g2⟩:=ae2 (c5 m) (c5 m2) (by rw[sL];exact h.aL.sm) (by rw[yf,yf,ha.env.1,hn]) (by rw[D1,D1,ha.env.2.1,hsl])
 simp only[aP,cD,Qa,A7,E3 h,E3 ha.inv,hadd,g1];have hb:=aeB h1 ha;refine Yd.of_eq (x:=(qw m m2,(0:Int),())) ?_ ⟨m2,rfl,hb⟩;unfold qw
 cases hz:aF m.ab with
 |true=>rw[Qs (by rintro⟨e,_⟩;cases e)];rfl
 |false=>
  cases r with
  |true=>rw[Qs (fun e=>e.2 (g2.1 rfl))];rfl
  |false=>rw[Qr ⟨rfl,fun e=>by have:=g2.2 e;cases this⟩];rfl
theorem Tm{v:ByteArray}(hv:1<=v.size/\v.size<=200)(hr:R (dV m v)):Yd (lM m v) (I3 R m (dV m v)):=by
 have d1:decide (((ByteArray.size v:Nat):Int)<(1:Int))=false:=Qh (by omega)
 have d2:decide ((200:Int)<((ByteArray.size v:Nat):Int))=false:=Qh (by omega)
 have hi:=CM h hv;have hval:iB ⟨{m with ba:=v}⟩=some (dI {m with ba:=v}):=Tg (m:={m with ba:=v}) ⟨h.ev.n0,h.ev.n1,h.ev.aL,h.ev.len,h.ev.sm,h.ev.valid⟩
 have hdo:pE ⟨m⟩ v=some ((0:Int),⟨dV m v⟩):=by
  unfold pE dV;simp only[aa.eta,aH.eta,d1,d2,Ql,Qa,cD,aP]
  cases hz:aF m.ab with
  |true=>
   simp only[Qk,Qt,etas];rw[show(⟨m.al,m.bc,m.aE,m.ak,m.aI,m.ab,m.ao,m.ay,m.ax,m.aS,m.bf,v,m.au⟩:aa)={m with ba:=v}from rfl,hval]
   rfl
  |false=>simp only[Ql,Qq,Qu,etas]
 unfold lM sf;simp only[aa.eta,etas,ae.eta,aH.eta,JE h hs,UC h,hdo,Qa,Qo,Ql,decide_true];refine Yd.bind (abI hR1 hR2 h hs hi (fun hz=>by rw[nq.2];exact hs.zero (by cases hc:aF m.ab with|true=>rfl|false=>rw[nq.1 hc]at hz;cases hz)) nq.1 (by unfold dV;split<;>rfl) (by unfold dV;split<;>rfl) hr) fun q hq=> ?_
 obtain⟨m2,rfl,ha⟩:=hq;exact .some ⟨m2,rfl,ha⟩
end
theorem aa2{m:aa}(h:bo m)(hs:fT m):∃e,rj m=some (e,!aF m.ab,())/\(aF m.ab=false->e=c5 m):=by
 unfold rj;simp only[aa.eta,etas,ae.eta,cD,JE h hs,UC h,A7,E3 h,Qa]
 cases aF m.ab with
 |true=>exact⟨_,rfl,fun e=>by cases e⟩
 |false=>exact⟨_,rfl,fun _=>rfl⟩
theorem F2{m:aa}(h:bo m)(hs:fT m):og m=some (bif decide (m.aI=3)then m.ab.Value else fE,decide (m.aI=3),()):=by
 unfold og;simp only[aa.eta,etas,JE h hs,Qa];cases decide (m.aI=3)<;>rfl
end
section
def gT(n:Nat)(k:Int)(i s:Nat):Bool:=s.testBit i&&decide (k<=(((vW n).countP (lU s):Nat):Int))
def bT(n:Nat)(k:Int)(i s:Nat):Bool:= !decide (k<=(((vW n).countP (lU (zZ s i)):Nat):Int))
structure xh (n:Nat) (k:Int) (m:aa):Prop where
 n10:n<=10
 k1:1<=k
 kn:k<=n
 aL:m.ak=flat n k
 heard:∀e∈m.au,e.ak=flat n k
theorem xh.all{n:Nat}{k:Int}{m:aa}(hf:xh n k m){e:ae}(he:e∈bh m):e.ak=flat n k:=by
 rcases Av he with he|⟨_,rfl⟩
 ·exact hf.heard e he
 ·rw[F3];exact hf.aL
section
variable {n : Nat} {k : Int} {m : aa} (h : bo m) (hf : xh n k m)
 include h
theorem zS:bW (bh m)=bh m:=Mw h.lR
 include hf
theorem SO{j:Nat}(hj:j<10)(hs:j=m.al.toNat\/∃e∈bh m,e.al.toNat=j):n9 (gy m.al.toNat m.ak (bh m)) j=true/\mm (gy m.al.toNat m.ak (bh m)) j=flat n k:=
 YD h.ev.aB.2 (fun _=>flat n k) hf.aL.symm (fun e he=>by rw[zS h]at he;exact hf.all he) hj (by rw[zS h];exact hs)
theorem XP{s:Nat}(hs:∀j,s.testBit j=true->∃e∈bh m,e.al.toNat=j):(gq (gy m.al.toNat m.ak (bh m)) s).testBit m.al.toNat=gT n k m.al.toNat s:=by
 have hs10:∀j,s.testBit j=true->j<10:=fun j hj=>by
  obtain⟨e,he,rfl⟩:=hs j hj;have:=jc (h.lR e he);omega
 have hg:=Cg (ml (aB:=m.al.toNat) h.aL.sm h.ev.lZ.1) (E4 hs10);have hi:=SO h hf h.ev.aB.2 (.inl rfl);unfold gT;rw[QW,Qm,Qi];constructor
 ·intro hb;have h1:=hg.inside _ hb;refine⟨h1.1,?_⟩;have h3:=h1.2.2;rw[hi.2,K3]at h3;have h3:=of_decide_eq_true h3;have h2:=X5 (s':=s) (fun j hj=>(hg.inside j hj).1) (vW n)
  omega
 ·rintro⟨hb,hc⟩;refine hg.max s (fun j hj=> ?_) _ hb
  obtain⟨g1,g2⟩:=SO h hf (hs10 j hj) (.inr (hs j hj));exact⟨hj,g1,by rw[g2,K3];exact Qg hc⟩
theorem abN(s:Nat):vK (gy m.al.toNat m.ak (bh m)) m.al.toNat s=bT n k m.al.toNat s:=by
 obtain⟨g1,g2⟩:=SO h hf h.ev.aB.2 (.inl rfl);unfold vK bT;rw[g1,g2,K3,Bool.true_and]
end
theorem I8{p:ae->Bool}{l:List ae}{j:Nat}(hb:(dE p l).testBit j=true):∃e∈l,e.al.toNat=j:=by
 rw[xm,List.any_eq_true]at hb;obtain⟨e,he,hp⟩:=hb;rw[Qm,Qi]at hp;exact⟨e,he,hp.2⟩
theorem Sv{p q:ae->Bool}{l:List ae}{j:Nat}(hb:(dE p l|||dE q l).testBit j=true):∃e∈l,e.al.toNat=j:=by
 rw[Nat.testBit_or,Qn]at hb;rcases hb with hb|hb
 ·exact I8 hb
 ·exact I8 hb
def UU(n:Nat)(k:Int)(i:Nat)(l:List ae)(b:ai):Bool:=bT n k i (dE (dj · b) l)||gT n k i (dE (fun e=>pZ e b||dj e b) l|||dE (dj · b) l)
def NR(n:Nat)(k:Int)(i:Nat)(l:List ae)(b:ai):Bool:=gT n k i (dE (dj · b) l)
def uj(n:Nat)(k:Int)(i:Nat)(l:List ae)(v:ByteArray)(lo hi:Int):Bool:=bT n k i (dE (fL · v lo hi) l)||gT n k i (dE (fun e=>s9 e v lo hi||fL e v lo hi) l|||dE (fL · v lo hi) l)
def L9(n:Nat)(k:Int)(i:Nat)(l:List ae)(v:ByteArray)(lo hi:Int):Bool:=gT n k i (dE (fL · v lo hi) l)
def ace(e:ae):List ai:=if e.bF=1 then[e.ab,e.ao,e.ay]else if e.bF=2 then[e.ao,at_ e 1000000]else[at_ e 1000000]
def uT(l:List ae):List ai:=((l.flatMap ace).filter fun b=> !aF b).foldl (fun l x=>dG (fun x y=>bx y x) x l) []
def Om(l:List ae):List ByteArray:=(l.map (·.ab.Value)).foldl (fun l x=>dG bJ x l) []
def Sp(v:ByteArray)(e:ae):List Int:=if e.ab.Value=v/\e.aS≠0 then[e.aS,e.bf]else[]
def tB(l:List ae)(v:ByteArray):List Int:=(l.flatMap (Sp v)).foldl (fun l x=>dG (fun a b=>decide (a<b)) x l) []
section
variable {l : List ae} (hv : ∀ e ∈ l, aW e = true) (hsm : ∀ e ∈ l, c8 e.ak) (hlen : l.length <= 1000)
 include hv hsm hlen
theorem RA:eR l=uT l:=by
 obtain⟨_,h2,_,h4⟩:=mL hsm hlen;obtain⟨h5,h6⟩:=Bk Az.flip ((l.flatMap ace).filter fun b=> !aF b) [] .nil
 refine Az.flip.unique h2 h5 fun x=> ?_
 unfold uT;rw[h4,h6];simp only[List.mem_filter,QQ,QR,or_false,Bool.not_eq_true'];constructor
 ·rintro⟨e,he,hx,hz⟩;refine⟨⟨e,he,?_⟩,hz⟩;unfold said at hx;rw[hv e he]at hx;exact hx
 ·rintro⟨⟨e,he,hx⟩,hz⟩;refine⟨e,he,?_,hz⟩;unfold said;rw[hv e he];exact hx
theorem aao:gk l=Om l:=by
 obtain⟨_,h2,_,h4⟩:=sx hsm hlen;obtain⟨h5,h6⟩:=Bk ic (l.map (·.ab.Value)) [] .nil;refine ic.unique h2 h5 fun x=> ?_
 unfold Om;rw[h4,h6];simp only[QP,QR,or_false];constructor
 ·rintro⟨e,he,_,rfl⟩;exact⟨e,he,rfl⟩
 ·rintro⟨e,he,rfl⟩;exact⟨e,he,hv e he,rfl⟩
theorem LX:bs l=tB l:=by
 funext v
 obtain⟨_,h2,_,h4⟩:=iQ hsm hlen v;obtain⟨h5,h6⟩:=Bk Cq (l.flatMap (Sp v)) [] .nil;refine Cq.unique (h2.imp fun hab=>Qg hab) h5 fun x=> ?_
 unfold tB;rw[h4,h6,Ab];simp only[QQ,QR,or_false];constructor
 ·rintro⟨e,he,hb,hx⟩;refine⟨e,he,?_⟩;simp only[iI,Qm,Qi,Bool.not_eq_true',Qj]at hb;unfold Sp;rw[Qr ⟨hb.1.2,hb.2⟩];simpa using hx
 ·rintro⟨e,he,hx⟩;unfold Sp at hx;split at hx
  ·rename_i hc;refine⟨e,he,?_,by simpa using hx⟩
   simp only[iI,Qm,Qi,Bool.not_eq_true',Qj];exact⟨⟨hv e he,hc.1⟩,hc.2⟩
  ·cases hx
end
section
variable {n : Nat} {k : Int} {m : aa} (h : bo m) (hf : xh n k m)
 include h hf
theorem ag9:lj m.al.toNat m.ak (bh m)=UU n k m.al.toNat (bh m):=by
 funext b
 unfold lj kp UU;rw[zS h,abN h hf,XP h hf fun j hj=>Sv hj]
theorem afZ:jY m.al.toNat m.ak (bh m)=NR n k m.al.toNat (bh m):=by
 funext b
 unfold jY NR;rw[zS h,XP h hf fun j hj=>I8 hj]
theorem VU:gD m=uj n k m.al.toNat (bh m):=by
 funext v lo hi
 unfold gD lQ kp uj;rw[zS h,abN h hf,XP h hf fun j hj=>Sv hj]
theorem aeU:FI m=L9 n k m.al.toNat (bh m):=by
 funext v lo hi
 unfold FI sQ L9;rw[zS h,XP h hf fun j hj=>I8 hj]
end
def Z7(x:ByteArray->Int->Int->Bool)(p q:ai)(v:ByteArray)(s:Bool×ai)(n:Int):Bool×ai:=
 if bx s.2 ⟨n,v⟩&& !mX p q v n&&x v n n then(true,⟨n,v⟩)else s
def Ss(x:ByteArray->Int->Int->Bool)(l:List ae)(p q:ai):Bool×ai:=
 (Om l).foldl (fun s v=>(tB l v).foldl (Z7 x p q v) s) (false,⟨0,fE⟩)
def NL(x:ByteArray->Int->Int->Bool)(l:List ae)(p q:ai)(s:Bool×ai):ByteArray×Int×Int×Bool×Unit:=
 if s.1 then(s.2.Value,cI (fun n=> !mX p q s.2.Value n&&x s.2.Value n s.2.aj) (tB l s.2.Value).reverse s.2.aj,s.2.aj,true,())else(fE,0,0,false,())
def abo(b:List Int)(ready:Int->Int->Bool)(low bU:Int):Int×Int:=
 match b.reverse.find? (fun n=>decide (bU<n)&&ready n n)with
 |none=>(cI (fun x=>ready x bU) b.reverse low,bU)
 |some n=>
  let bottom:=cI (fun x=>ready x n) b.reverse n
  (cI (fun x=>ready x n) b.reverse (if bU<bottom - 1\/bottom<low then bottom else low),n)
def Y8(nx:ai)(m:aa):aa:=
 if m.aI=3\/aF m.ab=true then m else
  {m with ao:=(c7 m.ao m.ay (dH nx)).1,ay:=(c7 m.ao m.ay (dH nx)).2,aS:=rD m (c7 m.ao m.ay (dH nx)).1 (c7 m.ao m.ay (dH nx)).2}
def Y7(hg:ai)(m:aa):aa:=if m.aI≠1\/aF m.ab=true\/aF hg=true then m else py (Bl m hg) hg
def Za(fs:ByteArray×Int×Int×Bool×Unit)(ex:Int×Int)(m:aa):aa:=
 if m.aI=1 then(if fs.2.2.2.1=true then IP m fs.1 fs.2.1 fs.2.2.1 else m)
 else if m.aI=2 then zO m ex.1 ex.2 else m
def Y9(fn:Int×Int×Bool×Unit)(m:aa):aa:=if m.aI=2/\fn.2.2.1=true then JB m fn.1 fn.2.1 else m
def abK(ah:Int->Bool)(m:aa):Int:=m.au.foldl (fun Ar e=>if m.ab.aj<eA e/\eA e<Ar/\ah (eA e)=false then eA e else Ar) 1000000
def acs(m:aa):ByteArray:=if m.aI=1 then dI m else m.ab.Value
def Tk(ah:Int->Bool)(m:aa):aa:=
 if m.aI=3\/ah m.ab.aj=false then m
 else{m with aS:=if acs m=m.ab.Value then m.aS else 0,ab:=⟨bD m.ab.aj (dF (abK ah m) 1000),acs m⟩}
def N9(n:Nat)(k:Int)(m:aa)(c:Int):Bool:=bT n k m.al.toNat (Dk m c)
def Jn(m p r:aa):aa:=bif AB m p then r else p
def stepT(n:Nat)(k:Int)(m:aa):aa:=
 Jn m (Y8 (((uT (bh m)).find? (w7 (UU n k m.al.toNat (bh m)) m.ao m.ay (DE m))).getD zI) m)<|
 Jn m (Y7 (((uT (bh m)).find? (w9 (NR n k m.al.toNat (bh m)) m.ax)).getD zI) m)<|
 Jn m (Za (NL (uj n k m.al.toNat (bh m)) (bh m) m.ao m.ay (Ss (uj n k m.al.toNat (bh m)) (bh m) m.ao m.ay)) (abo (tB (bh m) m.ab.Value) (uj n k m.al.toNat (bh m) m.ab.Value) m.aS m.bf) m)<|
 Jn m (Y9 (wO (tB (bh m) m.ab.Value) (L9 n k m.al.toNat (bh m) m.ab.Value)) m)<|
 Tk (N9 n k m) m
open Classical in
theorem Jm{m m' r:aa}(he:ib m m'):Jn m m' r=if m'=m then r else m':=by
 unfold Jn
 by_cases h:m'=m
 ·rw[Qr h,h,vk];rfl
 ·rw[Qs h,z8 he h];rfl
section
variable {n : Nat} {k : Int} {m : aa} (h : bo m) (hf : xh n k m)
 include h hf
theorem agK:eE m=((uT (bh m)).find? (w7 (UU n k m.al.toNat (bh m)) m.ao m.ay (DE m))).getD zI:=by
 unfold eE jq;rw[ag9 h hf,RA h.lR h.ev.lZ.1.aL h.ev.lZ.2]
theorem agP:gr m=((uT (bh m)).find? (w9 (NR n k m.al.toNat (bh m)) m.ax)).getD zI:=by
 unfold gr xa;rw[afZ h hf,RA h.lR h.ev.lZ.1.aL h.ev.lZ.2]
theorem ag0:fu m=NL (uj n k m.al.toNat (bh m)) (bh m) m.ao m.ay (Ss (uj n k m.al.toNat (bh m)) (bh m) m.ao m.ay):=by
 unfold fu oY gN NL Ss;rw[VU h hf,LX h.lR h.ev.lZ.1.aL h.ev.lZ.2,aao h.lR h.ev.lZ.1.aL h.ev.lZ.2];rfl
theorem ag4:ez m=abo (tB (bh m) m.ab.Value) (uj n k m.al.toNat (bh m) m.ab.Value) m.aS m.bf:=by
 unfold ez;rw[VU h hf,LX h.lR h.ev.lZ.1.aL h.ev.lZ.2];rfl
theorem ag3:mU m=wO (tB (bh m) m.ab.Value) (L9 n k m.al.toNat (bh m) m.ab.Value):=by
 unfold mU;rw[aeU h hf,LX h.lR h.ev.lZ.1.aL h.ev.lZ.2]
theorem WJ:iR m=N9 n k m:=by
 funext c
 exact abN h hf _
theorem ads:fm m=Tk (N9 n k m) m:=by
 have e:gU m=abK (N9 n k m) m:=by
  unfold gU abK my;rw[WJ h hf]
 unfold fm Tk;rw[WJ h hf,e];rfl
theorem aeW:cm m=stepT n k m:=by
 have eP:Y8 (((uT (bh m)).find? (w7 (UU n k m.al.toNat (bh m)) m.ao m.ay (DE m))).getD zI) m=cQ m:=by rw[<-agK h hf];rfl
 have eS:Y7 (((uT (bh m)).find? (w9 (NR n k m.al.toNat (bh m)) m.ax)).getD zI) m=fR m:=by rw[<-agP h hf];rfl
 have eC:Za (NL (uj n k m.al.toNat (bh m)) (bh m) m.ao m.ay (Ss (uj n k m.al.toNat (bh m)) (bh m) m.ao m.ay)) (abo (tB (bh m) m.ab.Value) (uj n k m.al.toNat (bh m) m.ab.Value) m.aS m.bf) m=fD m:=by rw[<-ag0 h hf,<-ag4 h hf];rfl
 have eF:Y9 (wO (tB (bh m) m.ab.Value) (L9 n k m.al.toNat (bh m) m.ab.Value)) m=ix m:=by rw[<-ag3 h hf];rfl
 unfold cm stepT;rw[eP,eS,eC,eF,<-ads h hf,Jm (uq m),Jm (ss m),Jm (sv m),Jm (su m)]
end
 def yT:Nat->aa->aa
 |0,m=>m
 |j+1,m=>yT j (cm m)
theorem LA:∀(j:Nat) (m:aa),yT (j+1) m=cm (yT j m)
 |0,_=>rfl
 |j+1,m=>LA j (cm m)
theorem O2{m:aa}(h:bo m):∀j,bo (yT j m)
 |0=>h
 |j+1=>by rw[LA];exact ya (O2 h j)
theorem LB{m:aa}(h:cm m=m):∀j,yT j m=m
 |0=>rfl
 |j+1=>by rw[yT,h];exact LB h j
theorem O3:∀(i j:Nat) (m:aa),yT (i+j) m=yT j (yT i m)
 |0,j,m=>by rw[Nat.zero_add];rfl
 |i+1,j,m=>by rw[show i+1+j=(i+j)+1 by omega,yT,O3 i j];rfl
theorem adS{m:aa}{i j:Nat}(hi:cm (yT i m)=yT i m)(hj:cm (yT j m)=yT j m):yT i m=yT j m:=by
 rcases Nat.le_total i j with hl|hl
 ·have:=O3 i (j - i) m;rw[LB hi]at this;rw[<-this,show i+(j - i)=j by omega]
 ·have:=O3 j (i - j) m;rw[LB hj]at this;rw[<-this,show j+(i - j)=i by omega]
theorem HK{m m':aa}(he:ib m m')(s:Int):({m' with aE:=s}:aa)={m with aE:=s}↔m'=m:=by
 constructor
 ·intro h;have e1:m'.aI=m.aI:=(congrArg aa.aI h:_);have e2:m'.ab=m.ab:=(congrArg aa.ab h:_);have e3:m'.ao=m.ao:=(congrArg aa.ao h:_);have e4:m'.ay=m.ay:=(congrArg aa.ay h:_);have e5:m'.ax=m.ax:=(congrArg aa.ax h:_);have e6:m'.aS=m.aS:=(congrArg aa.aS h:_);have e7:m'.bf=m.bf:=(congrArg aa.bf h:_);exact Ac he e1 e2 e3 e4 e5 e6 e7
 ·rintro rfl;rfl
open Classical in
theorem Px{m:aa}(h:bo m){s:Int}(hs:0<=s/\s<=1000000):cm {m with aE:=s}={cm m with aE:=s}:=by
 unfold cm;rw[DM h hs,DL h hs,DO h hs,DN h hs,H4 h hs];simp only[HK (uq m),HK (ss m),HK (sv m),HK (su m)]
 by_cases hP:cQ m=m
 ·by_cases hS:fR m=m
  ·by_cases hC:fD m=m
   ·by_cases hF:ix m=m
    ·simp only[Qr hP,Qr hS,Qr hC,Qr hF]
    ·simp only[Qr hP,Qr hS,Qr hC,Qs hF]
   ·simp only[Qr hP,Qr hS,Qs hC]
  ·simp only[Qr hP,Qs hS]
 ·simp only[Qs hP]
def Reach(m x:aa):Prop:=∃j s,(0<=s/\s<=1000000)/\x={yT j m with aE:=s}
theorem ac0{m:aa}(h:bo m):∀x,bo x->Reach m x->Reach m (cm x):=by
 rintro x _ ⟨j,s,hs,rfl⟩;exact⟨j+1,s,hs,by rw[Px (O2 h j) hs,LA]⟩
theorem acZ{m:aa}:∀x,Reach m x->Reach m (c6 x):=by
 rintro x ⟨j,s,hs,rfl⟩;unfold c6;split
 ·exact⟨j,bD s 1,by unfold bD;split<;>omega,rfl⟩
 ·exact⟨j,s,hs,rfl⟩
theorem ac1{m:aa}(h:bo m):Reach m m:=⟨0,m.aE,h.seq,rfl⟩
def runT(n:Nat)(k:Int):Nat->aa->Option aa
 |0,_=>none
 |f+1,m=>if AB m (stepT n k m)=true then some m else runT n k f (stepT n k m)
theorem xh.step{n:Nat}{k:Int}{m m':aa}(hf:xh n k m)(he:ib m m'):xh n k m':=⟨hf.n10,hf.k1,hf.kn,by rw[he.aL];exact hf.aL,by rw[he.heard];exact hf.heard⟩
theorem YN{n:Nat}{k:Int}:∀{f:Nat} {m z:aa},bo m->xh n k m->runT n k f m=some z->∃j,yT j m=z/\cm z=z
 |0,m,z,_,_,e=>by cases e
 |f+1,m,z,h,hf,e=>by
  rw[runT,<-aeW h hf]at e;split at e
  ·rename_i hs;obtain rfl:=Option.some.inj e;exact⟨0,rfl,SQ (AW m) hs⟩
  ·obtain⟨j,h1,h2⟩:=YN (ya h) (hf.step (AW m)) e;exact⟨j+1,h1,h2⟩
theorem ag8{n:Nat}{k:Int}{f:Nat}{m1 z m m2:aa}(h:bo m1)(hf:xh n k m1)(hz:runT n k f m1=some z)(ha:EK (Reach m1) m m2):m2={z with aE:=m2.aE}:=by
 obtain⟨j,s,hs,e⟩:=ha.rel;obtain⟨i,h1,h2⟩:=YN h hf hz;have h3:=Uj ha.fix;rw[e,Px (O2 h j) hs]at h3;have h4:=(HK (AW (yT j m1)) s).1 h3;rw[<-h1]at h2;have h5:=adS h2 h4;rw[e,<-h5,h1]
structure acL (n:Nat) (k:Int) (m:aa):Prop where
 inv:bo m
 seq:fT m
 flat:xh n k m
 nz:aF m.ab=false
 aK:m.bc=1
theorem acL.env{n:Nat}{k:Int}{m:aa}(h:acL n k m):aW (c5 m)=true/\(c5 m).ak=Go.Proofs.YtjbfdglebjnelaaGreat.flat n k/\(c5 m).bc=1:=⟨Jp h.inv h.seq h.nz,by rw[sL];exact h.flat.aL,by rw[D1];exact h.aK⟩
end
section
section
variable {n : Nat} {k : Int}
end
end
section
section
variable {n : Nat} {k : Int} (hn : n <= 10) (hk1 : 1 <= k) (hkn : k <= n) {i : Int} (hi0 : 0 <= i) (hi9 : i < 10) {v : ByteArray} (hv : 1 <= v.size /\ v.size <= 200)
 include hn hk1 hkn hi0 hi9
 include hv
end
end
end Go.Proofs.YtjbfdglebjnelaaGreat
end
