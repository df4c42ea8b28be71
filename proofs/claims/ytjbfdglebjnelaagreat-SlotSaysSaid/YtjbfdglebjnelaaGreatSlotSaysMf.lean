/-
  Texts made small by a program (see NOTES). Conditions: those that each theorem names.
-/
import Derived.Test.YtjbfdglebjnelaaGreatSlotSaysMe
set_option linter.unusedVariables false
set_option linter.unusedSimpArgs false
set_option linter.unusedSectionVars false
set_option maxHeartbeats 2000000
noncomputable section
namespace Go.Proofs.YtjbfdglebjnelaaGreat
open Go.TQ
section
def ly{A ρ:Type}(g:A->Int->A⊕ρ)(fin:A->Option ρ):List Int->A->Option ρ
 |[],a=>fin a
 |x::l,a=>match g a x with
  | .inl a'=>ly g fin l a'
  | .inr r=>some r
theorem zl{A σ ρ:Type}(b:List Int)(hb:b.length<=1000000)(st:A->Int->σ)(g:A->Int->A⊕ρ)(fin:A->Option ρ){step:σ->Option (σ⊕ρ)}
  (h1:∀(i:Nat) (x:Int) (a:A),idx b (i:Int)=some x->decide ((0:Int)<=(i:Int))=true->dh .i64 (i:Int) 1=(i:Int) - 1->step (st a (i:Int))=some (match g a x with| .inl a'=> .inl (st a' ((i:Int) - 1))| .inr r=> .inr r))
  (h2:∀a,decide ((0:Int)<=(-1:Int))=false->step (st a (-1))=Option.map Sum.inr (fin a)):∀n:Nat,n<=b.length->∀a:A,aC step (st a ((n:Int) - 1))=ly g fin (b.take n).reverse a
 |0,_,a=>by
  rw[show((0:Nat):Int) - 1= -1 by omega,ff,h2 a rfl,List.take_zero,List.reverse_nil,ly]
  cases fin a<;>rfl
 |n+1,hn,a=>by
  have hlt:n<b.length:=by omega
  have hs:=h1 n b[n] a (by rw[bd];exact Qv hlt) (Qg (by omega)) (qH (by omega) (by omega))
  rw[show((n+1:Nat):Int) - 1=(n:Int)by omega,Q7 hlt,List.reverse_append,List.reverse_singleton,List.singleton_append,ly]
  cases hg:g a b[n]with
  |inl a'=>rw[hg]at hs;rw[bh hs,zl b hb st g fin h1 h2 n (by omega) a']
  |inr r=>rw[hg]at hs;rw[bx hs]
theorem JM(b:List Int)(hb:b.length<=1000000):dh .i64 ((b.length:Nat):Int) 1=((b.length:Nat):Int) - 1:=qH (by omega) (by omega)
theorem Eb{ρ:Type}(q:Int->Bool)(f:Int->ρ):∀(l:List Int) (lo:Int),ly (fun lo x=>if lo<=x then .inl lo else if q x then .inl x else .inr (f lo)) (fun lo=>some (f lo)) l lo=some (f (cF q l lo))
 |[],lo=>rfl
 |x::l,lo=>by
  rw[ly,cF]
  by_cases h1:lo<=x
  ·rw[Qr h1,Qr h1];exact Eb q f l lo
  ·rw[Qs h1,Qs h1]
   cases hq:q x with
   |true=>rw[Qr rfl,Qr rfl];exact Eb q f l x
   |false=>rw[Qs (by simp),Qs (by simp)]
theorem Ry{A ρ:Type}(s:A)(c p:Int->Bool)(f:Int->ρ)(d:ρ)(g:A->Int->A⊕ρ)(fin:A->Option ρ)(hg:∀z,g s z=if c z then(if p z then .inr (f z)else .inl s)else .inr d)(hfin:fin s=some d)(hc:∀a b,b<a->c b=true->c a=true):
  ∀r:List Int,r.Pairwise (fun a b=>b<a)->ly g fin r s=some (match r.find? (fun n=>c n&&p n)with|some n=>f n|none=>d)
 |[],_=>hfin
 |z::r,h=>by
  rw[ly,hg,List.find?_cons];rw[Q4]at h
  cases hz:c z with
  |false=>
   have:r.find? (fun n=>c n&&p n)=none:=by
    rw[List.find?_eq_none];intro n hn hcn;rw[Qm]at hcn;rw[hc z n (h.1 n hn) hcn.1]at hz;cases hz
   simp[this]
  |true=>
   cases hp:p z with
   |true=>simp
   |false=>
    simp only[Qt,Bool.true_and];exact Ry s c p f d g fin hg hfin hc r h.2
theorem M8{ρ:Type}(q:Int->Bool)(f:Int->ρ):∀(r:List Int) (lo:Int),(∀z∈r,z<lo)->r.Pairwise (fun a b=>b<a)->ly (fun lo z=>if q z then .inl z else .inr (f lo)) (fun lo=>some (f lo)) r lo=some (f (cF q r lo))
 |[],lo,_,_=>rfl
 |z::r,lo,h,hs=>by
  rw[Q4]at hs;have hz:=h z (by simp)
  have h0:¬lo<=z:=by omega
  rw[ly,cF,Qs h0]
  cases hq:q z with
  |true=>rw[Qr rfl,Qr rfl];exact M8 q f r z hs.1 hs.2
  |false=>rw[Qs (by simp),Qs (by simp)]
theorem Oy{α B ρ:Type}(l:List α)(hl:l.length<=1000000)(f:B->α->B){step:Int×B×Unit->Option ((Int×B×Unit)⊕ρ)}{fin:B->Option ρ}
  (h1:∀(i:Nat) (x:α) (b:B),x∈l->decide ((i:Int)<((l.length:Nat):Int))=true->idx l (i:Int)=some x->aA .i64 (i:Int) 1=((i+1:Nat):Int)->step ((i:Int),b,())=some (.inl (((i+1:Nat):Int),f b x,())))
  (h2:∀b,decide (((l.length:Nat):Int)<((l.length:Nat):Int))=false->step (((l.length:Nat):Int),b,())=Option.map Sum.inr (fin b)) (b:B):aC step ((0:Int),b,())=fin (l.foldl f b):=by
 suffices key:∀(k i:Nat) (b:B),i+k=l.length->aC step ((i:Int),b,())=fin ((l.drop i).foldl f b)from key l.length 0 b (by omega)
 intro k
 induction k with
 |zero=>
  intro i b hi;obtain rfl:i=l.length:=by omega
  rw[ff,h2 b (Qh (Qq64 _)),Qq66,List.foldl_nil];cases fin b<;>rfl
 |succ k ih=>
  intro i b hi;have hlt:i<l.length:=by omega
  rw[bh (h1 i l[i] b (Q0 hlt) (Qg (by omega)) (by rw[bd];exact Qv hlt) (bD (by omega) (by omega))),ih (i+1) _ (by omega),QM hlt,QU]
theorem Li(q:Int->Bool):∀(l r:List Int) (lo:Int),(∀x∈l,lo<=x)->cF q (l++r) lo=cF q r lo
 |[],r,lo,_=>rfl
 |x::l,r,lo,h=>by
  rw[List.cons_append,cF,Qr (h x (by simp))]
  exact Li q l r lo fun y hy=>h y (by simp[hy])
theorem G8(q:Int->Bool):∀(r:List Int) (lo:Int),(∀x∈r,0<=x/\x<=1000000)->0<=lo/\lo<=1000000->0<=cF q r lo/\cF q r lo<=1000000
 |[],lo,_,h=>h
 |x::r,lo,hx,h=>by
  rw[cF];split
  ·exact G8 q r lo (fun y hy=>hx y (by simp[hy])) h
  ·split
   ·exact G8 q r x (fun y hy=>hx y (by simp[hy])) (hx x (by simp))
   ·exact h
 def fZ(x:ByteArray->Int->Int->Bool)(p q:af)(v:ByteArray)(s:Bool×af)(n:Int):Bool×af:=
 if bz s.2 ⟨n,v⟩&& !nv p q v n&&x v n n then(true,⟨n,v⟩)else s
 def gV(x:ByteArray->Int->Int->Bool)(l:List ai)(p q:af):Bool×af:=
 (gr l).foldl (fun s v=>(br l v).foldl (fZ x p q v) s) (false,⟨0,fH⟩)
 def pL(x:ByteArray->Int->Int->Bool)(l:List ai)(p q:af)(s:Bool×af):ByteArray×Int×Int×Bool×Unit:=
 if s.1 then(s.2.Value,cF (fun n=> !nv p q s.2.Value n&&x s.2.Value n s.2.ak) (br l s.2.Value).reverse s.2.ak,s.2.ak,true,())else(fH,0,0,false,())
section
variable {S : gW} {x y : ByteArray -> Int -> Int -> Bool} (hx : ∀ v lo hi, iK S v lo hi = some (x v lo hi)) (hy : ∀ v lo hi, ou S v lo hi = some (y v lo hi))
section
 include hx
theorem aca(b:List Int)(lo:Int)(p q z:af):km b lo p q z S=some (cF (fun n=> !nv p q z.Value n&&x z.Value n z.ak) b.reverse lo):=by
 have:=C3 (p:=fun e=>oa e p q z S) (q:=fun n=> !nv p q z.Value n&&x z.Value n z.ak) (fun e=>by
  simp only[oa,O3,hx,Qa,lL]
  cases nv p q z.Value e<;>simp) b.reverse lo
 simp only[km,cm,aN,Qa];exact this
theorem ab9(b:List Int)(lo:Int)(v:ByteArray)(hi:Int):kI b lo S v hi=some (cF (fun z=>x v z hi) b.reverse lo):=by
 have:=C3 (p:=fun e=>sf e S v hi) (q:=fun z=>x v z hi) (fun e=>by simp only[sf,hx,Qa]) b.reverse lo
 simp only[kI,cm,aN,Qa];exact this
theorem Vd(b:List Int)(lo:Int)(v:ByteArray)(hi:Int):iL b lo S v hi=some (cF (fun z=>x v z hi) b.reverse lo):=by
 have:=C3 (p:=fun e=>se e S v hi) (q:=fun z=>x v z hi) (fun e=>by simp only[se,hx,Qa]) b.reverse lo
 simp only[iL,cm,aN,Qa];exact this
theorem Sc(b:List Int)(v:ByteArray)(low bU:Int)(hb:∀x∈b,0<=x/\x<=1000000):∀r:List Int,(∀x∈r,x∈b)->nQ (C2 S b v) (aaw S b v) r (low,bU,())=
  some (match r.find? (fun n=>decide (bU<n)&&x v n n)with
   |none=>(cF (fun z=>x v z bU) b.reverse low,bU,())
   |some n=>(cF (fun z=>x v z n) b.reverse (if bU<cF (fun z=>x v z n) b.reverse n - 1\/cF (fun z=>x v z n) b.reverse n<low then cF (fun z=>x v z n) b.reverse n else low),n,()))
 |[],_=>by simp only[nQ,aaw,Vd hx,Qa,List.find?_nil]
 |e::r,hr=>by
  have ih:=Sc b v low bU hb r (fun x hx=>hr x (by simp[hx]))
  rw[List.find?_cons,nQ]
  by_cases hle:e<=bU
  ·have h2:decide (bU<e)=false:=Qh (by omega)
   have h1:decide (e<=bU)=true:=Qg hle;have hst:C2 S b v r.length e (low,bU,())=some (.inl (low,bU,())):=by simp only[C2,h1,Qk,Qa]
   rw[hst,h2,Bool.false_and];exact ih
  ·have h2:decide (bU<e)=true:=Qg (by omega)
   have h1:decide (e<=bU)=false:=Qh hle;rw[h2,Bool.true_and]
   cases hr':x v e e with
   |false=>
    have hst:C2 S b v r.length e (low,bU,())=some (.inl (low,bU,())):=by simp only[C2,h1,Ql,hx,hr',Qp,Qa,Qk]
    rw[hst];exact ih
   |true=>
    have hb9:=G8 (fun z=>x v z e) b.reverse e (fun z hz=>hb z (by simpa using hz)) (hb e (hr e (by simp)))
    simp only[C2,h1,Ql,hx,hr',Qo,ab9 hx,Vd hx,Qa,aN,lL,Bool.cond_true_left,Qe];generalize cF (fun z=>x v z e) b.reverse e=bt at*
    have e3:dh .i64 bt 1=bt - 1:=qH (by omega) (by omega)
    rw[e3]
    by_cases hc:bU<bt - 1\/bt<low
    ·have:(decide (bU<bt - 1)||decide (bt<low))=true:=by rw[Qn];simpa using hc
     rw[this,Qr hc];rfl
    ·have:(decide (bU<bt - 1)||decide (bt<low))=false:=by
      rw[<-QX,Qn];simpa using hc
     rw[this,Qs hc];rfl
end
section
 include hy
theorem aeV(b:List Int)(lo:Int)(v:ByteArray)(hi:Int):kH b lo S v hi=some (cF (fun z=>y v z hi) b.reverse lo):=by
 have:=C3 (p:=fun e=>tI e S v hi) (q:=fun z=>y v z hi) (fun e=>by simp only[tI,hy,Qa]) b.reverse lo
 simp only[kH,cm,aN,Qa];exact this
end
variable {aB : Int} {t : ae} {l : List ai} (hl : rS l) (hlen : l.length <= 1000) (hL : fW aB t l = some S)
 include hl hlen hL
section
 include hx
theorem agY(p q:af):sO aB t l p q=some (pL x l p q (gV x l p q)):=by
 obtain⟨h1,_,h3,_⟩:=s4 hl.aL hlen;unfold sO;simp only[etas,hL,h1,Qa];refine(Oz (gr l) (by omega) (fun s v=>(br l v).foldl (fZ x p q v) s) (fin:=fun s=>some (pL x l p q s)) (fun i v a b hv hd hx' hw=> ?_) (fun a b hd=> ?_) false ⟨0,ByteArray.mk #[]⟩)
 ·obtain⟨g1,_,g3,_⟩:=iX hl.aL hlen v;simp only[hd,hx',hw,Qk,Qa,g1];refine(Oz (br l v) (by omega) (fZ x p q v) (fin:=fun s=>some (Sum.inl (s.1,((i+1:Nat):Int),s.2,()))) (fun i' n a' b' hv' hd' hx'' hw'=> ?_) (fun a' b' hd'=> ?_) a b)
  ·simp only[hd',hx'',hw',Qk,aN,Qa,jY,O3,hx,lL];unfold fZ;cases bz b' ⟨n,v⟩<;>cases nv p q v n<;>cases x v n n<;>simp
  ·simp only[hd',Ql]
 ·simp only[hd,Ql];obtain⟨g1,_,g3,_⟩:=iX hl.aL hlen b.Value;unfold pL;cases a
  ·rfl
  ·simp only[Qo,Ql,g1,Qa,aca hx,Qt]
theorem afs(v:ByteArray)(low bU:Int):rB aB t l v low bU=some ((E6 (br l v) (x v) low bU).1,(E6 (br l v) (x v) low bU).2,()):=by
 obtain⟨h1,_,_,_⟩:=iX hl.aL hlen v;have hin:=EA hl hlen v;unfold rB;simp only[etas,hL,h1,Qa,cm];refine(Sc hx (br l v) v low bU (fun x hx=>by have:=hin x hx;omega) (br l v).reverse (by simp)).trans ?_
 unfold E6;cases (br l v).reverse.find? (fun n=>decide (bU<n)&&x v n n)<;>rfl
end
section
 include hy
theorem agZ(v:ByteArray):sP aB t l v=some (xu (br l v) (y v)):=by
 obtain⟨h1,_,_,_⟩:=iX hl.aL hlen v
 have:=Xn (p:=fun e=>ou S v e e) (q:=fun e=>y v e e) (d:=fun e=>kH (br l v) e S v e) (f:=fun e=>cF (fun z=>y v z e) (br l v).reverse e)
  (fun e=>hy v e e) (fun e=>aeV hy (br l v) e v e) (br l v).reverse
 simp only[sP,etas,hL,h1,cm,Qa,xu];exact this
end
end
 def D8(x:ByteArray->Int->Int->Bool)(p q:af)(v:ByteArray)(s:af)(n:Int):af:=if bz s ⟨n,v⟩&& !nv p q v n&&x v n n then⟨n,v⟩else s
theorem Vx{x:ByteArray->Int->Int->Bool}{p q:af}(v:ByteArray):∀(b:List Int),(∀n∈b,1<=n)->∀s:Bool×af,s.1= !aF s.2->
  (b.foldl (fZ x p q v) s).2=b.foldl (D8 x p q v) s.2/\(b.foldl (fZ x p q v) s).1= !aF (b.foldl (fZ x p q v) s).2
 |[],_,s,h=>⟨rfl,h⟩
 |n::b,hb,s,h=>by
  rw[QU,QU];have hn:=hb n (by simp)
  have h1:(fZ x p q v s n).2=D8 x p q v s.2 n:=by unfold fZ D8;split<;>rfl
  have h2:(fZ x p q v s n).1= !aF (fZ x p q v s n).2:=by
   unfold fZ;split
   ·have:decide (n=0)=false:=Qh (by omega)
    simp[aF,this]
   ·exact h
  rw[<-h1];exact Vx v b (fun n hn=>hb n (by simp[hn])) _ h2
theorem Vy{x:ByteArray->Int->Int->Bool}{p q:af}{l:List ai}(hl:rS l)(hlen:l.length<=1000):∀(vs:List ByteArray) (s:Bool×af),s.1= !aF s.2->
  (vs.foldl (fun s v=>(br l v).foldl (fZ x p q v) s) s).2=vs.foldl (fun s v=>(br l v).foldl (D8 x p q v) s) s.2/\(vs.foldl (fun s v=>(br l v).foldl (fZ x p q v) s) s).1= !aF (vs.foldl (fun s v=>(br l v).foldl (fZ x p q v) s) s).2
 |[],s,h=>⟨rfl,h⟩
 |v::vs,s,h=>by
  rw[QU,QU];obtain⟨h1,h2⟩:=Vx (x:=x) (p:=p) (q:=q) v (br l v) (fun n hn=>(EA hl hlen v n hn).1) s h
  rw[<-h1];exact Vy hl hlen vs _ h2
section
variable {aB : Int} {t : ae} {l : List ai} (hl : rS l) (hlen : l.length <= 1000) {x y : ByteArray -> Int -> Int -> Bool} (hx : ∀ v lo hi, ki aB t l v lo hi = some (x v lo hi)) (hy : ∀ v lo hi, mQ aB t l v lo hi = some (y v lo hi))
 include hl hlen
section
 include hx
theorem abn(v:ByteArray)(lo hi:Int):vM aB t l v lo hi=some (cF (fun z=>x v z hi) (br l v).reverse lo):=by
 obtain⟨_,_,h3,_⟩:=iX hl.aL hlen v;unfold vM;simp only[etas,zh hl.aL hlen,Qa,JM _ (by omega:(br l v).length<=1000000),aN]
 refine(zl (br l v) (by omega) (fun lo i=>(lo,i,())) (fun lo z=>if lo<=z then .inl lo else if x v z hi then .inl z else .inr lo) (fun lo=>some lo) (fun i z a hi' hd hs=> ?_) (fun a hd=> ?_) (br l v).length (QI _) lo).trans ?_
 ·simp only[hi',hd,hs,Qk,Qa,hx]
  by_cases h1:a<=z
  ·simp[h1]
  ·cases x v z hi<;>simp[h1]
 ·simp only[hd,Ql]
 ·rw[Qq62];exact Eb (fun z=>x v z hi) (fun lo=>lo) _ _
theorem abx(v:ByteArray)(low bU:Int):pf aB t l v low bU=some ((E6 (br l v) (x v) low bU).1,(E6 (br l v) (x v) low bU).2,()):=by
 obtain⟨_,h2,h3,_⟩:=iX hl.aL hlen v;have hin:=EA hl hlen v;unfold pf;simp only[etas,zh hl.aL hlen,abn hl hlen hx,Qa,JM _ (by omega:(br l v).length<=1000000),aN]
 refine(zl (br l v) (by omega) (fun(s:Int×Int) i=>(s.1,s.2,i,()))
  (fun s z=>if s.2<z then(if x v z z then .inr (cF (fun w=>x v w z) (br l v).reverse (if s.2<cF (fun w=>x v w z) (br l v).reverse z - 1\/cF (fun w=>x v w z) (br l v).reverse z<s.1 then cF (fun w=>x v w z) (br l v).reverse z else s.1),z,())else .inl s)
   else .inr (cF (fun w=>x v w s.2) (br l v).reverse s.1,s.2,()))
  (fun s=>some (cF (fun w=>x v w s.2) (br l v).reverse s.1,s.2,())) (fun i z s hi' hd hs=> ?_) (fun s hd=> ?_) (br l v).length (QI _) (low,bU)).trans ?_
 ·have hz:z∈br l v:=by rw[bd]at hi';exact Q8 hi'
  have hb9:=G8 (fun w=>x v w z) (br l v).reverse z (fun w hw=>by have:=hin w (by simpa using hw);omega) (by have:=hin z hz;omega)
  simp only[hi',hd,hs,Qk,Qa,hx]
  by_cases h1:s.2<z
  ·simp only[h1,decide_true,Qk,Qt]
   cases hxz:x v z z with
   |false=>simp
   |true=>
    generalize cF (fun w=>x v w z) (br l v).reverse z=bt at*
    have e3:dh .i64 bt 1=bt - 1:=qH (by omega) (by omega)
    simp only[Qo,Ql,e3,Qt]
    by_cases h4:s.2<bt - 1
    ·simp[h4]
    ·by_cases h5:bt<s.1
     ·simp[h4,h5,de]
     ·simp[h4,h5,de]
  ·simp[h1]
 ·simp only[hd,Ql,Qa]
 ·rw[Qq62]
  refine(Ry (low,bU) (fun z=>decide (bU<z)) (fun z=>x v z z) (fun z=>(cF (fun w=>x v w z) (br l v).reverse (if bU<cF (fun w=>x v w z) (br l v).reverse z - 1\/cF (fun w=>x v w z) (br l v).reverse z<low then cF (fun w=>x v w z) (br l v).reverse z else low),z,()))
   (cF (fun w=>x v w bU) (br l v).reverse low,bU,()) _ _ (fun z=> ?_) rfl (fun a b h h'=> ?_) _ (List.pairwise_reverse.2 h2)).trans ?_
  ·by_cases h4:bU<z<;>simp[h4]
  ·simp only[Qi]at h' ⊢;omega
  ·unfold E6;cases (br l v).reverse.find? (fun n=>decide (bU<n)&&x v n n)<;>rfl
 omit hl hlen hx in
theorem Xm(p q:af)(n:Int)(v:ByteArray):vL p q n v=some (!nv p q v n):=by
  simp only[vL,Cu,Qa,nv];cases eN p ⟨n,v⟩<;>cases eN q ⟨n,v⟩<;>rfl
theorem adS(p q:af):qB aB t l p q=some (pL x l p q (gV x l p q)):=by
 obtain⟨_,_,h3,_⟩:=s4 hl.aL hlen;obtain⟨e1,e2⟩:=Vy (x:=x) (p:=p) (q:=q) hl hlen (gr l) (false,⟨0,fH⟩) rfl;unfold qB;simp only[etas,X5 hl.aL hlen,Qa];refine(Oy (gr l) (by omega) (fun s v=>(br l v).foldl (D8 x p q v) s) (fin:=fun s=>some (pL x l p q (!aF s,s))) (fun i v b hv hd hx' hw=> ?_) (fun b hd=> ?_) ⟨0,ByteArray.mk #[]⟩).trans ?_
 ·obtain⟨_,_,g3,_⟩:=iX hl.aL hlen v;simp only[hd,hx',hw,Qk,Qa,zh hl.aL hlen];refine(Oy (br l v) (by omega) (D8 x p q v) (fin:=fun s=>some (Sum.inl (((i+1:Nat):Int),s,()))) (fun i' n b' hv' hd' hx'' hw'=> ?_) (fun b' hd'=> ?_) b)
  ·simp only[hd',hx'',hw',Qk,aN,Qa,kj,Xm,hx,lL];unfold D8;cases bz b' ⟨n,v⟩<;>cases nv p q v n<;>cases x v n n<;>simp
  ·simp only[hd',Ql]
 ·obtain⟨_,_,g3,_⟩:=iX hl.aL hlen b.Value;simp only[hd,Ql,c7,Qa];unfold pL
  cases aF b with
  |true=>rfl
  |false=>
   simp only[Qp,Qt,Ql,zh hl.aL hlen,Qa,aN,JM _ (by omega:(br l b.Value).length<=1000000)]
   refine congrArg (Option.map Sum.inr) ((zl (br l b.Value) (by omega) (fun lo i=>(lo,i,())) (fun lo z=>if lo<=z then .inl lo else if !nv p q b.Value z&&x b.Value z b.ak then .inl z else .inr (b.Value,lo,b.ak,true,())) (fun lo=>some (b.Value,lo,b.ak,true,())) (fun i z a hi' hd hs=> ?_) (fun a hd=> ?_) (br l b.Value).length (QI _) b.ak).trans ?_)
   ·simp only[hi',hd,hs,Qk,Qa,hx,Xm]
    by_cases h1:a<=z
    ·simp[h1]
    ·cases nv p q b.Value z<;>cases x b.Value z b.ak<;>simp[h1]
   ·simp only[hd,Ql]
   ·rw[Qq62];exact Eb (fun z=> !nv p q b.Value z&&x b.Value z b.ak) (fun lo=>(b.Value,lo,b.ak,true,())) _ _
 ·unfold gV;rw[show(gr l).foldl (fun s v=>(br l v).foldl (D8 x p q v) s) ⟨0,ByteArray.mk #[]⟩=((gr l).foldl (fun s v=>(br l v).foldl (fZ x p q v) s) (false,⟨0,fH⟩)).2 from e1.symm,<-e2]
end
section
 include hy
theorem adU(v:ByteArray):qC aB t l v=some (xu (br l v) (y v)):=by
 obtain⟨_,h2,h3,_⟩:=iX hl.aL hlen v;unfold qC;simp only[etas,zh hl.aL hlen,Qa,JM _ (by omega:(br l v).length<=1000000),aN]
 unfold xu;generalize br l v=b at*
 suffices key:∀n:Nat,n<=b.length->aC _ (((n:Nat):Int) - 1,())=some (match(b.take n).reverse.find? (fun e=>y v e e)with|some e=>(cF (fun z=>y v z e) b.reverse e,e,true,())|none=>(0,0,false,()))by
  have:=key b.length (QI _);rw[Qq62]at this;exact this
 intro n
 induction n with
 |zero=>
  intro _;rw[show((0:Nat):Int) - 1= -1 by omega]
  have hd:decide ((0:Int)<= -1)=false:=rfl;exact bx (by simp only[hd,Ql,Qe,List.take_zero,List.reverse_nil,List.find?_nil])
 |succ n ih=>
  intro hn;have hlt:n<b.length:=by omega
  have hxn:idx b (n:Int)=some b[n]:=by rw[bd];exact Qv hlt
  have hd:decide ((0:Int)<=(n:Int))=true:=Qg (by omega)
  have hs:dh .i64 (n:Int) 1=(n:Int) - 1:=qH (by omega) (by omega)
  rw[show((n+1:Nat):Int) - 1=(n:Int)by omega,Q7 hlt,List.reverse_append,List.reverse_singleton,List.singleton_append,List.find?_cons]
  cases hyn:y v b[n] b[n]with
  |false=>
   rw[bh (s':=((n:Int) - 1,())) (by simp only[hd,hxn,hs,hy,hyn,Qk,Qa,Qp])]
   exact ih (by omega)
  |true=>
   have hb:b=b.take n++b[n]::b.drop (n+1):=by rw[<-QM hlt,List.take_append_drop]
   have hp:(b.take n++b[n]::b.drop (n+1)).Pairwise (·<·):=hb▸h2;rw[Qq69,Q4]at hp;obtain⟨p1,⟨p2,p3⟩,p4⟩:=hp;refine bx ?_;simp only[hd,hxn,hs,hy,hyn,Qk,Ql,Qa,Qo];refine(zl b (by omega) (fun lo i=>(lo,i,())) (fun lo z=>if y v z b[n]then .inl z else .inr (.inr (lo,b[n],true,()))) (fun lo=>some (.inr (lo,b[n],true,()))) (fun i z a hi' hd' hs'=> ?_) (fun a hd'=> ?_) n (by omega) b[n]).trans ?_
   ·simp only[hi',hd',hs',Qk,Qa];cases y v z b[n]<;>simp
   ·simp only[hd',Ql,Qe]
   ·rw[M8 (fun z=>y v z b[n]) (fun lo=>Sum.inr (lo,b[n],true,())) _ _ (fun z hz=>p4 z (List.mem_reverse.1 hz) _ (Qx ..)) (List.pairwise_reverse.2 p1)]
    have:cF (fun z=>y v z b[n]) b.reverse b[n]=cF (fun z=>y v z b[n]) (b.take n).reverse b[n]:=by
     have hr:b.reverse=((b.drop (n+1)).reverse++[b[n]])++(b.take n).reverse:=by
      rw[<-List.reverse_cons,<-List.reverse_append,<-hb]
     rw[hr];refine Li _ _ _ _ fun z hz=> ?_
     rw[Qz,List.mem_reverse,Q5]at hz;rcases hz with hz|rfl
     ·exact Int.le_of_lt (p2 z hz)
     ·exact Int.le_refl _
    rw[this]
end
end
end
section
section
variable {aB : Nat} (hn : aB < 10) {t : ae} (ht : cQ t) {l : List ai} (hl : rS l) (hlen : l.length <= 1000)
 include hn ht hl hlen
theorem afV(b:af):rj aB t l b=some (lE aB t l b):=by
 have hin:=nm l;have hsm:=mI (aB:=aB) ht hl;simp only[rj,etas,Rs hl.aL hlen,Ay hn hl,Qa,wa hsm hn (mH hin) (mH hin)];rfl
theorem adV(b:af):pS aB t l b=some (kv aB t l b):=by
 have hin:=nm l;have hsm:=mI (aB:=aB) ht hl;simp only[pS,etas,Rs hl.aL hlen,Ay hn hl,Qa,uA hsm hn (mH hin)];rfl
theorem aga(b:af):iy ⟨aB,⟨gD aB t l⟩,(bW l).map bH.mk⟩ b=some (lE aB t l b):=by
 have hin:=nm l;have hsm:=mI (aB:=aB) ht hl;rw[M0 hl.len,xO hsm hn (mH hin) (mH hin)];rfl
theorem aei(b:af):fp ⟨aB,⟨gD aB t l⟩,(bW l).map bH.mk⟩ b=some (kv aB t l b):=by
 have hin:=nm l;have hsm:=mI (aB:=aB) ht hl;rw[LG hl.len,wu hsm hn (mH hin)];rfl
 def jC(aB:Nat)(t:ae)(l:List ai)(p q:af)(v:ByteArray):af:=((eX l).find? (xJ (lE aB t l) p q v)).getD Al
 def xM(aB:Nat)(t:ae)(l:List ai)(a:af):af:=((eX l).find? (xL (kv aB t l) a)).getD Al
theorem adO(p q:af)(v:ByteArray):sG aB t l p q v=some (jC aB t l p q v):=abi hl hlen (afV hn ht hl hlen) p q v
theorem adQ(a:af):nV aB t l a=some (xM aB t l a):=abj hl hlen (adV hn ht hl hlen) a
theorem aec(p q:af)(v:ByteArray):po aB t l p q v=some (jC aB t l p q v):=aeq hl hlen (Re hn ht hl) (aga hn ht hl hlen) p q v
theorem aef(a:af):l9 aB t l a=some (xM aB t l a):=aeA hl hlen (Re hn ht hl) (aei hn ht hl hlen) a
end
end
section
theorem lU{bytes n:Nat}(h:bytes<=200)(hn:n<=1000000):bc bytes n=true:=
 bn ⟨QK (Nat.mul_le_mul hn h) (by decide),hn⟩
theorem zm{α ρ:Type}(l:List α)(hl:l.length<=1000000)(p:α->Bool){step:Int×Unit->Option ((Int×Unit)⊕ρ)}{fin:Option ρ}{f:Nat->α->Option ρ}
  (h1:∀(i:Nat) (x:α),i<l.length->l[i]?=some x->decide ((i:Int)<((l.length:Nat):Int))=true->idx l (i:Int)=some x->aA .i64 (i:Int) 1=((i+1:Nat):Int)->step ((i:Int),())=bif p x then Option.map Sum.inr (f i x)else some (.inl (((i+1:Nat):Int),())))
  (h2:(∀x∈l,p x=false)->decide (((l.length:Nat):Int)<((l.length:Nat):Int))=false->step (((l.length:Nat):Int),())=Option.map Sum.inr fin):
  aC step ((0:Int),())=match l.findIdx? p with|some i=>(l[i]?).bind (f i)|none=>fin:=by
 suffices key:∀(k i:Nat),i+k=l.length->(∀x∈l.take i,p x=false)->aC step ((i:Int),())=match(l.drop i).findIdx? p with|some j=>(l[i+j]?).bind (f (i+j))|none=>fin by
  have:=key l.length 0 (by omega) (by simp)
  rw[List.drop_zero]at this;simp only[Nat.zero_add]at this;exact this
 intro k
 induction k with
 |zero=>
  intro i hi hpre;obtain rfl:i=l.length:=by omega
  rw[Qq62]at hpre;rw[ff,h2 hpre (Qh (Qq64 _)),Qq66];cases fin<;>rfl
 |succ k ih=>
  intro i hi hpre;have hlt:i<l.length:=by omega
  have hx:l[i]?=some l[i]:=Qv hlt;have hs:=h1 i l[i] hlt hx (Qg (by omega)) (by rw[bd];exact hx) (bD (by omega) (by omega))
  rw[QM hlt,List.findIdx?_cons]
  cases hp:p l[i]with
  |true=>
   rw[hp]at hs;rw[ff,hs];simp only[Qk,Qt,Nat.add_zero,hx,Qa];cases f i l[i]<;>rfl
  |false=>
   rw[hp]at hs
   rw[bh hs,ih (i+1) (by omega) (fun x hx=>by
    rw[Q7 hlt,Qz,Q5]at hx;rcases hx with hx|rfl
    ·exact hpre x hx
    ·exact hp)]
   simp only[Qq,Qu]
   cases (l.drop (i+1)).findIdx? p with
   |none=>rfl
   |some j=>
    simp only[Qe];rw[show i+1+j=i+(j+1)by omega]
def HM(l:List ai)(e:ai):Nat:=(l.findIdx? fun x=>decide (e.an<x.an)).getD l.length
 def qm(l:List ai)(e:ai):List ai×Bool×Unit:=
 if aU e then
  match l.findIdx? fun x=>decide (x.an=e.an)with
  |some i=>if e.aE<=((l[i]?).getD e).aE then(l,false,())else(l.set i e,true,())
  |none=>(l.take (HM l e)++[e]++l.drop (HM l e),true,())
 else(l,false,())
theorem ahV(l:List ai)(e:ai):HM l e<=l.length:=by
 unfold HM
 cases h:l.findIdx? fun x=>decide (e.an<x.an)with
 |none=>exact QI _
 |some i=>exact Nat.le_of_lt ((List.findIdx?_eq_some_iff_getElem.1 h).1)
section
variable {l : List ai} (hl : ∀ x ∈ l, cQ x.aj) (hlen : l.length <= 1000)
 include hlen
theorem aa7(e:ai):dK l e=some (match l.findIdx? fun x=>decide (x.an=e.an)with|some i=>(i:Int)|none=> -1):=by
 unfold dK;refine(zm l (by omega) (fun x=>decide (x.an=e.an)) (f:=fun i _=>some (i:Int)) (fin:=some (-1)) (fun i x hi hx0 hd hx hw=> ?_) (fun hall hd=> ?_)).trans ?_
 ·simp only[hd,hx,hw,Qk,Qa,xb,etas]
 ·simp only[hd,Ql]
 ·cases h:l.findIdx? fun x=>decide (x.an=e.an)with
  |none=>rfl
  |some i=>have:=(List.findIdx?_eq_some_iff_getElem.1 h).1;simp[Qv this]
theorem acC(e:ai):dJ l e=some (match l.findIdx? fun x=>decide (e.an<x.an)with|some i=>(i:Int)|none=> -1):=by
 unfold dJ;refine(zm l (by omega) (fun x=>decide (e.an<x.an)) (f:=fun i _=>some (i:Int)) (fin:=some (-1)) (fun i x hi hx0 hd hx hw=> ?_) (fun hall hd=> ?_)).trans ?_
 ·simp only[hd,hx,hw,Qk,Qa,xa,etas]
 ·simp only[hd,Ql]
 ·cases h:l.findIdx? fun x=>decide (e.an<x.an)with
  |none=>rfl
  |some i=>have:=(List.findIdx?_eq_some_iff_getElem.1 h).1;simp[Qv this]
 include hl
theorem VW:dS l=some l:=by
 unfold dS
 suffices key:∀(k i:Nat),i+k=l.length->aC _ ((i:Int),l.take i,())=some l from key l.length 0 (by omega)
 intro k
 induction k with
 |zero=>
  intro i hi;obtain rfl:i=l.length:=by omega
  have hd:decide (((l.length:Nat):Int)<((l.length:Nat):Int))=false:=Qh (Qq64 _);exact bx (by simp only[hd,Ql,Qe,Qq62])
 |succ k ih=>
  intro i hi;have hlt:i<l.length:=by omega
  have hd:decide ((i:Int)<((l.length:Nat):Int))=true:=Qg (by omega)
  have hw:aA .i64 (i:Int) 1=((i+1:Nat):Int):=bD (by omega) (by omega)
  have hx:idx l (i:Int)=some l[i]:=by rw[bd];exact Qv hlt
  have hc:jX l[i]=some l[i]:=by simp only[jX,etas,oX (hl _ (Q0 hlt)),Qa]
  refine(bh ?_).trans (ih (i+1) (by omega))
  simp only[hd,hx,hw,Qk,Qa,etas,hc];rw[lU (by omega) (by simp;omega),Q7 hlt]
  rfl
theorem agS{e:ai}(he:cQ e.aj):uN l e=some (qm l e):=by
 have hc:jX e=some e:=by simp only[jX,etas,oX he,Qa]
 have hat:=ahV l e;unfold uN;simp only[VW hl hlen,etas,rN he,hc,aa7 hlen,acC hlen,Qa,aN];unfold qm
 cases aU e with
 |false=>rfl
 |true=>
  simp only[Qo,Ql,Qt]
  cases h:l.findIdx? fun x=>decide (x.an=e.an)with
  |some i=>
   have hi:=(List.findIdx?_eq_some_iff_getElem.1 h).1;have hd:decide ((0:Int)<=(i:Int))=true:=Qg (by omega)
   have hx:idx l (i:Int)=some l[i]:=by rw[bd];exact Qv hi
   simp only[hd,hx,Qk,Qa,QV,Qv hi,Q3]
   by_cases hs:e.aE<=l[i].aE<;>simp[hs]
  |none=>
   have hd:decide ((0:Int)<= -1)=false:=rfl;simp only[hd,Ql]
   have hins:∀a:Nat,a<=l.length->eY l (a:Int) [e]=some (l.take a++[e]++l.drop a):=fun a ha=>by
    unfold eY DA;have h1:decide ((0:Int)<=(a:Int))=true:=Qg (by omega)
    have h2:decide ((a:Int)<=((l.length:Nat):Int))=true:=Qg (by omega)
    rw[h1,h2,lU (by omega) (by simp;omega)]
    rfl
   unfold HM at hat ⊢
   cases h':l.findIdx? fun x=>decide (e.an<x.an)with
   |none=>
    have hd2:decide ((-1:Int)<0)=true:=rfl;simp only[hd2,Qk,hins _ (QI _),Qa,Option.getD_none]
   |some j=>
    have hj:=(List.findIdx?_eq_some_iff_getElem.1 h').1;have hd2:decide ((j:Int)<0)=false:=Qh (by omega)
    simp only[hd2,Ql,hins _ (Nat.le_of_lt hj),Qa,Q3]
end
end
section
section
variable {l : List ai} (hlen : l.length <= 1000)
 include hlen
theorem Iz(e:ai){a b:Nat}(ha:a<=b)(hb:b<=l.length):cJ (0:Int) (a:Int) l.length=true/\bc 176 (List.length ((l.take (Int.toNat (a:Int))).drop (Int.toNat (0:Int))))=true/\
  bc 176 (List.length ((l.take (Int.toNat (a:Int))).drop (Int.toNat (0:Int)))+List.length [e])=true/\cJ (b:Int) (l.length:Int) l.length=true/\
  bc 176 (List.length (((l.take (Int.toNat (a:Int))).drop (Int.toNat (0:Int)))++[e])+List.length ((l.take (Int.toNat (l.length:Int))).drop (Int.toNat (b:Int))))=true/\
  (((l.take (Int.toNat (a:Int))).drop (Int.toNat (0:Int)))++[e])++((l.take (Int.toNat (l.length:Int))).drop (Int.toNat (b:Int)))=l.take a++[e]++l.drop b:=by
 refine⟨by simp[cJ];omega,jj (by omega) (by simp;omega),jj (by omega) (by simp;omega),by simp[cJ];omega,jj (by omega) (by simp;omega),?_⟩
 simp only[QV,Int.toNat_zero,List.drop_zero,Qq62]
end
theorem HK{α:Type}{p q:α->Bool}:∀{l:List α},(∀x∈l,p x=q x)->l.findIdx? p=l.findIdx? q
 |[],_=>rfl
 |x::l,h=>by rw[List.findIdx?_cons,List.findIdx?_cons,h x (by simp),HK fun y hy=>h y (by simp[hy])]
theorem adM{l:List ai}(hl:∀x∈l,cQ x.aj)(hlen:l.length<=1000){e:ai}(he:cQ e.aj):Bt l e=some (qm l e):=by
 unfold Bt;simp only[etas,ka he,Qa,aN];unfold qm
 cases aU e with
 |false=>rfl
 |true=>
  simp only[Qo,Ql,Qt];refine(zm l (by omega) (fun x=>decide (x.an=e.an)) (f:=fun i x=>if e.aE<=x.aE then some (l,false,())else some (l.take i++[e]++l.drop (i+1),true,())) (fin:=some (l.take (HM l e)++[e]++l.drop (HM l e),true,())) (fun i x hi hx0 hd hx hw=> ?_) (fun hall hd=> ?_)).trans ?_
  ·simp only[hd,hx,hw,Qk,Qa]
   cases decide (x.an=e.an)with
   |false=>rfl
   |true=>
    simp only[Qk];obtain⟨f1,f2,f3,f4,f5,f6⟩:=Iz hlen e (show i<=i+1 by omega) (show i+1<=l.length by omega)
    simp only[f1,f2,f3,f4,f5,f6,Qk]
    by_cases hs:e.aE<=x.aE<;>simp[hs]
  ·simp only[hd,Ql];refine congrArg (Option.map Sum.inr) ?_
   have hcg:(l.findIdx? fun x=> !decide (x.an<e.an))=l.findIdx? fun x=>decide (e.an<x.an):=HK fun x hx=>by
    have:=hall x hx;have hne:x.an≠e.an:=of_decide_eq_false this
    by_cases h:x.an<e.an
    ·have h':¬e.an<x.an:=by omega
     simp[h,h']
    ·have h':e.an<x.an:=by omega
     simp[h,h']
   refine(zm l (by omega) (fun x=> !decide (x.an<e.an)) (f:=fun i x=>some (l.take i++[e]++l.drop i,true,())) (fin:=some (l.take l.length++[e]++l.drop l.length,true,())) (fun i x hi hx0 hd hx hw=> ?_) (fun _ hd=> ?_)).trans ?_
   ·simp only[hd,hx,hw,Qk,Qa]
    cases decide (x.an<e.an)with
    |true=>rfl
    |false=>
     simp only[Ql,Qp,Qk];obtain⟨f1,f2,f3,f4,f5,f6⟩:=Iz hlen e (QI i) (show i<=l.length by omega)
     simp only[f1,f2,f3,f4,f5,f6,Qk]
   ·simp only[hd,Ql];obtain⟨f1,f2,f3,f4,f5,f6⟩:=Iz hlen e (QI l.length) (QI _);simp only[f1,f2,f3,f4,f5,f6,Qk]
   ·rw[hcg];unfold HM
    cases h:l.findIdx? fun x=>decide (e.an<x.an)with
    |none=>rfl
    |some i=>
     have hi:=(List.findIdx?_eq_some_iff_getElem.1 h).1;simp only[Qv hi,Qa,Q3]
  ·cases h:l.findIdx? fun x=>decide (x.an=e.an)with
   |none=>rfl
   |some i=>
    have hi:=(List.findIdx?_eq_some_iff_getElem.1 h).1;simp only[Qv hi,Qa,Q3]
    by_cases hs:e.aE<=l[i].aE
    ·simp[hs]
    ·simp only[hs,Qu];rw[List.set_eq_take_append_cons_drop,Qr hi];simp
end
section
structure vS (m:ab):Prop where
 n0:0<=m.an
 n1:m.an<10
 aL:cQ m.aj
 len:m.aq.length<=100
 sm:∀e∈m.aq,cQ e.aj
 valid:∀e∈m.aq,aU e=true
theorem A7{m:ab}{e:ai}(h:e∈bg m):e∈m.aq\/(aF m.aa=false/\e=jh m):=by
 unfold bg at h;split at h
 ·exact .inl h
 ·rename_i hz;rw[(Eu _ _).mem_iff,Qz,Q5]at h;rcases h with h|h
  ·exact .inl h
  ·exact .inr ⟨by simpa using hz,h⟩
theorem acB(m:ab):(bg m).length<=m.aq.length+1:=by
 unfold bg;split
 ·omega
 ·rw[(Eu _ _).length_eq,QB,Q6];omega
theorem GA(m:ab):(jh m).aj=m.aj:=oL m
theorem vS.my{m:ab}(h:vS m):rS (bg m)/\(bg m).length<=1000:=by
 have h1:=acB m;have h2:=h.len;refine⟨⟨by omega,fun e he=> ?_⟩,by omega⟩
 rcases A7 he with he|⟨_,rfl⟩
 ·exact h.sm e he
 ·rw[GA];exact h.aL
theorem vS.aB{m:ab}(h:vS m):((m.an.toNat:Nat):Int)=m.an/\m.an.toNat<10:=by
 have:=h.n0;have:=h.n1;omega
def dM(b:af):af:=if 1000<b.ak then⟨1000,b.Value⟩else b
theorem ahU(b:af):sF b=some (dM b):=ab5 b
def c9(p q b:af):af×af:=
 if aF b=true then(p,q)else if aF p=true then(b,q)else if bz p b=true then(if bM p b=true then(b,if bM q b=true then bZ else q)else(b,p))
 else if(bz b p&& !bM b p&&(aF q||bz q b))=true then(p,b)else(p,q)
theorem Wt(a b:af):bM a b=bM b a:=decide_eq_decide.2 ⟨Eq.symm,Eq.symm⟩
theorem agm(p q b:af):z1 p q b=some ((c9 p q b).1,(c9 p q b).2,()):=by
 unfold z1 c9;simp only[c7,kj,gN,Qa,aN];cases aF b<;>cases aF p<;>cases bz p b<;>cases bM p b<;>cases bM q b<;>cases bz b p<;>cases bM b p<;>cases aF q<;>cases bz q b<;>rfl
theorem ad1(p q b:af):wK p q b=some ((c9 p q b).1,(c9 p q b).2,()):=by
 unfold wK c9;simp only[cz,jY,fS,Qa,aN,Wt b p];cases aF b<;>cases aF p<;>cases bz p b<;>cases bM p b<;>cases bM q b<;>cases bz b p<;>cases aF q<;>cases bz q b<;>rfl
def D7(m:ab):ByteArray:=if m.aK=2 then m.aa.Value else fH
 def eL(m:ab):af:=jC m.an.toNat m.aj (bg m) m.ao m.az (D7 m)
def sq(m:ab)(p q:af):Int:=
 if m.aK=1/\m.aS≠0 then(if ft m<lA m.aa.Value m.aS p q then 0 else lA m.aa.Value m.aS p q)else m.aS
 def cU(m:ab):ab:=
 if m.aK=3\/aF m.aa=true then m else
  {m with ao:=(c9 m.ao m.az (dM (eL m))).1,az:=(c9 m.ao m.az (dM (eL m))).2,aS:=sq m (c9 m.ao m.az (dM (eL m))).1 (c9 m.ao m.az (dM (eL m))).2}
theorem afO{m:ab}(h:vS m)(p q:af)(v:ByteArray):sG m.an m.aj (bg m) p q v=some (jC m.an.toNat m.aj (bg m) p q v):=by
 have:=adO h.aB.2 h.aL h.my.1 h.my.2 p q v
 rwa [h.aB.1]at this
theorem afR{m:ab}(h:vS m)(a:af):nV m.an m.aj (bg m) a=some (xM m.an.toNat m.aj (bg m) a):=by
 have:=adQ h.aB.2 h.aL h.my.1 h.my.2 a
 rwa [h.aB.1]at this
theorem Yk{m:ab}(h:vS m):tD m=some (cU m):=by
 have hl:m.aq.length<=1000:=by have:=h.len;omega
 unfold tD cU;simp only[etas,c7,OV hl,afO h,ahU,agm,zQ,Up,Qa,aN]
 by_cases h3:m.aK=3
 ·rw[Qg h3,Qr (.inl h3)];rfl
 ·rw[Qh h3]
  cases hz:aF m.aa with
  |true=>rw[Qr (.inr rfl)];rfl
  |false=>
   rw[Qs (by simp[h3])]
   simp only[Ql,Qa]
   by_cases h2:m.aK=2
   ·have h1:¬m.aK=1:=by omega
    simp only[Qg h2,Qk,sq,D7,eL,Qr h2,h1,false_and,Qu];rfl
   ·simp only[Qh h2,Ql];have hv:ByteArray.mk #[]=D7 m:=by simp only[D7,Qs h2];rfl
    rw[hv];have hn:jC m.an.toNat m.aj (bg m) m.ao m.az (D7 m)=eL m:=rfl;simp only[hn]
    by_cases h1:m.aK=1
    ·have hh:∀p q:af,(cD {m with ao:=p,az:=q}).bl=ft m:=fun p q=>by unfold cD;rw[Qr (show({m with ao:=p,az:=q}:ab).aK=1 from h1)];rfl
     simp only[Qg h1,Qk,Qa]
     by_cases hL:m.aS=0
     ·rw[Qg hL];unfold sq;rw[Qs (fun h=>h.2 hL)]
      rfl
     ·rw[Qh hL];unfold sq;rw[Qr ⟨h1,hL⟩];simp only[Qp,Qk];rw[show(cD (ab.mk m.an m.aY m.aE m.aj m.aK m.aa (c9 m.ao m.az (dM (eL m))).1 (c9 m.ao m.az (dM (eL m))).2 m.ax m.aS m.bl m.bb m.aq)).bl=ft m from hh _ _]
      by_cases hlt:ft m<lA m.aa.Value m.aS (c9 m.ao m.az (dM (eL m))).1 (c9 m.ao m.az (dM (eL m))).2
      ·rw[Qg hlt,Qr hlt];rfl
      ·rw[Qh hlt,Qs hlt];rfl
    ·rw[Qh h1];unfold sq;rw[Qs (fun h=>h1 h.1)]
     rfl
 def gA(m:ab):af:=xM m.an.toNat m.aj (bg m) m.ax
def BP(m:ab)(b:af):ab:=
 if bz m.aa b=true then{m with ax:=b,aa:=b,aS:=if bM m.aa b=true then m.aS else 0}else{m with ax:=b}
def qa(m:ab)(b:af):ab:=
 if m.aS=0/\bM m.aa b=true/\lA b.Value m.aa.ak m.ao m.az<=b.ak then{m with aS:=lA b.Value m.aa.ak m.ao m.az}else m
 def fY(m:ab):ab:=
 if m.aK≠1\/aF m.aa=true\/aF (gA m)=true then m else qa (BP m (gA m)) (gA m)
theorem O8(m:ab)(b:af){α:Type}(j:ab->Option α):
  ((bif decide (m.aS=(0:Int))then some (bM m.aa b)else some false).bind fun x=>bif x then(bif decide (lA b.Value m.aa.ak m.ao m.az<=b.ak)then j {m with aS:=lA b.Value m.aa.ak m.ao m.az}else j m)else j m)=j (qa m b):=by
 unfold qa
 by_cases hL:m.aS=0
 ·rw[Qg hL]
  cases hc:bM m.aa b with
  |true=>
   by_cases hle:lA b.Value m.aa.ak m.ao m.az<=b.ak
   ·rw[Qr ⟨hL,rfl,hle⟩,Qg hle];rfl
   ·rw[Qs (fun h=>hle h.2.2),Qh hle];rfl
  |false=>
   rw[Qs (fun h=>by cases h.2.1)];rfl
 ·rw[Qh hL,Qs (fun h=>hL h.1)];rfl
theorem Ws{m:ab}(h:vS m):rX m=some (fY m):=by
 have hl:m.aq.length<=1000:=by have:=h.len;omega
 unfold rX fY;simp only[etas,c7,OV hl,afR h,Up,Qa,aN,gN,kj];have hb:xM m.an.toNat m.aj (bg m) m.ax=gA m:=rfl;simp only[hb]
 by_cases h1:m.aK=1
 ·rw[Qg h1]
  cases hz:aF m.aa with
  |true=>rw[Qr (.inr (.inl rfl))];rfl
  |false=>
   cases hzb:aF (gA m)with
   |true=>rw[Qr (.inr (.inr rfl))];rfl
   |false=>
    rw[Qs (by simp[h1])]
    simp only[Qo,Ql,Qa];unfold BP
    cases hlt:bz m.aa (gA m)with
    |true=>
     cases hcp:bM m.aa (gA m)with
     |true=>simp only[Qk,Qo,Ql,Qt];exact O8 {m with ax:=gA m,aa:=gA m} (gA m) some
     |false=>simp only[Qk,Qp,Qt,Qq,Qu];exact O8 {m with ax:=gA m,aa:=gA m,aS:=0} (gA m) some
    |false=>simp only[Ql,Qq,Qu];exact O8 {m with ax:=gA m} (gA m) some
 ·rw[Qh h1,Qr (.inl h1)];rfl
section
variable {aB : Nat} (hn : aB < 10) {t : ae} (ht : cQ t) {l : List ai} (hl : rS l) (hlen : l.length <= 1000)
 include hn ht hl hlen
theorem WR(v:ByteArray)(lo hi:Int):ki aB t l v lo hi=some (mi aB t l v lo hi):=by
 have hin:=nm l;have hsm:=mI (aB:=aB) ht hl;simp only[ki,etas,Rr hl.aL hlen,Ay hn hl,Qa,wa hsm hn (mH hin) (mH hin)];rfl
theorem abz(v:ByteArray)(lo hi:Int):mQ aB t l v lo hi=some (tq aB t l v lo hi):=by
 have hin:=nm l;have hsm:=mI (aB:=aB) ht hl;simp only[mQ,etas,Rr hl.aL hlen,Ay hn hl,Qa,uA hsm hn (mH hin)];rfl
theorem abw(p q:af):qB aB t l p q=some (pL (mi aB t l) l p q (gV (mi aB t l) l p q)):=adS hl hlen (WR hn ht hl hlen) p q
theorem afT(v:ByteArray)(low bU:Int):pf aB t l v low bU=some ((E6 (br l v) (mi aB t l v) low bU).1,(E6 (br l v) (mi aB t l v) low bU).2,()):=abx hl hlen (WR hn ht hl hlen) v low bU
theorem afS(v:ByteArray):qC aB t l v=some (xu (br l v) (tq aB t l v)):=adU hl hlen (abz hn ht hl hlen) v
end
 def gI(m:ab):ByteArray->Int->Int->Bool:=mi m.an.toNat m.aj (bg m)
 def Ge(m:ab):ByteArray->Int->Int->Bool:=tq m.an.toNat m.aj (bg m)
 def fB(m:ab):ByteArray×Int×Int×Bool×Unit:=pL (gI m) (bg m) m.ao m.az (gV (gI m) (bg m) m.ao m.az)
 def eI(m:ab):Int×Int:=E6 (br (bg m) m.aa.Value) (gI m m.aa.Value) m.aS m.bl
 def nq(m:ab):Int×Int×Bool×Unit:=xu (br (bg m) m.aa.Value) (Ge m m.aa.Value)
theorem adT{m:ab}(h:vS m):qB m.an m.aj (bg m) m.ao m.az=some (fB m):=by
 have:=abw h.aB.2 h.aL h.my.1 h.my.2 m.ao m.az
 rwa [h.aB.1]at this
theorem ahk{m:ab}(h:vS m):pf m.an m.aj (bg m) m.aa.Value m.aS m.bl=some ((eI m).1,(eI m).2,()):=by
 have:=afT h.aB.2 h.aL h.my.1 h.my.2 m.aa.Value m.aS m.bl
 rwa [h.aB.1]at this
theorem ahj{m:ab}(h:vS m):qC m.an m.aj (bg m) m.aa.Value=some (nq m):=by
 have:=afS h.aB.2 h.aL h.my.1 h.my.2 m.aa.Value
 rwa [h.aB.1]at this
def Jn(m:ab)(v:ByteArray)(lo hi:Int):ab:=
 {m with aa:=if(!bM m.aa ⟨hi,v⟩||bz m.aa ⟨hi,v⟩)=true then⟨bC m.aa.ak hi,v⟩else m.aa,ao:=if jM m.ao ⟨hi,v⟩=true then m.ao else⟨hi,v⟩,aK:=2,aS:=lo,bl:=hi,ax:=⟨hi,v⟩,az:=bZ}
def Ar(m:ab)(lo hi:Int):ab:=
 {m with aa:=⟨bC m.aa.ak hi,m.aa.Value⟩,ao:=⟨bC m.ao.ak hi,m.ao.Value⟩,ax:=⟨bC m.ax.ak hi,m.aa.Value⟩,aS:=lo,bl:=hi}
 def fG(m:ab):ab:=
 if m.aK=1 then(if(fB m).2.2.2.1=true then Jn m (fB m).1 (fB m).2.1 (fB m).2.2.1 else m)
 else if m.aK=2 then Ar m (eI m).1 (eI m).2 else m
theorem Wu{m:ab}(h:vS m):rY m=some (fG m):=by
 have hl:m.aq.length<=1000:=by have:=h.len;omega
 unfold rY fG;simp only[etas,OV hl,adT h,ahk h,Qa,aN,gN,kj,Ct]
 by_cases h1:m.aK=1
 ·rw[Qg h1,Qr h1]
  cases hk:(fB m).2.2.2.1 with
  |false=>simp only[Qk,Qp,Qq,Qu]
  |true=>
   simp only[Qk,Qo,Ql,Qt];unfold Jn;cases bM m.aa ⟨(fB m).2.2.1,(fB m).1⟩<;>cases bz m.aa ⟨(fB m).2.2.1,(fB m).1⟩<;>cases jM m.ao ⟨(fB m).2.2.1,(fB m).1⟩<;>rfl
 ·rw[Qh h1,Qs h1]
  by_cases h2:m.aK=2
  ·rw[Qg h2,Qr h2];rfl
  ·rw[Qh h2,Qs h2];rfl
def Kc(m:ab)(lo hi:Int):ab:={m with aK:=3,aS:=lo,bl:=hi,aa:=⟨hi,m.aa.Value⟩,ao:=bZ,az:=bZ,ax:=bZ}
 def iF(m:ab):ab:=if m.aK=2/\(nq m).2.2.1=true then Kc m (nq m).1 (nq m).2.1 else m
theorem aeR{m:ab}(h:vS m):xV m=some (iF m):=by
 have hl:m.aq.length<=1000:=by have:=h.len;omega
 unfold xV iF;simp only[etas,OV hl,ahj h,Qa]
 by_cases h2:m.aK=2
 ·rw[Qg h2]
  cases hk:(nq m).2.2.1 with
  |false=>rw[Qs (fun h=>by cases h.2)];rfl
  |true=>rw[Qr ⟨h2,rfl⟩];rfl
 ·rw[Qh h2,Qs (fun h=>h2 h.1)];rfl
end
section
theorem Ex{α β ρ:Type}(l:List α)(hl:l.length<=1000)(f:α->β){step:Int×List β×Unit->Option ((Int×List β×Unit)⊕ρ)}{fin:List β->Option ρ}
  (h1:∀(i:Nat) (e:α) (s:List β),s.length<=1000->e∈l->decide ((i:Int)<((l.length:Nat):Int))=true->idx l (i:Int)=some e->aA .i64 (i:Int) 1=((i+1:Nat):Int)->step ((i:Int),s,())=some (.inl (((i+1:Nat):Int),s++[f e],())))
  (h2:∀s,decide (((l.length:Nat):Int)<((l.length:Nat):Int))=false->step (((l.length:Nat):Int),s,())=Option.map Sum.inr (fin s)):aC step ((0:Int),[],())=fin (l.map f):=by
 suffices key:∀(k i:Nat) (s:List β),i+k=l.length->s.length=i->aC step ((i:Int),s,())=fin (s++(l.drop i).map f)by
  have:=key l.length 0 [] (by omega) rfl
  simpa using this
 intro k
 induction k with
 |zero=>
  intro i s hi hs;obtain rfl:i=l.length:=by omega
  have hd:decide (((l.length:Nat):Int)<((l.length:Nat):Int))=false:=Qh (Qq64 _);have h:=h2 s hd;rw[Qq66,QO,List.append_nil]
  cases hf:fin s with
  |none=>rw[hf]at h;exact NM h
  |some r=>rw[hf]at h;exact bx h
 |succ k ih=>
  intro i s hi hs;have hlt:i<l.length:=by omega
  rw[bh (h1 i l[i] s (by omega) (Q0 hlt) (Qg (by omega)) (by rw[bd];exact Qv hlt) (bD (by omega) (by omega))),ih (i+1) (s++[f l[i]]) (by omega) (by simp;omega),
   QM hlt,QD,QL]
  rfl
theorem aav{α β ρ:Type}(l:List α)(hl:l.length<=1000)(f:α->β){step:Int×List β×Unit->Option ((Int×List β×Unit)⊕ρ)}{fin:List β->Option ρ}
  (h1:∀(i:Nat) (e:α) (s:List β),s.length=l.length->e∈l->i<l.length->decide ((i:Int)<((l.length:Nat):Int))=true->idx l (i:Int)=some e->aA .i64 (i:Int) 1=((i+1:Nat):Int)->step ((i:Int),s,())=some (.inl (((i+1:Nat):Int),s.set i (f e),())))
  (h2:∀s,decide (((l.length:Nat):Int)<((l.length:Nat):Int))=false->step (((l.length:Nat):Int),s,())=Option.map Sum.inr (fin s)) {s0:List β} (hs0:s0.length=l.length):aC step ((0:Int),s0,())=fin (l.map f):=by
 suffices key:∀(k i:Nat) (s:List β),i+k=l.length->s.length=l.length->aC step ((i:Int),s,())=fin (s.take i++(l.drop i).map f)by
  have:=key l.length 0 s0 (by omega) hs0
  simpa using this
 intro k
 induction k with
 |zero=>
  intro i s hi hs;obtain rfl:i=l.length:=by omega
  have hd:decide (((l.length:Nat):Int)<((l.length:Nat):Int))=false:=Qh (Qq64 _);have h:=h2 s hd;rw[Qq66,QO,List.append_nil,<-hs,Qq62];rw[<-hs]at h
  cases hf:fin s with
  |none=>rw[hf]at h;exact NM h
  |some r=>rw[hf]at h;exact bx h
 |succ k ih=>
  intro i s hi hs;have hlt:i<l.length:=by omega
  rw[bh (h1 i l[i] s hs (Q0 hlt) hlt (Qg (by omega)) (by rw[bd];exact Qv hlt) (bD (by omega) (by omega))),ih (i+1) (s.set i (f l[i])) (by omega) (by simpa using hs),
   QM hlt,QD]
  congr 1;rw[List.take_add_one,List.take_set_of_le (QI i),List.getElem?_set_self (by omega)]
  simp
def Jb(z:af):List af->af
 |[]=>z
 |x::l=>l.foldl (fun a y=>if bz a y=true then y else a) x
theorem Ov(l:List af)(hl:l.length<=1000000)(z:af){step:Int×af×Unit->Option ((Int×af×Unit)⊕af)}
  (h1:∀(i:Nat) (x s:af),decide ((i:Int)<((l.length:Nat):Int))=true->idx l (i:Int)=some x->aA .i64 (i:Int) 1=((i+1:Nat):Int)->step ((i:Int),s,())=some (.inl (((i+1:Nat):Int),(if i=0 then x else if bz s x=true then x else s),())))
  (h2:∀s,decide (((l.length:Nat):Int)<((l.length:Nat):Int))=false->step (((l.length:Nat):Int),s,())=some (.inr s)):aC step ((0:Int),z,())=some (Jb z l):=by
 have hd:decide (((l.length:Nat):Int)<((l.length:Nat):Int))=false:=Qh (Qq64 _)
 have key:∀(k i:Nat) (s:af),i+k=l.length->1<=i->aC step ((i:Int),s,())=some ((l.drop i).foldl (fun a y=>if bz a y=true then y else a) s):=by
  intro k
  induction k with
  |zero=>
   intro i s hi h1i;obtain rfl:i=l.length:=by omega
   rw[Qq66];exact bx (h2 s hd)
  |succ k ih=>
   intro i s hi h1i;have hlt:i<l.length:=by omega
   rw[bh (h1 i l[i] s (Qg (by omega)) (by rw[bd];exact Qv hlt) (bD (by omega) (by omega))),ih (i+1) _ (by omega) (by omega),QM hlt,QU,Qs (by omega:¬i=0)]
 cases l with
 |nil=>exact bx (h2 z hd)
 |cons x l=>
  have hx:=h1 0 x z (Qg (by simp)) (by rw[bd];rfl) (bD (by omega) (by omega))
  rw[Qr rfl]at hx;exact(bh hx).trans (key l.length 1 x (by simp;omega) (by omega))
theorem aeD(l:List af)(hl:l.length<=1000000):pT l=some (Jb bZ l):=by
 unfold pT;refine Ov l hl bZ (fun i x s hd hx hw=> ?_) (fun s hd=> ?_)
 ·simp only[hd,hx,hw,Qk,aN,Qa,kj]
  by_cases hi:i=0
  ·subst hi;rfl
  ·have:decide ((i:Int)=0)=false:=Qh (by omega)
   rw[this,Qs hi];cases bz s x<;>rfl
 ·simp only[hd,Ql,Qe]
theorem abI(l:List af)(hl:l.length<=1000000):nJ l=some (Jb bZ l):=by
 unfold nJ;refine Ov l hl bZ (fun i x s hd hx hw=> ?_) (fun s hd=> ?_)
 ·simp only[hd,hx,hw,Qk,aN,Qa,jY]
  by_cases hi:i=0
  ·subst hi;rfl
  ·have:decide ((i:Int)=0)=false:=Qh (by omega)
   rw[this,Qs hi];cases bz s x<;>rfl
 ·simp only[hd,Ql,Qe]
def dO(m:ab):ByteArray:=
 if aF m.ax=false then m.ax.Value else if m.aK≠1 then m.aa.Value else if m.bb≠fH then m.bb else(Jb bZ (m.aq.map (·.aa))).Value
theorem Pb{m:ab}(h:vS m):om m=some (dO m):=by
 have hl:m.aq.length<=1000:=by have:=h.len;omega
 unfold om dO;simp only[c7,Qa]
 cases hz:aF m.ax with
 |false=>rfl
 |true=>
  simp only[Qo,Ql,Bool.true_eq_false,Qu]
  by_cases h1:m.aK=1
  ·rw[Qg h1,Qs (fun h=>h h1)]
   simp only[Qo,Ql]
   by_cases hp:m.bb=fH
   ·have hp':decide (m.bb=ByteArray.mk #[])=true:=Qg hp;rw[hp',Qs (fun h=>h hp)]
    simp only[Qo,Ql]
    rw[Ex m.aq hl (·.aa) (fin:=fun s=>Option.bind (pT s) fun r=>some r.Value) (fun i e s hs he hd hx hw=>by
     simp only[hd,hx,hw,Qk,Qa]
     rw[bn (by simp;omega),Qk]) (fun s hd=>by simp only[hd,Ql]),aeD _ (by simp;omega)]
    rfl
   ·have hp':decide (m.bb=ByteArray.mk #[])=false:=Qh hp;rw[hp',Qr hp];rfl
  ·rw[Qh h1,Qr h1];rfl
theorem Gw{e:ai}(h:cQ e.aj)(hv:aU e=true):lO e=some (eJ e):=by
 simp only[lO,etas,ka h,Qa,hv,eJ]
 by_cases h3:e.bF=3
 ·rw[Qg h3,Qr h3];rfl
 ·rw[Qh h3,Qs h3];rfl
theorem Ud{e:ai}(h:cQ e.aj)(hv:aU e=true):kq e=some (eJ e):=by
 rw[VT (WD h)];have:ib (Gc e.aj) e=true:=hv;rw[this,Qr rfl]
def DN(m:ab)(n:Int):Nat:=dL (fun e=>decide (n<eJ e)) m.aq
 def iY(m:ab)(n:Int):Bool:=wB (gD m.an.toNat m.aj (bg m)) m.an.toNat (DN m n)
theorem vS.PT{m:ab}(h:vS m):wF m.aq:=fun e he=>jk (h.valid e he)
theorem Su{m:ab}(h:vS m)(n:Int):DN m n<1024:=mH h.PT
theorem afe{m:ab}(h:vS m)(n:Int):tV m n=some (iY m n):=by
 have hl:m.aq.length<=1000:=by have:=h.len;omega
 unfold tV
 rw[Ex m.aq hl (fun e=>decide (n<eJ e)) (fin:=fun s=>Option.bind (lF m) fun r4=>Option.bind (jo m.an m.aj r4) fun r5=>Option.bind (gm m.aq s) fun r6=>Option.bind (pk r5 m.an r6) fun r7=>some r7)
  (fun i e s hs he hd hx hw=>by
   simp only[hd,hx,hw,Qk,Qa,etas,Gw (h.sm e he) (h.valid e he)]
   rw[bn (by simp;omega),Qk])
  (fun s hd=>by simp only[hd,Ql,etas])]
 have hv:=Ay h.aB.2 (t:=m.aj) h.my.1;have hb:=Nl (mI (aB:=m.an.toNat) h.aL h.my.1) (v:=m.an.toNat) (Su h n);rw[h.aB.1]at hv hb;rw[OV hl,Qa,hv,Qa,A8 m.aq hl _ (fun e he _=>h.PT e he),Qa,show dL (fun e=>decide (n<eJ e)) m.aq=DN m n from rfl,hb]
 rfl
 def mN(m:ab)(AY:Int)(e:ai):Int:=
 if m.aa.ak<eJ e/\eJ e<AY/\iY m (eJ e)=false then eJ e else AY
 def hY(m:ab):Int:=m.aq.foldl (mN m) 1000000
 def ob(m:ab):ByteArray:=if m.aK=1 then dO m else m.aa.Value
 def fq(m:ab):ab:=
 if m.aK=3\/iY m m.aa.ak=false then m
 else{m with aS:=if ob m=m.aa.Value then m.aS else 0,aa:=⟨bC m.aa.ak (de (hY m) 1000),ob m⟩}
open Classical in
theorem Vu{m:ab}(h:vS m){ρ:Type}{step:Int×Int×Unit->Option ((Int×Int×Unit)⊕ρ)}{fin:Int->Option ρ}
  (h1:∀(i:Nat) (e:ai) (s:Int),e∈m.aq->decide ((i:Int)<((m.aq.length:Nat):Int))=true->idx m.aq (i:Int)=some e->aA .i64 (i:Int) 1=((i+1:Nat):Int)->step (s,(i:Int),())=some (.inl (mN m s e,((i+1:Nat):Int),())))
  (h2:∀s,decide (((m.aq.length:Nat):Int)<((m.aq.length:Nat):Int))=false->step (s,((m.aq.length:Nat):Int),())=Option.map Sum.inr (fin s)):aC step ((1000000:Int),(0:Int),())=fin (hY m):=by
 have hl:=h.len
 have key:=iI m.aq (by omega) (fun i s=>(s,i,())) (fun e s=>if e∈m.aq then some (.inl (mN m s e))else none) fin (step:=step) (fun i x s hd hx hw=>by
  have hm:x∈m.aq:=by rw[bd]at hx;exact Q8 hx
  rw[h1 i x s hm hd hx hw,Qr hm]) (fun s hd=>h2 s hd) 1000000
 refine key.trans ?_;unfold hY
 suffices h3:∀(l:List ai),(∀e∈l,e∈m.aq)->∀s,fJ (fun e s=>if e∈m.aq then some (Sum.inl (β:=ρ) (mN m s e))else none) fin l s=fin (l.foldl (mN m) s)from h3 _ (fun e he=>he) _
 intro l
 induction l with
 |nil=>intro _ s;rfl
 |cons x l ih=>
  intro hx s;rw[fJ,Qr (hx x Qx),QU];exact ih (fun e he=>hx e (Qy _ he)) _
theorem acp{m:ab}(h:vS m):wI m=some (fq m):=by
 unfold wI fq;simp only[etas,afe h,Pb h,Qa]
 by_cases h3:m.aK=3
 ·rw[Qg h3,Qr (.inl h3)];rfl
 ·rw[Qh h3]
  cases ha:iY m m.aa.ak with
  |false=>rw[Qr (.inr rfl)];rfl
  |true=>
   rw[Qs (by simp[h3])]
   simp only[Ql,Qo];refine(Vu h (fin:=fun c=>some {m with aS:=if ob m=m.aa.Value then m.aS else 0,aa:=⟨bC m.aa.ak (de c 1000),ob m⟩}) (fun i e s he hd hx hw=> ?_) (fun s hd=> ?_)).trans rfl
   ·simp only[hd,hx,hw,Qk,aN,Qa,Gw (h.sm e he) (h.valid e he)];unfold mN
    by_cases c1:m.aa.ak<eJ e
    ·by_cases c2:eJ e<s
     ·rw[Qg c1,Qg c2]
      cases c3:iY m (eJ e)with
      |true=>rw[Qs (by simp)];rfl
      |false=>rw[Qr ⟨c1,c2,rfl⟩];rfl
     ·rw[Qg c1,Qh c2,Qs (fun h=>c2 h.2.1)];rfl
    ·rw[Qh c1,Qs (fun h=>c1 h.1)];rfl
   ·simp only[hd,Ql,aN];unfold ob
    by_cases h1:m.aK=1
    ·rw[Qg h1,Qr h1]
     by_cases hv:dO m=m.aa.Value
     ·simp only[Qk,Qg hv,Qo,Ql,Qr hv]
     ·simp only[Qk,Qh hv,Qp,Qs hv]
    ·rw[Qh h1,Qs h1];simp only[Ql,decide_true,Qo,Qt]
end
section
def di(b:af):Prop:=1<=b.ak/\b.ak<=1000/\1<=b.Value.size/\b.Value.size<=200
theorem di.valid{b:af}(h:di b):cO b=true:=by
 obtain⟨h1,h2,h3,h4⟩:=h;simp only[cO,Qm,Qn,Qi];exact⟨⟨.inl ⟨h1,h2⟩,h3⟩,h4⟩
theorem di.finite{b:af}(h:di b):finite b=true:=by
 unfold Go.Proofs.YtjbfdglebjnelaaGreat.finite;rw[h.valid,Qg h.2.1];rfl
theorem Xo{b:af}(h:cO b=true)(hc:b.ak<=1000):di b:=by
 simp only[cO,Qm,Qn,Qi]at h;obtain⟨⟨h1,h2⟩,h3⟩:=h;exact⟨by omega,hc,h2,h3⟩
theorem di.nz{b:af}(h:di b):aF b=false:=NL h.1
theorem di.ne{b:af}(h:di b):b.Value≠fH:=by
 intro e;have:=h.2.2.1;rw[e]at this;exact absurd this (by decide)
theorem yE{b:af}:aF b=true↔b=bZ:=by
 obtain⟨c,v⟩:=b;simp[aF,bZ]
theorem bP:aF bZ=true:=yE.2 rfl
structure P1 (m:ab):Prop where
 aT:m.aK=1
 aQ:di m.aa
 dC:m.ao=bZ\/di m.ao
 bV:m.az=bZ\/(di m.az/\di m.ao/\bz m.az m.ao=true/\bM m.az m.ao=false)
 ed:m.ax=bZ\/(di m.ax/\dY m.ao m.az m.ax=true)
 up:bz m.aa m.ax=false
 bU:m.bl=0
 low:m.aS=0\/(1<=m.aS/\m.aS<=ft m/\nv m.ao m.az m.aa.Value m.aS=false)
structure P2 (m:ab):Prop where
 aT:m.aK=2
 aQ:di m.aa
 dC:di m.ao/\m.ao.Value=m.aa.Value
 bV:m.az=bZ
 ed:m.ax=bZ\/(di m.ax/\m.ax.Value=m.aa.Value)
 range:1<=m.aS/\m.aS<=m.bl/\m.bl<=m.ao.ak
structure P3 (m:ab):Prop where
 aT:m.aK=3
 aQ:di m.aa
 dC:m.ao=bZ
 bV:m.az=bZ
 ed:m.ax=bZ
 range:1<=m.aS/\m.aS<=m.bl/\m.bl<=1000
structure P0 (m:ab):Prop where
 aT:m.aK=1
 aQ:m.aa=bZ
 dC:m.ao=bZ
 bV:m.az=bZ
 ed:m.ax=bZ
 low:m.aS=0
 bU:m.bl=0
structure bp (m:ab):Prop where
 n0:0<=m.an
 n1:m.an<10
 aG:1<=m.aY/\m.aY<=1000000
 seq:0<=m.aE/\m.aE<=1000000
 aL:dQ m.aj
 s7:m.bb.size<=200
 hv:∀e∈m.aq,aU e=true/\dQ e.aj/\e.aY=m.aY/\e.an≠m.an
 eZ:m.aq.Pairwise (fun a b=>a.an<b.an)
 body:P0 m\/P1 m\/P2 m\/P3 m
theorem MW:∀(l:List ai) (k:Nat),k<=10->(∀e∈l,(k:Int)<=e.an/\e.an<10)->l.Pairwise (fun a b=>a.an<b.an)->l.length+k<=10
 |[],k,hk,_,_=>by simpa using hk
 |x::l,k,hk,h,hp=>by
  rw[Q4]at hp;have hx:=h x Qx;have:=MW l (k+1) (by omega) (fun e he=>⟨by have:=hp.1 e he;omega,(h e (Qy _ he)).2⟩) hp.2
  rw[QE];omega
theorem bp.len{m:ab}(h:bp m):m.aq.length<=10:=by
 have:=MW m.aq 0 (by omega) (fun e he=>by have:=jk (h.hv e he).1;omega) h.eZ
 omega
theorem bp.ev{m:ab}(h:bp m):vS m:=
 ⟨h.n0,h.n1,h.aL.sm,by have:=h.len;omega,fun e he=>(h.hv e he).2.1.sm,fun e he=>(h.hv e he).1⟩
theorem Ol{m:ab}(h:P1 m):0<=ft m/\ft m<=m.aa.ak/\(ft m=0\/(di m.ax/\m.ax.Value=m.aa.Value/\ft m=m.ax.ak)):=by
 unfold ft;split
 ·rename_i hc;simp only[Qm,Bool.not_eq_true',bM,Qi]at hc;rcases h.ed with e|⟨hf,_⟩
  ·rw[e,bP]at hc;cases hc.1
  ·have hup:=h.up;unfold bz at hup;split at hup
   ·rename_i e;exact⟨by have:=hf.1;omega,by omega,.inr ⟨hf,hc.2,rfl⟩⟩
   ·simp only[Qj]at hup;exact⟨by have:=hf.1;omega,by omega,.inr ⟨hf,hc.2,rfl⟩⟩
 ·exact⟨Int.le_refl _,by have:=h.aQ.1;omega,.inl rfl⟩
theorem RQ{m:ab}(h:bp m)(hz:aF m.aa=false):aU (jh m)=true:=by
 have hseq:1<=(jh m).aE/\(jh m).aE<=1000000:=by
  have h1:(jh m).aE=bC m.aE 1:=by show bC (cD m).aE 1=_;rw[U9]
  have:=h.seq;rw[h1];unfold bC;split<;>omega
 have hnode:(jh m).an=m.an:=vq m;have hslot:(jh m).aY=m.aY:=BS m
 have hhead:zL (jh m)=true:=by
  unfold zL;rw[hnode,hslot];simp only[Qm,Qi];exact⟨⟨⟨⟨⟨h.n0,h.n1⟩,h.aG.1⟩,h.aG.2⟩,hseq.1⟩,hseq.2⟩
 unfold aU;rw[GA,Rl h.aL];unfold ib;rw[hhead];have hkind:(jh m).bF=m.aK:=aaA m;rw[hkind];rcases h.body with h0|h1|h2|h3
 ·rw[h0.aQ,bP]at hz;cases hz
 ·rw[Qr h1.aT];have hh:=Ol h1;have e:jh m=⟨m.an,m.aY,bC (cD m).aE 1,m.aj,m.aK,m.aa,m.ao,m.az,m.aS,ft m⟩:=by unfold jh cD;rw[Qr h1.aT]
  have hp:(aF m.ao||cO m.ao)=true:=by
   rcases h1.dC with e|hf
   ·rw[e,bP];rfl
   ·rw[hf.valid,Bool.or_true]
  have hq:(aF m.az||cO m.az)=true:=by
   rcases h1.bV with e|hf
   ·rw[e,bP];rfl
   ·rw[hf.1.valid,Bool.or_true]
  have hpo:CV (jh m)=true:=by
   rw[e];unfold CV;rcases h1.bV with e|⟨_,hf,hl,hc⟩
   ·simp only[e,bP,Bool.true_or]
   ·simp only[hf.nz,hl,hc,Qp,Bool.and_self,Bool.or_true]
  have hhp:(decide (ft m=0)||dY m.ao m.az ⟨ft m,m.aa.Value⟩)=true:=by
   rcases hh.2.2 with e|⟨hf,hv,e⟩
   ·rw[Qg e];rfl
   ·rw[e,<-hv];rcases h1.ed with e2|⟨_,hp⟩
    ·have:=hf.nz;rw[e2,bP]at this;cases this
    ·rw[hp,Bool.or_true]
  have hlow:0<=m.aS/\m.aS<=ft m/\(decide (m.aS=0)||(!eN m.ao ⟨m.aS,m.aa.Value⟩&& !eN m.az ⟨m.aS,m.aa.Value⟩))=true:=by
   rcases h1.low with e|⟨h5,h6,h7⟩
   ·rw[e];exact⟨Int.le_refl _,hh.1,rfl⟩
   ·refine⟨by omega,h6,?_⟩
    unfold nv at h7;rw[Qq74]at h7;rw[h7.1,h7.2];simp
  unfold ic;rw[hpo];rw[e];unfold at_
  simp only[h1.aQ.finite,hp,hq,Qg hlow.1,Qg hlow.2.1,Qg hh.2.1,hhp,hlow.2.2,Bool.and_self,decide_true]
 ·rw[Qs (by rw[h2.aT];decide),Qr h2.aT]
  have e:jh m=⟨m.an,m.aY,bC (cD m).aE 1,m.aj,m.aK,m.aa,m.ao,bZ,m.aS,m.bl⟩:=by unfold jh cD;rw[Qs (by rw[h2.aT];decide),Qr h2.aT]
  have hc:m.bl<=1000:=by have:=h2.range.2.2;have:=h2.dC.1.2.1;omega
  unfold vw tM;rw[e];simp only[h2.aQ.finite,h2.dC.1.valid,bM,Qg h2.dC.2,bP,Qg h2.range.1,Qg h2.range.2.1,Qg h2.range.2.2,Qg hc,Bool.and_self,decide_true]
 ·rw[Qs (by rw[h3.aT];decide),Qs (by rw[h3.aT];decide),Qr h3.aT]
  have e:jh m=⟨m.an,m.aY,bC (cD m).aE 1,m.aj,m.aK,m.aa,bZ,bZ,m.aS,m.bl⟩:=by unfold jh cD;rw[Qs (by rw[h3.aT];decide),Qs (by rw[h3.aT];decide)]
  unfold Bo tM;rw[e];simp only[h3.aQ.valid,bP,Qg h3.range.1,Qg h3.range.2.1,Qg h3.range.2.2,Bool.and_self,decide_true]
theorem bp.mj{m:ab}(h:bp m):∀e∈bg m,aU e=true:=by
 intro e he;rcases A7 he with he|⟨hz,rfl⟩
 ·exact(h.hv e he).1
 ·exact RQ h hz
theorem bp.aej{m:ab}(h:bp m){e:ai}(he:e∈bg m)(hn:e.an.toNat=m.an.toNat):aF m.aa=false/\e=jh m:=by
 rcases A7 he with he|⟨hz,rfl⟩
 ·have h1:=(h.hv e he).2.2.2;have h2:=jk (h.hv e he).1;have:=h.n0;omega
 ·exact⟨hz,rfl⟩
end
section
theorem yK(a b:af):bz a b=true↔a.ak<b.ak\/(a.ak=b.ak/\bJ a.Value b.Value=true):=by
 unfold bz;split
 ·rename_i e;rw[e];simp
 ·rename_i e;simp only[Qi];constructor
  ·exact .inl
  ·rintro(h|h)
   ·exact h
   ·exact absurd h.1 e
theorem mZ{a b c:af}(h:bz a b=true)(h':bz b c=true):bz a c=true:=Bb.trans _ _ _ h h'
theorem aah(a:af):bz a a=false:=Bb.irrefl a
theorem IT{a b:af}(h:bz a b=false)(h':a≠b):bz b a=true:=by
 cases h1:bz b a with
 |true=>rfl
 |false=>exact absurd (Bb.total a b h h1) h'
theorem jd{a b:af}(h:bz a b=true):a.ak<=b.ak:=by
 rw[yK]at h;omega
theorem LV{a b:af}(h:bz a b=false):b.ak<=a.ak:=by
 rcases Int.lt_or_le a.ak b.ak with h1|h1
 ·rw[(yK a b).2 (.inl h1)]at h;cases h
 ·exact h1
theorem aaf(v:ByteArray):bJ v v=false:=iu.irrefl v
theorem GM{a b:af}(hv:a.Value=b.Value):bz a b=decide (a.ak<b.ak):=by
 unfold bz;split
 ·rename_i e;rw[hv,aaf,e];simp
 ·rfl
theorem Jm{p x:af}(h:jM p x=true):bz p x=false:=by
 obtain⟨_,h2,h3⟩:=(lK p x).1 h;rw[GM h2,Qj];omega
theorem Sj{p x q:af}(h:jM p x=true)(hq:bz p q=true):bz x q=true:=by
 by_cases e:x=p
 ·rw[e];exact hq
 ·exact mZ (IT (Jm h) (fun h=>e h.symm)) hq
theorem jG{a b:af}:bM a b=true↔a.Value=b.Value:=decide_eq_true_iff
theorem jz{a b:af}:bM a b=false↔a.Value≠b.Value:=Qj
theorem Di(p q x:af):dY p q x=true↔jM p x=true\/jM q x=true\/(aF q=false/\bz x q=true):=by
 unfold dY;simp only[Qn,Qm,Bool.not_eq_true'];exact⟨fun h=>by rcases h with(h|h)|h<;>simp[h],fun h=>by rcases h with h|h|h<;>simp[h]⟩
def tT(p q:af):Prop:=(p=bZ\/di p)/\(q=bZ\/(di q/\di p/\bz q p=true/\bM q p=false))
theorem P1.ic{m:ab}(h:P1 m):tT m.ao m.az:=⟨h.dC,h.bV⟩
theorem Mw{b:af}(h:di b):b≠bZ:=fun e=>by have:=h.nz;rw[e,bP]at this;cases this
inductive wE (p q b:af):af->af->Prop where
 |same:wE p q b p q
 |first (hp:p=bZ) (hq:q=bZ):wE p q b b bZ
 |up (hp:di p) (hl:bz p b=true) (hc:p.Value=b.Value):wE p q b b q
 |B8 (hp:di p) (hl:bz p b=true) (hc:p.Value≠b.Value):wE p q b b p
 |under (hp:di p) (hl:bz b p=true) (hc:b.Value≠p.Value) (hq:q=bZ\/bz q b=true):wE p q b p b
theorem aev{p q b:af}(h:tT p q)(hb:b=bZ\/di b):wE p q b (c9 p q b).1 (c9 p q b).2:=by
 unfold c9;rcases hb with rfl|hb
 ·rw[Qr bP];exact .same
 rw[Qs (by rw[hb.nz];decide)]
 rcases h.1 with rfl|hp
 ·have hq:q=bZ:=by
   rcases h.2 with e|⟨_,e,_⟩
   ·exact e
   ·exact absurd rfl (Mw e)
  rw[Qr bP,hq];exact .first rfl rfl
 rw[Qs (by rw[hp.nz];decide)]
 by_cases hl:bz p b=true
 ·rw[Qr hl]
  by_cases hc:bM p b=true
  ·rw[Qr hc]
   have hcq:bM q b=false:=by
    rw[jG]at hc;rw[jz];rcases h.2 with rfl|⟨_,_,_,e⟩
    ·exact fun e=>hb.ne e.symm
    ·rw[jz]at e;rw[<-hc];exact e
   rw[Qs (by rw[hcq];decide)]
   exact .up hp hl (jG.1 hc)
  ·rw[Qs hc];exact .B8 hp hl (jz.1 (by simpa using hc))
 ·rw[Qs hl];split
  ·rename_i hu;simp only[Qm,Qn,Bool.not_eq_true']at hu;refine .under hp hu.1.1 (jz.1 hu.1.2) ?_;rcases hu.2 with e|e
   ·exact .inl (yE.1 e)
   ·exact .inr e
  ·exact .same
theorem wE.ok{p q b p' q':af}(h:tT p q)(hb:b=bZ\/di b)(hj:wE p q b p' q'):tT p' q':=by
 have hbf:∀{x:af},bz x b=true\/di b\/(di x/\bz b x=true)->True:=fun _=>trivial
 cases hj with
 |same=>exact h
 |first hp hq=>exact⟨hb,.inl rfl⟩
 |up hp hl hc=>
  have hb':di b:=by
   rcases hb with rfl|hb
   ·have h1:=jd hl;have h2:=hp.1;have:(bZ:af).ak=0:=rfl;omega
   ·exact hb
  refine⟨.inr hb',?_⟩;rcases h.2 with e|⟨h1,h2,h3,h4⟩
  ·exact .inl e
  ·refine .inr ⟨h1,hb',mZ h3 hl,?_⟩;rw[jz]at h4 ⊢;rw[<-hc];exact h4
 |B8 hp hl hc=>
  have hb':di b:=by
   rcases hb with rfl|hb
   ·have h1:=jd hl;have h2:=hp.1;have:(bZ:af).ak=0:=rfl;omega
   ·exact hb
  exact⟨.inr hb',.inr ⟨hp,hb',hl,jz.2 hc⟩⟩
 |under hp hl hc hq=>
  refine⟨.inr hp,?_⟩;rcases hb with e|hb
  ·exact .inl e
  ·exact .inr ⟨hb,hp,hl,jz.2 hc⟩
theorem wE.mono{p q b p' q':af}(h:tT p q)(hj:wE p q b p' q'){x:af}(hx:dY p q x=true):dY p' q' x=true:=by
 rw[Di]at hx ⊢
 have hqp:aF q=false->bz q p=true:=fun hz=>by
  rcases h.2 with e|⟨_,_,e,_⟩
  ·rw[e,bP]at hz;cases hz
  ·exact e
 have hcq:jM q x=true->aF q=false:=fun hc=>((lK q x).1 hc).1
 cases hj with
 |same=>exact hx
 |first hp hq=>
  subst hp hq;rcases hx with hx|hx|hx
  ·have:=((lK _ _).1 hx).1;rw[bP]at this;cases this
  ·have:=((lK _ _).1 hx).1;rw[bP]at this;cases this
  ·rw[bP]at hx;cases hx.1
 |up hp hl hc=>
  rcases hx with hx|hx|hx
  ·obtain⟨h1,h2,h3⟩:=(lK _ _).1 hx;refine .inl ((lK _ _).2 ⟨?_,hc.symm.trans h2,Int.le_trans h3 (jd hl)⟩);have:=hp.1;have:=jd hl;exact NL (by omega)
  ·exact .inr (.inl hx)
  ·exact .inr (.inr hx)
 |B8 hp hl hc=>
  rcases hx with hx|hx|hx
  ·exact .inr (.inl hx)
  ·exact .inr (.inr ⟨hp.nz,Sj hx (hqp (hcq hx))⟩)
  ·exact .inr (.inr ⟨hp.nz,mZ hx.2 (hqp hx.1)⟩)
 |under hp hl hc hq=>
  have hbz:aF q=false->bz q b=true:=fun hz=>by
   rcases hq with e|e
   ·rw[e,bP]at hz;cases hz
   ·exact e
  have hbn:aF q=false->aF b=false:=fun hz=>by
   have h1:=jd (hbz hz);rcases h.2 with e|⟨e,_⟩
   ·rw[e,bP]at hz;cases hz
   ·have:=e.1;exact NL (by omega)
  rcases hx with hx|hx|hx
  ·exact .inl hx
  ·exact .inr (.inr ⟨hbn (hcq hx),Sj hx (hbz (hcq hx))⟩)
  ·exact .inr (.inr ⟨hbn hx.1,mZ hx.2 (hbz hx.1)⟩)
theorem aaZ{p:af}{v:ByteArray}{n k:Int}(h:eN p ⟨n,v⟩=false)(hk:n<=k):eN p ⟨k,v⟩=false:=Wx hk h
theorem TF{v:ByteArray}{n:Int}{x:af}(hx:x=bZ\/cO x=true):n<=xF v n x/\eN x ⟨xF v n x,v⟩=false:=by
 unfold xF;split
 ·rename_i hc;rw[Qm]at hc;have ha:=hc.2;unfold eN at ha;rw[Qm,Qm]at ha;have hle:n<=x.ak:=jd ha.2;split
  ·refine⟨by omega,?_⟩
   unfold eN;rw[Bool.and_eq_false_iff];right
   cases hl:bz ⟨x.ak+1,v⟩ x with
   |false=>rfl
   |true=>have:=jd hl;simp only at this;omega
  ·rename_i hn;exact⟨hle,by simpa using hn⟩
 ·rename_i hc;refine⟨Int.le_refl _,?_⟩;rcases hx with rfl|hv
  ·unfold eN;rw[bP];rfl
  ·rw[hv,Bool.true_and]at hc;simpa using hc
theorem Xf{v:ByteArray}{n:Int}{p q:af}(hp:p=bZ\/cO p=true)(hq:q=bZ\/cO q=true):n<=lA v n p q/\1<=lA v n p q/\nv p q v (lA v n p q)=false:=by
 unfold lA;obtain⟨h1,h2⟩:=TF (v:=v) (n:=bC n 1) hp;obtain⟨h3,h4⟩:=TF (v:=v) (n:=xF v (bC n 1) p) hq;have hm:n<=bC n 1/\1<=bC n 1:=by unfold bC;split<;>omega
 refine⟨by omega,by omega,?_⟩
 unfold nv;rw[h4,Bool.or_false];exact aaZ h2 h3
theorem MT{v:ByteArray}{n:Int}{x:af}(h:eN x ⟨n,v⟩=false):xF v n x=n:=by
 unfold xF;rw[h,Bool.and_false];rfl
theorem aad{v:ByteArray}{n:Int}{p q:af}(h1:1<=n)(h:nv p q v n=false):lA v n p q=n:=by
 unfold nv at h;rw[Qq74]at h;have hm:bC n 1=n:=by unfold bC;split<;>omega
 unfold lA;rw[hm,MT h.1,MT h.2]
theorem tT.valid{p q:af}(h:tT p q):(p=bZ\/cO p=true)/\(q=bZ\/cO q=true):=
 ⟨h.1.imp id di.valid,h.2.imp id fun h=>h.1.valid⟩
theorem XU{e:ai}(hv:aU e=true){x:af}(hx:x∈said e)(hz:aF x=false):cO x=true:=by
 have hv':=hv;unfold aU ib at hv';unfold said at hx;rw[Qr hv]at hx;rw[Qm,Qm]at hv';have hb:=hv'.2
 by_cases h1:e.bF=1
 ·rw[Qr h1]at hb hx;unfold ic at hb;simp only[Qm,Qn]at hb;obtain⟨⟨⟨⟨⟨⟨⟨⟨hf,hp⟩,hq⟩,_⟩,_⟩,_⟩,_⟩,_⟩,_⟩:=hb;simp only[QA,QR,or_false]at hx;rcases hx with rfl|rfl|rfl
  ·unfold finite at hf;rw[Qm]at hf;exact hf.1
  ·rcases hp with hp|hp
   ·rw[hp]at hz;cases hz
   ·exact hp
  ·rcases hq with hq|hq
   ·rw[hq]at hz;cases hz
   ·exact hq
 ·rw[Qs h1]at hb hx
  have hinf:∀{b:af},cO b=true->cO ⟨1000000,b.Value⟩=true:=by
   intro b hb;simp only[cO,Qm,Qn,Qi]at hb ⊢;exact⟨⟨.inr trivial,hb.1.2⟩,hb.2⟩
  by_cases h2:e.bF=2
  ·rw[Qr h2]at hb hx;unfold vw at hb;simp only[Qm]at hb;obtain⟨⟨⟨⟨⟨hf,hp⟩,hc⟩,_⟩,_⟩,_⟩:=hb;simp only[QA,QR,or_false]at hx;rcases hx with rfl|rfl
   ·exact hp
   ·unfold finite at hf;rw[Qm]at hf;exact hinf hf.1
  ·rw[Qs h2]at hb hx;simp only[QA,QR,or_false]at hx;subst hx
   by_cases h3:e.bF=3
   ·rw[Qr h3]at hb;unfold Bo at hb;simp only[Qm]at hb;exact hinf hb.1.1.1
   ·rw[Qs h3]at hb;cases hb
theorem KU{e:ai}(hv:aU e=true):1<=e.aa.Value.size/\e.aa.Value.size<=200:=by
 have hv':=hv;unfold aU ib at hv';rw[Qm,Qm]at hv';have hb:=hv'.2
 have go:∀{b:af},cO b=true->1<=b.Value.size/\b.Value.size<=200:=by
  intro b hb;simp only[cO,Qm,Qn,Qi]at hb;exact⟨hb.1.2,hb.2⟩
 have gof:∀{b:af},finite b=true->1<=b.Value.size/\b.Value.size<=200:=by
  intro b hb;unfold finite at hb;rw[Qm]at hb;exact go hb.1
 by_cases h1:e.bF=1
 ·rw[Qr h1]at hb;unfold ic at hb;simp only[Qm]at hb;exact gof hb.1.1.1.1.1.1.1.1
 ·rw[Qs h1]at hb
  by_cases h2:e.bF=2
  ·rw[Qr h2]at hb;unfold vw at hb;simp only[Qm]at hb;exact gof hb.1.1.1.1.1
  ·rw[Qs h2]at hb
   by_cases h3:e.bF=3
   ·rw[Qr h3]at hb;unfold Bo at hb;simp only[Qm]at hb;exact go hb.1.1.1
   ·rw[Qs h3]at hb;cases hb
theorem ae9{b:af}(h:cO b=true):di (dM b):=by
 simp only[cO,Qm,Qn,Qi]at h;obtain⟨⟨h1,h2⟩,h3⟩:=h;unfold dM;split
 ·exact⟨(by decide:(1:Int)<=1000),(by decide:(1000:Int)<=1000),h2,h3⟩
 ·exact⟨by omega,by omega,h2,h3⟩
theorem U5{α:Type}{l:List α}{p:α->Bool}{z:α}:(l.find? p).getD z=z\/((l.find? p).getD z∈l/\p ((l.find? p).getD z)=true):=by
 cases h:l.find? p with
 |none=>exact .inl rfl
 |some x=>exact .inr ⟨List.mem_of_find?_eq_some h,List.find?_some h⟩
theorem HL{m:ab}(h:bp m){x:af}(hx:x∈eX (bg m)):cO x=true:=by
 obtain⟨e,he,h1,h2⟩:=((nc h.ev.my.1.aL h.ev.my.2).2.2.2 x).1 hx;exact XU (h.mj e he) h1 h2
theorem RU{m:ab}(h:bp m):eL m=bZ\/(cO (eL m)=true/\(D7 m=fH\/(eL m).Value=D7 m)/\dY (sy m.ao) (sy m.az) (eL m)=false/\lE m.an.toNat m.aj (bg m) (eL m)=true):=by
 unfold eL jC;rcases U5 (l:=eX (bg m)) (p:=xJ (lE m.an.toNat m.aj (bg m)) m.ao m.az (D7 m)) (z:=Al)with e|⟨h1,h2⟩
 ·exact .inl e
 ·right;unfold xJ at h2;simp only[Qm,Qn,Bool.not_eq_true',Qi]at h2;exact⟨HL h h1,h2.1.1,h2.1.2,h2.2⟩
theorem zS{m:ab}(h:bp m):dM (eL m)=bZ\/di (dM (eL m)):=by
 rcases RU h with e|⟨h1,_⟩
 ·left;rw[e];decide
 ·exact .inr (ae9 h1)
theorem JY{m:ab}(h:bp m)(h1:tT m.ao m.az):wE m.ao m.az (dM (eL m)) (c9 m.ao m.az (dM (eL m))).1 (c9 m.ao m.az (dM (eL m))).2:=aev h1 (zS h)
theorem P2.ic{m:ab}(h:P2 m):tT m.ao m.az:=⟨.inr h.dC.1,.inl h.bV⟩
theorem ad3{m:ab}(h:bp m)(h1:P1 m):P1 (cU m):=by
 unfold cU;rw[Qs (by rw[h1.aT,h1.aQ.nz];decide)]
 have hj:=JY h h1.ic;generalize (c9 m.ao m.az (dM (eL m))).1=p at hj;generalize (c9 m.ao m.az (dM (eL m))).2=q at hj;have hok:=hj.ok h1.ic (zS h);refine⟨h1.aT,h1.aQ,hok.1,hok.2,?_,h1.up,h1.bU,?_⟩
 ·rcases h1.ed with e|⟨hf,hp⟩
  ·exact .inl e
  ·exact .inr ⟨hf,hj.mono h1.ic hp⟩
 ·show sq m p q=0\/(1<=sq m p q/\sq m p q<=ft m/\nv p q m.aa.Value (sq m p q)=false);unfold sq
  by_cases hL:m.aS=0
  ·rw[Qs (fun h=>h.2 hL)];exact .inl hL
  ·rw[Qr ⟨h1.aT,hL⟩];split
   ·exact .inl rfl
   ·rename_i hlt;obtain⟨h2,h3,h4⟩:=Xf (v:=m.aa.Value) (n:=m.aS) hok.valid.1 hok.valid.2;exact .inr ⟨h3,by omega,h4⟩
theorem WU{m:ab}(h:bp m)(h2:P2 m):P2 (cU m)/\m.ao.ak<=(cU m).ao.ak/\(cU m).az=bZ:=by
 unfold cU;rw[Qs (by rw[h2.aT,h2.aQ.nz];decide)]
 have hv:dM (eL m)=bZ\/(dM (eL m)).Value=m.aa.Value:=by
  rcases RU h with e|⟨h3,h4,_⟩
  ·left;rw[e];decide
  ·right;have hc:(dM (eL m)).Value=(eL m).Value:=by unfold dM;split<;>rfl
   have hvo:D7 m=m.aa.Value:=Qr h2.aT;rw[hvo]at h4;rw[hc];exact h4.resolve_left h2.aQ.ne
 have hj:=JY h h2.ic;have hlow:∀p q,sq m p q=m.aS:=fun p q=>Qs (fun h=>by have:=h.1;rw[h2.aT]at this;cases this)
 simp only[hlow];have hok:=hj.ok h2.ic (zS h);generalize (c9 m.ao m.az (dM (eL m))).1=p at hj hok;generalize (c9 m.ao m.az (dM (eL m))).2=q at hj hok;generalize hb:dM (eL m)=b at hj hv
 have key:di p/\p.Value=m.aa.Value/\m.ao.ak<=p.ak/\q=bZ:=by
  cases hj with
  |same=>exact⟨h2.dC.1,h2.dC.2,Int.le_refl _,h2.bV⟩
  |first hp hq=>exact absurd hp (Mw h2.dC.1)
  |up hp hl hc=>exact⟨hok.1.resolve_left (fun e=>by have:=jd hl;rw[e]at this;have h9:=h2.dC.1.1;have:(bZ:af).ak=0:=rfl;omega),hc.symm.trans h2.dC.2,jd hl,h2.bV⟩
  |B8 hp hl hc=>
   exfalso;rcases hv with e|e
   ·have:=jd hl;rw[e]at this;have h9:=h2.dC.1.1;have:(bZ:af).ak=0:=rfl;omega
   ·exact hc (h2.dC.2.trans e.symm)
  |under hp hl hc hq=>
   rcases hv with e|e
   ·exact⟨h2.dC.1,h2.dC.2,Int.le_refl _,e⟩
   ·exact absurd (e.trans h2.dC.2.symm) hc
 exact⟨⟨h2.aT,h2.aQ,⟨key.1,key.2.1⟩,key.2.2.2,h2.ed,⟨h2.range.1,h2.range.2.1,Int.le_trans h2.range.2.2 key.2.2.1⟩⟩,key.2.2.1,key.2.2.2⟩
theorem RI{m:ab}(h:bp m):bp (cU m):=by
 have hid:m.aK=3\/aF m.aa=true->cU m=m:=fun hc=>Qr hc
 have mk:(P0 (cU m)\/P1 (cU m)\/P2 (cU m)\/P3 (cU m))->bp (cU m):=by
  intro hb;unfold cU at hb ⊢;split at hb
  ·rename_i hc;rw[Qr hc];exact h
  ·rename_i hc;rw[Qs hc];exact⟨h.n0,h.n1,h.aG,h.seq,h.aL,h.s7,h.hv,h.eZ,hb⟩
 rcases h.body with h0|h1|h2|h3
 ·rw[hid (.inr (by rw[h0.aQ];exact bP))];exact h
 ·exact mk (.inr (.inl (ad3 h h1)))
 ·exact mk (.inr (.inr (.inl (WU h h2).1)))
 ·rw[hid (.inl h3.aT)];exact h
end
section
end
section
theorem vu(q:Int->Bool):∀(r:List Int) (lo:Int),cF q r lo<=lo
 |[],lo=>Int.le_refl _
 |e::r,lo=>by
  rw[cF];split
  ·exact vu q r lo
  ·split
   ·exact Int.le_trans (vu q r e) (by omega)
   ·exact Int.le_refl _
theorem DE(q:Int->Bool):∀(r:List Int) (lo:Int),cF q r lo=lo\/q (cF q r lo)=true/\cF q r lo∈r
 |[],lo=> .inl rfl
 |e::r,lo=>by
  rw[cF];split
  ·exact(DE q r lo).imp id fun h=>⟨h.1,by simp[h.2]⟩
  ·split
   ·rename_i hq;rcases DE q r e with h|h
    ·exact .inr ⟨by rw[h];exact hq,by rw[h];simp⟩
    ·exact .inr ⟨h.1,by simp[h.2]⟩
   ·exact .inl rfl
theorem DF(q:Int->Bool)(r:List Int)(lo:Int)(h:∀x∈r,1<=x)(h1:1<=lo):1<=cF q r lo:=by
 rcases DE q r lo with e|⟨_,e⟩
 ·omega
 ·exact h _ e
section
variable {aB : Nat} {t : ae} {l : List ai} (p q : af)
end
end
section
theorem adq{m:ab}(h:bp m){p:ai->Bool}(hb:(dL p (bW (bg m))).testBit m.an.toNat=true):aF m.aa=false/\p (jh m)=true:=by
 rw[xX,List.any_eq_true]at hb;obtain⟨e,he,hp⟩:=hb;rw[Qm,Qi]at hp;obtain⟨h1,h2⟩:=h.aej ((List.mem_filter.1 he).1) hp.2;rw[<-h2];exact⟨h1,hp.1⟩
theorem Vn{m:ab}(h:bp m){b:af}(hc:kv m.an.toNat m.aj (bg m) b=true):aF m.aa=false/\dn (jh m) b=true:=by
 have hsm:=mI (aB:=m.an.toNat) h.aL.sm h.ev.my.1;have hg:=CL hsm (mH (p:=(dn · b)) (nm (bg m)));exact adq h (hg.inside _ hc).1
theorem Wd{m:ab}(h1:m.aK=1){b:af}(ha:dn (jh m) b=true):aF b=false/\dY m.ao m.az b=true:=by
 have e:jh m=⟨m.an,m.aY,bC (cD m).aE 1,m.aj,m.aK,m.aa,m.ao,m.az,m.aS,ft m⟩:=by unfold jh cD;rw[Qr h1]
 rw[e]at ha;unfold dn at ha;rw[Qm,Qr h1]at ha;simpa using ha
theorem aan{m:ab}(h:bp m)(h1:P1 m):gA m=bZ\/(di (gA m)/\bz m.ax (gA m)=true/\dY m.ao m.az (gA m)=true):=by
 unfold gA xM;rcases U5 (l:=eX (bg m)) (p:=xL (kv m.an.toNat m.aj (bg m)) m.ax) (z:=Al)with e|⟨h2,h3⟩
 ·exact .inl e
 ·right;unfold xL at h3;simp only[Qm,Qi]at h3;exact⟨Xo (HL h h2) h3.1.2,h3.1.1,(Wd h1.aT (Vn h h3.2).2).2⟩
theorem aeu{p q b:af}{v:ByteArray}{n:Int}(hok:tT p q)(hb:dY p q b=true)(hv:b.Value≠v)(ha:nv p q v n=false):b.ak<=n:=by
 unfold nv at ha;rw[Qq74]at ha
 have key:∀x:af,aF x=false->x.Value≠v->eN x ⟨n,v⟩=false->x.ak<=n:=by
  intro x hz hx h;unfold eN at h;rw[hz,(jz (a:=x) (b:=⟨n,v⟩)).2 hx,Qp,Bool.and_self,Bool.true_and]at h;exact LV h
 have hqp:aF q=false->di q/\di p/\bz q p=true/\q.Value≠p.Value:=fun hz=>by
  rcases hok.2 with e|⟨e1,e2,e3,e4⟩
  ·rw[e,bP]at hz;cases hz
  ·exact⟨e1,e2,e3,jz.1 e4⟩
 rw[Di]at hb;rcases hb with hb|hb|⟨hz,hl⟩
 ·obtain⟨h1,h2,h3⟩:=(lK _ _).1 hb;have:=key p h1 (by rw[h2];exact hv) ha.1
  omega
 ·obtain⟨h1,h2,h3⟩:=(lK _ _).1 hb;have:=key q h1 (by rw[h2];exact hv) ha.2
  omega
 ·obtain⟨e1,e2,e3,e4⟩:=hqp hz;have h5:=jd hl
  by_cases hqv:q.Value=v
  ·have:=key p e2.nz (by rw[<-hqv];exact fun e=>e4 e.symm) ha.1
   have:=jd e3;omega
  ·have:=key q hz hqv ha.2;omega
theorem ahC{m:ab}(h1:P1 m){b:af}(hb:di b)(hl:bz m.ax b=true)(hp:dY m.ao m.az b=true):P1 (BP m b)/\(BP m b).ao=m.ao/\(BP m b).az=m.az/\(BP m b).ax=b/\m.aa.ak<=(BP m b).aa.ak:=by
 unfold BP;have hh:=Ol h1;split
 ·rename_i hlt
  have hhigh:∀L:Int,ft {m with ax:=b,aa:=b,aS:=L}=b.ak:=by
   intro L;unfold ft;rw[Qr];rw[hb.nz,jG.2 rfl];rfl
  refine⟨⟨h1.aT,hb,h1.dC,h1.bV,.inr ⟨hb,hp⟩,aah b,h1.bU,?_⟩,rfl,rfl,rfl,jd hlt⟩;show(if bM m.aa b=true then m.aS else 0)=0\/(1<=(if bM m.aa b=true then m.aS else 0)/\(if bM m.aa b=true then m.aS else 0)<=ft {m with ax:=b,aa:=b,aS:=if bM m.aa b=true then m.aS else 0}/\nv m.ao m.az b.Value (if bM m.aa b=true then m.aS else 0)=false)
  rw[hhigh];split
  ·rename_i hc;rw[jG]at hc;rcases h1.low with e|⟨h2,h3,h4⟩
   ·exact .inl e
   ·refine .inr ⟨h2,?_,by rw[<-hc];exact h4⟩
    have:=jd hlt;omega
  ·exact .inl rfl
 ·rename_i hlt;have hlt:bz m.aa b=false:=by simpa using hlt
  refine⟨⟨h1.aT,h1.aQ,h1.dC,h1.bV,.inr ⟨hb,hp⟩,hlt,h1.bU,?_⟩,rfl,rfl,rfl,Int.le_refl _⟩;rcases h1.low with e|⟨h2,h3,h4⟩
  ·exact .inl e
  ·refine .inr ⟨h2,?_,h4⟩;show m.aS<=ft {m with ax:=b}
   have hv:b.Value=m.aa.Value:=by
    refine Classical.byContradiction fun hv=> ?_
    have h5:=aeu h1.ic hp hv h4;have h6:=jd hl;rcases hh.2.2 with e|⟨e1,e2,e3⟩
    ·omega
    ·
     have e4:bz b m.ax=false:=Bb.asymm hl;have e5:=hl;rw[yK]at e5;have hbc:b.ak=m.ax.ak:=by omega
     have hlow:m.aS=m.ax.ak:=by omega
     have e6:bz ⟨m.aS,m.aa.Value⟩ b=true:=by
      have:(⟨m.aS,m.aa.Value⟩:af)=m.ax:=by rw[hlow,<-e2]
      rw[this];exact hl
     unfold nv at h4;rw[Qq74]at h4
     have key:∀x:af,aF x=false->x.Value≠m.aa.Value->eN x ⟨m.aS,m.aa.Value⟩=false->bz ⟨m.aS,m.aa.Value⟩ x=false:=by
      intro x hz hx h;unfold eN at h;rw[hz,(jz (a:=x) (b:=⟨m.aS,m.aa.Value⟩)).2 hx,Qp,Bool.and_self,Bool.true_and]at h;exact h
     rw[Di]at hp;rcases hp with hp|hp|⟨hz,hq⟩
     ·obtain⟨g1,g2,g3⟩:=(lK _ _).1 hp;have g4:=key _ g1 (by rw[g2];exact hv) h4.1
      have g5:bz ⟨m.aS,m.aa.Value⟩ m.ao=true:=by
       by_cases e:b=m.ao
       ·rw[<-e];exact e6
       ·exact mZ e6 (IT (Jm hp) (fun e'=>e e'.symm))
      rw[g5]at g4;cases g4
     ·obtain⟨g1,g2,g3⟩:=(lK _ _).1 hp;have g4:=key _ g1 (by rw[g2];exact hv) h4.2
      have g5:bz ⟨m.aS,m.aa.Value⟩ m.az=true:=by
       by_cases e:b=m.az
       ·rw[<-e];exact e6
       ·exact mZ e6 (IT (Jm hp) (fun e'=>e e'.symm))
      rw[g5]at g4;cases g4
     ·rcases h1.bV with e|⟨f1,f2,f3,f4⟩
      ·rw[e,bP]at hz;cases hz
      ·by_cases hqv:m.az.Value=m.aa.Value
       ·have g4:=key _ f2.nz (by rw[<-hqv];exact fun e=>(jz.1 f4) e.symm) h4.1
        rw[mZ e6 (mZ hq f3)]at g4;cases g4
       ·have g4:=key _ hz hqv h4.2;rw[mZ e6 hq]at g4;cases g4
   have hhigh:ft {m with ax:=b}=b.ak:=by
    unfold ft;rw[Qr];show(!aF b&&bM b m.aa)=true;rw[hb.nz,jG.2 hv];rfl
   rw[hhigh];rcases hh.2.2 with e|⟨e1,e2,e3⟩
   ·omega
   ·have:=jd hl;omega
theorem ads{m:ab}(h1:P1 m){b:af}(hb:di b)(hc:m.ax=b):P1 (qa m b):=by
 unfold qa;split
 ·rename_i hv;obtain⟨hL,hcp,hle⟩:=hv;rw[jG]at hcp;refine⟨h1.aT,h1.aQ,h1.dC,h1.bV,h1.ed,h1.up,h1.bU,?_⟩;obtain⟨h2,h3,h4⟩:=Xf (v:=b.Value) (n:=m.aa.ak) h1.ic.valid.1 h1.ic.valid.2;refine .inr ⟨h3,?_,by show nv m.ao m.az m.aa.Value _=false;rw[hcp];exact h4⟩
  show lA b.Value m.aa.ak m.ao m.az<=ft {m with aS:=lA b.Value m.aa.ak m.ao m.az}
  have hhigh:ft {m with aS:=lA b.Value m.aa.ak m.ao m.az}=b.ak:=by
   unfold ft;rw[Qr]
   ·show m.ax.ak=_;rw[hc]
   ·show(!aF m.ax&&bM m.ax m.aa)=true;rw[hc,hb.nz,jG.2 hcp.symm];rfl
  rw[hhigh];exact hle
 ·exact h1
theorem XL(m:ab)(b:af):(qa m b).ao=m.ao/\(qa m b).az=m.az/\(qa m b).ax=m.ax/\(qa m b).aa=m.aa:=by
 unfold qa;split<;>exact⟨rfl,rfl,rfl,rfl⟩
theorem uW{m:ab}(h:m.aK≠1\/aF m.aa=true\/aF (gA m)=true):fY m=m:=Qr h
theorem Eo{m m':ab}(h:bp m)(he:m'.an=m.an/\m'.aY=m.aY/\m'.aE=m.aE/\m'.aj=m.aj/\m'.bb=m.bb/\m'.aq=m.aq)(hb:P0 m'\/P1 m'\/P2 m'\/P3 m'):bp m':=by
 obtain⟨e1,e2,e3,e4,e5,e6⟩:=he;exact⟨by rw[e1];exact h.n0,by rw[e1];exact h.n1,by rw[e2];exact h.aG,by rw[e3];exact h.seq,by rw[e4];exact h.aL,by rw[e5];exact h.s7,by rw[e6,e1,e2];exact h.hv,by rw[e6];exact h.eZ,hb⟩
structure ir (m m':ab):Prop where
 aB:m'.an=m.an
 aG:m'.aY=m.aY
 seq:m'.aE=m.aE
 aL:m'.aj=m.aj
 s7:m'.bb=m.bb
 heard:m'.aq=m.aq
theorem ir.refl(m:ab):ir m m:=⟨rfl,rfl,rfl,rfl,rfl,rfl⟩
theorem ir.all{m m':ab}(h:ir m m'):m'.an=m.an/\m'.aY=m.aY/\m'.aE=m.aE/\m'.aj=m.aj/\m'.bb=m.bb/\m'.aq=m.aq:=⟨h.aB,h.aG,h.seq,h.aL,h.s7,h.heard⟩
theorem uX(m:ab):ir m (cU m):=by unfold cU;split<;>exact⟨rfl,rfl,rfl,rfl,rfl,rfl⟩
theorem aeF(m:ab)(b:af):ir m (BP m b):=by unfold BP;split<;>exact⟨rfl,rfl,rfl,rfl,rfl,rfl⟩
theorem Zm(m:ab)(b:af):ir m (qa m b):=by unfold qa;split<;>exact⟨rfl,rfl,rfl,rfl,rfl,rfl⟩
theorem sX(m:ab):ir m (fY m):=by
 unfold fY;split
 ·exact .refl m
 ·have h1:=Zm (BP m (gA m)) (gA m);have h2:=aeF m (gA m);exact⟨h1.aB.trans h2.aB,h1.aG.trans h2.aG,h1.seq.trans h2.seq,h1.aL.trans h2.aL,h1.s7.trans h2.s7,h1.heard.trans h2.heard⟩
theorem sZ(m:ab):ir m (fG m):=by
 unfold fG Jn Ar;split
 ·split<;>exact⟨rfl,rfl,rfl,rfl,rfl,rfl⟩
 ·split<;>exact⟨rfl,rfl,rfl,rfl,rfl,rfl⟩
theorem sY(m:ab):ir m (iF m):=by unfold iF Kc;split<;>exact⟨rfl,rfl,rfl,rfl,rfl,rfl⟩
theorem Bz(m:ab):ir m (fq m):=by unfold fq;split<;>exact⟨rfl,rfl,rfl,rfl,rfl,rfl⟩
theorem Pn{m:ab}(h:bp m)(h1:P1 m):P1 (fY m)/\(fY m=m\/((fY m).ao=m.ao/\(fY m).az=m.az/\bz m.ax (fY m).ax=true/\m.aa.ak<=(fY m).aa.ak)):=by
 unfold fY;split
 ·exact⟨h1,.inl rfl⟩
 ·rename_i hc;rcases aan h h1 with e|⟨hf,hl,hp⟩
  ·exact absurd (.inr (.inr (by rw[e];exact bP))) hc
  ·obtain⟨g1,g2,g3,g4,g5⟩:=ahC h1 hf hl hp;obtain⟨v1,v2,v3,v4⟩:=XL (BP m (gA m)) (gA m);exact⟨ads g1 hf g4,.inr ⟨v1.trans g2,v2.trans g3,by rw[v3,g4];exact hl,by rw[v4];exact g5⟩⟩
theorem RH{m:ab}(h:bp m):bp (fY m):=by
 rcases h.body with h0|h1|h2|h3
 ·rw[uW (.inr (.inl (by rw[h0.aQ];exact bP)))];exact h
 ·exact Eo h (sX m).all (.inr (.inl (Pn h h1).1))
 ·rw[uW (.inl (by rw[h2.aT];decide))];exact h
 ·rw[uW (.inl (by rw[h3.aT];decide))];exact h
theorem AX{m:ab}(h:bp m)(v:ByteArray):∀x∈br (bg m) v,1<=x/\x<=1000:=EA h.ev.my.1 h.ev.my.2 v
theorem aa9{m:ab}(h:bp m):∀v∈gr (bg m),1<=v.size/\v.size<=200:=by
 intro v hv;obtain⟨e,he,h1,h2⟩:=((s4 h.ev.my.1.aL h.ev.my.2).2.2.2 v).1 hv;rw[h2];exact KU h1
theorem Y0{m:ab}(h:bp m){x:ByteArray->Int->Int->Bool}{p q:af}:(gV x (bg m) p q).1=false\/(di (gV x (bg m) p q).2/\(gV x (bg m) p q).2.Value∈gr (bg m)/\(gV x (bg m) p q).2.ak∈br (bg m) (gV x (bg m) p q).2.Value/\
  nv p q (gV x (bg m) p q).2.Value (gV x (bg m) p q).2.ak=false/\x (gV x (bg m) p q).2.Value (gV x (bg m) p q).2.ak (gV x (bg m) p q).2.ak=true):=by
 let G:Bool×af->Prop:=fun s=>s.1=false\/(di s.2/\s.2.Value∈gr (bg m)/\s.2.ak∈br (bg m) s.2.Value/\nv p q s.2.Value s.2.ak=false/\x s.2.Value s.2.ak s.2.ak=true)
 have inner:∀(v:ByteArray),v∈gr (bg m)->∀(b:List Int),(∀n∈b,n∈br (bg m) v)->∀s,G s->G (b.foldl (fZ x p q v) s):=by
  intro v hv b
  induction b with
  |nil=>intro _ s hs;exact hs
  |cons n b ih=>
   intro hb s hs;rw[QU];refine ih (fun k hk=>hb k (Qy _ hk)) _ ?_
   unfold fZ;split
   ·rename_i hc;simp only[Qm,Bool.not_eq_true']at hc;have hn:=hb n Qx;have h1:=AX h v n hn;have h2:=aa9 h v hv;exact .inr ⟨⟨h1.1,h1.2,h2.1,h2.2⟩,hv,hn,hc.1.2,hc.2⟩
   ·exact hs
 have outer:∀(vs:List ByteArray),(∀v∈vs,v∈gr (bg m))->∀s,G s->G (vs.foldl (fun s v=>(br (bg m) v).foldl (fZ x p q v) s) s):=by
  intro vs
  induction vs with
  |nil=>intro _ s hs;exact hs
  |cons v vs ih=>
   intro hv s hs;rw[QU];exact ih (fun u hu=>hv u (Qy _ hu)) _ (inner v (hv v Qx) _ (fun n hn=>hn) s hs)
 exact outer _ (fun v hv=>hv) (false,⟨0,fH⟩) (.inl rfl)
structure ah4 (m:ab) (v:ByteArray) (lo hi:Int):Prop where
 fin:di ⟨hi,v⟩
 lo1:1<=lo
 le:lo<=hi
 val:v∈gr (bg m)
 top:gI m v hi hi=true
 all:gI m v lo hi=true
theorem Ow{m:ab}(h:bp m)(hk:(fB m).2.2.2.1=true):ah4 m (fB m).1 (fB m).2.1 (fB m).2.2.1:=by
 rcases Y0 (x:=gI m) (p:=m.ao) (q:=m.az) h with e|⟨h1,h2,h3,h4,h5⟩
 ·unfold fB pL at hk;rw[e]at hk;cases hk
 ·have hb:(gV (gI m) (bg m) m.ao m.az).1=true:=by
   unfold fB pL at hk;split at hk
   ·assumption
   ·cases hk
  have e:fB m=((gV (gI m) (bg m) m.ao m.az).2.Value,cF (fun n=> !nv m.ao m.az (gV (gI m) (bg m) m.ao m.az).2.Value n&&gI m (gV (gI m) (bg m) m.ao m.az).2.Value n (gV (gI m) (bg m) m.ao m.az).2.ak) (br (bg m) (gV (gI m) (bg m) m.ao m.az).2.Value).reverse (gV (gI m) (bg m) m.ao m.az).2.ak,(gV (gI m) (bg m) m.ao m.az).2.ak,true,()):=by
   unfold fB pL;rw[Qr hb]
  rw[e];refine⟨h1,DF _ _ _ (fun x hx=>(AX h _ x (List.mem_reverse.1 hx)).1) h1.1,vu _ _ _,h2,h5,?_⟩
  simp only;rcases DE (fun n=> !nv m.ao m.az (gV (gI m) (bg m) m.ao m.az).2.Value n&&gI m (gV (gI m) (bg m) m.ao m.az).2.Value n (gV (gI m) (bg m) m.ao m.az).2.ak) (br (bg m) (gV (gI m) (bg m) m.ao m.az).2.Value).reverse (gV (gI m) (bg m) m.ao m.az).2.ak with e|⟨e,_⟩
  ·rw[e];exact h5
  ·rw[Qm]at e;exact e.2
theorem Vo{m:ab}(hb0:m.aa=bZ\/di m.aa)(hp0:m.ao=bZ\/di m.ao){v:ByteArray}{lo hi:Int}(hf:di ⟨hi,v⟩)(hlo:1<=lo)(hle:lo<=hi):P2 (Jn m v lo hi):=by
 unfold Jn
 have hmax:di ⟨bC m.aa.ak hi,v⟩:=by
  rcases hb0 with e|h2
  ·have:bC m.aa.ak hi=hi:=by
    have h3:=hf.1;simp only at h3;have h4:m.aa.ak=0:=by rw[e];rfl
    unfold bC;split<;>omega
   rw[this];exact hf
  ·have:bC m.aa.ak hi=m.aa.ak\/bC m.aa.ak hi=hi:=by unfold bC;split<;>simp
   rcases this with e|e<;>rw[e]
   ·exact⟨h2.1,h2.2.1,hf.2.2⟩
   ·exact hf
 have hbv:∀b:af,b=(if(!bM m.aa ⟨hi,v⟩||bz m.aa ⟨hi,v⟩)=true then⟨bC m.aa.ak hi,v⟩else m.aa)->di b/\b.Value=v:=by
  intro b hb;split at hb
  ·rw[hb];exact⟨hmax,rfl⟩
  ·rename_i hc;rw[hb];simp only[Qn,Bool.not_eq_true',not_or,Bool.not_eq_false]at hc;refine⟨hb0.resolve_left (fun e=> ?_),jG.1 hc.1⟩
   have:=jG.1 hc.1;rw[e]at this;exact hf.ne this.symm
 obtain⟨b1,b2⟩:=hbv _ rfl
 have hpv:∀p:af,p=(if jM m.ao ⟨hi,v⟩=true then m.ao else⟨hi,v⟩)->di p/\p.Value=v/\hi<=p.ak:=by
  intro p hp;split at hp
  ·rename_i hc;rw[hp];obtain⟨g1,g2,g3⟩:=(lK _ _).1 hc;refine⟨?_,g2,g3⟩;rcases hp0 with e|e
   ·rw[e,bP]at g1;cases g1
   ·exact e
  ·rw[hp];exact⟨hf,rfl,Int.le_refl _⟩
 obtain⟨p1,p2,p3⟩:=hpv _ rfl;exact⟨rfl,b1,⟨p1,p2.trans b2.symm⟩,rfl,.inr ⟨hf,b2.symm⟩,⟨hlo,hle,p3⟩⟩
theorem U7{m:ab}(h:bp m)(h2:P2 m):1<=(eI m).1/\(eI m).1<=(eI m).2/\(eI m).2<=1000/\(((eI m).2=m.bl/\(eI m).1<=m.aS)\/m.bl<(eI m).2):=by
 have hr:=h2.range;have hH:m.bl<=1000:=by have:=h2.dC.1.2.1;omega
 have hb:∀x∈(br (bg m) m.aa.Value).reverse,1<=x:=fun x hx=>(AX h _ x (List.mem_reverse.1 hx)).1
 unfold eI E6;split
 ·refine⟨DF _ _ _ hb hr.1,?_,hH,.inl ⟨rfl,vu _ _ _⟩⟩;exact Int.le_trans (vu _ _ _) hr.2.1
 ·rename_i n hn;have hnb:=AX h _ n (List.mem_reverse.1 (List.mem_of_find?_eq_some hn));have hnp:=List.find?_some hn;simp only[Qm,Qi]at hnp;have h5:1<=cF (fun x=>gI m m.aa.Value x n) (br (bg m) m.aa.Value).reverse n:=DF _ _ _ hb hnb.1
  have h6:=vu (fun x=>gI m m.aa.Value x n) (br (bg m) m.aa.Value).reverse n
  simp only;refine⟨DF _ _ _ hb ?_,?_,hnb.2,.inr hnp.1⟩
  ·split
   ·exact h5
   ·exact hr.1
  ·refine Int.le_trans (vu _ _ _) ?_;split
   ·exact h6
   ·omega
theorem YI{m:ab}(h2:P2 m){lo hi:Int}(hlo:1<=lo)(hle:lo<=hi)(hhi:hi<=1000):P2 (Ar m lo hi):=by
 unfold Ar;have hb:=h2.aQ;have hp:=h2.dC;have e1:∀c:Int,bC c hi=c\/bC c hi=hi:=fun c=>by unfold bC;split<;>simp
 have e2:∀c:Int,hi<=bC c hi:=fun c=>by unfold bC;split<;>omega
 have mx:∀c:Int,c<=1000->di ⟨bC c hi,m.aa.Value⟩:=by
  intro c hc;refine⟨by have:=e2 c;simp only;omega,?_,hb.2.2.1,hb.2.2.2⟩
  rcases e1 c with e|e<;>simp only[e]<;>omega
 refine⟨h2.aT,mx _ hb.2.1,⟨?_,?_⟩,h2.bV,.inr ⟨mx _ ?_,rfl⟩,⟨hlo,hle,e2 _⟩⟩
 ·show di ⟨bC m.ao.ak hi,m.ao.Value⟩;rw[hp.2];exact mx _ hp.1.2.1
 ·exact hp.2
 ·rcases h2.ed with e|e
  ·rw[e];decide
  ·exact e.1.2.1
theorem RM{m:ab}(h:bp m):bp (fG m):=by
 refine Eo h (sZ m).all ?_;unfold fG;rcases h.body with h0|h1|h2|h3
 ·rw[Qr h0.aT];split
  ·rename_i hk;have hf:=Ow h hk;exact .inr (.inr (.inl (Vo (.inl h0.aQ) (.inl h0.dC) hf.fin hf.lo1 hf.le)))
  ·exact .inl h0
 ·rw[Qr h1.aT];split
  ·rename_i hk;have hf:=Ow h hk;exact .inr (.inr (.inl (Vo (.inr h1.aQ) h1.dC hf.fin hf.lo1 hf.le)))
  ·exact .inr (.inl h1)
 ·rw[Qs (by rw[h2.aT];decide),Qr h2.aT]
  have:=U7 h h2;exact .inr (.inr (.inl (YI h2 this.1 this.2.1 this.2.2.1)))
 ·rw[Qs (by rw[h3.aT];decide),Qs (by rw[h3.aT];decide)]
  exact .inr (.inr (.inr h3))
theorem agA{m:ab}(h:bp m)(hk:(nq m).2.2.1=true):1<=(nq m).1/\(nq m).1<=(nq m).2.1/\(nq m).2.1<=1000/\Ge m m.aa.Value (nq m).1 (nq m).2.1=true:=by
 unfold nq xu at hk ⊢;split at hk
 ·rename_i n hn;have hnb:=AX h _ n (List.mem_reverse.1 (List.mem_of_find?_eq_some hn));have hs:=List.find?_some hn;simp only;refine⟨DF _ _ _ (fun x hx=>(AX h _ x (List.mem_reverse.1 hx)).1) hnb.1,vu _ _ _,hnb.2,?_⟩
  rcases DE (fun x=>Ge m m.aa.Value x n) (br (bg m) m.aa.Value).reverse n with e|⟨e,_⟩
  ·rw[e];exact hs
  ·exact e
 ·cases hk
theorem WX{m:ab}(h:bp m)(h2:P2 m)(hk:(nq m).2.2.1=true):P3 (Kc m (nq m).1 (nq m).2.1):=by
 obtain⟨g1,g2,g3,_⟩:=agA h hk;unfold Kc;exact⟨rfl,⟨by simp only;omega,g3,h2.aQ.2.2.1,h2.aQ.2.2.2⟩,rfl,rfl,rfl,⟨g1,g2,g3⟩⟩
theorem RL{m:ab}(h:bp m):bp (iF m):=by
 refine Eo h (sY m).all ?_;unfold iF;split
 ·rename_i hc;rcases h.body with h0|h1|h2|h3
  ·have:=h0.aT;have:=hc.1;omega
  ·have:=h1.aT;have:=hc.1;omega
  ·exact .inr (.inr (.inr (WX h h2 hc.2)))
  ·have:=h3.aT;have:=hc.1;omega
 ·exact h.body
theorem Yz{z:af}:∀{l:List af},l≠[]->Jb z l∈l
 |[],h=>absurd rfl h
 |x::l,_=>by
  show l.foldl (fun a y=>if bz a y=true then y else a) x∈x::l
  suffices key:∀(l:List af) (a:af),l.foldl (fun a y=>if bz a y=true then y else a) a=a\/l.foldl (fun a y=>if bz a y=true then y else a) a∈l by
   rcases key l x with e|e
   ·rw[e];exact Qx
   ·exact Qy _ e
  intro l
  induction l with
  |nil=>intro a;exact .inl rfl
  |cons y l ih=>
   intro a;rw[QU];rcases ih (if bz a y=true then y else a)with e|e
   ·rw[e];split
    ·exact .inr Qx
    ·exact .inl rfl
   ·exact .inr (Qy _ e)
theorem adC{t:ae}(h:dQ t){s:Nat}(hs:∀k,k<10->s.testBit k=true):lH s t=true:=by
 have hn:∀x:Int,0<=x->x<10->mo s x=true:=by
  intro x h0 h1;unfold mo fO;rw[Qg h0,Qg h1,hs _ (by omega)]
  rfl
 have hc:t.ba.countP (mo s)=t.ba.length:=List.countP_eq_length.2 fun x hx=>hn x (h.nodes x hx).1 (h.nodes x hx).2
 have hi:ya s t.aM=t.aM.length:=by
  rcases h.inner with e|⟨x,h0,h1,e⟩
  ·rw[e];rfl
  ·rw[e]
   have:lH s ⟨1,[x],[]⟩=true:=by
    rw[JP];simp[hn x h0 h1,ya]
   simp[ya,this]
 rw[JP,hc,hi,Qi];have:=h.th.2;omega
theorem Y7{m:ab}(h:bp m){n:Int}(ha:iY m n=true):∃e∈m.aq,n<eJ e:=by
 refine Classical.byContradiction fun hno=> ?_
 have hz:DN m n=0:=by
  refine CZ fun k=> ?_
  unfold DN;rw[xX,Nat.zero_testBit,List.any_eq_false];intro e he;have:¬n<eJ e:=fun hlt=>hno ⟨e,he,hlt⟩
  simp[this]
 unfold iY wB at ha;rw[hz,Qm]at ha
 have hown:mJ (gD m.an.toNat m.aj (bg m)) m.an.toNat=m.aj:=by
  unfold mJ;rw[H6 h.ev.aB.2 m.aj (bg m) h.ev.aB.2,Qr rfl];rfl
 rw[hown,adC h.aL (fun k hk=>by rw[CC (by omega)];simp[hk])]at ha
 cases ha.2
theorem WC{m:ab}(h:bp m)(h1:m.aK=1)(hc:m.ax=bZ\/di m.ax)(hh:m.aq≠[]\/m.bb≠fH\/m.ax≠bZ):1<=(dO m).size/\(dO m).size<=200:=by
 unfold dO;split
 ·rename_i hz;rcases hc with e|e
  ·rw[e,bP]at hz;cases hz
  ·exact e.2.2
 ·rename_i hz;have hz:aF m.ax=true:=by simpa using hz
  rw[Qs (fun h=>h h1)]
  split
  ·rename_i hp;refine⟨?_,h.s7⟩;rcases Nat.eq_zero_or_pos m.bb.size with e|e
   ·exfalso;apply hp;have:m.bb.data=#[]:=Array.eq_empty_of_size_eq_zero e
    cases hm:m.bb with
    |mk d=>rw[hm]at this;simp only at this;rw[this];rfl
   ·exact e
  ·rename_i hp
   have hne:m.aq≠[]:=by
    rcases hh with e|e|e
    ·exact e
    ·exact absurd e hp
    ·exact absurd (yE.1 hz) e
   have hm:=Yz (z:=bZ) (l:=m.aq.map (·.aa)) (by simpa using hne)
   obtain⟨e,he,heq⟩:=QP.1 hm;rw[<-heq];exact KU (h.hv e he).1
theorem aaF{e:ai}(hv:aU e=true):1<=eJ e/\(eJ e<=1000\/eJ e=1000000):=by
 unfold eJ;split
 ·exact⟨by decide,.inr rfl⟩
 ·rename_i h3;have hv':=hv;unfold aU ib at hv';rw[Qm,Qm]at hv';have hb:=hv'.2
  have gof:∀{b:af},finite b=true->1<=b.ak/\b.ak<=1000:=by
   intro b hb;unfold finite at hb;rw[Qm,Qi]at hb;have:=(Xo hb.1 hb.2);exact⟨this.1,this.2.1⟩
  by_cases h1:e.bF=1
  ·rw[Qr h1]at hb;unfold ic at hb;simp only[Qm]at hb;have:=gof hb.1.1.1.1.1.1.1.1;exact⟨this.1,.inl this.2⟩
  ·rw[Qs h1]at hb
   by_cases h2:e.bF=2
   ·rw[Qr h2]at hb;unfold vw at hb;simp only[Qm]at hb;have:=gof hb.1.1.1.1.1;exact⟨this.1,.inl this.2⟩
   ·rw[Qs h2,Qs h3]at hb;cases hb
theorem aaN(m:ab):hY m=1000000\/(m.aa.ak<hY m/\hY m<1000000/\iY m (hY m)=false/\∃e∈m.aq,hY m=eJ e):=by
 unfold hY
 suffices key:∀(l:List ai),(∀e∈l,e∈m.aq)->∀s,(s=1000000\/(m.aa.ak<s/\s<1000000/\iY m s=false/\∃e∈m.aq,s=eJ e))->
   (l.foldl (mN m) s=1000000\/(m.aa.ak<l.foldl (mN m) s/\l.foldl (mN m) s<1000000/\iY m (l.foldl (mN m) s)=false/\∃e∈m.aq,l.foldl (mN m) s=eJ e))from key _ (fun e he=>he) _ (.inl rfl)
 intro l
 induction l with
 |nil=>intro _ s hs;exact hs
 |cons x l ih=>
  intro hm s hs;rw[QU];refine ih (fun e he=>hm e (Qy _ he)) _ ?_
  unfold mN;split
  ·rename_i hc;exact .inr ⟨hc.1,by rcases hs with e|e<;>omega,hc.2.2,x,hm x Qx,rfl⟩
  ·exact hs
theorem Jp{m:ab}(h:bp m)(hb:0<=m.aa.ak/\m.aa.ak<=1000):m.aa.ak<=bC m.aa.ak (de (hY m) 1000)/\bC m.aa.ak (de (hY m) 1000)<=1000/\1<=bC m.aa.ak (de (hY m) 1000)/\
  (bC m.aa.ak (de (hY m) 1000)=m.aa.ak->m.aa.ak=1000)/\bC m.aa.ak (de (hY m) 1000)=de (hY m) 1000:=by
 have hmin:de (hY m) 1000<=1000/\1<=de (hY m) 1000/\(m.aa.ak<de (hY m) 1000\/de (hY m) 1000=1000):=by
  rcases aaN m with e|⟨g1,g2,_,x,hx,g4⟩
  ·rw[e];exact⟨by decide,by decide,.inr (by decide)⟩
  ·have hc:=aaF (h.hv x hx).1;rw[<-g4]at hc;have:hY m<=1000:=by omega
   have e:de (hY m) 1000=hY m:=by unfold de;split<;>omega
   rw[e];omega
 unfold bC;split<;>omega
theorem Po{m:ab}(h:bp m)(h1:P0 m\/P1 m)(ha:iY m m.aa.ak=true):P1 (fq m):=by
 have hph:m.aK=1:=by rcases h1 with h|h<;>exact h.aT
 have hbc:0<=m.aa.ak/\m.aa.ak<=1000:=by
  rcases h1 with h|h
  ·rw[h.aQ];decide
  ·have:=h.aQ;exact⟨by have:=this.1;omega,this.2.1⟩
 obtain⟨c1,c2,c3,_⟩:=Jp h hbc;obtain⟨e0,he0,_⟩:=Y7 h ha
 have hconf:m.ax=bZ\/di m.ax:=by
  rcases h1 with h|h
  ·exact .inl h.ed
  ·exact h.ed.imp id (·.1)
 have hv:=WC h hph hconf (.inl (List.ne_nil_of_mem he0));unfold fq;rw[Qs (by rw[hph,ha];decide)]
 have hnv:ob m=dO m:=Qr hph;rw[hnv];generalize hn:bC m.aa.ak (de (hY m) 1000)=n at c1 c2 c3 ⊢
 have hpo:tT m.ao m.az:=by
  rcases h1 with h|h
  ·exact⟨.inl h.dC,.inl h.bV⟩
  ·exact h.ic
 refine⟨hph,⟨c3,c2,hv.1,hv.2⟩,hpo.1,hpo.2,?_,?_,?_,?_⟩
 ·rcases h1 with h|h
  ·exact .inl h.ed
  ·exact h.ed
 ·show bz ⟨n,dO m⟩ m.ax=false;rcases hconf with e|e
  ·rw[e]
   cases hl:bz ⟨n,dO m⟩ bZ with
   |false=>rfl
   |true=>have:=jd hl;have h0:(bZ:af).ak=0:=rfl;simp only at this;omega
  ·have hvc:dO m=m.ax.Value:=by unfold dO;rw[Qr e.nz]
   rw[GM (show(⟨n,dO m⟩:af).Value=m.ax.Value from hvc),Qj]
   rcases h1 with h|h
   ·exact absurd h.ed (Mw e)
   ·have:=LV h.up;simp only;omega
 ·rcases h1 with h|h<;>exact h.bU
 ·show(if dO m=m.aa.Value then m.aS else 0)=0\/(1<=(if dO m=m.aa.Value then m.aS else 0)/\_<=_/\nv m.ao m.az (dO m) (if dO m=m.aa.Value then m.aS else 0)=false)
  split
  ·rename_i hve;rcases h1 with h|h
   ·exact .inl h.low
   ·rcases h.low with e|⟨g1,g2,g3⟩
    ·exact .inl e
    ·refine .inr ⟨g1,?_,by rw[hve];exact g3⟩
     have:ft {m with aS:=m.aS,aa:=⟨n,dO m⟩}=ft m:=by
      unfold ft bM;simp only[hve]
     show m.aS<=ft {m with aS:=m.aS,aa:=⟨n,dO m⟩}
     rw[this];exact g2
  ·exact .inl rfl
theorem WW{m:ab}(h:bp m)(h2:P2 m):P2 (fq m):=by
 unfold fq;split
 ·exact h2
 ·obtain⟨c1,c2,c3,_⟩:=Jp h ⟨by have:=h2.aQ.1;omega,h2.aQ.2.1⟩
  have hnv:ob m=m.aa.Value:=Qs (by rw[h2.aT];decide)
  rw[hnv,Qr rfl];exact⟨h2.aT,⟨c3,c2,h2.aQ.2.2⟩,h2.dC,h2.bV,h2.ed,h2.range⟩
theorem RJ{m:ab}(h:bp m):bp (fq m):=by
 have hid:m.aK=3\/iY m m.aa.ak=false->fq m=m:=fun hc=>Qr hc
 cases ha:iY m m.aa.ak with
 |false=>rw[hid (.inr ha)];exact h
 |true=>
  refine Eo h (Bz m).all ?_;rcases h.body with h0|h1|h2|h3
  ·exact .inr (.inl (Po h (.inl h0) ha))
  ·exact .inr (.inl (Po h (.inr h1) ha))
  ·exact .inr (.inr (.inl (WW h h2)))
  ·rw[hid (.inl h3.aT)];exact .inr (.inr (.inr h3))
end
section
theorem lexLt{a a' b b' B:Nat}(hb:b<B)(h:a<a'):a*B+b<a'*B+b':=by
 have h1:(a+1)*B<=a'*B:=Qq63 B h;rw[Qq73]at h1;omega
theorem Bh{a a' b b' B:Nat}(h:a=a')(hb:b<b'):a*B+b<a'*B+b':=by rw[h];omega
theorem GL{a b A B:Nat}(ha:a<A)(hb:b<B):a*B+b<A*B:=by
 have h1:(a+1)*B<=A*B:=Qq63 B ha;rw[Qq73]at h1;omega
theorem di.sm{b:af}(h:di b):Sm b:=⟨by have:=h.1;omega,h.2.1,h.2.2.2⟩
theorem Z8:Sm bZ:=⟨by decide,by decide,by decide⟩
theorem s5{b:af}(h:b=bZ\/di b):Sm b:=by
 rcases h with rfl|h
 ·exact Z8
 ·exact h.sm
theorem P6{b:af}(h:di b):oM bZ<oM b:=vd Z8 h.sm ((yK _ _).2 (.inl h.1))
 def t1(m:ab):Nat:=2*m.aa.ak.toNat+(if m.aa.Value=ob m then 1 else 0)
 def pq(m:ab):Nat:=oM m.ao*WB+oM m.az
 def r1(m:ab):Nat:=(pq m*WB+oM m.ax)*2002+t1 m
def K1:Nat:=(WB*WB)*WB*2002
 def r2(m:ab):Nat:=(((m.bl.toNat*1001+(1000 - m.aS).toNat)*WB+oM m.ao)*WB+oM m.ax)*1001+m.aa.ak.toNat
def K2:Nat:=((1001*1001)*WB*WB)*1001
 def ku(m:ab):Nat:=if m.aK=1 then r1 m else if m.aK=2 then K1+r2 m else K1+K2
def Bf(m:ab):Prop:=(m.ao=bZ\/di m.ao)/\(m.az=bZ\/di m.az)/\(m.ax=bZ\/di m.ax)/\(m.aa=bZ\/di m.aa)
theorem P0.ok{m:ab}(h:P0 m):Bf m:=⟨.inl h.dC,.inl h.bV,.inl h.ed,.inl h.aQ⟩
theorem P1.ok{m:ab}(h:P1 m):Bf m:=⟨h.dC,h.bV.imp id (·.1),h.ed.imp id (·.1),.inr h.aQ⟩
theorem P2.ok{m:ab}(h:P2 m):Bf m:=⟨.inr h.dC.1,.inl h.bV,h.ed.imp id (·.1),.inr h.aQ⟩
theorem XR{m:ab}(h:Bf m):t1 m<2002:=by
 have:m.aa.ak<=1000:=by
  rcases h.2.2.2 with e|e
  ·rw[e];decide
  ·exact e.2.1
 unfold t1;split<;>omega
theorem ahn{m:ab}(h:Bf m):pq m<WB*WB:=GL (qx (s5 h.1)) (qx (s5 h.2.1))
theorem Yb{m:ab}(h:Bf m):r1 m<K1:=GL (GL (ahn h) (qx (s5 h.2.2.1))) (XR h)
theorem P2.bU{m:ab}(h:P2 m):m.bl<=1000:=by have:=h.range.2.2;have:=h.dC.1.2.1;omega
theorem ac1{m:ab}(h:P2 m):r2 m<K2:=by
 have h1:=h.range;have h2:=h.bU;refine GL (GL (GL (GL (A:=1001) ?_ ?_) (qx h.dC.1.sm)) (qx (s5 h.ok.2.2.1))) ?_
 ·omega
 ·omega
 ·have:=h.aQ.2.1;omega
theorem zg{m:ab}(h:m.aK=1):ku m=r1 m:=Qr h
theorem zf{m:ab}(h:m.aK=2):ku m=K1+r2 m:=by unfold ku;rw[Qs (by omega),Qr h]
theorem ZA{m:ab}(h:m.aK=3):ku m=K1+K2:=by unfold ku;rw[Qs (by omega),Qs (by omega)]
theorem WK{m:ab}(h:bp m):ku m<=K1+K2:=by
 rcases h.body with h0|h1|h2|h3
 ·rw[zg h0.aT];have:=Yb h0.ok;omega
 ·rw[zg h1.aT];have:=Yb h1.ok;omega
 ·rw[zf h2.aT];have:=ac1 h2;omega
 ·rw[ZA h3.aT];exact QI _
theorem wE.up_{p q b p' q':af}(h:tT p q)(hb:b=bZ\/di b)(hj:wE p q b p' q'):(p'=p/\q'=q)\/oM p*WB+oM q<oM p'*WB+oM q':=by
 have hok:=hj.ok h hb;have hp:=s5 h.1;have hq:Sm q:=s5 (h.2.imp id (·.1))
 cases hj with
 |same=>exact .inl ⟨rfl,rfl⟩
 |first h1 h2=>
  subst h1 h2;rcases hb with e|e
  ·exact .inl ⟨e,rfl⟩
  ·exact .inr (lexLt (qx hq) (P6 e))
 |up h1 hl hc=>exact .inr (lexLt (qx hq) (vd hp (s5 hb) hl))
 |B8 h1 hl hc=>exact .inr (lexLt (qx hq) (vd hp (s5 hb) hl))
 |under h1 hl hc hq'=>
  rcases hq' with e|e
  ·subst e;rcases hb with e2|e2
   ·exact .inl ⟨rfl,e2⟩
   ·exact .inr (Bh rfl (P6 e2))
  ·exact .inr (Bh rfl (vd hq (s5 hb) e))
theorem AJ{m m':ab}(he:ir m m')(h1:m'.aK=m.aK)(h2:m'.aa=m.aa)(h3:m'.ao=m.ao)(h4:m'.az=m.az)(h5:m'.ax=m.ax)(h6:m'.aS=m.aS)(h7:m'.bl=m.bl):m'=m:=by
 obtain⟨e1,e2,e3,e4,e5,e6⟩:=he;cases m;cases m';simp only at*;subst e1 e2 e3 e4 e5 e6 h1 h2 h3 h4 h5 h6 h7;rfl
theorem TJ{m m':ab}(he:ir m m')(h:Bc m m'=true):m'=m:=by
 unfold Bc at h;simp only[Qm,Qi,Rw]at h;obtain⟨⟨⟨⟨⟨⟨h1,h2⟩,h3⟩,h4⟩,h5⟩,h6⟩,h7⟩:=h;exact AJ he h1.symm h2.symm h3.symm h4.symm h5.symm h6.symm h7.symm
theorem vY(m:ab):Bc m m=true:=by
 unfold Bc;simp only[decide_true,Rw.2 rfl,Bool.and_self]
theorem ahm{m m':ab}(h:Bf m)(hlt:pq m<pq m'):r1 m<r1 m':=lexLt (XR h) (lexLt (qx (s5 h.2.2.1)) hlt)
theorem aiL{m m':ab}(h:Bf m)(hpq:pq m=pq m')(hlt:oM m.ax<oM m'.ax):r1 m<r1 m':=lexLt (XR h) (Bh hpq hlt)
theorem aiK{m m':ab}(hpq:pq m=pq m')(hc:m.ax=m'.ax)(hlt:t1 m<t1 m'):r1 m<r1 m':=Bh (by rw[hpq,hc]) hlt
theorem Ns{m:ab}(h1:P1 m):sq m m.ao m.az=m.aS:=by
 unfold sq;split
 ·rename_i hc;rcases h1.low with e|⟨g1,g2,g3⟩
  ·exact absurd e hc.2
  ·rw[aad g1 g3,Qs (by omega)]
 ·rfl
theorem aiy{m:ab}(h:bp m):cU m=m\/ku m<ku (cU m):=by
 have hid:m.aK=3\/aF m.aa=true->cU m=m:=fun hc=>Qr hc
 rcases h.body with h0|h1|h2|h3
 ·exact .inl (hid (.inr (by rw[h0.aQ];exact bP)))
 ·have hj:=(JY h h1.ic).up_ h1.ic (zS h);have he:cU m={m with ao:=(c9 m.ao m.az (dM (eL m))).1,az:=(c9 m.ao m.az (dM (eL m))).2,aS:=sq m (c9 m.ao m.az (dM (eL m))).1 (c9 m.ao m.az (dM (eL m))).2}:=Qs (by rw[h1.aT,h1.aQ.nz];decide)
  rcases hj with⟨e1,e2⟩|hlt
  ·left;rw[he,e1,e2,Ns h1]
  ·right;rw[zg h1.aT,zg (by rw[he];exact h1.aT)]
   exact ahm h1.ok (by rw[he];exact hlt)
 ·have hj:=(JY h h2.ic).up_ h2.ic (zS h);have hk:=WU h h2;have he:cU m={m with ao:=(c9 m.ao m.az (dM (eL m))).1,az:=(c9 m.ao m.az (dM (eL m))).2,aS:=sq m (c9 m.ao m.az (dM (eL m))).1 (c9 m.ao m.az (dM (eL m))).2}:=Qs (by rw[h2.aT,h2.aQ.nz];decide)
  have hlow:∀p q,sq m p q=m.aS:=fun p q=>Qs (fun h=>by have:=h.1;rw[h2.aT]at this;cases this)
  rcases hj with⟨e1,e2⟩|hlt
  ·left;rw[he,e1,e2,hlow]
  ·right;rw[zf h2.aT,zf (by rw[he];exact h2.aT)]
   have e2:(c9 m.ao m.az (dM (eL m))).2=m.az:=by
    have h3:=hk.2.2;rw[he]at h3;exact h3.trans h2.bV.symm
   have hp:oM m.ao<oM (cU m).ao:=by
    rw[he];simp only;rw[e2]at hlt;refine Nat.lt_of_not_le fun hle=> ?_
    have:=Qq63 WB hle;omega
   have e3:(cU m).bl=m.bl/\(cU m).aS=m.aS/\(cU m).ax=m.ax/\(cU m).aa=m.aa:=by rw[he];exact⟨rfl,hlow _ _,rfl,rfl⟩
   have:r2 m<r2 (cU m):=by
    unfold r2;rw[e3.1,e3.2.1,e3.2.2.1,e3.2.2.2];exact lexLt (by have:=h2.aQ.2.1;omega) (lexLt (qx (s5 h2.ok.2.2.1)) (Bh rfl hp))
   omega
 ·exact .inl (hid (.inl h3.aT))
theorem aix{m:ab}(h:bp m):fY m=m\/ku m<ku (fY m):=by
 rcases h.body with h0|h1|h2|h3
 ·exact .inl (uW (.inr (.inl (by rw[h0.aQ];exact bP))))
 ·obtain⟨g1,g2⟩:=Pn h h1;rcases g2 with e|⟨e1,e2,e3,_⟩
  ·exact .inl e
  ·right;rw[zg h1.aT,zg g1.aT];exact aiL h1.ok (by unfold pq;rw[e1,e2]) (vd (s5 h1.ok.2.2.1) (s5 g1.ok.2.2.1) e3)
 ·exact .inl (uW (.inl (by rw[h2.aT];decide)))
 ·exact .inl (uW (.inl (by rw[h3.aT];decide)))
theorem NI(a b:Int):(bC a b=a/\b<=a)\/(bC a b=b/\a<b):=by unfold bC;split<;>omega
theorem oO{a b:af}(h1:a.ak=b.ak)(h2:a.Value=b.Value):a=b:=by cases a;cases b;simp only at h1 h2;rw[h1,h2]
theorem aiB{m:ab}(h:bp m):fG m=m\/ku m<ku (fG m):=by
 have hC:m.aK=1->Bf m->fG m=m\/ku m<ku (fG m):=by
  intro hp hok
  by_cases hk:(fB m).2.2.2.1=true
  ·right;have e:fG m=Jn m (fB m).1 (fB m).2.1 (fB m).2.2.1:=by unfold fG;rw[Qr hp,Qr hk]
   rw[zg hp,zf (by rw[e];rfl)]
   have:=Yb hok;omega
  ·left;unfold fG;rw[Qr hp,Qs hk]
 rcases h.body with h0|h1|h2|h3
 ·exact hC h0.aT h0.ok
 ·exact hC h1.aT h1.ok
 ·have e:fG m=Ar m (eI m).1 (eI m).2:=by unfold fG;rw[Qs (by rw[h2.aT];decide),Qr h2.aT]
  obtain⟨g1,g2,g3,g4⟩:=U7 h h2;have h2':=YI h2 g1 g2 g3;rw[e]
  have hr:m.bl.toNat<=1000/\(1000 - m.aS).toNat<1001/\m.aa.ak.toNat<1001:=by
   have:=h2.bU;have:=h2.range;have:=h2.aQ.2.1;omega
  have hcB:m.ax=(Ar m (eI m).1 (eI m).2).ax\/oM m.ax<oM (Ar m (eI m).1 (eI m).2).ax:=by
   rcases h2.ed with e|⟨hf,hv⟩
   ·right;rw[e]
    exact P6 (h2'.ed.resolve_left (fun e=>by
     have h1:=h2'.range;have h3:(Ar m (eI m).1 (eI m).2).ax.ak=bC m.ax.ak (eI m).2:=rfl;rw[e]at h3;have h4:=NI m.ax.ak (eI m).2;have h5:(bZ:af).ak=0:=rfl
     omega)).1
   ·rcases NI m.ax.ak (eI m).2 with⟨e1,_⟩|⟨e1,e2⟩
    ·exact .inl (oO e1.symm hv)
    ·right;refine vd hf.sm (s5 h2'.ok.2.2.1) ((yK _ _).2 (.inl ?_));show m.ax.ak<bC m.ax.ak (eI m).2;omega
  have hpB:m.ao=(Ar m (eI m).1 (eI m).2).ao\/oM m.ao<oM (Ar m (eI m).1 (eI m).2).ao:=by
   rcases NI m.ao.ak (eI m).2 with⟨e1,_⟩|⟨e1,e2⟩
   ·exact .inl (oO e1.symm rfl)
   ·right;refine vd h2.dC.1.sm h2'.dC.1.sm ((yK _ _).2 (.inl ?_));show m.ao.ak<bC m.ao.ak (eI m).2;omega
  have hbB:m.aa=(Ar m (eI m).1 (eI m).2).aa\/m.aa.ak<(Ar m (eI m).1 (eI m).2).aa.ak:=by
   rcases NI m.aa.ak (eI m).2 with⟨e1,_⟩|⟨e1,e2⟩
   ·exact .inl (oO e1.symm rfl)
   ·right;show m.aa.ak<bC m.aa.ak (eI m).2;omega
  rw[zf h2.aT,zf h2'.aT];have hPs:=qx h2.dC.1.sm;have hCs:=qx (s5 h2.ok.2.2.1);have hHi:(Ar m (eI m).1 (eI m).2).bl=(eI m).2:=rfl;have hLo:(Ar m (eI m).1 (eI m).2).aS=(eI m).1:=rfl;have fin:r2 m<r2 (Ar m (eI m).1 (eI m).2)->K1+r2 m<K1+r2 (Ar m (eI m).1 (eI m).2):=fun h=>by omega
  have hrng:=h2.range;rcases g4 with⟨e1,e2⟩|e1
  ·rcases Int.lt_or_eq_of_le e2 with e3|e3
   ·
    refine .inr (fin (lexLt hr.2.2 (lexLt hCs (lexLt hPs (Bh ?_ ?_)))))
    ·rw[hHi,e1]
    ·rw[hLo];omega
   ·rcases hpB with hp|hp
    ·rcases hcB with hc|hc
     ·rcases hbB with hb|hb
      ·left;exact AJ ⟨rfl,rfl,rfl,rfl,rfl,rfl⟩ rfl hb.symm hp.symm rfl hc.symm e3 e1
      ·refine .inr (fin (Bh ?_ (by have:=h2.aQ.1;omega)))
       rw[hHi,hLo,<-hp,<-hc,e1,e3]
     ·refine .inr (fin (lexLt hr.2.2 (Bh ?_ hc)));rw[hHi,hLo,<-hp,e1,e3]
    ·refine .inr (fin (lexLt hr.2.2 (lexLt hCs (Bh ?_ hp))));rw[hHi,hLo,e1,e3]
  ·refine .inr (fin (lexLt hr.2.2 (lexLt hCs (lexLt hPs (lexLt hr.2.1 ?_)))));rw[hHi];omega
 ·left;unfold fG;rw[Qs (by rw[h3.aT];decide),Qs (by rw[h3.aT];decide)]
theorem aiA{m:ab}(h:bp m):iF m=m\/ku m<ku (iF m):=by
 by_cases hc:m.aK=2/\(nq m).2.2.1=true
 ·right;have e:iF m=Kc m (nq m).1 (nq m).2.1:=Qr hc;rw[zf hc.1,ZA (by rw[e];rfl)]
  rcases h.body with h0|h1|h2|h3
  ·have:=h0.aT;have:=hc.1;omega
  ·have:=h1.aT;have:=hc.1;omega
  ·have:=ac1 h2;omega
  ·have:=h3.aT;have:=hc.1;omega
 ·exact .inl (Qs hc)
theorem aiz{m:ab}(h:bp m):fq m=m\/ku m<ku (fq m):=by
 have hid:m.aK=3\/iY m m.aa.ak=false->fq m=m:=fun hc=>Qr hc
 cases ha:iY m m.aa.ak with
 |false=>exact .inl (hid (.inr ha))
 |true=>
  have hC:m.aK=1->Bf m->0<=m.aa.ak/\m.aa.ak<=1000->fq m=m\/ku m<ku (fq m):=by
   intro hp hok hb;obtain⟨c1,c2,c3,c4,_⟩:=Jp h hb;have e:fq m={m with aS:=if ob m=m.aa.Value then m.aS else 0,aa:=⟨bC m.aa.ak (de (hY m) 1000),ob m⟩}:=Qs (by rw[hp,ha];decide)
   have hnv:ob (fq m)=ob m:=by
    unfold ob dO;rw[e];simp only[hp,Qt,not_true_eq_false,Qu,ne_eq]
   by_cases hs:bC m.aa.ak (de (hY m) 1000)=m.aa.ak/\ob m=m.aa.Value
   ·left;rw[e];refine AJ ⟨rfl,rfl,rfl,rfl,rfl,rfl⟩ rfl (oO hs.1 hs.2) rfl rfl rfl ?_ rfl;exact Qr hs.2
   ·right;rw[zg hp,zg (by rw[e];exact hp)]
    refine aiK (by rw[e];rfl) (by rw[e]) ?_
    unfold t1;rw[hnv];have hb':(fq m).aa=⟨bC m.aa.ak (de (hY m) 1000),ob m⟩:=by rw[e]
    rw[hb',Qr rfl];simp only
    by_cases hv:ob m=m.aa.Value
    ·rw[Qr hv.symm];have:bC m.aa.ak (de (hY m) 1000)≠m.aa.ak:=fun e=>hs ⟨e,hv⟩
     omega
    ·rw[Qs (fun e=>hv e.symm)]
     omega
  rcases h.body with h0|h1|h2|h3
  ·exact hC h0.aT h0.ok (by rw[h0.aQ];decide)
  ·exact hC h1.aT h1.ok ⟨by have:=h1.aQ.1;omega,h1.aQ.2.1⟩
  ·obtain⟨c1,c2,c3,c4,_⟩:=Jp h ⟨by have:=h2.aQ.1;omega,h2.aQ.2.1⟩
   have hnv:ob m=m.aa.Value:=Qs (by rw[h2.aT];decide)
   have e:fq m={m with aa:=⟨bC m.aa.ak (de (hY m) 1000),m.aa.Value⟩}:=by
    unfold fq;rw[Qs (by rw[h2.aT,ha];decide),hnv,Qr rfl]
   rw[e]
   by_cases hs:bC m.aa.ak (de (hY m) 1000)=m.aa.ak
   ·left;exact AJ ⟨rfl,rfl,rfl,rfl,rfl,rfl⟩ rfl (oO hs rfl) rfl rfl rfl rfl rfl
   ·right;rw[zf h2.aT,zf (show({m with aa:=⟨bC m.aa.ak (de (hY m) 1000),m.aa.Value⟩}:ab).aK=2 from h2.aT)]
    have:r2 m<r2 {m with aa:=⟨bC m.aa.ak (de (hY m) 1000),m.aa.Value⟩}:=by
     refine Bh rfl ?_;have:=h2.aQ.1;show m.aa.ak.toNat<(bC m.aa.ak (de (hY m) 1000)).toNat;omega
    omega
  ·exact .inl (hid (.inl h3.aT))
end
section
def ah1(p:ai->Bool):Prop:=∀e s,p {e with aE:=s}=p e
structure Alike (l l':List ai):Prop where
 view:∀aB,aB<10->∀t,gD aB t l=gD aB t l'
 WA:∀p,ah1 p->dL p (bW l)=dL p (bW l')
 bal:eX l=eX l'
 val:gr l=gr l'
 jN:∀v,br l v=br l' v
section
variable {l l' : List ai} (h : Alike l l')
 include h
theorem Alike.acc{aB:Nat}(hn:aB<10)(t:ae):lE aB t l=lE aB t l':=by
 funext b
 unfold lE;rw[h.view aB hn t,h.WA _ (fun e s=>rfl),h.WA _ (fun e s=>rfl)]
theorem Alike.ed{aB:Nat}(hn:aB<10)(t:ae):kv aB t l=kv aB t l':=by
 funext b
 unfold kv;rw[h.view aB hn t,h.WA _ (fun e s=>rfl)]
theorem Alike.ready{aB:Nat}(hn:aB<10)(t:ae):mi aB t l=mi aB t l':=by
 funext v lo hi
 unfold mi;rw[h.view aB hn t,h.WA _ (fun e s=>rfl),h.WA _ (fun e s=>rfl)]
theorem Alike.sure{aB:Nat}(hn:aB<10)(t:ae):tq aB t l=tq aB t l':=by
 funext v lo hi
 unfold tq;rw[h.view aB hn t,h.WA _ (fun e s=>rfl)]
theorem Alike.next{aB:Nat}(hn:aB<10)(t:ae)(p q:af)(v:ByteArray):jC aB t l p q v=jC aB t l' p q v:=by
 unfold jC;rw[h.bal,h.acc hn t]
theorem Alike.bU{aB:Nat}(hn:aB<10)(t:ae)(a:af):xM aB t l a=xM aB t l' a:=by
 unfold xM;rw[h.bal,h.ed hn t]
theorem Alike.AY(x:ByteArray->Int->Int->Bool)(p q:af):gV x l p q=gV x l' p q:=by
 unfold gV;rw[h.val];congr 1
 funext s v
 rw[h.jN]
theorem Alike.first(x:ByteArray->Int->Int->Bool)(p q:af)(s:Bool×af):pL x l p q s=pL x l' p q s:=by
 unfold pL;rw[h.jN]
end
theorem OW{l l':List ai}(hl:rS l)(hn:l.length<=1000)(hl':rS l')(hn':l'.length<=1000)
  (h1:∀x,(∃e∈l,x∈said e/\aF x=false)↔∃e∈l',x∈said e/\aF x=false) (h2:∀x,(∃e∈l,aU e=true/\x=e.aa.Value)↔∃e∈l',aU e=true/\x=e.aa.Value)
  (h3:∀v x,x∈ends v l↔x∈ends v l'):eX l=eX l'/\gr l=gr l'/\∀v,br l v=br l' v:=by
 obtain⟨_,a2,_,a4⟩:=nc hl.aL hn;obtain⟨_,b2,_,b4⟩:=nc hl'.aL hn';obtain⟨_,c2,_,c4⟩:=s4 hl.aL hn;obtain⟨_,d2,_,d4⟩:=s4 hl'.aL hn';refine⟨Bb.flip.unique a2 b2 fun x=> ?_,iu.unique c2 d2 fun x=> ?_,fun v=> ?_⟩
 ·rw[a4,b4];exact h1 x
 ·rw[c4,d4];exact h2 x
 ·obtain⟨_,e2,_,e4⟩:=iX hl.aL hn v;obtain⟨_,f2,_,f4⟩:=iX hl'.aL hn' v;refine CU.unique (e2.imp fun h=>Qg h) (f2.imp fun h=>Qg h) fun x=> ?_
  rw[e4,f4];exact h3 v x
theorem Y6{l l':List ai}(hl:rS l)(hn:l.length<=1000)(ha:Bv l)(h:l.Perm l'):Alike l l':=by
 have hl':rS l':=⟨by rw[<-h.length_eq];exact hl.len,fun e he=>hl.aL e (h.mem_iff.2 he)⟩
 have hm:∀(P:ai->Prop),(∃e∈l,P e)↔∃e∈l',P e:=fun P=>⟨fun⟨e,he,hp⟩=>⟨e,h.mem_iff.1 he,hp⟩,fun⟨e,he,hp⟩=>⟨e,h.mem_iff.2 he,hp⟩⟩
 obtain⟨a,b,c⟩:=OW hl hn hl' (by rw[<-h.length_eq];exact hn) (fun x=>hm _) (fun x=>hm _) (fun v x=>by rw[AI,AI];exact hm _)
 exact⟨fun aB hn t=>XM hn t ha h,fun p _=>Zk (V6 h) p,a,b,c⟩
theorem aaV{l:List ai}(hl:rS l)(hn:l.length<=1000)(f:ai->ai)(hf:∀e∈l,f e={e with aE:=(f e).aE}/\aU (f e)=aU e):Alike l (l.map f):=by
 have e1:∀e∈l,(f e).an=e.an/\(f e).aj=e.aj/\(f e).aa=e.aa/\(f e).bF=e.bF/\(f e).ao=e.ao/\(f e).az=e.az/\(f e).aS=e.aS/\(f e).bl=e.bl:=fun e he=>by
  have:=(hf e he).1;rw[this];exact⟨rfl,rfl,rfl,rfl,rfl,rfl,rfl,rfl⟩
 have hl':rS (l.map f):=⟨by rw[QC];exact hl.len,fun e he=>by
  obtain⟨x,hx,rfl⟩:=QP.1 he
  rw[(e1 x hx).2.1];exact hl.aL x hx⟩
 have hm:∀(P:ai->Prop),(∀e∈l,P e↔P (f e))->((∃e∈l,P e)↔∃e∈l.map f,P e):=fun P hP=>⟨fun⟨e,he,hp⟩=>⟨f e,QP.2 ⟨e,he,rfl⟩,(hP e he).1 hp⟩,fun⟨e,he,hp⟩=>by
  obtain⟨x,hx,rfl⟩:=QP.1 he
  exact⟨x,hx,(hP x hx).2 hp⟩⟩
 have hsaid:∀e∈l,said (f e)=said e:=fun e he=>by
  obtain⟨g1,g2,g3,g4,g5,g6,g7,g8⟩:=e1 e he;unfold said at_
  rw[(hf e he).2,g4,g3,g5,g6]
 have hbnd:∀v,∀e∈l,iP v (f e)=iP v e:=fun v e he=>by
  obtain⟨g1,g2,g3,g4,g5,g6,g7,g8⟩:=e1 e he;unfold iP;simp only[(hf e he).2,g3,g7]
 obtain⟨a,b,c⟩:=OW hl hn hl' (by rw[QC];exact hn) (fun x=>hm _ fun e he=>by rw[hsaid e he]) (fun x=>hm _ fun e he=>by rw[(hf e he).2,(e1 e he).2.2.1])
  (fun v x=>by rw[AI,AI];exact hm _ fun e he=>by rw[hbnd v e he,(e1 e he).2.2.2.2.2.2.1,(e1 e he).2.2.2.2.2.2.2])
 refine⟨fun aB hn t=> ?_,fun p hp=> ?_,a,b,c⟩
 ·unfold gD;generalize (List.replicate 10 gJ).set aB ⟨true,t⟩=ms
  suffices key:∀(k:List ai) (ms:List aR),(∀e∈k,e∈l)->k.foldl dG ms=(k.map f).foldl dG ms from key l ms fun e he=>he
  intro k
  induction k with
  |nil=>intro ms _;rfl
  |cons x k ih=>
   intro ms hk;have hx:=hk x Qx
   have:dG ms (f x)=dG ms x:=by
    unfold dG;rw[(hf x hx).2,(e1 x hx).1,(e1 x hx).2.1]
   rw[QD,QU,QU,this];exact ih _ fun e he=>hk e (Qy _ he)
 ·unfold bW
  suffices key:∀(k:List ai),(∀e∈k,e∈l)->dL p (k.filter aU)=dL p ((k.map f).filter aU)from key l fun e he=>he
  intro k
  induction k with
  |nil=>intro _;rfl
  |cons x k ih=>
   intro hk;have hx:=hk x Qx
   have hpx:p (f x)=p x:=by
    rw[(hf x hx).1];exact hp x _
   rw[QD,List.filter_cons,List.filter_cons,(hf x hx).2];split
   ·rw[dL,dL,hpx,(e1 x hx).1,ih fun e he=>hk e (Qy _ he)]
   ·exact ih fun e he=>hk e (Qy _ he)
structure fQ (m:ab):Prop where
 zero:aF m.aa=true->m.aE=0
 pos:aF m.aa=false->1<=m.aE
def IK(m:ab):ai:=⟨m.an,m.aY,m.aE,m.aj,m.aK,m.aa,m.ao,m.az,m.aS,if m.aK=1 then ft m else m.bl⟩
theorem BB(m:ab):dV m=some (IK m):=by
 unfold dV IK ft;simp only[aN,etas,cz,fS,Qa]
 by_cases h1:m.aK=1
 ·rw[Qg h1,Qr h1];cases aF m.ax<;>cases bM m.ax m.aa<;>rfl
 ·rw[Qh h1,Qs h1];rfl
theorem FA{m:ab}(h:bp m):IK m=cD m:=by
 unfold IK cD;rcases h.body with h0|h1|h2|h3
 ·rw[Qr h0.aT,Qr h0.aT]
 ·rw[Qr h1.aT,Qr h1.aT]
 ·rw[Qs (by rw[h2.aT];decide),Qs (by rw[h2.aT];decide),Qr h2.aT,h2.bV]
 ·rw[Qs (by rw[h3.aT];decide),Qs (by rw[h3.aT];decide),Qs (by rw[h3.aT];decide),h3.bV,h3.dC]
theorem W9{m:ab}(hs:fQ m)(hz:aF m.aa=false):jh m=cD m:=by
 unfold jh
 have:bC (cD m).aE 1=(cD m).aE:=by
  have:=hs.pos hz;rw[U9];unfold bC;split<;>omega
 rw[this]
def we(m:ab):List ai:=if aF m.aa=true then m.aq else m.aq++[IK m]
theorem aaL{l:List ai}(hl:l.length<=1000):fh l=some l:=by
 unfold fh;have h1:bc 176 (List.length ([]:List ai)+List.length l)=true:=bn (by simp;omega)
 rw[h1]
 cases l with
 |nil=>simp
 |cons x l=>rfl
theorem IE{m:ab}(h:m.aq.length<=100):dv ⟨m⟩=some (we m,⟨m⟩):=by
 unfold dv we;simp only[etas,cz,BB,Qa,aaL (show m.aq.length<=1000 by omega)]
 cases aF m.aa with
 |true=>rfl
 |false=>
  simp only[Ql,Qq,Qu];rw[bn (by simp;omega)]
  rfl
theorem bp.apart{m:ab}(h:bp m):Bv (bg m):=by
 have hs:∀a∈m.aq,∀b∈m.aq,a.an=b.an->a=b:=by
  have:=h.eZ;revert this;generalize m.aq=l;intro hp
  induction l with
  |nil=>intro a ha;cases ha
  |cons x l ih=>
   rw[Q4]at hp;intro a ha b hb e;rcases QA.1 ha with ha'|ha'<;>rcases QA.1 hb with hb'|hb'
   ·rw[ha',hb']
   ·have:=hp.1 b hb';rw[ha']at e;omega
   ·have:=hp.1 a ha';rw[hb']at e;omega
   ·exact ih hp.2 a ha' b hb' e
 intro a ha b hb e;rcases A7 ha with ha|⟨_,rfl⟩<;>rcases A7 hb with hb|⟨_,rfl⟩
 ·exact hs a ha b hb e
 ·exact absurd (e.trans (vq m)) (h.hv a ha).2.2.2
 ·exact absurd (e.symm.trans (vq m)) (h.hv b hb).2.2.2
 ·rfl
theorem RO{m:ab}(h:bp m)(hs:fQ m):(bg m).Perm (we m):=by
 unfold bg we;split
 ·exact .refl _
 ·rename_i hz;rw[FA h,<-W9 hs (by simpa using hz)]
  exact Eu _ _
theorem mY{m:ab}(h:bp m)(hs:fQ m):Alike (bg m) (we m):=Y6 h.ev.my.1 h.ev.my.2 h.apart (RO h hs)
theorem s8{m:ab}(h:bp m)(hs:fQ m):rS (we m)/\(we m).length<=1000:=by
 have hp:=RO h hs;have:=h.ev.my;exact⟨⟨by rw[<-hp.length_eq];exact this.1.len,fun e he=>this.1.aL e (hp.mem_iff.2 he)⟩,by rw[<-hp.length_eq];exact this.2⟩
section
variable {m : ab} (h : bp m) (hs : fQ m)
 include h hs
theorem af0(p q:af)(v:ByteArray):po m.an m.aj (we m) p q v=some (jC m.an.toNat m.aj (bg m) p q v):=by
 have:=aec h.ev.aB.2 h.ev.aL (s8 h hs).1 (s8 h hs).2 p q v
 rwa [h.ev.aB.1,<-(mY h hs).next h.ev.aB.2]at this
theorem af3(a:af):l9 m.an m.aj (we m) a=some (xM m.an.toNat m.aj (bg m) a):=by
 have:=aef h.ev.aB.2 h.ev.aL (s8 h hs).1 (s8 h hs).2 a
 rwa [h.ev.aB.1,<-(mY h hs).bU h.ev.aB.2]at this
theorem aeh:sO m.an m.aj (we m) m.ao m.az=some (fB m):=by
 have hl:=s8 h hs;have:=agY (TT h.ev.aB.2 h.ev.aL hl.1) hl.1 hl.2 (look_eq h.ev.aB.2 h.ev.aL hl.1) m.ao m.az;rw[h.ev.aB.1,<-(mY h hs).ready h.ev.aB.2,<-(mY h hs).AY,<-(mY h hs).first]at this
 exact this
theorem ahs:rB m.an m.aj (we m) m.aa.Value m.aS m.bl=some ((eI m).1,(eI m).2,()):=by
 have hl:=s8 h hs;have:=afs (TT h.ev.aB.2 h.ev.aL hl.1) hl.1 hl.2 (look_eq h.ev.aB.2 h.ev.aL hl.1) m.aa.Value m.aS m.bl;rw[h.ev.aB.1,<-(mY h hs).ready h.ev.aB.2,<-(mY h hs).jN]at this;exact this
theorem ahr:sP m.an m.aj (we m) m.aa.Value=some (nq m):=by
 have hl:=s8 h hs;have:=agZ (adz h.ev.aB.2 h.ev.aL hl.1) hl.1 hl.2 (look_eq h.ev.aB.2 h.ev.aL hl.1) m.aa.Value;rw[h.ev.aB.1,<-(mY h hs).sure h.ev.aB.2,<-(mY h hs).jN]at this;exact this
end
theorem RF(v:ByteArray)(n:Int)(p q:af):pZ v n p q=some (lA v n p q):=by
 unfold pZ lA;generalize bC n 1=k
 have hst:∀(i:Nat) (x:af) (k:Int),i<2->[p,q][i]?=some x->
   (fun(v1:Int×Int×Unit)=>
    bif (decide (v1.2.1<((List.length [p,q]:Nat):Int)))then
    aX (fun(v2:Int×Unit)=>some (Sum.inl (v2.1,(aA .i64 v1.2.1 (1:Int)),()))) fun j3=>
    Option.bind (idx [p,q] v1.2.1) fun x4=>
    Option.bind (gZ x4) fun r5=>
    Option.bind (bif (!r5)then some true else Option.bind (eE x4 (af.mk v1.1 v)) fun r6=>some (!r6)) fun b7=>
    bif b7 then j3 (v1.1,())
    else Option.bind (eE x4 (af.mk x4.ak v)) fun r8=>
     bif r8 then j3 ((aA .i64 x4.ak (1:Int)),())else j3 (x4.ak,())
    else(Option.map Sum.inr (some v1.1):Option ((Int×Int×Unit)⊕Int))) (k,(i:Int),())=some (Sum.inl (xF v k x,((i+1:Nat):Int),())):=by
  intro i x k hi hx;have hd:decide ((i:Int)<((List.length [p,q]:Nat):Int))=true:=Qg (by simp;omega)
  have hw:aA .i64 (i:Int) 1=((i+1:Nat):Int):=bD (by omega) (by omega)
  have hx':idx [p,q] (i:Int)=some x:=by rw[bd];exact hx
  simp only[hd,hw,hx',Qk,aN,Qa,vQ,ux];unfold xF
  cases hv:cO x with
  |false=>simp
  |true=>
   have hc:aA .i64 x.ak 1=x.ak+1:=by
    have:1<=x.ak/\x.ak<=1000000:=by
     simp only[cO,Qm,Qn,Qi]at hv;omega
    exact bD (by omega) (by omega)
   cases h1:eN x ⟨k,v⟩with
   |false=>simp
   |true=>cases h2:eN x ⟨x.ak,v⟩<;>simp[hc]
 refine(bh (hst 0 p k (by omega) rfl)).trans ((bh (hst 1 q _ (by omega) rfl)).trans (bx ?_))
 rfl
theorem abX(b:af):(⟨de b.ak 1000,b.Value⟩:af)=dM b:=by
 unfold de dM;split<;>rfl
section
variable {m : ab} (h : bp m) (hs : fQ m)
 include h
theorem Yl(hz:aF (eL m)=true):cU m=m:=by
 have hid:m.aK=3\/aF m.aa=true->cU m=m:=fun hc=>Qr hc
 have hj:c9 m.ao m.az (dM (eL m))=(m.ao,m.az):=by
  have:dM (eL m)=bZ:=by rw[yE.1 hz];decide
  rw[this];exact Qr bP
 have he:¬(m.aK=3\/aF m.aa=true)->sq m m.ao m.az=m.aS->cU m=m:=by
  intro hc hl;unfold cU;rw[Qs hc,hj];simp only;rw[hl]
 rcases h.body with h0|h1|h2|h3
 ·exact hid (.inr (by rw[h0.aQ];exact bP))
 ·exact he (by rw[h1.aT,h1.aQ.nz];decide) (Ns h1)
 ·exact he (by rw[h2.aT,h2.aQ.nz];decide) (Qs (fun h=>by have:=h.1;rw[h2.aT]at this;cases this))
 ·exact hid (.inl h3.aT)
 include hs
theorem Yj:lv ⟨m⟩=some ((),⟨cU m⟩):=by
 have hl:m.aq.length<=100:=by have:=h.len;omega
 unfold lv;simp only[etas,cz,IE hl,af0 h hs,ad1,RF,BB,Qa,aN,abX]
 by_cases h3:m.aK=3\/aF m.aa=true
 ·have e:cU m=m:=Qr h3;rw[e];rcases h3 with h3|h3
  ·rw[Qg h3];cases aF m.aa<;>rfl
  ·rw[h3];rfl
 ·have hz:aF m.aa=false:=by
   cases hz:aF m.aa with
   |true=>exact absurd (.inr hz) h3
   |false=>rfl
  have h3':¬m.aK=3:=fun e=>h3 (.inl e)
  rw[hz,Qh h3'];simp only[Ql,Qa]
  have hmain:∀v:ByteArray,v=D7 m->(bif aF (jC m.an.toNat m.aj (bg m) m.ao m.az v)then some ((),(⟨m⟩:aH))else
    Option.bind (bif decide (m.aK=1)then some (!decide (m.aS=0))else some false) fun b9=>
    bif b9 then
     bif decide ((IK ⟨m.an,m.aY,m.aE,m.aj,m.aK,m.aa,(c9 m.ao m.az (dM (jC m.an.toNat m.aj (bg m) m.ao m.az v))).1,(c9 m.ao m.az (dM (jC m.an.toNat m.aj (bg m) m.ao m.az v))).2,m.ax,lA m.aa.Value m.aS (c9 m.ao m.az (dM (jC m.an.toNat m.aj (bg m) m.ao m.az v))).1 (c9 m.ao m.az (dM (jC m.an.toNat m.aj (bg m) m.ao m.az v))).2,m.bl,m.bb,m.aq⟩).bl<lA m.aa.Value m.aS (c9 m.ao m.az (dM (jC m.an.toNat m.aj (bg m) m.ao m.az v))).1 (c9 m.ao m.az (dM (jC m.an.toNat m.aj (bg m) m.ao m.az v))).2)then
      some ((),(⟨⟨m.an,m.aY,m.aE,m.aj,m.aK,m.aa,(c9 m.ao m.az (dM (jC m.an.toNat m.aj (bg m) m.ao m.az v))).1,(c9 m.ao m.az (dM (jC m.an.toNat m.aj (bg m) m.ao m.az v))).2,m.ax,0,m.bl,m.bb,m.aq⟩⟩:aH))
     else some ((),(⟨⟨m.an,m.aY,m.aE,m.aj,m.aK,m.aa,(c9 m.ao m.az (dM (jC m.an.toNat m.aj (bg m) m.ao m.az v))).1,(c9 m.ao m.az (dM (jC m.an.toNat m.aj (bg m) m.ao m.az v))).2,m.ax,lA m.aa.Value m.aS (c9 m.ao m.az (dM (jC m.an.toNat m.aj (bg m) m.ao m.az v))).1 (c9 m.ao m.az (dM (jC m.an.toNat m.aj (bg m) m.ao m.az v))).2,m.bl,m.bb,m.aq⟩⟩:aH))
    else some ((),(⟨⟨m.an,m.aY,m.aE,m.aj,m.aK,m.aa,(c9 m.ao m.az (dM (jC m.an.toNat m.aj (bg m) m.ao m.az v))).1,(c9 m.ao m.az (dM (jC m.an.toNat m.aj (bg m) m.ao m.az v))).2,m.ax,m.aS,m.bl,m.bb,m.aq⟩⟩:aH)))=some ((),(⟨cU m⟩:aH)):=by
   intro v hv;subst hv;rw[show jC m.an.toNat m.aj (bg m) m.ao m.az (D7 m)=eL m from rfl]
   cases hzn:aF (eL m)with
   |true=>rw[Yl h hzn];rfl
   |false=>
    simp only[Ql];have e:cU m={m with ao:=(c9 m.ao m.az (dM (eL m))).1,az:=(c9 m.ao m.az (dM (eL m))).2,aS:=sq m (c9 m.ao m.az (dM (eL m))).1 (c9 m.ao m.az (dM (eL m))).2}:=Qs h3
    rw[e];unfold sq
    by_cases hc:m.aK=1/\m.aS≠0
    ·rw[Qg hc.1,Qh hc.2,Qr hc];simp only[Qk,Qa,Qp];have hh:∀(p q:af) (L:Int),(IK {m with ao:=p,az:=q,aS:=L}).bl=ft m:=fun p q L=>by unfold IK;exact Qr hc.1
     rw[hh];split
     ·rename_i hlt;rw[Qg hlt];rfl
     ·rename_i hlt;rw[Qh hlt];rfl
    ·rw[Qs hc]
     by_cases h1:m.aK=1
     ·rw[Qg h1,Qg (show m.aS=0 from Classical.byContradiction fun hn=>hc ⟨h1,hn⟩)];rfl
     ·rw[Qh h1];rfl
  by_cases h2:m.aK=2
  ·rw[Qg h2];exact hmain _ (Qr h2).symm
  ·rw[Qh h2];exact hmain _ (Qs h2).symm
end
theorem Zt(m:ab)(b:af):lj ⟨m⟩ b=some ((),⟨{m with aS:=bif bM m.aa b then m.aS else 0,aa:=b}⟩):=by
 unfold lj;simp only[etas,fS,Qa,aN];cases bM m.aa b<;>rfl
theorem LN(m:ab)(b:af){α:Type}(j:ab->Option α):
  (bif decide (m.aS=(0:Int))then(bif bM m.aa b then(bif decide (lA b.Value m.aa.ak m.ao m.az<=b.ak)then j {m with aS:=lA b.Value m.aa.ak m.ao m.az}else j m)else j m)else(bif false then(bif decide (lA b.Value m.aa.ak m.ao m.az<=b.ak)then j {m with aS:=lA b.Value m.aa.ak m.ao m.az}else j m)else j m))=j (qa m b):=by
 unfold qa
 by_cases hL:m.aS=0
 ·rw[Qg hL]
  cases hc:bM m.aa b with
  |true=>
   by_cases hle:lA b.Value m.aa.ak m.ao m.az<=b.ak
   ·rw[Qr ⟨hL,rfl,hle⟩,Qg hle];rfl
   ·rw[Qs (fun h=>hle h.2.2),Qh hle];rfl
  |false=>
   rw[Qs (fun h=>by cases h.2.1)];rfl
 ·rw[Qh hL,Qs (fun h=>hL h.1)];rfl
section
variable {m : ab} (h : bp m) (hs : fQ m)
 include h hs
theorem afx:n3 ⟨m⟩=some ((),⟨fY m⟩):=by
 have hl:m.aq.length<=100:=by have:=h.len;omega
 unfold n3;simp only[etas,aH.eta,cz,IE hl,af3 h hs,RF,Zt,fS,jY,Qa,aN];have hb:xM m.an.toNat m.aj (bg m) m.ax=gA m:=rfl;simp only[hb];unfold fY
 cases hz:aF m.aa with
 |true=>rw[Qr (.inr (.inl rfl))];rfl
 |false=>
  by_cases h1:m.aK=1
  ·rw[Qg h1]
   cases hzb:aF (gA m)with
   |true=>rw[Qr (.inr (.inr rfl))];rfl
   |false=>
    rw[Qs (by simp[h1])]
    simp only[Qo,Ql,Qa];unfold BP
    cases hlt:bz m.aa (gA m)with
    |true=>
     simp only[Qk,Qt]
     cases hcp:bM m.aa (gA m)with
     |true=>exact LN {m with ax:=gA m,aa:=gA m} (gA m) (fun x=>some ((),(⟨x⟩:aH)))
     |false=>exact LN {m with ax:=gA m,aa:=gA m,aS:=0} (gA m) (fun x=>some ((),(⟨x⟩:aH)))
    |false=>
     simp only[Ql,Qq,Qu];exact LN {m with ax:=gA m} (gA m) (fun x=>some ((),(⟨x⟩:aH)))
  ·rw[Qh h1,Qr (.inl h1)];rfl
theorem aaI:lR ⟨m⟩=some ((),⟨fG m⟩):=by
 have hl:m.aq.length<=100:=by have:=h.len;omega
 unfold lR;simp only[etas,aH.eta,IE hl,aeh h hs,ahs h hs,fS,jY,Qa,aN];unfold fG
 by_cases h1:m.aK=1
 ·rw[Qg h1,Qr h1];simp only[Qk]
  cases hk:(fB m).2.2.2.1 with
  |false=>rfl
  |true=>
   have hf:=Ow h hk
   have hcov:jM m.ao ⟨(fB m).2.2.1,(fB m).1⟩= !(bz m.ao ⟨(fB m).2.2.1,(fB m).1⟩|| !bM m.ao ⟨(fB m).2.2.1,(fB m).1⟩):=by
    cases hc:bM m.ao ⟨(fB m).2.2.1,(fB m).1⟩with
    |false=>unfold jM;rw[hc];simp
    |true=>
     have hv:=jG.1 hc
     have hnz:aF m.ao=false:=by
      cases hz:aF m.ao with
      |false=>rfl
      |true=>rw[yE.1 hz]at hv;exact absurd hv.symm hf.fin.ne
     unfold jM;rw[hc,hnz,GM hv,Qo,Bool.or_false,Qp,Bool.and_self,Bool.true_and];rw[QW];simp only[Qi,Bool.not_eq_true',Qj];omega
   simp only[Qo,Ql,Qt];unfold Jn;rw[hcov];cases bM m.aa ⟨(fB m).2.2.1,(fB m).1⟩<;>cases bz m.aa ⟨(fB m).2.2.1,(fB m).1⟩<;>cases bz m.ao ⟨(fB m).2.2.1,(fB m).1⟩<;>cases bM m.ao ⟨(fB m).2.2.1,(fB m).1⟩<;>rfl
 ·rw[Qh h1,Qs h1]
  by_cases h2:m.aK=2
  ·rw[Qg h2,Qr h2];rcases h.body with k|k|k|k
   ·exact absurd k.aT h1
   ·exact absurd k.aT h1
   ·unfold Ar;rw[k.dC.2];rfl
   ·have:=k.aT;omega
  ·rw[Qh h2,Qs h2];rfl
theorem acb:mu ⟨m⟩=some ((),⟨iF m⟩):=by
 have hl:m.aq.length<=100:=by have:=h.len;omega
 unfold mu iF;simp only[etas,IE hl,ahr h hs,Qa]
 by_cases h2:m.aK=2
 ·rw[Qg h2]
  cases hk:(nq m).2.2.1 with
  |false=>rw[Qs (fun h=>by cases h.2)];rfl
  |true=>rw[Qr ⟨h2,rfl⟩];rfl
 ·rw[Qh h2,Qs (fun h=>h2 h.1)];rfl
end
theorem T5{m:ab}(h:vS m):iJ ⟨m⟩=some (dO m):=by
 have hl:m.aq.length<=1000:=by have:=h.len;omega
 unfold iJ dO;simp only[cz,Qa]
 cases hz:aF m.ax with
 |false=>rfl
 |true=>
  simp only[Qo,Ql,Bool.true_eq_false,Qu]
  by_cases h1:m.aK=1
  ·rw[Qg h1,Qs (fun h=>h h1)]
   simp only[Qo,Ql]
   by_cases hp:m.bb=fH
   ·have hp':decide (m.bb=ByteArray.mk #[])=true:=Qg hp;rw[hp',Qs (fun h=>h hp)]
    simp only[Qo,Ql]
    rw[Ex m.aq hl (·.aa) (fin:=fun s=>Option.bind (nJ s) fun r=>some r.Value) (fun i e s hs he hd hx hw=>by
     simp only[hd,hx,hw,Qk,Qa]
     rw[bn (by simp;omega),Qk]) (fun s hd=>by simp only[hd,Ql]),abI _ (by simp;omega)]
    rfl
   ·have hp':decide (m.bb=ByteArray.mk #[])=false:=Qh hp;rw[hp',Qr hp];rfl
  ·rw[Qh h1,Qr h1];rfl
theorem ad9(l:List ai)(hlen:l.length<=1000)(p:ai->Bool)(hp:∀e∈l,p e=true->0<=e.an/\e.an<10):ru l (l.map p)=some ((dL p l:Nat):Int):=by
 unfold ru
 suffices key:∀(k i s:Nat),i+k=l.length->s<1024->aC _ ((s:Int),(i:Int),())=some ((s|||dL p (l.drop i):Nat):Int)by
  have:=key l.length 0 0 (by omega) (by omega)
  rw[Nat.zero_or,List.drop_zero]at this;exact this
 intro k
 induction k with
 |zero=>
  intro i s hi hs;obtain rfl:i=l.length:=by omega
  have hd:decide (((l.length:Nat):Int)<((l.length:Nat):Int))=false:=Qh (Qq64 _);rw[bx (r:=(s:Int)) (by simp only[hd,Ql,Qe]),Qq66,dL]
  simp
 |succ k ih=>
  intro i s hi hs;have hlt:i<l.length:=by omega
  have hd:decide ((i:Int)<((l.length:Nat):Int))=true:=Qg (by omega)
  have hd2:decide ((i:Int)<(((l.map p).length:Nat):Int))=true:=Qg (by rw[QC];omega)
  have hw:aA .i64 (i:Int) 1=((i+1:Nat):Int):=bD (by omega) (by omega)
  have hx:idx l (i:Int)=some l[i]:=by rw[bd];exact Qv hlt
  have hx2:idx (l.map p) (i:Int)=some (p l[i]):=by rw[bd,QT,Qv hlt];rfl
  rw[QM hlt,dL]
  cases hpe:p l[i]with
  |false=>
   rw[bh (s':=((s:Int),((i+1:Nat):Int),())) (by simp only[hd,hd2,hx,hx2,hw,hpe,Qk,Ql,aN,Qa]),ih (i+1) s (by omega) hs]
   simp
  |true=>
   obtain⟨h0,h1⟩:=hp _ (Q0 hlt) hpe;have hn0:¬l[i].an<0:=by omega
   have d1:decide ((0:Int)<=l[i].an)=true:=Qg h0;have d2:decide (l[i].an<(10:Int))=true:=Qg (by omega)
   rw[bh (s':=(((s|||2 ^ l[i].an.toNat:Nat):Int),((i+1:Nat):Int),())) (by
    simp only[hd,hd2,hx,hx2,hw,hpe,Qk,aN,Qa,d1,d2,hn0,Qu]
    rw[nO hs h0 h1]),ih (i+1) _ (by omega) (Be hs h1)]
   simp[Nat.or_assoc]
theorem abK{m:ab}(h:vS m)(n:Int):nk ⟨m⟩ n=some ((DN m n:Nat):Int):=by
 have hl:m.aq.length<=1000:=by have:=h.len;omega
 unfold nk;have d1:decide (((m.aq.length:Nat):Int)=((m.aq.length:Nat):Int))=true:=Qg rfl;have d2:decide (0<=((m.aq.length:Nat):Int))=true:=Qg (Int.natCast_nonneg _);have d3:bc 1 m.aq.length=true:=bn (by omega)
 simp only[d2,d3,QV]
 rw[aav m.aq hl (fun e=>decide (n<eJ e)) (fin:=fun s=>Option.bind (ru m.aq s) fun r=>some r)
  (fun i e s hsl he hi hd hx hw=>by
   have h1:idx s (i:Int)=some s[i]:=by rw[bd];exact Qv (by omega)
   have h2:s[i]?=some s[i]:=Qv (by omega)
   simp only[hd,hx,hw,h1,h2,Qk,Qa,etas,Ud (h.sm e he) (h.valid e he),QV])
  (fun s hd=>by simp only[hd,Ql]) (by simp),ad9 m.aq hl _ (fun e he _=>h.PT e he)]
 rfl
section
variable {m : ab} (h : bp m) (hs : fQ m)
 include h hs
theorem aat(n:Int):ja n ⟨gD m.an.toNat m.aj (we m)⟩ ⟨m⟩=some (iY m n):=by
 unfold ja;simp only[etas,abK h.ev,Qa];have hb:=Sy (mI (aB:=m.an.toNat) h.ev.aL (s8 h hs).1) (v:=m.an.toNat) (Su h.ev n);rw[h.ev.aB.1]at hb;rw[hb,Qa];unfold iY;rw[(mY h hs).view _ h.ev.aB.2]
theorem ab4:mr ⟨m⟩=some ((),⟨fq m⟩):=by
 have hl:m.aq.length<=100:=by have:=h.len;omega
 have hv:=XG h.ev.aB.2 h.ev.aL (s8 h hs).1;rw[h.ev.aB.1]at hv;unfold mr fq;simp only[etas,aH.eta,cz,IE hl,hv,aat h hs,T5 h.ev,Zt,Qa,aN]
 by_cases h3:m.aK=3
 ·rw[Qg h3,Qr (.inl h3)];rfl
 ·rw[Qh h3]
  cases ha:iY m m.aa.ak with
  |false=>rw[Qr (.inr rfl)];rfl
  |true=>
   rw[Qs (by simp[h3])]
   simp only[Ql,Qo]
   have hbc:0<=m.aa.ak/\m.aa.ak<=1000:=by
    rcases h.body with k|k|k|k
    ·rw[k.aQ];decide
    ·exact⟨by have:=k.aQ.1;omega,k.aQ.2.1⟩
    ·exact⟨by have:=k.aQ.1;omega,k.aQ.2.1⟩
    ·exact absurd k.aT h3
   have hz1:aF m.aa=true->m.aK=1:=by
    intro hz;rcases h.body with k|k|k|k
    ·exact k.aT
    ·exact k.aT
    ·rw[k.aQ.nz]at hz;cases hz
    ·exact absurd k.aT h3
   refine(Vu h.ev (fin:=fun c=>some ((),(⟨{m with aS:=bif bM m.aa ⟨de c 1000,ob m⟩then m.aS else 0,aa:=⟨de c 1000,ob m⟩}⟩:aH))) (fun i e s he hd hx hw=> ?_) (fun s hd=> ?_)).trans ?_
   ·simp only[hd,hx,hw,Qk,Qa,Ud (h.ev.sm e he) (h.ev.valid e he)];unfold mN
    by_cases c1:m.aa.ak<eJ e
    ·by_cases c2:eJ e<s
     ·rw[Qg c1,Qg c2]
      cases c3:iY m (eJ e)with
      |true=>rw[Qs (by simp)];rfl
      |false=>rw[Qr ⟨c1,c2,rfl⟩];rfl
     ·rw[Qg c1,Qh c2,Qs (fun h=>c2 h.2.1)];rfl
    ·rw[Qh c1,Qs (fun h=>c1 h.1)];rfl
   ·simp only[hd,Ql,aN];unfold ob
    by_cases h1:m.aK=1
    ·rw[Qg h1,Qr h1];cases aF m.aa<;>rfl
    ·rw[Qh h1,Qs h1]
     cases hz:aF m.aa with
     |true=>exact absurd (hz1 hz) h1
     |false=>rfl
   ·have hm:=(Jp h hbc).2.2.2.2;rw[hm]
    have hcp:(bif bM m.aa ⟨de (hY m) 1000,ob m⟩then m.aS else 0)=(if ob m=m.aa.Value then m.aS else 0):=by
     by_cases e:ob m=m.aa.Value
     ·rw[Qr e,(jG (a:=m.aa) (b:=⟨de (hY m) 1000,ob m⟩)).2 e.symm];rfl
     ·rw[Qs e,(jz (a:=m.aa) (b:=⟨de (hY m) 1000,ob m⟩)).2 (fun hc=>e hc.symm)];rfl
    rw[hcp]
end
end
section
theorem VD{m:ab}(h:bp m)(s:Int):bg {m with aE:=s}=(bg m).map (fun e=>if e.an=m.an then{e with aE:=bC s 1}else e):=by
 have hf:∀e∈m.aq,(if e.an=m.an then{e with aE:=bC s 1}else e)=e:=fun e he=>Qs (h.hv e he).2.2.2
 have hmap:m.aq.map (fun e=>if e.an=m.an then{e with aE:=bC s 1}else e)=m.aq:=by
  rw[Qq71 hf];simp
 have hown:jh {m with aE:=s}={jh m with aE:=bC s 1}:=by
  unfold jh cD ft;split
  ·rfl
  ·split<;>rfl
 unfold bg;split
 ·exact hmap.symm
 ·rw[hown];have hn:(jh m).an=m.an:=vq m
  suffices key:∀l:List ai,(∀e∈l,(if e.an=m.an then{e with aE:=bC s 1}else e)=e)->zK {jh m with aE:=bC s 1} l=(zK (jh m) l).map (fun e=>if e.an=m.an then{e with aE:=bC s 1}else e)from key _ hf
  intro l
  induction l with
  |nil=>
   intro _;simp only[zK,QD,QO,hn,Qt]
  |cons x l ih=>
   intro hx;unfold zK;simp only;split
   ·rw[QD,QD,hn,Qr rfl,hx x Qx,Qq71 (fun e he=>hx e (Qy _ he))]
    simp
   ·rw[QD,hx x Qx,ih fun e he=>hx e (Qy _ he)]
theorem PQ{m:ab}(h:bp m){s:Int}(hs:0<=s/\s<=1000000):bp {m with aE:=s}:=by
 refine⟨h.n0,h.n1,h.aG,hs,h.aL,h.s7,h.hv,h.eZ,?_⟩;rcases h.body with k|k|k|k
 ·exact .inl ⟨k.aT,k.aQ,k.dC,k.bV,k.ed,k.low,k.bU⟩
 ·exact .inr (.inl ⟨k.aT,k.aQ,k.dC,k.bV,k.ed,k.up,k.bU,k.low⟩)
 ·exact .inr (.inr (.inl ⟨k.aT,k.aQ,k.dC,k.bV,k.ed,k.range⟩))
 ·exact .inr (.inr (.inr ⟨k.aT,k.aQ,k.dC,k.bV,k.ed,k.range⟩))
theorem qZ{m:ab}(h:bp m){s:Int}(hs:0<=s/\s<=1000000):Alike (bg m) (bg {m with aE:=s}):=by
 rw[VD h s];refine aaV h.ev.my.1 h.ev.my.2 _ fun e he=> ?_
 split
 ·rename_i hn;refine⟨rfl,?_⟩;rw[h.mj e he];have hv:=h.mj e he
  have hm:{e with aE:=bC s 1}∈bg {m with aE:=s}:=by
   rw[VD h s];exact QP.2 ⟨e,he,Qr hn⟩
  exact(PQ h hs).mj _ hm
 ·exact⟨rfl,rfl⟩
theorem aeE(m:ab)(s:Int)(b:af):BP {m with aE:=s} b={BP m b with aE:=s}:=by
 unfold BP
 by_cases h:bz m.aa b=true
 ·simp only[Qr h]
 ·simp only[Qs h]
theorem Zl(m:ab)(s:Int)(b:af):qa {m with aE:=s} b={qa m b with aE:=s}:=by
 unfold qa
 by_cases h:m.aS=0/\bM m.aa b=true/\lA b.Value m.aa.ak m.ao m.az<=b.ak
 ·simp only[Qr h]
 ·simp only[Qs h]
section
variable {m : ab} (h : bp m) {s : Int} (hs : 0 <= s /\ s <= 1000000)
 include h hs
theorem aen:eL {m with aE:=s}=eL m:=((qZ h hs).next h.ev.aB.2 m.aj _ _ _).symm
theorem aeB:gA {m with aE:=s}=gA m:=((qZ h hs).bU h.ev.aB.2 m.aj _).symm
theorem RA:gI {m with aE:=s}=gI m:=((qZ h hs).ready h.ev.aB.2 m.aj).symm
theorem abd:Ge {m with aE:=s}=Ge m:=((qZ h hs).sure h.ev.aB.2 m.aj).symm
theorem aeO:fB {m with aE:=s}=fB m:=by
 unfold fB;rw[RA h hs];simp only;rw[<-(qZ h hs).AY,<-(qZ h hs).first]
theorem aeT:eI {m with aE:=s}=eI m:=by
 unfold eI;rw[RA h hs];simp only;rw[<-(qZ h hs).jN]
theorem aeS:nq {m with aE:=s}=nq m:=by
 unfold nq;rw[abd h hs];simp only;rw[<-(qZ h hs).jN]
theorem Ss(n:Int):iY {m with aE:=s} n=iY m n:=by
 unfold iY;simp only;rw[<-(qZ h hs).view _ h.ev.aB.2];rfl
theorem ae8:hY {m with aE:=s}=hY m:=by
 unfold hY;simp only;congr 1
 funext b e
 unfold mN;simp only[Ss h hs]
theorem Eg:cU {m with aE:=s}={cU m with aE:=s}:=by
 unfold cU;simp only[aen h hs];split<;>rfl
theorem Ef:fY {m with aE:=s}={fY m with aE:=s}:=by
 unfold fY;simp only[aeB h hs];split
 ·rfl
 ·rw[aeE,Zl]
theorem Ei:fG {m with aE:=s}={fG m with aE:=s}:=by
 unfold fG;simp only[aeO h hs,aeT h hs];split
 ·split<;>rfl
 ·split<;>rfl
theorem Eh:iF {m with aE:=s}={iF m with aE:=s}:=by
 unfold iF;simp only[aeS h hs];split<;>rfl
theorem ID:fq {m with aE:=s}={fq m with aE:=s}:=by
 unfold fq;simp only[Ss h hs,ae8 h hs];split<;>rfl
end
open Classical in
 def cn(m:ab):ab:=
 if cU m=m then(if fY m=m then(if fG m=m then(if iF m=m then fq m else iF m)else fG m)else fY m)else cU m
structure JD (m:ab):Prop where
 p:cU m=m
 s:fY m=m
 c:fG m=m
 f:iF m=m
 k:fq m=m
theorem abe{m:ab}(h:cn m=m):JD m:=by
 unfold cn at h;split at h
 ·split at h
  ·split at h
   ·split at h
    ·exact⟨by assumption,by assumption,by assumption,by assumption,h⟩
    ·contradiction
   ·contradiction
  ·contradiction
 ·contradiction
theorem U4{m:ab}(h:JD m):cn m=m:=by
 unfold cn;rw[Qr h.p,Qr h.s,Qr h.c,Qr h.f,h.k]
theorem Gf{m:ab}{Q:ab->Prop}(h1:Q (cU m))(h2:Q (fY m))(h3:Q (fG m))(h4:Q (iF m))(h5:Q (fq m)):Q (cn m):=by
 unfold cn;split
 ·split
  ·split
   ·split
    ·exact h5
    ·exact h4
   ·exact h3
  ·exact h2
 ·exact h1
theorem yJ{m:ab}(h:bp m):bp (cn m):=Gf (RI h) (RH h) (RM h) (RL h) (RJ h)
theorem Bw(m:ab):ir m (cn m):=Gf (uX m) (sX m) (sZ m) (sY m) (Bz m)
theorem TE{m:ab}(h:bp m):cn m=m\/ku m<ku (cn m):=Gf (Q:=fun x=>x=m\/ku m<ku x) (aiy h) (aix h) (aiB h) (aiA h) (aiz h)
theorem aiM(m:ab):(cU m).aa=m.aa:=by unfold cU;split<;>rfl
theorem LC{m:ab}(h:bp m)(hz:aF m.aa=false):aF (cn m).aa=false:=by
 have hb:P1 m\/P2 m\/P3 m:=h.body.resolve_left fun k=>by rw[k.aQ,bP]at hz;cases hz
 refine Gf (Q:=fun x=>aF x.aa=false) (by rw[aiM];exact hz) ?_ ?_ ?_ ?_
 ·rcases hb with k|k|k
  ·exact(Pn h k).1.aQ.nz
  ·rw[uW (.inl (by rw[k.aT];decide))];exact hz
  ·rw[uW (.inl (by rw[k.aT];decide))];exact hz
 ·unfold fG;rcases hb with k|k|k
  ·rw[Qr k.aT];split
   ·rename_i hk;have hf:=Ow h hk;exact(Vo (.inr k.aQ) k.dC hf.fin hf.lo1 hf.le).aQ.nz
   ·exact hz
  ·rw[Qs (by rw[k.aT];decide),Qr k.aT]
   obtain⟨g1,g2,g3,_⟩:=U7 h k;exact(YI k g1 g2 g3).aQ.nz
  ·rw[Qs (by rw[k.aT];decide),Qs (by rw[k.aT];decide)];exact hz
 ·unfold iF;split
  ·rename_i hc;rcases hb with k|k|k
   ·have:=k.aT;have:=hc.1;omega
   ·exact(WX h k hc.2).aQ.nz
   ·have:=k.aT;have:=hc.1;omega
  ·exact hz
 ·cases ha:iY m m.aa.ak with
  |false=>
   have:fq m=m:=Qr (.inr ha);rw[this];exact hz
  |true=>
   rcases hb with k|k|k
   ·exact(Po h (.inr k) ha).aQ.nz
   ·exact(WW h k).aQ.nz
   ·have:fq m=m:=Qr (.inl k.aT);rw[this];exact hz
def c8(m:ab):ab:=if aF m.aa=false then{m with aE:=bC m.aE 1}else m
theorem Xc{m:ab}(h:bp m):0<=bC m.aE 1/\bC m.aE 1<=1000000:=by
 have:=h.seq;unfold bC;split<;>omega
theorem yf{m:ab}(h:bp m):bp (c8 m):=by
 unfold c8;split
 ·exact PQ h (Xc h)
 ·exact h
theorem J2{m:ab}(h:aF m.aa=true->m.aE=0):fQ (c8 m):=by
 unfold c8;split
 ·rename_i hz;exact⟨fun e=>(by rw[show({m with aE:=bC m.aE 1}:ab).aa=m.aa from rfl,hz]at e;cases e),fun _=>by show 1<=bC m.aE 1;unfold bC;split<;>omega⟩
 ·rename_i hz;exact⟨h,fun e=>absurd e hz⟩
theorem aeQ{m:ab}(h:bp m)(hf:JD m){s:Int}(hs:0<=s/\s<=1000000):JD {m with aE:=s}:=
 ⟨by rw[Eg h hs,hf.p],by rw[Ef h hs,hf.s],by rw[Ei h hs,hf.c],by rw[Eh h hs,hf.f],by rw[ID h hs,hf.k]⟩
theorem abS{m:ab}(h:bp m)(hf:JD m):JD (c8 m):=by
 unfold c8;split
 ·exact aeQ h hf (Xc h)
 ·exact hf
theorem aeo{m:ab}(hs:fQ m):c8 m=m:=by
 unfold c8;split
 ·rename_i hz;have:=hs.pos hz;have e:bC m.aE 1=m.aE:=by unfold bC;split<;>omega
  rw[e]
 ·rfl
theorem abo(m:ab):ku (c8 m)=ku m:=by
 unfold c8;split<;>rfl
theorem Uh{m:ab}(h:0<=m.aE):dz ⟨m⟩=some ((),⟨c8 m⟩):=by
 unfold dz c8;simp only[etas,cz,Qa]
 cases hz:aF m.aa with
 |true=>rfl
 |false=>
  simp only[Qp,Qk,Qa,Qt]
  by_cases hs:m.aE=0
  ·have e:bC m.aE 1=1:=by unfold bC;split<;>omega
   rw[Qg hs,e];rfl
  ·have e:bC m.aE 1=m.aE:=by unfold bC;split<;>omega
   rw[Qh hs,e];rfl
theorem xk{m m':ab}(he:ir m m'):
  (decide (m'.aK=m.aK)&&(decide (m'.aS=m.aS)&&(decide (m'.bl=m.bl)&&(decide (m'.aa.ak=m.aa.ak)&&(decide (m'.aa.Value=m.aa.Value)&&(decide (m'.ao.ak=m.ao.ak)&&(decide (m'.ao.Value=m.ao.Value)&&(decide (m'.az.ak=m.az.ak)&&(decide (m'.az.Value=m.az.Value)&&(decide (m'.ax.ak=m.ax.ak)&&(decide (m'.ax.Value=m.ax.Value)&&true)))))))))))=true↔m'=m:=by
 simp only[Qm,Qi];constructor
 ·rintro⟨h1,h2,h3,h4,h5,h6,h7,h8,h9,h10,h11,_⟩;exact AJ he h1 (oO h4 h5) (oO h6 h7) (oO h8 h9) (oO h10 h11) h2 h3
 ·rintro rfl;simp
open Classical in
theorem afz{m:ab}(h:bp m)(hs:fQ m):n4 ⟨m⟩=some (if cn m=m then(false,⟨m⟩)else(true,⟨c8 (cn m)⟩)):=by
 have hnum:∀{x:ab},bp x->dz ⟨x⟩=some ((),⟨c8 x⟩):=fun hx=>Uh hx.seq.1
 unfold n4;simp only[etas,aH.eta,gf,Qa,Yj h hs]
 by_cases hP:cU m=m
 ·simp only[(xk (uX m)).2 hP,Ql,show xor true true=false from rfl]
  rw[hP,afx h hs];simp only[Qa]
  by_cases hS:fY m=m
  ·simp only[(xk (sX m)).2 hS,Ql,show xor true true=false from rfl]
   rw[hS,aaI h hs];simp only[Qa]
   by_cases hC:fG m=m
   ·simp only[(xk (sZ m)).2 hC,Ql,show xor true true=false from rfl]
    rw[hC,acb h hs];simp only[Qa]
    by_cases hF:iF m=m
    ·simp only[(xk (sY m)).2 hF,Ql,show xor true true=false from rfl]
     rw[hF,ab4 h hs];simp only[Qa];have e:cn m=fq m:=by unfold cn;rw[Qr hP,Qr hS,Qr hC,Qr hF]
     rw[e]
     by_cases hK:fq m=m
     ·simp only[(xk (Bz m)).2 hK,Ql,show xor true true=false from rfl]
      rw[Qr hK,hK]
     ·have hb:=mt (xk (Bz m)).1 hK;rw[QX]at hb;simp only[hb,Qk,show xor true false=true from rfl]
      rw[hnum (RJ h),Qs hK];rfl
    ·have e:cn m=iF m:=by unfold cn;rw[Qr hP,Qr hS,Qr hC,Qs hF]
     have hb:=mt (xk (sY m)).1 hF;rw[QX]at hb;simp only[hb,Qk,show xor true false=true from rfl]
     rw[hnum (RL h),e,Qs hF];rfl
   ·have e:cn m=fG m:=by unfold cn;rw[Qr hP,Qr hS,Qs hC]
    have hb:=mt (xk (sZ m)).1 hC;rw[QX]at hb;simp only[hb,Qk,show xor true false=true from rfl]
    rw[hnum (RM h),e,Qs hC];rfl
  ·have e:cn m=fY m:=by unfold cn;rw[Qr hP,Qs hS]
   have hb:=mt (xk (sX m)).1 hS;rw[QX]at hb;simp only[hb,Qk,show xor true false=true from rfl]
   rw[hnum (RH h),e,Qs hS];rfl
 ·have e:cn m=cU m:=by unfold cn;rw[Qs hP]
  have hb:=mt (xk (uX m)).1 hP;rw[QX]at hb;simp only[hb,Qk,show xor true false=true from rfl]
  rw[hnum (RI h),e,Qs hP];rfl
structure Fg (R:ab->Prop) (m m':ab):Prop where
 inv:bp m'
 seq:fQ m'
 env:m'.an=m.an/\m'.aY=m.aY/\m'.aj=m.aj/\m'.bb=m.bb/\m'.aq=m.aq
 num:m'.aE=m.aE\/(m.aE=0/\m'.aE=1)
 nz:aF m.aa=false->aF m'.aa=false
 rel:R m'
 fix:JD m'
theorem aaW{R:ab->Prop}(hR1:∀m,bp m->R m->R (cn m))(hR2:∀m,R m->R (c8 m)){m:ab}(h:bp m)(hs:aF m.aa=true->m.aE=0)(hr:R m):Yd (gP ⟨m⟩) fun q=>∃m',q=((),⟨m'⟩)/\Fg R m m':=by
 unfold gP;simp only[etas,aH.eta,Uh h.seq.1,Qa]
 have num1:∀{x:ab},bp x->(c8 x).aE=x.aE\/(x.aE=0/\(c8 x).aE=1):=fun{x} hx=>by
  have:=hx.seq;unfold c8;split
  ·show bC x.aE 1=x.aE\/(x.aE=0/\bC x.aE 1=1);unfold bC;split<;>omega
  ·exact .inl rfl
 have env1:∀x:ab,(c8 x).an=x.an/\(c8 x).aY=x.aY/\(c8 x).aj=x.aj/\(c8 x).bb=x.bb/\(c8 x).aq=x.aq/\(c8 x).aa=x.aa:=fun x=>by
  unfold c8;split<;>exact⟨rfl,rfl,rfl,rfl,rfl,rfl⟩
 refine Yd.down (fun s=>∃x,s=((⟨x⟩:aH),())/\bp x/\fQ x/\R x/\(x.an=m.an/\x.aY=m.aY/\x.aj=m.aj/\x.bb=m.bb/\x.aq=m.aq)/\(x.aE=m.aE\/(m.aE=0/\x.aE=1))/\(aF m.aa=false->aF x.aa=false)) (fun s=>K1+K2 - ku s.1.al) ?_ ⟨c8 m,rfl,yf h,J2 hs,hR2 _ hr,⟨(env1 m).1,(env1 m).2.1,(env1 m).2.2.1,(env1 m).2.2.2.1,(env1 m).2.2.2.2.1⟩,num1 h,fun hz=>by rw[(env1 m).2.2.2.2.2];exact hz⟩
 rintro s ⟨x,rfl,hx,hsx,hrx,hex,hnx,hzx⟩;simp only[afz hx hsx,Qa]
 by_cases hst:cn x=x
 ·rw[Qr hst];exact .some ⟨x,rfl,⟨hx,hsx,hex,hnx,hzx,hrx,abe hst⟩⟩
 ·rw[Qs hst];have hi:=yJ hx;have hv:=Bw x;have hup:=(TE hx).resolve_left hst;refine .some ⟨⟨c8 (cn x),rfl,yf hi,J2 ?_,hR2 _ (hR1 _ hx hrx),?_,?_,?_⟩,?_⟩
  ·intro hz;rw[hv.seq];refine hsx.zero ?_
   cases hzz:aF x.aa with
   |true=>rfl
   |false=>rw[LC hx hzz]at hz;cases hz
  ·obtain⟨e1,e2,e3,e4,e5,_⟩:=env1 (cn x);exact⟨e1.trans (hv.aB.trans hex.1),e2.trans (hv.aG.trans hex.2.1),e3.trans (hv.aL.trans hex.2.2.1),e4.trans (hv.s7.trans hex.2.2.2.1),e5.trans (hv.heard.trans hex.2.2.2.2)⟩
  ·have h1:=num1 hi;rw[hv.seq]at h1;rcases h1 with e|⟨e1,e2⟩
   ·rw[e];exact hnx
   ·right;rcases hnx with e3|⟨_,e3⟩
    ·exact⟨by rw[<-e3];exact e1,e2⟩
    ·omega
  ·intro hz;rw[(env1 (cn x)).2.2.2.2.2];exact LC hx (hzx hz)
  ·have h1:=WK hi;show K1+K2 - ku (c8 (cn x))<K1+K2 - ku x;rw[abo];omega
end
section
theorem VE{α:Type}{s t:List α}(hl:s.length=t.length)(hn:s.length<=1000000){step:Int×Unit->Option ((Int×Unit)⊕Bool)}
  (h1:∀(i:Nat) (h:i<s.length) (h':i<t.length),decide ((i:Int)<((s.length:Nat):Int))=true->idx s (i:Int)=some s[i]->idx t (i:Int)=some t[i]->aA .i64 (i:Int) 1=((i+1:Nat):Int)->∃b:Bool,step ((i:Int),())=some (bif b then .inl (((i+1:Nat):Int),())else .inr false)/\(b=true↔s[i]=t[i]))
  (h2:decide (((s.length:Nat):Int)<((s.length:Nat):Int))=false->step (((s.length:Nat):Int),())=some (.inr true)):∃b,aC step (0,())=some b/\(b=true↔s=t):=by
 suffices key:∀(k i:Nat),i+k=s.length->∃b,aC step ((i:Int),())=some b/\(b=true↔s.drop i=t.drop i)from by simpa using key s.length 0 (by omega)
 intro k
 induction k with
 |zero=>
  intro i hi;obtain rfl:i=s.length:=by omega
  refine⟨true,bx (h2 (Qh (Qq64 _))),?_⟩;rw[List.drop_eq_nil_of_le (by omega),List.drop_eq_nil_of_le (by omega)]
  simp
 |succ k ih=>
  intro i hi;have hi':i<s.length:=by omega
  have hi'':i<t.length:=by omega
  obtain⟨b,h3,h4⟩:=h1 i hi' hi'' (Qg (by omega)) (by rw[bd];exact Qv hi') (by rw[bd];exact Qv hi'') (bD (by omega) (by omega))
  rw[QM hi',QM hi'',List.cons.injEq]
  cases b with
  |false=>
   refine⟨false,bx h3,?_⟩;simp only[Qq,false_iff]at h4 ⊢;exact fun h=>h4 h.1
  |true=>
   obtain⟨b,h5,h6⟩:=ih (i+1) (by omega)
   refine⟨b,(bh h3).trans h5,?_⟩;rw[h6];exact⟨fun h=>⟨h4.1 rfl,h⟩,fun h=>h.2⟩
theorem NO{α:Type}{s t:List α}(h:s.length≠t.length):(false=true↔s=t):=by
 simp only[Qq,false_iff];exact fun h1=>h (by rw[h1])
 def adj(a0:List Int)(a1:List Int):Option Bool:=
 bif (!decide (((List.length a0:Nat):Int)=((List.length a1:Nat):Int)))then
 some false
 else
 aC (fun(v1:Int×Unit)=>
 bif (decide (v1.1<((List.length a0:Nat):Int)))then
 Option.bind (idx a0 v1.1) fun x2=>
 Option.bind (idx a1 v1.1) fun x3=>
 bif (!decide (x2=x3))then
 Option.map Sum.inr (some false)
 else
 some (Sum.inl ((aA .i64 v1.1 (1:Int)),()))
 else
 Option.map Sum.inr (some true)) ((0:Int),())
theorem ada(s t:List Int)(h:s.length<=1000000):∃b,adj s t=some b/\(b=true↔s=t):=by
 unfold adj
 by_cases hl:s.length=t.length
 ·rw[Qg (by omega:((s.length:Nat):Int)=((t.length:Nat):Int)),Qo,Ql]
  refine VE hl h (fun i hi hi' hd hx hy hw=> ?_) (fun hd=> ?_)
  ·refine⟨decide (s[i]=t[i]),?_,by simp⟩
   simp only[hd,hx,hy,hw,Qk,Qa];cases decide (s[i]=t[i])<;>rfl
  ·simp only[hd,Ql];rfl
 ·rw[Qh (by omega:¬((s.length:Nat):Int)=((t.length:Nat):Int)),Qp,Qk]
  exact⟨false,rfl,NO hl⟩
theorem agn(s t:List Int)(h:s.length<=1000000):∃b,vP s t=some b/\(b=true↔s=t):=ada s t h
theorem ahA(s t:List Int)(h:s.length<=1000000):∃b,rP s t=some b/\(b=true↔s=t):=ada s t h
theorem Rm(a b:ae):a=b↔a.aJ=b.aJ/\a.ba=b.ba/\a.aM=b.aM:=by
 cases a;cases b;simp
theorem agX{n:Nat}:∀{a b:ae},SizeOf.sizeOf a<n->cQ a->∃r,vG n (a,b,())=some r/\(r=true↔a=b):=by
 induction n with
 |zero=>intro a b h;omega
 |succ n ih=>
  intro a b hs hm;show∃r,sU (vG n) a b=some r/\(r=true↔a=b);have hl:=hm.len;have hns:=hm.nodes;obtain⟨r,h1,h2⟩:=agn a.ba b.ba hns;rw[Rm];unfold sU
  by_cases ht:a.aJ=b.aJ
  ·rw[Qg ht];simp only[Qo,Ql,h1,Qa]
   cases r with
   |false=>
    simp only[Qp,Qk,Qa];refine⟨false,rfl,?_⟩;simp only[Qq,false_iff]at h2 ⊢;exact fun h=>h2 h.2.1
   |true=>
    simp only[Qo,Ql,Qa]
    by_cases hi:a.aM.length=b.aM.length
    ·rw[Qg (by omega:((a.aM.length:Nat):Int)=((b.aM.length:Nat):Int)),Qo,Ql]
     have key:∀step:Int×Unit->Option ((Int×Unit)⊕Bool),(∃r,aC step (0,())=some r/\(r=true↔a.aM=b.aM))->∃r,aC step (0,())=some r/\(r=true↔a.aJ=b.aJ/\a.ba=b.ba/\a.aM=b.aM):=by
      rintro step ⟨r,h3,h4⟩;exact⟨r,h3,by rw[h4];exact⟨fun h=>⟨ht,h2.1 rfl,h⟩,fun h=>h.2.2⟩⟩
     refine key _ (VE hi hl (fun i hi hi' hd hx hy hw=> ?_) (fun hd=> ?_))
     ·have hu:=Q0 hi;obtain⟨r,h3,h4⟩:=ih (a:=a.aM[i]) (b:=b.aM[i]) (by have:=pK hu;omega) (hm.inner _ hu)
      refine⟨r,?_,h4⟩;simp only[hd,hx,hy,hw,Qk,Qa,etas,h3];cases r<;>rfl
     ·simp only[hd,Ql];rfl
    ·rw[Qh (by omega:¬((a.aM.length:Nat):Int)=((b.aM.length:Nat):Int)),Qp,Qk]
     refine⟨false,rfl,?_⟩;simp only[Qq,false_iff];exact fun h=>hi (by rw[h.2.2])
  ·rw[Qh ht];refine⟨false,rfl,?_⟩;simp only[Qq,false_iff];exact fun h=>ht h.1
theorem U8{a b:ae}(h:cQ a):∃r,jr a b=some r/\(r=true↔a=b):=agX (by omega) h
theorem ah3{n:Nat}:∀{a b:ae},SizeOf.sizeOf a<n->cQ a->∃r,yy n (a,b,())=some r/\(r=true↔a=b):=by
 induction n with
 |zero=>intro a b h;omega
 |succ n ih=>
  intro a b hs hm;show∃r,tJ (yy n) a b=some r/\(r=true↔a=b);have hl:=hm.len;have hns:=hm.nodes;obtain⟨r,h1,h2⟩:=ahA a.ba b.ba hns;rw[Rm];unfold tJ
  by_cases ht:a.aJ=b.aJ
  ·rw[Qg ht];simp only[Qk,h1,Qa]
   cases r with
   |false=>
    simp only[Ql];refine⟨false,rfl,?_⟩;simp only[Qq,false_iff]at h2 ⊢;exact fun h=>h2 h.2.1
   |true=>
    simp only[Qk]
    have key:∀o:Option Bool,(∃r,o=some r/\(r=true↔a.aM=b.aM))->∃r,(Option.bind (Option.bind o fun r3=>some r3) fun b4=>some b4)=some r/\(r=true↔a.aJ=b.aJ/\a.ba=b.ba/\a.aM=b.aM):=by
     rintro o ⟨r,rfl,h4⟩;exact⟨r,rfl,by rw[h4];exact⟨fun h=>⟨ht,h2.1 rfl,h⟩,fun h=>h.2.2⟩⟩
    refine key _ ?_;unfold dI
    by_cases hi:a.aM.length=b.aM.length
    ·rw[Qg (by omega:((a.aM.length:Nat):Int)=((b.aM.length:Nat):Int)),Qo,Ql]
     refine VE hi hl (fun i hi hi' hd hx hy hw=> ?_) (fun hd=> ?_)
     ·have hu:=Q0 hi;obtain⟨r,h3,h4⟩:=ih (a:=a.aM[i]) (b:=b.aM[i]) (by have:=pK hu;omega) (hm.inner _ hu)
      refine⟨r,?_,h4⟩;simp only[hd,hx,hy,hw,Qk,Qa,etas,h3];cases r<;>rfl
     ·simp only[hd,Ql];rfl
    ·rw[Qh (by omega:¬((a.aM.length:Nat):Int)=((b.aM.length:Nat):Int)),Qp,Qk]
     exact⟨false,rfl,NO hi⟩
  ·rw[Qh ht];refine⟨false,rfl,?_⟩;simp only[Qq,false_iff];exact fun h=>ht h.1
theorem eqT{a b:ae}(h:cQ a):∃r,pP a b=some r/\(r=true↔a=b):=ah3 (by omega) h
theorem Xp(a b:Int)(s t:ByteArray):mh false a b s t=(decide (a=b)&&decide (s=t)):=by
 simp
theorem OS(a b:af):a=b↔a.ak=b.ak/\a.Value=b.Value:=by
 cases a;cases b;simp
theorem Xq(a b:ai):a=b↔a.an=b.an/\a.aY=b.aY/\a.aE=b.aE/\a.aj=b.aj/\a.bF=b.bF/\a.aa=b.aa/\a.ao=b.ao/\a.az=b.az/\a.aS=b.aS/\a.bl=b.bl:=by
 cases a;cases b;simp
theorem Xy(a b:Bool):(bif a then some b else some false)=some (a&&b):=by cases a<;>rfl
theorem aiP{a b:ai}(h:cQ a.aj):∃r,z6 a b=some r/\(r=true↔a=b):=by
 obtain⟨r,h1,h2⟩:=U8 (a:=a.aj) (b:=b.aj) h;have hc:∀x:Bool,(bif x then some r else some false)=some (x&&r):=fun x=>by cases x<;>rfl
 refine⟨_,by simp only[z6,etas,h1,Qa,Xy,hc,Xp];rfl,?_⟩
 rw[Xq];simp only[Qm,Qi,h2,OS];constructor
 ·rintro⟨⟨⟨⟨⟨⟨⟨⟨⟨h1,h2⟩,h3⟩,h4⟩,h5⟩,h6⟩,h7⟩,h8⟩,h9⟩,h10⟩;exact⟨h1,h2,h3,h4,h5,h6,h7,h8,h9,h10⟩
 ·rintro⟨h1,h2,h3,h4,h5,h6,h7,h8,h9,h10⟩;exact⟨⟨⟨⟨⟨⟨⟨⟨⟨h1,h2⟩,h3⟩,h4⟩,h5⟩,h6⟩,h7⟩,h8⟩,h9⟩,h10⟩
end
section
theorem Om{m:ab}(h:bp m){ρ:Type}{step:Int×Unit->Option ((Int×Unit)⊕ρ)}{fin:Option ρ}
  (h1:∀(i:Nat) (e:ai),e∈m.aq->decide ((i:Int)<((m.aq.length:Nat):Int))=true->idx m.aq (i:Int)=some e->aA .i64 (i:Int) 1=((i+1:Nat):Int)->
   (i=0\/(decide ((0:Int)<(i:Int))=true/\∃x,idx m.aq (dh .i64 (i:Int) 1)=some x/\decide (e.an<=x.an)=false))->step ((i:Int),())=some (.inl (((i+1:Nat):Int),())))
  (h2:decide (((m.aq.length:Nat):Int)<((m.aq.length:Nat):Int))=false->step (((m.aq.length:Nat):Int),())=Option.map Sum.inr fin):aC step (0,())=fin:=by
 have hl:=h.len;refine Zy m.aq.length (by omega) (fun i hi hd hw=> ?_) h2
 have hx:idx m.aq (i:Int)=some m.aq[i]:=by rw[bd];exact Qv hi
 refine h1 i m.aq[i] (Q0 hi) hd hx hw ?_
 cases i with
 |zero=>exact .inl rfl
 |succ i=>
  refine .inr ⟨Qg (by omega),m.aq[i],?_,?_⟩
  ·have:dh .i64 ((i+1:Nat):Int) 1=(i:Int):=by rw[qH (by omega) (by omega)];omega
   rw[this,bd];exact Qv (by omega)
  ·have:=List.pairwise_iff_getElem.1 h.eZ i (i+1) (by omega) hi (by omega)
   exact Qh (by omega)
theorem aeC{m:ab}(h:bp m):uL m=some true:=by
 unfold uL;refine Om h (fun i e he hd hx hw hi=> ?_) (fun hd=>by simp only[hd,Ql])
 obtain⟨g1,g2,g3,g4⟩:=h.hv e he;simp only[hd,hx,hw,Qk,Qa,aN,etas,rN g2.sm,g1,Qo,Ql,Qg g3,Qh g4];rcases hi with rfl|⟨hi,x,hx2,hn⟩
 ·rfl
 ·rw[hi,hx2];simp only[Qk,Qa,hn,Ql]
theorem Fx{m:ab}(h:bp m)(hs:fQ m)(hz:aF m.aa=false):aU (cD m)=true:=by
 rw[<-W9 hs hz];exact RQ h hz
theorem aep:mh false bZ.ak (0:Int) bZ.Value (ByteArray.mk #[])=true:=by decide
theorem C4{m:ab}(h:bp m)(hs:fQ m):kl m=some true:=by
 have d1:decide (m.an<0)=false:=Qh (by have:=h.n0;omega)
 have d2:decide ((10:Int)<=m.an)=false:=Qh (by have:=h.n1;omega)
 have d3:decide (m.aY<1)=false:=Qh (by have:=h.aG;omega)
 have d4:decide ((1000000:Int)<m.aY)=false:=Qh (by have:=h.aG;omega)
 have d5:decide (m.aE<0)=false:=Qh (by have:=h.seq;omega)
 have d6:decide ((1000000:Int)<m.aE)=false:=Qh (by have:=h.seq;omega)
 have d7:decide ((200:Int)<((m.bb.size:Nat):Int))=false:=Qh (by have:=h.s7;omega)
 have hm:cQ (cD m).aj:=by rw[oL];exact h.aL.sm
 unfold kl;simp only[d1,d2,d3,d4,d5,d6,d7,Ql,Qa,etas,c5 h.aL,decide_true,Qo,aeC h,cz,BB,FA h,rN hm]
 cases hz:aF m.aa with
 |true=>
  have h0:P0 m:=by
   rcases h.body with k|k|k|k
   ·exact k
   ·rw[k.aQ.nz]at hz;cases hz
   ·rw[k.aQ.nz]at hz;cases hz
   ·rw[k.aQ.nz]at hz;cases hz
  unfold Ac;simp only[h0.aT,hs.zero hz,h0.dC,h0.bV,h0.ed,h0.low,h0.bU,aep,decide_true,Qk,Qa]
 |false=>
  have hv:=Fx h hs hz;simp only[hv,Ql,Qk]
  have hconf:qf m=some true:=by
   unfold qf;simp only[cz,vQ,sR,fS,Qa]
   have fin:∀(hf:di m.ax) (hp:(dY m.ao m.az m.ax||(!decide (m.aK=1)&&bM m.ax m.aa))=true),_:=fun hf hp=>(show(bif aF m.ax then some true else
     (bif !cO m.ax then some true else some (decide (1000<m.ax.ak))).bind fun b3=>bif b3 then some false else
     (bif dY m.ao m.az m.ax then some true else(bif !decide (m.aK=1)then some (bM m.ax m.aa)else some false).bind fun b6=>some b6).bind fun b7=>some b7)=some true by
    rw[hf.nz,hf.valid,Qh (show¬1000<m.ax.ak by have:=hf.2.1;omega)]
    revert hp
    cases dY m.ao m.az m.ax<;>cases decide (m.aK=1)<;>cases bM m.ax m.aa<;>simp)
   have nob:m.ax=bZ->(bif aF m.ax then some true else
     (bif !cO m.ax then some true else some (decide (1000<m.ax.ak))).bind fun b3=>bif b3 then some false else
     (bif dY m.ao m.az m.ax then some true else(bif !decide (m.aK=1)then some (bM m.ax m.aa)else some false).bind fun b6=>some b6).bind fun b7=>some b7)=some true:=fun e=>by rw[e,bP];rfl
   rcases h.body with k|k|k|k
   ·exact nob k.ed
   ·rcases k.ed with e|⟨hf,hp⟩
    ·exact nob e
    ·exact fin hf (by rw[hp];rfl)
   ·rcases k.ed with e|⟨hf,hp⟩
    ·exact nob e
    ·exact fin hf (by rw[jG.2 hp,Qh (show¬m.aK=1 by have:=k.aT;omega)];simp)
   ·exact nob k.ed
  rw[hconf];simp only[Qa,Qk];rcases h.body with k|k|k|k
  ·rw[k.aQ,bP]at hz;cases hz
  ·simp only[k.aT,k.bU,decide_true,Qo,Ql,Qa,Qp,Qk,show decide ((1:Int)=3)=false from rfl]
  ·simp only[k.aT,k.bV,bP,show decide ((2:Int)=1)=false from rfl,show decide ((2:Int)=3)=false from rfl,Qo,Ql,Qa,Qp,Qk]
  ·simp only[k.aT,k.bV,k.dC,bP,show decide ((3:Int)=1)=false from rfl,decide_true,Qo,Ql,Qa,Qp,Qk]
theorem wz{m:ab}(h:bp m)(hs:fQ m):iE m=some true:=by
 have d1:decide (m.an<0)=false:=Qh (by have:=h.n0;omega)
 have d2:decide ((9:Int)<m.an)=false:=Qh (by have:=h.n1;omega)
 have d3:decide (m.aY<1)=false:=Qh (by have:=h.aG;omega)
 have d4:decide ((1000000:Int)<m.aY)=false:=Qh (by have:=h.aG;omega)
 have d5:decide (m.aE<0)=false:=Qh (by have:=h.seq;omega)
 have d6:decide ((1000000:Int)<m.aE)=false:=Qh (by have:=h.seq;omega)
 have d7:decide ((200:Int)<((m.bb.size:Nat):Int))=false:=Qh (by have:=h.s7;omega)
 have hm:cQ (cD m).aj:=by rw[oL];exact h.aL.sm
 unfold iE;simp only[d1,d2,d3,d4,d5,d6,d7,Ql,Qa,etas,dE h.aL,decide_true,Qo];refine Om h (fun i e he hd hx hw hi=> ?_) (fun hd=> ?_)
 ·obtain⟨g1,g2,g3,g4⟩:=h.hv e he;simp only[hd,hx,hw,Qk,Qa,aN,ka g2.sm,g1,Qo,Ql,Qg g3,Qh g4];rcases hi with rfl|⟨hi,x,hx2,hn⟩
  ·rfl
  ·rw[hi,hx2];simp only[Qk,Qa,hn,Ql]
 ·simp only[hd,Ql];congr 1;simp only[c7,DV,uv,gN,Qa,zQ,ka hm]
  cases hz:aF m.aa with
  |true=>
   have h0:P0 m:=by
    rcases h.body with k|k|k|k
    ·exact k
    ·rw[k.aQ.nz]at hz;cases hz
    ·rw[k.aQ.nz]at hz;cases hz
    ·rw[k.aQ.nz]at hz;cases hz
   simp only[h0.aT,hs.zero hz,h0.dC,h0.bV,h0.ed,h0.low,h0.bU,bP,decide_true,Qk,Qa]
  |false=>
   have hv:=Fx h hs hz;simp only[hv,Ql,Qo];rcases h.body with k|k|k|k
   ·rw[k.aQ,bP]at hz;cases hz
   ·simp only[k.aT,k.bU,decide_true,Qo,Ql,Qa,Qp,Qk,show decide ((1:Int)=3)=false from rfl,show decide ((1:Int)=2)=false from rfl]
    rcases k.ed with e|⟨hf,hp⟩
    ·rw[e,bP];rfl
    ·rw[hf.nz,hf.valid,Qh (show¬1000<m.ax.ak by have:=hf.2.1;omega),hp];rfl
   ·simp only[k.aT,k.bV,bP,show decide ((2:Int)=1)=false from rfl,show decide ((2:Int)=3)=false from rfl,decide_true,Qo,Ql,Qa,Qp,Qk]
    rcases k.ed with e|⟨hf,hp⟩
    ·rw[e,bP];rfl
    ·rw[hf.nz,hf.valid,Qh (show¬1000<m.ax.ak by have:=hf.2.1;omega),jG.2 hp];rfl
   ·simp only[k.aT,k.bV,k.dC,k.ed,bP,show decide ((3:Int)=1)=false from rfl,show decide ((3:Int)=2)=false from rfl,decide_true,Qo,Ql,Qa,Qp,Qk]
end
section
theorem Dm(x:ab):(c8 x).an=x.an/\(c8 x).aY=x.aY/\(c8 x).aj=x.aj/\(c8 x).bb=x.bb/\(c8 x).aq=x.aq/\(c8 x).aa=x.aa:=by
 unfold c8;split<;>exact⟨rfl,rfl,rfl,rfl,rfl,rfl⟩
theorem abR{x:ab}(hx:bp x):(c8 x).aE=x.aE\/(x.aE=0/\(c8 x).aE=1):=by
 have:=hx.seq;unfold c8;split
 ·show bC x.aE 1=x.aE\/(x.aE=0/\bC x.aE 1=1);unfold bC;split<;>omega
 ·exact .inl rfl
theorem AG{m m':ab}(he:ir m m')(h:¬m'=m):Bc m m'=false:=by
 cases hs:Bc m m' with
 |false=>rfl
 |true=>exact absurd (TJ he hs) h
theorem aaX{R:ab->Prop}(hR1:∀m,bp m->R m->R (cn m))(hR2:∀m,R m->R (c8 m)){m:ab}(h:bp m)(hs:fQ m)(hr:R m):Yd (uI m) (Fg R m):=by
 unfold uI;simp only[etas,wz h hs,Qa,Qo,Ql];refine Yd.down (fun s=>bp s.1/\R s.1/\ir m s.1/\(aF m.aa=false->aF s.1.aa=false)) (fun s=>K1+K2 - ku s.1) ?_ ⟨h,hr,ir.refl m,id⟩
 rintro⟨x,z,_⟩ ⟨hx,hrx,hex,hzx⟩;simp only at hx hrx hex hzx;simp only[aN,Yk hx.ev,Qa,afH]
 have hgo:∀{y:ab},y=cn x->¬y=x->(bp y/\R y/\ir m y/\(aF m.aa=false->aF y.aa=false))/\K1+K2 - ku y<K1+K2 - ku x:=by
  rintro y rfl hne;have hv:=Bw x;have hup:=(TE hx).resolve_left hne;have h1:=WK (yJ hx);exact⟨⟨yJ hx,hR1 _ hx hrx,⟨hv.aB.trans hex.aB,hv.aG.trans hex.aG,hv.seq.trans hex.seq,hv.aL.trans hex.aL,hv.s7.trans hex.s7,hv.heard.trans hex.heard⟩,fun hz=>LC hx (hzx hz)⟩,by omega⟩
 by_cases hP:cU x=x
 ·simp only[hP,vY,Qk,Ws hx.ev,Qa]
  by_cases hS:fY x=x
  ·simp only[hS,vY,Qk,Wu hx.ev,Qa]
   by_cases hC:fG x=x
   ·simp only[hC,vY,Qk,aeR hx.ev,Qa]
    by_cases hF:iF x=x
    ·simp only[hF,vY,Qk,acp hx.ev,Qa];have e:cn x=fq x:=by unfold cn;rw[Qr hP,Qr hS,Qr hC,Qr hF]
     by_cases hK:fq x=x
     ·simp only[hK,vY,Qk,c7,Qa]
      have hnum:(bif !aF x.aa then Option.map Sum.inr (some (⟨x.an,x.aY,bC x.aE (1:Int),x.aj,x.aK,x.aa,x.ao,x.az,x.ax,x.aS,x.bl,x.bb,x.aq⟩:ab))else Option.map (Sum.inr (α:=ab×ab×Unit)) (some x))=some (Sum.inr (c8 x)):=by
       unfold c8;cases aF x.aa<;>rfl
      rw[hnum];obtain⟨e1,e2,e3,e4,e5,e6⟩:=Dm x;refine .some ⟨yf hx,J2 fun hz=> ?_,⟨e1.trans hex.aB,e2.trans hex.aG,e3.trans hex.aL,e4.trans hex.s7,e5.trans hex.heard⟩,?_,fun hz=>by rw[e6];exact hzx hz,hR2 _ hrx,abS hx ⟨hP,hS,hC,hF,hK⟩⟩
      ·rw[hex.seq];refine hs.zero ?_
       cases hzz:aF m.aa with
       |true=>rfl
       |false=>rw[hzx hzz]at hz;cases hz
      ·have:=abR hx;rw[hex.seq]at this;exact this
     ·simp only[AG (Bz x) hK,Ql];exact .some (hgo e.symm hK)
    ·simp only[AG (sY x) hF,Ql];have e:cn x=iF x:=by unfold cn;rw[Qr hP,Qr hS,Qr hC,Qs hF]
     exact .some (hgo e.symm hF)
   ·simp only[AG (sZ x) hC,Ql];have e:cn x=fG x:=by unfold cn;rw[Qr hP,Qr hS,Qs hC]
    exact .some (hgo e.symm hC)
  ·simp only[AG (sX x) hS,Ql];have e:cn x=fY x:=by unfold cn;rw[Qr hP,Qs hS]
   exact .some (hgo e.symm hS)
 ·simp only[AG (uX x) hP,Ql];have e:cn x=cU x:=by unfold cn;rw[Qs hP]
  exact .some (hgo e.symm hP)
open Classical in
 def qX(m m2:ab):ab:=if aF m.aa=false/\{cD m with aE:=0}≠{cD m2 with aE:=0}then{m2 with aE:=de (m2.aE+1) 1000000}else m2
theorem Hh(m m2:ab):∃s,qX m m2={m2 with aE:=s}/\(s=m2.aE\/s=de (m2.aE+1) 1000000):=by
 unfold qX;split
 ·exact⟨_,rfl,.inr rfl⟩
 ·exact⟨m2.aE,rfl,.inl rfl⟩
theorem Ww{m m2:ab}(h:bp m2):∃s,qX m m2={m2 with aE:=s}/\m2.aE<=s/\0<=s/\s<=1000000:=by
 obtain⟨s,h1,h2⟩:=Hh m m2;have:=h.seq;refine⟨s,h1,?_⟩;rcases h2 with rfl|rfl
 ·omega
 ·unfold de;split<;>omega
theorem acs{m m2:ab}(h:bp m2):bp (qX m m2):=by
 obtain⟨s,h1,h2⟩:=Ww (m:=m) h;rw[h1];exact PQ h h2.2
theorem afa{m m2:ab}(h:bp m2)(hs:fQ m2)(hnz:aF m.aa=false->aF m2.aa=false):fQ (qX m m2):=by
 unfold qX;split
 ·rename_i hc;have:=hs.pos (hnz hc.1);refine⟨fun hz=> ?_,fun _=> ?_⟩
  ·rw[show({m2 with aE:=de (m2.aE+1) 1000000}:ab).aa=m2.aa from rfl,hnz hc.1]at hz
   cases hz
  ·show 1<=de (m2.aE+1) 1000000;unfold de;split<;>omega
 ·exact hs
def HN(R:ab->Prop)(m m1:ab)(q:ab×Int×Unit):Prop:=∃m2,q=(qX m m2,(0:Int),())/\Fg R (c8 m1) m2
theorem aff{R:ab->Prop}{m1 m2:ab}(h1:bp m1)(h:Fg R m1 m2):Fg R (c8 m1) m2:=by
 obtain⟨e1,e2,e3,e4,e5,e6⟩:=Dm m1;refine⟨h.inv,h.seq,?_,?_,fun hz=>h.nz (by rw[e6]at hz;exact hz),h.rel,h.fix⟩
 ·obtain⟨a1,a2,a3,a4,a5⟩:=h.env;exact⟨a1.trans e1.symm,a2.trans e2.symm,a3.trans e3.symm,a4.trans e4.symm,a5.trans e5.symm⟩
 ·have hn:=h.num;have hq:=h1.seq
  cases hz:aF m1.aa with
  |true=>
   have:c8 m1=m1:=Qs (by rw[hz];decide)
   rw[this];exact hn
  |false=>
   have h3:=h.seq.pos (h.nz hz);have:(c8 m1).aE=bC m1.aE 1:=by unfold c8;rw[Qr hz]
   rw[this];left;unfold bC;split<;>omega
theorem aeU{m:ab}(h:bp m):cQ ({cD m with aE:=0}:ai).aj:=by rw[show({cD m with aE:=0}:ai).aj=(cD m).aj from rfl,oL];exact h.aL.sm
theorem CE{R:ab->Prop}(hR1:∀m,bp m->R m->R (cn m))(hR2:∀m,R m->R (c8 m)){m m1:ab}(h:bp m)(h1:bp m1)(hz1:aF m1.aa=true->m1.aE=0)(hnz:aF m.aa=false->aF m1.aa=false)(hr:R m1):
  Yd (iv m (c8 m1)) fun q=>∃m2,q=qX m m2/\Fg R (c8 m1) m2:=by
 unfold iv;simp only[etas];refine Yd.bind (aaX hR1 hR2 (yf h1) (J2 hz1) (hR2 _ hr)) fun m2 ha=> ?_
 have hq:=ha.inv.seq;obtain⟨r,g1,g2⟩:=aiP (a:={cD m with aE:=0}) (b:={cD m2 with aE:=0}) (aeU h)
 have hadd:aA .i64 m2.aE 1=m2.aE+1:=bD (by omega) (by omega)
 simp only[c7,Qa,zQ,aN,g1,hadd]
 cases hz2:aF m2.aa with
 |true=>
  have hz:aF m.aa=true:=by
   cases hc:aF m.aa with
   |true=>rfl
   |false=>rw[ha.nz (by rw[(Dm m1).2.2.2.2.2];exact hnz hc)]at hz2;cases hz2
  refine .some ⟨m2,?_,ha⟩;unfold qX;rw[Qs (by rw[hz];rintro⟨e,_⟩;cases e)]
 |false=>
  refine Yd.of_eq (x:=qX m m2) ?_ ⟨m2,rfl,ha⟩;unfold qX
  cases hz:aF m.aa with
  |true=>rw[Qs (by rintro⟨e,_⟩;cases e)];rfl
  |false=>
   cases r with
   |true=>rw[Qs (fun e=>e.2 (g2.1 rfl))];rfl
   |false=>rw[Qr ⟨rfl,fun e=>by have:=g2.2 e;cases this⟩];rfl
theorem afG(a b:ai)(h:cQ a.aj)(hn:a.an=b.an)(hs:a.aY=b.aY):∃r,pr a b=some r/\(r=true↔{a with aE:=0}={b with aE:=0}):=by
 obtain⟨r,h1,h2⟩:=eqT (a:=a.aj) (b:=b.aj) h;refine⟨r&&decide (a.bF=b.bF)&&decide (a.aa=b.aa)&&decide (a.ao=b.ao)&&decide (a.az=b.az)&&decide (a.aS=b.aS)&&decide (a.bl=b.bl),?_,?_⟩
 ·unfold pr;simp only[etas,h1,Qa,Xy,Xp,<-Bool.decide_and,<-OS,Qa]
 ·rw[Xq];simp only[Qm,Qi,hn,hs,h2,true_and];simp only[and_assoc]
theorem He{m:ab}(h:bp m):mV m=some m:=by
 unfold mV;simp only[etas,oX h.aL.sm,Qa];rw[VW (fun e he=>(h.hv e he).2.1.sm) (by have:=h.len;omega)]
 rfl
theorem RD{l:List ai}{e:ai}(hv:aU e=true):
  (∃x∈l,x.an=e.an/\e.aE<=x.aE/\qm l e=(l,false,()))\/
  (∃a b,((∃x,l=a++x::b/\x.an=e.an/\x.aE<e.aE)\/(l=a++b/\(∀x∈l,x.an≠e.an)/\(∀x∈a,¬e.an<x.an)/\(∀x,b.head?=some x->e.an<x.an)))/\qm l e=(a++e::b,true,())):=by
 unfold qm;rw[Qr hv]
 cases hf:l.findIdx? (fun x=>decide (x.an=e.an))with
 |some i=>
  obtain⟨hi,h2,_⟩:=List.findIdx?_eq_some_iff_getElem.1 hf;have hx:l[i]?=some l[i]:=Qv hi;have h2:=of_decide_eq_true h2;simp only[hx,Q3]
  by_cases hle:e.aE<=l[i].aE
  ·left;rw[Qr hle];exact⟨l[i],Q0 hi,h2,hle,rfl⟩
  ·right;rw[Qs hle];refine⟨l.take i,l.drop (i+1),.inl ⟨l[i],?_,h2,by omega⟩,?_⟩
   ·rw[List.getElem_cons_drop];exact(List.take_append_drop i l).symm
   ·rw[List.set_eq_take_append_cons_drop,Qr hi]
 |none=>
  right
  have hne:∀x∈l,x.an≠e.an:=fun x hx he=>by
   have:=List.findIdx?_eq_none_iff.1 hf x hx;rw[he]at this;simp at this
  refine⟨l.take (HM l e),l.drop (HM l e),.inr ⟨(List.take_append_drop _ l).symm,hne,?_,?_⟩,by rw[QL];rfl⟩
  ·intro x hx hlt;obtain⟨j,hj,rfl⟩:=List.getElem_of_mem hx;rw[List.getElem_take]at hlt;rw[List.length_take]at hj;unfold HM at hj
   cases hg:l.findIdx? (fun x=>decide (e.an<x.an))with
   |none=>
    have:=List.findIdx?_eq_none_iff.1 hg _ (Q0 (show j<l.length by omega))
    simp[hlt]at this
   |some k=>
    obtain⟨_,_,h3⟩:=List.findIdx?_eq_some_iff_getElem.1 hg;rw[hg,Q3]at hj;have:=h3 j (by omega)
    simp[hlt]at this
  ·intro x hx;rw[List.head?_drop]at hx;unfold HM at hx
   cases hg:l.findIdx? (fun x=>decide (e.an<x.an))with
   |none=>rw[hg,Option.getD_none,Qq72 (QI _)]at hx;cases hx
   |some k=>
    obtain⟨hk,h2,_⟩:=List.findIdx?_eq_some_iff_getElem.1 hg;rw[hg,Q3,Qv hk]at hx;obtain rfl:=Option.some.inj hx;exact of_decide_eq_true h2
theorem adY{l:List ai}{e:ai}{y:ai}(hy:y∈(qm l e).1):y=e\/y∈l:=by
 by_cases hv:aU e=true
 ·rcases RD (l:=l) hv with⟨x,_,_,_,h⟩|⟨a,b,h1,h⟩
  ·rw[h]at hy;exact .inr hy
  ·rw[h]at hy;rcases Qz.1 hy with hy|hy
   ·rcases h1 with⟨x,rfl,_⟩|⟨rfl,_⟩
    ·exact .inr (List.mem_append_left _ hy)
    ·exact .inr (List.mem_append_left _ hy)
   ·rcases QA.1 hy with hy|hy
    ·exact .inl hy
    ·rcases h1 with⟨x,rfl,_⟩|⟨rfl,_⟩
     ·exact .inr (List.mem_append_right _ (Qy _ hy))
     ·exact .inr (List.mem_append_right _ hy)
 ·unfold qm at hy;rw[Qs hv]at hy;exact .inr hy
theorem Yh{l:List ai}{e:ai}(hl:l.Pairwise (fun a b=>a.an<b.an)):(qm l e).1.Pairwise (fun a b=>a.an<b.an):=by
 by_cases hv:aU e=true
 ·rcases RD (l:=l) hv with⟨x,_,_,_,h⟩|⟨a,b,h1,h⟩
  ·rw[h];exact hl
  ·rw[h];show(a++e::b).Pairwise _;rcases h1 with⟨x,rfl,hn,_⟩|⟨rfl,hne,ha,hb⟩
   ·rw[Qq69,Q4]at hl ⊢;obtain⟨g1,⟨g2,g3⟩,g4⟩:=hl;refine⟨g1,⟨fun y hy=> ?_,g3⟩,fun y hy z hz=> ?_⟩
    ·rw[<-hn];exact g2 y hy
    ·rcases QA.1 hz with rfl|hz
     ·rw[<-hn];exact g4 y hy x Qx
     ·exact g4 y hy z (Qy _ hz)
   ·rw[Qq69]at hl;rw[Qq69,Q4];obtain⟨g1,g3,g4⟩:=hl
    have hbe:∀y∈b,e.an<y.an:=by
     intro y hy
     cases b with
     |nil=>cases hy
     |cons z b=>
      have:=hb z rfl;rcases QA.1 hy with rfl|hy
      ·exact this
      ·have:=(Q4.1 g3).1 y hy;omega
    refine⟨g1,⟨hbe,g3⟩,fun y hy z hz=> ?_⟩
    rcases QA.1 hz with rfl|hz
    ·have h2:=ha y hy;have h3:=hne y (List.mem_append_left _ hy);omega
    ·exact g4 y hy z hz
 ·unfold qm;rw[Qs hv];exact hl
structure vI (m:ab) (e:ai):Prop where
 valid:aU e=true
 aL:dQ e.aj
 aG:e.aY=m.aY
 aB:e.an≠m.an
 def Bk(m:ab)(e:ai):ab:={m with aq:=(qm m.aq e).1}
theorem G1{m:ab}(h:bp m){e:ai}(he:vI m e):bp (Bk m e):=by
 refine⟨h.n0,h.n1,h.aG,h.seq,h.aL,h.s7,fun y hy=> ?_,Yh h.eZ,?_⟩
 ·rcases adY hy with rfl|hy
  ·exact⟨he.valid,he.aL,he.aG,he.aB⟩
  ·exact h.hv y hy
 ·rcases h.body with k|k|k|k
  ·exact .inl ⟨k.aT,k.aQ,k.dC,k.bV,k.ed,k.low,k.bU⟩
  ·exact .inr (.inl ⟨k.aT,k.aQ,k.dC,k.bV,k.ed,k.up,k.bU,k.low⟩)
  ·exact .inr (.inr (.inl ⟨k.aT,k.aQ,k.dC,k.bV,k.ed,k.range⟩))
  ·exact .inr (.inr (.inr ⟨k.aT,k.aQ,k.dC,k.bV,k.ed,k.range⟩))
def G9(m:ab)(t:ae):ab:={m with aj:=t}
theorem Vf{m:ab}(h:bp m){t:ae}(ht:dQ t):bp (G9 m t):=by
 refine⟨h.n0,h.n1,h.aG,h.seq,ht,h.s7,h.hv,h.eZ,?_⟩;rcases h.body with k|k|k|k
 ·exact .inl ⟨k.aT,k.aQ,k.dC,k.bV,k.ed,k.low,k.bU⟩
 ·exact .inr (.inl ⟨k.aT,k.aQ,k.dC,k.bV,k.ed,k.up,k.bU,k.low⟩)
 ·exact .inr (.inr (.inl ⟨k.aT,k.aQ,k.dC,k.bV,k.ed,k.range⟩))
 ·exact .inr (.inr (.inr ⟨k.aT,k.aQ,k.dC,k.bV,k.ed,k.range⟩))
def ep(m:ab)(v:ByteArray):ab:=if aF m.aa=true then{m with bb:=v,aa:=⟨1,dO {m with bb:=v}⟩}else{m with bb:=v}
theorem adB{v:ByteArray}(h:1<=v.size):v≠fH:=by
 rintro rfl;exact absurd h (by decide)
theorem Tv{m:ab}(h:P0 m){v:ByteArray}(hv:1<=v.size):dO {m with bb:=v}=v:=by
 unfold dO;rw[Qs (by rw[show({m with bb:=v}:ab).ax=m.ax from rfl,h.ed,bP];decide),Qs (by rw[show({m with bb:=v}:ab).aK=m.aK from rfl,h.aT];decide),Qr (adB hv)]
theorem Dh{m:ab}(h:bp m){v:ByteArray}(hv:1<=v.size/\v.size<=200):bp (ep m v):=by
 unfold ep;rcases h.body with k|k|k|k
 ·rw[Qr (by rw[k.aQ];exact bP),Tv k hv.1]
  refine⟨h.n0,h.n1,h.aG,h.seq,h.aL,hv.2,h.hv,h.eZ,.inr (.inl ⟨k.aT,⟨by show(1:Int)<=1;omega,by show(1:Int)<=1000;omega,hv.1,hv.2⟩,.inl k.dC,.inl k.bV,.inl k.ed,?_,k.bU,.inl k.low⟩)⟩
  show bz _ m.ax=false;rw[k.ed]
  cases hl:bz (⟨1,v⟩:af) bZ with
  |false=>rfl
  |true=>have:=jd hl;exact absurd (show(1:Int)<=0 from this) (by decide)
 ·rw[Qs (by rw[k.aQ.nz];decide)]
  exact⟨h.n0,h.n1,h.aG,h.seq,h.aL,hv.2,h.hv,h.eZ,.inr (.inl ⟨k.aT,k.aQ,k.dC,k.bV,k.ed,k.up,k.bU,k.low⟩)⟩
 ·rw[Qs (by rw[k.aQ.nz];decide)]
  exact⟨h.n0,h.n1,h.aG,h.seq,h.aL,hv.2,h.hv,h.eZ,.inr (.inr (.inl ⟨k.aT,k.aQ,k.dC,k.bV,k.ed,k.range⟩))⟩
 ·rw[Qs (by rw[k.aQ.nz];decide)]
  exact⟨h.n0,h.n1,h.aG,h.seq,h.aL,hv.2,h.hv,h.eZ,.inr (.inr (.inr ⟨k.aT,k.aQ,k.dC,k.bV,k.ed,k.range⟩))⟩
def qb(m:ab):ab:={m with aS:=if dO m=m.aa.Value then m.aS else 0,aa:=⟨m.aa.ak+1,dO m⟩}
theorem aba{m:ab}(h:bp m)(h3:m.aK≠3)(hv:dO m≠fH):1<=(dO m).size/\(dO m).size<=200:=by
 have h1:m.aK=1->(m.ax=bZ\/di m.ax)->1<=(dO m).size/\(dO m).size<=200:=fun hp hc=>by
  refine WC h hp hc ?_;refine Classical.byContradiction fun hn=>hv ?_
  simp only[not_or,Classical.not_not]at hn;obtain⟨a1,a2,a3⟩:=hn;unfold dO;rw[Qs (by rw[a3,bP];decide),Qs (by rw[hp];decide),Qs (by rw[a2];exact fun e=>e rfl),a1]
  rfl
 rcases h.body with k|k|k|k
 ·exact h1 k.aT (.inl k.ed)
 ·exact h1 k.aT (k.ed.imp_right And.left)
 ·unfold dO;rcases k.ed with e|⟨hf,_⟩
  ·rw[Qs (by rw[e,bP];decide),Qr (by rw[k.aT];decide)]
   exact k.aQ.2.2
  ·rw[Qr hf.nz];exact hf.2.2
 ·exact absurd k.aT h3
theorem ag5{m:ab}(k:P2 m):dO m=m.aa.Value:=by
 unfold dO;rcases k.ed with e|⟨hf,he⟩
 ·rw[Qs (by rw[e,bP];decide),Qr (by rw[k.aT];decide)]
 ·rw[Qr hf.nz,he]
theorem TC{m:ab}(h:bp m)(h3:m.aK≠3)(hv:dO m≠fH)(hc:m.aa.ak<1000):bp (qb m):=by
 have hsz:=aba h h3 hv;refine⟨h.n0,h.n1,h.aG,h.seq,h.aL,h.s7,h.hv,h.eZ,?_⟩;have hfin:0<=m.aa.ak->di (qb m).aa:=fun h0=>⟨by show 1<=m.aa.ak+1;omega,by show m.aa.ak+1<=1000;omega,hsz⟩
 rcases h.body with k|k|k|k
 ·have h0:m.aa.ak=0:=by rw[k.aQ];rfl
  refine .inr (.inl ⟨k.aT,hfin (by omega),.inl k.dC,.inl k.bV,.inl k.ed,?_,k.bU,.inl ?_⟩)
  ·show bz (⟨m.aa.ak+1,dO m⟩:af) m.ax=false;rw[k.ed]
   cases hl:bz (⟨m.aa.ak+1,dO m⟩:af) bZ with
   |false=>rfl
   |true=>have:=jd hl;exact absurd (show m.aa.ak+1<=0 from this) (by omega)
  ·show(if dO m=m.aa.Value then m.aS else 0)=0
   rw[k.low,ite_self]
 ·have hb:=k.aQ;have h0:0<=m.aa.ak:=by have:=hb.1;omega
  refine .inr (.inl ⟨k.aT,hfin h0,k.dC,k.bV,k.ed,?_,k.bU,?_⟩)
  ·show bz (⟨m.aa.ak+1,dO m⟩:af) m.ax=false
   cases hl:bz (⟨m.aa.ak+1,dO m⟩:af) m.ax with
   |false=>rfl
   |true=>
    have h1:=jd hl;have h2:=LV k.up;exact absurd (show m.aa.ak+1<=m.ax.ak from h1) (by omega)
  ·show(if dO m=m.aa.Value then m.aS else 0)=0\/_
   by_cases he:dO m=m.aa.Value
   ·have hlow:(qb m).aS=m.aS:=by show(if dO m=m.aa.Value then m.aS else 0)=m.aS;rw[Qr he]
    have hhigh:ft (qb m)=ft m:=by
     show(if(!aF m.ax&&bM m.ax ⟨m.aa.ak+1,dO m⟩)=true then m.ax.ak else 0)=ft m
     rw[he];rfl
    rw[Qr he,hlow,hhigh];rcases k.low with e|⟨g1,g2,g3⟩
    ·exact .inl e
    ·refine .inr ⟨g1,g2,?_⟩;show nv m.ao m.az (dO m) m.aS=false;rw[he];exact g3
   ·rw[Qs he];exact .inl rfl
 ·have hb:=k.aQ;have h0:0<=m.aa.ak:=by have:=hb.1;omega
  have hv2:=ag5 k;have hval:(qb m).aa.Value=m.aa.Value:=hv2;have hlow:(qb m).aS=m.aS:=by show(if dO m=m.aa.Value then m.aS else 0)=m.aS;rw[Qr hv2]
  refine .inr (.inr (.inl ⟨k.aT,hfin h0,?_,k.bV,?_,?_⟩))
  ·rw[hval];exact k.dC
  ·rw[hval];exact k.ed
  ·rw[hlow];exact k.range
 ·exact absurd k.aT h3
end
section
def ag4:ae:=⟨0,[],[]⟩
def JG:ab:=⟨0,0,0,ag4,0,bZ,bZ,bZ,bZ,0,0,fH,[]⟩
theorem Ui{m m1:ab}(hs:fQ m)(hb:aF m1.aa=aF m.aa)(hq:m1.aE=m.aE):c8 m1=m1:=by
 refine aeo ⟨fun hz=> ?_,fun hz=> ?_⟩
 ·rw[hq];exact hs.zero (by rw[<-hb];exact hz)
 ·rw[hq];exact hs.pos (by rw[<-hb];exact hz)
theorem nM{m:ab}{v:ByteArray}:(aF m.aa=false->aF (ep m v).aa=false)/\(ep m v).aE=m.aE:=by
 unfold ep;split
 ·rename_i hz;refine⟨fun e=> ?_,rfl⟩
  rw[hz]at e;cases e
 ·exact⟨fun e=>e,rfl⟩
theorem abH{m:ab}(h:bp m){v:ByteArray}(hv:1<=v.size/\v.size<=200):aF (ep m v).aa=false:=by
 rcases h.body with k|k|k|k
 ·unfold ep;rw[Qr (by rw[k.aQ];exact bP),Tv k hv.1]
  exact di.nz ⟨by show(1:Int)<=1;omega,by show(1:Int)<=1000;omega,hv.1,hv.2⟩
 ·exact nM.1 k.aQ.nz
 ·exact nM.1 k.aQ.nz
 ·exact nM.1 k.aQ.nz
theorem JK{m:ab}(h:bp m):aF (qb m).aa=false:=by
 have:0<=m.aa.ak:=by
  rcases h.body with k|k|k|k
  ·rw[k.aQ];decide
  ·have:=k.aQ.1;omega
  ·have:=k.aQ.1;omega
  ·have:=k.aQ.1;omega
 cases hz:aF (qb m).aa with
 |false=>rfl
 |true=>
  have:=yE.1 hz;have h2:m.aa.ak+1=0:=congrArg af.ak this;omega
section
variable {R : ab -> Prop} (hR1 : ∀ m, bp m -> R m -> R (cn m)) (hR2 : ∀ m, R m -> R (c8 m)) {m : ab} (h : bp m) (hs : fQ m)
 include hR1 hR2 h hs
theorem LM{v:ByteArray}(hv:1<=v.size/\v.size<=200)(hr:R (ep m v)):Yd (kh m v) (HN R m (ep m v)):=by
 have d1:decide (((ByteArray.size v:Nat):Int)<(1:Int))=false:=Qh (by omega)
 have d2:decide ((200:Int)<((ByteArray.size v:Nat):Int))=false:=Qh (by omega)
 have hi:=Dh h hv;have hval:om {m with bb:=v}=some (dO {m with bb:=v}):=Pb (m:={m with bb:=v}) ⟨h.ev.n0,h.ev.n1,h.ev.aL,h.ev.len,h.ev.sm,h.ev.valid⟩
 unfold kh;simp only[etas,wz h hs,Qa,Qo,Ql,d1,d2,c7,aN]
 have key:Yd ((iv m (c8 (ep m v))).bind fun r5=>some (r5,(0:Int),())) (HN R m (ep m v)):=
  Yd.bind (CE hR1 hR2 h hi (fun hz=>by rw[nM.2];exact hs.zero (by cases hc:aF m.aa with|true=>rfl|false=>rw[nM.1 hc]at hz;cases hz)) nM.1 hr) fun q hq=>by
   obtain⟨m2,rfl,ha⟩:=hq;exact .some ⟨m2,rfl,ha⟩
 cases hz:aF m.aa with
 |true=>
  have hsq:=hs.zero hz
  have he:c8 (ep m v)=⟨m.an,m.aY,1,m.aj,m.aK,⟨1,dO {m with bb:=v}⟩,m.ao,m.az,m.ax,m.aS,m.bl,v,m.aq⟩:=by
   unfold c8;rw[Qr (abH h hv),nM.2,hsq];unfold ep;rw[Qr hz];rfl
  rw[he]at key;simp only[Qk];rw[show(⟨m.an,m.aY,m.aE,m.aj,m.aK,m.aa,m.ao,m.az,m.ax,m.aS,m.bl,v,m.aq⟩:ab)={m with bb:=v}from rfl,hval]
  exact key
 |false=>
  have he:c8 (ep m v)=⟨m.an,m.aY,m.aE,m.aj,m.aK,m.aa,m.ao,m.az,m.ax,m.aS,m.bl,v,m.aq⟩:=by
   rw[Ui hs (by rw[nM.1 hz,hz]) nM.2]
   unfold ep;rw[Qs (by rw[hz];decide)]
  rw[he]at key;exact key
theorem LL{e:ai}(he:vI m e)(hr:R (Bk m e)):Yd (kg m e) fun q=>(HN R m (Bk m e) q/\(qm m.aq e).2.1=true)\/(q=(JG,(9:Int),())/\(qm m.aq e).2.1=false):=by
 have hi:=G1 h he;have hlen:=h.len;have hput:=adM (l:=m.aq) (fun x hx=>(h.hv x hx).2.1.sm) (by omega) (e:=e) he.aL.sm
 have hid:c8 (Bk m e)=Bk m e:=Ui hs rfl rfl;unfold kg;simp only[etas,wz h hs,Qa,Qo,Ql,ka he.aL.sm,he.valid,Qh he.aB,Qg he.aG,hput]
 cases hp:(qm m.aq e).2.1 with
 |false=>exact .some (.inr ⟨rfl,rfl⟩)
 |true=>
  have:=CE hR1 hR2 h hi hs.zero (fun e=>e) hr
  rw[hid]at this;refine Yd.bind this fun q hq=> ?_
  obtain⟨m2,rfl,ha⟩:=hq;exact .some (.inl ⟨⟨m2,rfl,by rw[hid];exact ha⟩,rfl⟩)
theorem abq(hr:R (qb m)):Yd (ra m) fun q=>(HN R m (qb m) q/\m.aK≠3/\dO m≠fH/\m.aa.ak<1000)\/(q=(JG,(62:Int),())/\(m.aK=3\/dO m=fH))\/(q=(JG,(3:Int),())/\1000<=m.aa.ak):=by
 unfold ra;simp only[etas,wz h hs,Qa,Qo,Ql,Pb h.ev,aN]
 by_cases h3:m.aK=3
 ·rw[Qg h3];exact .some (.inr (.inl ⟨rfl,.inl h3⟩))
 ·rw[Qh h3]
  by_cases hv:dO m=ByteArray.mk #[]
  ·rw[Qg hv];exact .some (.inr (.inl ⟨rfl,.inr hv⟩))
  ·rw[Qh hv]
   by_cases hc:(1000:Int)<=m.aa.ak
   ·rw[Qg hc];exact .some (.inr (.inr ⟨rfl,hc⟩))
   ·rw[Qh hc];have hi:=TC h h3 hv (by omega)
    have hb0:0<=m.aa.ak:=by
     rcases h.body with k|k|k|k
     ·rw[k.aQ];decide
     ·have:=k.aQ.1;omega
     ·have:=k.aQ.1;omega
     ·have:=k.aQ.1;omega
    have hadd:aA .i64 m.aa.ak 1=m.aa.ak+1:=bD (by omega) (by omega)
    have key:Yd ((iv m (c8 (qb m))).bind fun r5=>some (r5,(0:Int),())) (HN R m (qb m)):=
     Yd.bind (CE hR1 hR2 h hi (fun hz=>by rw[JK h]at hz;cases hz) (fun _=>JK h) hr) fun q hq=>by
      obtain⟨m2,rfl,ha⟩:=hq;exact .some ⟨m2,rfl,ha⟩
    have he:c8 (qb m)=⟨m.an,m.aY,bC m.aE 1,m.aj,m.aK,⟨m.aa.ak+1,dO m⟩,m.ao,m.az,m.ax,(if dO m=m.aa.Value then m.aS else 0),m.bl,m.bb,m.aq⟩:=by
     unfold c8;rw[Qr (JK h)];rfl
    rw[he]at key;simp only[hadd,Ql]
    by_cases hev:dO m=m.aa.Value
    ·simp only[Qg hev,Qo,Ql];rw[Qr hev]at key;exact key.mono fun q hq=> .inl ⟨hq,h3,hv,by omega⟩
    ·simp only[Qh hev,Qp,Qk];rw[Qs hev]at key;exact key.mono fun q hq=> .inl ⟨hq,h3,hv,by omega⟩
theorem aby{t:ae}(ht:dQ t)(hr:R (G9 m t)):Yd (rh m t) (HN R m (G9 m t)):=by
 have hi:=Vf h ht;have hid:c8 (G9 m t)=G9 m t:=Ui hs rfl rfl;unfold rh;simp only[etas,wz h hs,Qa,Qo,Ql,dE ht,decide_true];have:=CE hR1 hR2 h hi hs.zero (fun e=>e) hr
 rw[hid]at this;refine Yd.bind this fun q hq=> ?_
 obtain⟨m2,rfl,ha⟩:=hq;exact .some ⟨m2,rfl,by rw[hid];exact ha⟩
end
def Ca(aB aG:Int)(t:ae):ab:=⟨aB,aG,0,t,1,bZ,bZ,bZ,bZ,0,0,fH,[]⟩
theorem abr{aB aG:Int}{t:ae}(h0:0<=aB)(h1:aB<10)(h2:1<=aG)(h3:aG<=1000000)(ht:dQ t):Bs aB aG t=some (Ca aB aG t,(0:Int),()):=by
 unfold Bs;simp only[etas,Qh (show¬aB<0 by omega),Qh (show¬(9:Int)<aB by omega),Qh (show¬aG<1 by omega),Qh (show¬(1000000:Int)<aG by omega),Ql,Qa,dE ht,decide_true,Qo]
 rfl
theorem af1{aB aG:Int}{t:ae}(h0:0<=aB)(h1:aB<10)(h2:1<=aG)(h3:aG<=1000000)(ht:dQ t):xW aB aG t=some (Ca aB aG t,(0:Int),()):=by
 unfold xW;simp only[etas,Qh (show¬aB<0 by omega),Qh (show¬(10:Int)<=aB by omega),Qh (show¬aG<1 by omega),Qh (show¬(1000000:Int)<aG by omega),Ql,Qa,c5 ht,decide_true,Qo,oX ht.sm]
 rfl
theorem J3{aB aG:Int}{t:ae}(h0:0<=aB)(h1:aB<10)(h2:1<=aG)(h3:aG<=1000000)(ht:dQ t):bp (Ca aB aG t)/\fQ (Ca aB aG t):=
 ⟨⟨h0,h1,⟨h2,h3⟩,⟨by show(0:Int)<=0;omega,by show(0:Int)<=1000000;omega⟩,ht,(by show fH.size<=200;decide),(fun e he=>absurd he QR),List.Pairwise.nil,.inl ⟨rfl,rfl,rfl,rfl,rfl,rfl,rfl⟩⟩,⟨fun _=>rfl,fun hz=>absurd (show aF bZ=false from hz) (by rw[bP];decide)⟩⟩
section
variable {R : ab -> Prop} (hR1 : ∀ m, bp m -> R m -> R (cn m)) (hR2 : ∀ m, R m -> R (c8 m)) {m : ab} (h : bp m) (hs : fQ m)
 include hR1 hR2 h hs
theorem Vt{m1:ab}(h1:bp m1)(hz1:aF m1.aa=true->m1.aE=0)(hnz:aF m.aa=false->aF m1.aa=false)(hn:m1.an=m.an)(hsl:m1.aY=m.aY)(hr:R m1):
  Yd (Option.bind (gP ⟨m1⟩) fun p4=>
   aX (fun(v5:aH×Unit)=>some (v5.1.al,(0:Int),())) fun j6=>
   aX (fun(v7:Bool×Unit)=>
   bif v7.1 then
   j6 ((aH.mk (ab.mk p4.2.al.an p4.2.al.aY (de (aA .i64 p4.2.al.aE (1:Int)) (1000000:Int)) p4.2.al.aj p4.2.al.aK p4.2.al.aa p4.2.al.ao p4.2.al.az p4.2.al.ax p4.2.al.aS p4.2.al.bl p4.2.al.bb p4.2.al.aq)),())
   else
   j6 (p4.2,())) fun j8=>
   Option.bind (bw m.aa) fun r9=>
   bif (!r9)then
   Option.bind (dV m) fun r10=>
   Option.bind (dV p4.2.al) fun r11=>
   Option.bind (pr r10 r11) fun r12=>
   j8 ((!r12),())
   else
   j8 (false,())) (HN R m m1):=by
 refine Yd.bind (aaW hR1 hR2 h1 hz1 hr) fun q hq=> ?_
 obtain⟨m2,rfl,ha⟩:=hq;have hq:=ha.inv.seq;have hadd:aA .i64 m2.aE 1=m2.aE+1:=bD (by omega) (by omega)
 obtain⟨r,g1,g2⟩:=afG (cD m) (cD m2) (by rw[oL];exact h.aL.sm) (by rw[vq,vq,ha.env.1,hn]) (by rw[BS,BS,ha.env.2.1,hsl])
 simp only[aN,cz,Qa,BB,FA h,FA ha.inv,hadd,g1];have hb:=aff h1 ha;refine Yd.of_eq (x:=(qX m m2,(0:Int),())) ?_ ⟨m2,rfl,hb⟩;unfold qX
 cases hz:aF m.aa with
 |true=>rw[Qs (by rintro⟨e,_⟩;cases e)];rfl
 |false=>
  cases r with
  |true=>rw[Qs (fun e=>e.2 (g2.1 rfl))];rfl
  |false=>rw[Qr ⟨rfl,fun e=>by have:=g2.2 e;cases this⟩];rfl
theorem Ub{v:ByteArray}(hv:1<=v.size/\v.size<=200)(hr:R (ep m v)):Yd (me m v) (HN R m (ep m v)):=by
 have d1:decide (((ByteArray.size v:Nat):Int)<(1:Int))=false:=Qh (by omega)
 have d2:decide ((200:Int)<((ByteArray.size v:Nat):Int))=false:=Qh (by omega)
 have hi:=Dh h hv;have hval:iJ ⟨{m with bb:=v}⟩=some (dO {m with bb:=v}):=T5 (m:={m with bb:=v}) ⟨h.ev.n0,h.ev.n1,h.ev.aL,h.ev.len,h.ev.sm,h.ev.valid⟩
 have hdo:qg ⟨m⟩ v=some ((0:Int),⟨ep m v⟩):=by
  unfold qg ep;simp only[d1,d2,Ql,Qa,cz,aN]
  cases hz:aF m.aa with
  |true=>
   simp only[Qk,Qt,etas];rw[show(⟨m.an,m.aY,m.aE,m.aj,m.aK,m.aa,m.ao,m.az,m.ax,m.aS,m.bl,v,m.aq⟩:ab)={m with bb:=v}from rfl,hval]
   rfl
  |false=>simp only[Ql,Qq,Qu,etas]
 unfold me sN;simp only[etas,aH.eta,C4 h hs,He h,hdo,Qa,Qo,Ql,decide_true];refine Yd.bind (Vt hR1 hR2 h hs hi (fun hz=>by rw[nM.2];exact hs.zero (by cases hc:aF m.aa with|true=>rfl|false=>rw[nM.1 hc]at hz;cases hz)) nM.1 (by unfold ep;split<;>rfl) (by unfold ep;split<;>rfl) hr) fun q hq=> ?_
 obtain⟨m2,rfl,ha⟩:=hq;exact .some ⟨m2,rfl,ha⟩
theorem abN{e:ai}(he:vI m e)(hr:R (Bk m e)):Yd (jW m e) fun q=>(HN R m (Bk m e) q/\(qm m.aq e).2.1=true)\/(q=(JG,(9:Int),())/\(qm m.aq e).2.1=false):=by
 have hi:=G1 h he;have hlen:=h.len;have hput:=agS (l:=m.aq) (fun x hx=>(h.hv x hx).2.1.sm) (by omega) (e:=e) he.aL.sm
 have hdo:kp ⟨m⟩ e=some (bif (qm m.aq e).2.1 then((0:Int),⟨Bk m e⟩)else((9:Int),⟨m⟩)):=by
  unfold kp;simp only[etas,aN,rN he.aL.sm,he.valid,Qa,Qo,Ql,Qh he.aB,Qg he.aG,hput];cases (qm m.aq e).2.1<;>rfl
 unfold jW n5;simp only[etas,aH.eta,C4 h hs,He h,hdo,Qa,Qo,Ql]
 cases hp:(qm m.aq e).2.1 with
 |false=>exact .some (.inr ⟨rfl,rfl⟩)
 |true=>
  simp only[Qk,decide_true,Qo,Ql];refine Yd.bind (Vt hR1 hR2 h hs hi hs.zero (fun e=>e) rfl rfl hr) fun q hq=> ?_
  obtain⟨m2,rfl,ha⟩:=hq;exact .some (.inl ⟨⟨m2,rfl,ha⟩,trivial⟩)
end
theorem Uc{m:ab}(h:bp m)(hs:fQ m):∃e,sb m=some (e,!aF m.aa,())/\(aF m.aa=false->e=cD m):=by
 unfold sb;simp only[etas,cz,C4 h hs,He h,BB,FA h,Qa]
 cases aF m.aa with
 |true=>exact⟨_,rfl,fun e=>by cases e⟩
 |false=>exact⟨_,rfl,fun _=>rfl⟩
theorem Gz{m:ab}(h:bp m)(hs:fQ m):oE m=some (bif decide (m.aK=3)then m.aa.Value else fH,decide (m.aK=3),()):=by
 unfold oE;simp only[etas,C4 h hs,Qa];cases decide (m.aK=3)<;>rfl
theorem aea{m:ab}(h:bp m)(hs:fQ m){e:ai}(ht:cQ e.aj)(hbad:aU e=false\/e.an=m.an\/e.aY≠m.aY):jW m e=some (JG,(61:Int),()):=by
 have hdo:kp ⟨m⟩ e=some ((61:Int),⟨m⟩):=by
  unfold kp;simp only[etas,aN,rN ht,Qa]
  cases hv:aU e with
  |false=>rfl
  |true=>
   by_cases hn:e.an=m.an
   ·rw[Qg hn];rfl
   ·have hsl:e.aY≠m.aY:=(hbad.resolve_left (by rw[hv];decide)).resolve_left hn
    rw[Qh hn,Qh hsl];rfl
 unfold jW n5;simp only[etas,aH.eta,C4 h hs,He h,hdo,Qa,Qo,Ql];rfl
end
end Go.Proofs.YtjbfdglebjnelaaGreat
end
