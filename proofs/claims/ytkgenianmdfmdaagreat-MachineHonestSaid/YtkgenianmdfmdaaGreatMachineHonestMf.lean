/-
  Texts made small by a program (see NOTES). Conditions: those that each theorem names.
-/
import Derived.Test.YtkgenianmdfmdaaGreatMachineHonestMe
set_option linter.unusedVariables false
set_option linter.unusedSimpArgs false
set_option linter.unusedSectionVars false
set_option maxHeartbeats 2000000
noncomputable section
namespace Go.Proofs.YtkgenianmdfmdaaGreat
open Go.TQ
def jB{A ρ:Type}(g:A->Int->A⊕ρ)(fin:A->Option ρ):List Int->A->Option ρ
 |[],a=>fin a
 |x::l,a=>match g a x with
  | .inl a'=>jB g fin l a'
  | .inr r=>some r
theorem u7{A σ ρ:Type}(b:List Int)(hb:b.length<=1000000)(st:A->Int->σ)(g:A->Int->A⊕ρ)(fin:A->Option ρ){step:σ->Option (σ⊕ρ)}
  (h1:∀(i:Nat) (x:Int) (a:A),idx b (i:Int)=some x->decide ((0:Int)<=(i:Int))=true->dK .i64 (i:Int) 1=(i:Int) - 1->step (st a (i:Int))=some (match g a x with| .inl a'=> .inl (st a' ((i:Int) - 1))| .inr r=> .inr r))
  (h2:∀a,decide ((0:Int)<=(-1:Int))=false->step (st a (-1))=Option.map Sum.inr (fin a)):∀n:Nat,n<=b.length->∀a:A,aI step (st a ((n:Int) - 1))=jB g fin (b.take n).reverse a
 |0,_,a=>by
  rw[show((0:Nat):Int) - 1= -1 by omega,iu,h2 a rfl,List.take_zero,List.reverse_nil,jB]
  cases fin a<;>rfl
 |n+1,hn,a=>by
  have hlt:n<b.length:=by omega
  have hs:=h1 n b[n] a (by rw[bC];exact Qv hlt) (Qg (by omega)) (tu (by omega) (by omega))
  rw[show((n+1:Nat):Int) - 1=(n:Int)by omega,List.take_succ_eq_append_getElem hlt,List.reverse_append,List.reverse_singleton,List.singleton_append,jB]
  cases hg:g a b[n]with
  |inl a'=>rw[hg]at hs;rw[bn hs,u7 b hb st g fin h1 h2 n (by omega) a']
  |inr r=>rw[hg]at hs;rw[bX hs]
theorem Fu(b:List Int)(hb:b.length<=1000000):dK .i64 ((b.length:Nat):Int) 1=((b.length:Nat):Int) - 1:=tu (by omega) (by omega)
theorem zT{ρ:Type}(q:Int->Bool)(f:Int->ρ):∀(l:List Int) (lo:Int),jB (fun lo x=>if lo<=x then .inl lo else if q x then .inl x else .inr (f lo)) (fun lo=>some (f lo)) l lo=some (f (bH q l lo))
 |[],lo=>rfl
 |x::l,lo=>by
  rw[jB,bH]
  by_cases h1:lo<=x
  ·rw[Qr h1,Qr h1];exact zT q f l lo
  ·rw[Qs h1,Qs h1]
   cases hq:q x with
   |true=>rw[Qr rfl,Qr rfl];exact zT q f l x
   |false=>rw[Qs (by simp),Qs (by simp)]
theorem Mn{A ρ:Type}(s:A)(c p:Int->Bool)(f:Int->ρ)(d:ρ)(g:A->Int->A⊕ρ)(fin:A->Option ρ)(hg:∀z,g s z=if c z then(if p z then .inr (f z)else .inl s)else .inr d)(hfin:fin s=some d)(hc:∀a b,b<a->c b=true->c a=true):
  ∀r:List Int,r.Pairwise (fun a b=>b<a)->jB g fin r s=some (match r.find? (fun n=>c n&&p n)with|some n=>f n|none=>d)
 |[],_=>hfin
 |z::r,h=>by
  rw[jB,hg,List.find?_cons];rw[Q4]at h
  cases hz:c z with
  |false=>
   have:r.find? (fun n=>c n&&p n)=none:=by
    rw[List.find?_eq_none];intro n hn hcn;rw[Qm]at hcn;rw[hc z n (h.1 n hn) hcn.1]at hz;cases hz
   simp[this]
  |true=>
   cases hp:p z with
   |true=>simp
   |false=>
    simp only[Qt,Bool.true_and];exact Mn s c p f d g fin hg hfin hc r h.2
theorem Jc{ρ:Type}(q:Int->Bool)(f:Int->ρ):∀(r:List Int) (lo:Int),(∀z∈r,z<lo)->r.Pairwise (fun a b=>b<a)->jB (fun lo z=>if q z then .inl z else .inr (f lo)) (fun lo=>some (f lo)) r lo=some (f (bH q r lo))
 |[],lo,_,_=>rfl
 |z::r,lo,h,hs=>by
  rw[Q4]at hs;have hz:=h z (by simp)
  have h0:¬lo<=z:=by omega
  rw[jB,bH,Qs h0]
  cases hq:q z with
  |true=>rw[Qr rfl,Qr rfl];exact Jc q f r z hs.1 hs.2
  |false=>rw[Qs (by simp),Qs (by simp)]
theorem Ke{α B ρ:Type}(l:List α)(hl:l.length<=1000000)(f:B->α->B){step:Int×B×Unit->Option ((Int×B×Unit)⊕ρ)}{fin:B->Option ρ}
  (h1:∀(i:Nat) (x:α) (b:B),x∈l->decide ((i:Int)<((l.length:Nat):Int))=true->idx l (i:Int)=some x->aG .i64 (i:Int) 1=((i+1:Nat):Int)->step ((i:Int),b,())=some (.inl (((i+1:Nat):Int),f b x,())))
  (h2:∀b,decide (((l.length:Nat):Int)<((l.length:Nat):Int))=false->step (((l.length:Nat):Int),b,())=Option.map Sum.inr (fin b)) (b:B):aI step ((0:Int),b,())=fin (l.foldl f b):=by
 suffices key:∀(k i:Nat) (b:B),i+k=l.length->aI step ((i:Int),b,())=fin ((l.drop i).foldl f b)from key l.length 0 b (by omega)
 intro k
 induction k with
 |zero=>
  intro i b hi;obtain rfl:i=l.length:=by omega
  rw[iu,h2 b (Qh (Int.lt_irrefl _)),List.drop_length,List.foldl_nil];cases fin b<;>rfl
 |succ k ih=>
  intro i b hi;have hlt:i<l.length:=by omega
  rw[bn (h1 i l[i] b (Q0 hlt) (Qg (by omega)) (by rw[bC];exact Qv hlt) (bP (by omega) (by omega))),ih (i+1) _ (by omega),QM hlt,QU]
theorem G4(q:Int->Bool):∀(l r:List Int) (lo:Int),(∀x∈l,lo<=x)->bH q (l++r) lo=bH q r lo
 |[],r,lo,_=>rfl
 |x::l,r,lo,h=>by
  rw[List.cons_append,bH,Qr (h x (by simp))]
  exact G4 q l r lo fun y hy=>h y (by simp[hy])
theorem CX(q:Int->Bool):∀(r:List Int) (lo:Int),(∀x∈r,0<=x/\x<=1000000)->0<=lo/\lo<=1000000->0<=bH q r lo/\bH q r lo<=1000000
 |[],lo,_,h=>h
 |x::r,lo,hx,h=>by
  rw[bH];split
  ·exact CX q r lo (fun y hy=>hx y (by simp[hy])) h
  ·split
   ·exact CX q r x (fun y hy=>hx y (by simp[hy])) (hx x (by simp))
   ·exact h
 def fg(x:ByteArray->Int->Int->Bool)(p q:ae)(v:ByteArray)(s:Bool×ae)(n:Int):Bool×ae:=
 if bg s.2 ⟨n,v⟩&& !kD p q v n&&x v n n then(true,⟨n,v⟩)else s
 def fN(x:ByteArray->Int->Int->Bool)(l:List ai)(p q:ae):Bool×ae:=
 (ft l).foldl (fun s v=>(aU l v).foldl (fg x p q v) s) (false,⟨0,fu⟩)
 def mw(x:ByteArray->Int->Int->Bool)(l:List ai)(p q:ae)(s:Bool×ae):ByteArray×Int×Int×Bool×Unit:=
 if s.1 then(s.2.Value,bH (fun n=> !kD p q s.2.Value n&&x s.2.Value n s.2.aj) (aU l s.2.Value).reverse s.2.aj,s.2.aj,true,())else(fu,0,0,false,())
section
variable {S : fO} {x y : ByteArray -> Int -> Int -> Bool} (hx : ∀ v lo hi, gw S v lo hi = some (x v lo hi)) (hy : ∀ v lo hi, lz S v lo hi = some (y v lo hi))
section
 include hx
theorem Xr(b:List Int)(lo:Int)(p q z:ae):iO b lo p q z S=some (bH (fun n=> !kD p q z.Value n&&x z.Value n z.aj) b.reverse lo):=by
 have:=yC (p:=fun e=>ln e p q z S) (q:=fun n=> !kD p q z.Value n&&x z.Value n z.aj) (fun e=>by
  simp only[ln,KM,hx,Qa,ji]
  cases kD p q z.Value e<;>simp) b.reverse lo
 simp only[iO,bV,ba,Qa];exact this
theorem Xq(b:List Int)(lo:Int)(v:ByteArray)(hi:Int):jc b lo S v hi=some (bH (fun z=>x v z hi) b.reverse lo):=by
 have:=yC (p:=fun e=>oi e S v hi) (q:=fun z=>x v z hi) (fun e=>by simp only[oi,hx,Qa]) b.reverse lo
 simp only[jc,bV,ba,Qa];exact this
theorem PO(b:List Int)(lo:Int)(v:ByteArray)(hi:Int):gy b lo S v hi=some (bH (fun z=>x v z hi) b.reverse lo):=by
 have:=yC (p:=fun e=>oh e S v hi) (q:=fun z=>x v z hi) (fun e=>by simp only[oh,hx,Qa]) b.reverse lo
 simp only[gy,bV,ba,Qa];exact this
theorem M0(b:List Int)(v:ByteArray)(low bG:Int)(hb:∀x∈b,0<=x/\x<=1000000):∀r:List Int,(∀x∈r,x∈b)->kX (yB S b v) (VG S b v) r (low,bG,())=
  some (match r.find? (fun n=>decide (bG<n)&&x v n n)with
   |none=>(bH (fun z=>x v z bG) b.reverse low,bG,())
   |some n=>(bH (fun z=>x v z n) b.reverse (if bG<bH (fun z=>x v z n) b.reverse n - 1\/bH (fun z=>x v z n) b.reverse n<low then bH (fun z=>x v z n) b.reverse n else low),n,()))
 |[],_=>by simp only[kX,VG,PO hx,Qa,List.find?_nil]
 |e::r,hr=>by
  have ih:=M0 b v low bG hb r (fun x hx=>hr x (by simp[hx]))
  rw[List.find?_cons,kX]
  by_cases hle:e<=bG
  ·have h2:decide (bG<e)=false:=Qh (by omega)
   have h1:decide (e<=bG)=true:=Qg hle;have hst:yB S b v r.length e (low,bG,())=some (.inl (low,bG,())):=by simp only[yB,h1,Qk,Qa]
   rw[hst,h2,Bool.false_and];exact ih
  ·have h2:decide (bG<e)=true:=Qg (by omega)
   have h1:decide (e<=bG)=false:=Qh hle;rw[h2,Bool.true_and]
   cases hr':x v e e with
   |false=>
    have hst:yB S b v r.length e (low,bG,())=some (.inl (low,bG,())):=by simp only[yB,h1,Ql,hx,hr',Qp,Qa,Qk]
    rw[hst];exact ih
   |true=>
    have hb9:=CX (fun z=>x v z e) b.reverse e (fun z hz=>hb z (by simpa using hz)) (hb e (hr e (by simp)))
    simp only[yB,h1,Ql,hx,hr',Qo,Xq hx,PO hx,Qa,ba,ji,Bool.cond_true_left,Qe];generalize bH (fun z=>x v z e) b.reverse e=bt at*
    have e3:dK .i64 bt 1=bt - 1:=tu (by omega) (by omega)
    rw[e3]
    by_cases hc:bG<bt - 1\/bt<low
    ·have:(decide (bG<bt - 1)||decide (bt<low))=true:=by rw[Qn];simpa using hc
     rw[this,Qr hc];rfl
    ·have:(decide (bG<bt - 1)||decide (bt<low))=false:=by
      rw[<-QX,Qn];simpa using hc
     rw[this,Qs hc];rfl
end
section
 include hy
theorem ZF(b:List Int)(lo:Int)(v:ByteArray)(hi:Int):jb b lo S v hi=some (bH (fun z=>y v z hi) b.reverse lo):=by
 have:=yC (p:=fun e=>pE e S v hi) (q:=fun z=>y v z hi) (fun e=>by simp only[pE,hy,Qa]) b.reverse lo
 simp only[jb,bV,ba,Qa];exact this
end
variable {ay : Int} {t : an} {l : List ai} (hl : oF l) (hlen : l.length <= 1000) (hL : fc ay t l = some S)
 include hl hlen hL
section
 include hx
theorem abf(p q:ae):oO ay t l p q=some (mw x l p q (fN x l p q)):=by
 obtain⟨h1,_,h3,_⟩:=nj hl.aR hlen;unfold oO;simp only[an.eta,hL,h1,Qa];refine(Kf (ft l) (by omega) (fun s v=>(aU l v).foldl (fg x p q v) s) (fin:=fun s=>some (mw x l p q s)) (fun i v a b hv hd hx' hw=> ?_) (fun a b hd=> ?_) false ⟨0,ByteArray.mk #[]⟩)
 ·obtain⟨g1,_,g3,_⟩:=ff hl.aR hlen v;simp only[hd,hx',hw,Qk,Qa,g1];refine(Kf (aU l v) (by omega) (fg x p q v) (fin:=fun s=>some (Sum.inl (s.1,((i+1:Nat):Int),s.2,()))) (fun i' n a' b' hv' hd' hx'' hw'=> ?_) (fun a' b' hd'=> ?_) a b)
  ·simp only[hd',hx'',hw',Qk,ba,Qa,iF,KM,hx,ji];unfold fg;cases bg b' ⟨n,v⟩<;>cases kD p q v n<;>cases x v n n<;>simp
  ·simp only[hd',Ql]
 ·simp only[hd,Ql];obtain⟨g1,_,g3,_⟩:=ff hl.aR hlen b.Value;unfold mw;cases a
  ·rfl
  ·simp only[Qo,Ql,g1,Qa,Xr hx,Qt]
theorem Z6(v:ByteArray)(low bG:Int):nO ay t l v low bG=some ((uf (aU l v) (x v) low bG).1,(uf (aU l v) (x v) low bG).2,()):=by
 obtain⟨h1,_,_,_⟩:=ff hl.aR hlen v;have hin:=Aj hl hlen v;unfold nO;simp only[an.eta,hL,h1,Qa,bV];refine(M0 hx (aU l v) v low bG (fun x hx=>by have:=hin x hx;omega) (aU l v).reverse (by simp)).trans ?_
 unfold uf;cases (aU l v).reverse.find? (fun n=>decide (bG<n)&&x v n n)<;>rfl
end
section
 include hy
theorem abg(v:ByteArray):oP ay t l v=some (tj (aU l v) (y v)):=by
 obtain⟨h1,_,_,_⟩:=ff hl.aR hlen v
 have:=SP (p:=fun e=>lz S v e e) (q:=fun e=>y v e e) (d:=fun e=>jb (aU l v) e S v e) (f:=fun e=>bH (fun z=>y v z e) (aU l v).reverse e)
  (fun e=>hy v e e) (fun e=>ZF hy (aU l v) e v e) (aU l v).reverse
 simp only[oP,an.eta,hL,h1,bV,Qa,tj];exact this
end
end
 def zS(x:ByteArray->Int->Int->Bool)(p q:ae)(v:ByteArray)(s:ae)(n:Int):ae:=if bg s ⟨n,v⟩&& !kD p q v n&&x v n n then⟨n,v⟩else s
theorem Rb{x:ByteArray->Int->Int->Bool}{p q:ae}(v:ByteArray):∀(b:List Int),(∀n∈b,1<=n)->∀s:Bool×ae,s.1= !aD s.2->
  (b.foldl (fg x p q v) s).2=b.foldl (zS x p q v) s.2/\(b.foldl (fg x p q v) s).1= !aD (b.foldl (fg x p q v) s).2
 |[],_,s,h=>⟨rfl,h⟩
 |n::b,hb,s,h=>by
  rw[QU,QU];have hn:=hb n (by simp)
  have h1:(fg x p q v s n).2=zS x p q v s.2 n:=by unfold fg zS;split<;>rfl
  have h2:(fg x p q v s n).1= !aD (fg x p q v s n).2:=by
   unfold fg;split
   ·have:decide (n=0)=false:=Qh (by omega)
    simp[aD,this]
   ·exact h
  rw[<-h1];exact Rb v b (fun n hn=>hb n (by simp[hn])) _ h2
theorem Rc{x:ByteArray->Int->Int->Bool}{p q:ae}{l:List ai}(hl:oF l)(hlen:l.length<=1000):∀(vs:List ByteArray) (s:Bool×ae),s.1= !aD s.2->
  (vs.foldl (fun s v=>(aU l v).foldl (fg x p q v) s) s).2=vs.foldl (fun s v=>(aU l v).foldl (zS x p q v) s) s.2/\(vs.foldl (fun s v=>(aU l v).foldl (fg x p q v) s) s).1= !aD (vs.foldl (fun s v=>(aU l v).foldl (fg x p q v) s) s).2
 |[],s,h=>⟨rfl,h⟩
 |v::vs,s,h=>by
  rw[QU,QU];obtain⟨h1,h2⟩:=Rb (x:=x) (p:=p) (q:=q) v (aU l v) (fun n hn=>(Aj hl hlen v n hn).1) s h
  rw[<-h1];exact Rc hl hlen vs _ h2
section
variable {ay : Int} {t : an} {l : List ai} (hl : oF l) (hlen : l.length <= 1000) {x y : ByteArray -> Int -> Int -> Bool} (hx : ∀ v lo hi, iM ay t l v lo hi = some (x v lo hi)) (hy : ∀ v lo hi, km ay t l v lo hi = some (y v lo hi))
 include hl hlen
section
 include hx
theorem WD(v:ByteArray)(lo hi:Int):rB ay t l v lo hi=some (bH (fun z=>x v z hi) (aU l v).reverse lo):=by
 obtain⟨_,_,h3,_⟩:=ff hl.aR hlen v;unfold rB;simp only[an.eta,u4 hl.aR hlen,Qa,Fu _ (by omega:(aU l v).length<=1000000),ba]
 refine(u7 (aU l v) (by omega) (fun lo i=>(lo,i,())) (fun lo z=>if lo<=z then .inl lo else if x v z hi then .inl z else .inr lo) (fun lo=>some lo) (fun i z a hi' hd hs=> ?_) (fun a hd=> ?_) (aU l v).length (QI _) lo).trans ?_
 ·simp only[hi',hd,hs,Qk,Qa,hx]
  by_cases h1:a<=z
  ·simp[h1]
  ·cases x v z hi<;>simp[h1]
 ·simp only[hd,Ql]
 ·rw[List.take_length];exact zT (fun z=>x v z hi) (fun lo=>lo) _ _
theorem WK(v:ByteArray)(low bG:Int):me ay t l v low bG=some ((uf (aU l v) (x v) low bG).1,(uf (aU l v) (x v) low bG).2,()):=by
 obtain⟨_,h2,h3,_⟩:=ff hl.aR hlen v;have hin:=Aj hl hlen v;unfold me;simp only[an.eta,u4 hl.aR hlen,WD hl hlen hx,Qa,Fu _ (by omega:(aU l v).length<=1000000),ba]
 refine(u7 (aU l v) (by omega) (fun(s:Int×Int) i=>(s.1,s.2,i,()))
  (fun s z=>if s.2<z then(if x v z z then .inr (bH (fun w=>x v w z) (aU l v).reverse (if s.2<bH (fun w=>x v w z) (aU l v).reverse z - 1\/bH (fun w=>x v w z) (aU l v).reverse z<s.1 then bH (fun w=>x v w z) (aU l v).reverse z else s.1),z,())else .inl s)
   else .inr (bH (fun w=>x v w s.2) (aU l v).reverse s.1,s.2,()))
  (fun s=>some (bH (fun w=>x v w s.2) (aU l v).reverse s.1,s.2,())) (fun i z s hi' hd hs=> ?_) (fun s hd=> ?_) (aU l v).length (QI _) (low,bG)).trans ?_
 ·have hz:z∈aU l v:=by rw[bC]at hi';exact List.mem_of_getElem? hi'
  have hb9:=CX (fun w=>x v w z) (aU l v).reverse z (fun w hw=>by have:=hin w (by simpa using hw);omega) (by have:=hin z hz;omega)
  simp only[hi',hd,hs,Qk,Qa,hx]
  by_cases h1:s.2<z
  ·simp only[h1,decide_true,Qk,Qt]
   cases hxz:x v z z with
   |false=>simp
   |true=>
    generalize bH (fun w=>x v w z) (aU l v).reverse z=bt at*
    have e3:dK .i64 bt 1=bt - 1:=tu (by omega) (by omega)
    simp only[Qo,Ql,e3,Qt]
    by_cases h4:s.2<bt - 1
    ·simp[h4]
    ·by_cases h5:bt<s.1
     ·simp[h4,h5,dP]
     ·simp[h4,h5,dP]
  ·simp[h1]
 ·simp only[hd,Ql,Qa]
 ·rw[List.take_length]
  refine(Mn (low,bG) (fun z=>decide (bG<z)) (fun z=>x v z z) (fun z=>(bH (fun w=>x v w z) (aU l v).reverse (if bG<bH (fun w=>x v w z) (aU l v).reverse z - 1\/bH (fun w=>x v w z) (aU l v).reverse z<low then bH (fun w=>x v w z) (aU l v).reverse z else low),z,()))
   (bH (fun w=>x v w bG) (aU l v).reverse low,bG,()) _ _ (fun z=> ?_) rfl (fun a b h h'=> ?_) _ (List.pairwise_reverse.2 h2)).trans ?_
  ·by_cases h4:bG<z<;>simp[h4]
  ·simp only[Qi]at h' ⊢;omega
  ·unfold uf;cases (aU l v).reverse.find? (fun n=>decide (bG<n)&&x v n n)<;>rfl
 omit hl hlen hx in
theorem SM(p q:ae)(n:Int)(v:ByteArray):rA p q n v=some (!kD p q v n):=by
  simp only[rA,sP,Qa,kD];cases dO p ⟨n,v⟩<;>cases dO q ⟨n,v⟩<;>rfl
theorem YN(p q:ae):nf ay t l p q=some (mw x l p q (fN x l p q)):=by
 obtain⟨_,_,h3,_⟩:=nj hl.aR hlen;obtain⟨e1,e2⟩:=Rc (x:=x) (p:=p) (q:=q) hl hlen (ft l) (false,⟨0,fu⟩) rfl;unfold nf;simp only[an.eta,TG hl.aR hlen,Qa];refine(Ke (ft l) (by omega) (fun s v=>(aU l v).foldl (zS x p q v) s) (fin:=fun s=>some (mw x l p q (!aD s,s))) (fun i v b hv hd hx' hw=> ?_) (fun b hd=> ?_) ⟨0,ByteArray.mk #[]⟩).trans ?_
 ·obtain⟨_,_,g3,_⟩:=ff hl.aR hlen v;simp only[hd,hx',hw,Qk,Qa,u4 hl.aR hlen];refine(Ke (aU l v) (by omega) (zS x p q v) (fin:=fun s=>some (Sum.inl (((i+1:Nat):Int),s,()))) (fun i' n b' hv' hd' hx'' hw'=> ?_) (fun b' hd'=> ?_) b)
  ·simp only[hd',hx'',hw',Qk,ba,Qa,iN,SM,hx,ji];unfold zS;cases bg b' ⟨n,v⟩<;>cases kD p q v n<;>cases x v n n<;>simp
  ·simp only[hd',Ql]
 ·obtain⟨_,_,g3,_⟩:=ff hl.aR hlen b.Value;simp only[hd,Ql,de,Qa];unfold mw
  cases aD b with
  |true=>rfl
  |false=>
   simp only[Qp,Qt,Ql,u4 hl.aR hlen,Qa,ba,Fu _ (by omega:(aU l b.Value).length<=1000000)]
   refine congrArg (Option.map Sum.inr) ((u7 (aU l b.Value) (by omega) (fun lo i=>(lo,i,())) (fun lo z=>if lo<=z then .inl lo else if !kD p q b.Value z&&x b.Value z b.aj then .inl z else .inr (b.Value,lo,b.aj,true,())) (fun lo=>some (b.Value,lo,b.aj,true,())) (fun i z a hi' hd hs=> ?_) (fun a hd=> ?_) (aU l b.Value).length (QI _) b.aj).trans ?_)
   ·simp only[hi',hd,hs,Qk,Qa,hx,SM]
    by_cases h1:a<=z
    ·simp[h1]
    ·cases kD p q b.Value z<;>cases x b.Value z b.aj<;>simp[h1]
   ·simp only[hd,Ql]
   ·rw[List.take_length];exact zT (fun z=> !kD p q b.Value z&&x b.Value z b.aj) (fun lo=>(b.Value,lo,b.aj,true,())) _ _
 ·unfold fN;rw[show(ft l).foldl (fun s v=>(aU l v).foldl (zS x p q v) s) ⟨0,ByteArray.mk #[]⟩=((ft l).foldl (fun s v=>(aU l v).foldl (fg x p q v) s) (false,⟨0,fu⟩)).2 from e1.symm,<-e2]
end
section
 include hy
theorem YP(v:ByteArray):ng ay t l v=some (tj (aU l v) (y v)):=by
 obtain⟨_,h2,h3,_⟩:=ff hl.aR hlen v;unfold ng;simp only[an.eta,u4 hl.aR hlen,Qa,Fu _ (by omega:(aU l v).length<=1000000),ba]
 unfold tj;generalize aU l v=b at*
 suffices key:∀n:Nat,n<=b.length->aI _ (((n:Nat):Int) - 1,())=some (match(b.take n).reverse.find? (fun e=>y v e e)with|some e=>(bH (fun z=>y v z e) b.reverse e,e,true,())|none=>(0,0,false,()))by
  have:=key b.length (QI _);rw[List.take_length]at this;exact this
 intro n
 induction n with
 |zero=>
  intro _;rw[show((0:Nat):Int) - 1= -1 by omega]
  have hd:decide ((0:Int)<= -1)=false:=rfl;exact bX (by simp only[hd,Ql,Qe,List.take_zero,List.reverse_nil,List.find?_nil])
 |succ n ih=>
  intro hn;have hlt:n<b.length:=by omega
  have hxn:idx b (n:Int)=some b[n]:=by rw[bC];exact Qv hlt
  have hd:decide ((0:Int)<=(n:Int))=true:=Qg (by omega)
  have hs:dK .i64 (n:Int) 1=(n:Int) - 1:=tu (by omega) (by omega)
  rw[show((n+1:Nat):Int) - 1=(n:Int)by omega,List.take_succ_eq_append_getElem hlt,List.reverse_append,List.reverse_singleton,List.singleton_append,List.find?_cons]
  cases hyn:y v b[n] b[n]with
  |false=>
   rw[bn (s':=((n:Int) - 1,())) (by simp only[hd,hxn,hs,hy,hyn,Qk,Qa,Qp])]
   exact ih (by omega)
  |true=>
   have hb:b=b.take n++b[n]::b.drop (n+1):=by rw[<-QM hlt,List.take_append_drop]
   have hp:(b.take n++b[n]::b.drop (n+1)).Pairwise (·<·):=hb▸h2;rw[List.pairwise_append,Q4]at hp;obtain⟨p1,⟨p2,p3⟩,p4⟩:=hp;refine bX ?_;simp only[hd,hxn,hs,hy,hyn,Qk,Ql,Qa,Qo];refine(u7 b (by omega) (fun lo i=>(lo,i,())) (fun lo z=>if y v z b[n]then .inl z else .inr (.inr (lo,b[n],true,()))) (fun lo=>some (.inr (lo,b[n],true,()))) (fun i z a hi' hd' hs'=> ?_) (fun a hd'=> ?_) n (by omega) b[n]).trans ?_
   ·simp only[hi',hd',hs',Qk,Qa];cases y v z b[n]<;>simp
   ·simp only[hd',Ql,Qe]
   ·rw[Jc (fun z=>y v z b[n]) (fun lo=>Sum.inr (lo,b[n],true,())) _ _ (fun z hz=>p4 z (List.mem_reverse.1 hz) _ (Qx ..)) (List.pairwise_reverse.2 p1)]
    have:bH (fun z=>y v z b[n]) b.reverse b[n]=bH (fun z=>y v z b[n]) (b.take n).reverse b[n]:=by
     have hr:b.reverse=((b.drop (n+1)).reverse++[b[n]])++(b.take n).reverse:=by
      rw[<-List.reverse_cons,<-List.reverse_append,<-hb]
     rw[hr];refine G4 _ _ _ _ fun z hz=> ?_
     rw[Qz,List.mem_reverse,List.mem_singleton]at hz;rcases hz with hz|rfl
     ·exact Int.le_of_lt (p2 z hz)
     ·exact Int.le_refl _
    rw[this]
end
end
end Go.Proofs.YtkgenianmdfmdaaGreat
namespace Go.Proofs.YtkgenianmdfmdaaGreat
open Go.TQ
section
variable {ay : Nat} (hn : ay < 10) {t : an} (ht : dR t) {l : List ai} (hl : oF l) (hlen : l.length <= 1000)
 include hn ht hl hlen
theorem aar(b:ae):nI ay t l b=some (jE ay t l b):=by
 have hin:=iH l;have hsm:=jG (ay:=ay) ht hl;simp only[nI,an.eta,Mi hl.aR hlen,yS hn hl,Qa,Bm hsm hn (fZ hin) (fZ hin)];rfl
theorem YQ(b:ae):mC ay t l b=some (iV ay t l b):=by
 have hin:=iH l;have hsm:=jG (ay:=ay) ht hl;simp only[mC,an.eta,Mi hl.aR hlen,yS hn hl,Qa,zW hsm hn (fZ hin)];rfl
theorem aav(b:ae):gf ⟨ay,⟨eW ay t l⟩,(bL l).map bu.mk⟩ b=some (jE ay t l b):=by
 have hin:=iH l;have hsm:=jG (ay:=ay) ht hl;rw[IJ hl.len,Dm hsm hn (fZ hin) (fZ hin)];rfl
theorem Y2(b:ae):eG ⟨ay,⟨eW ay t l⟩,(bL l).map bu.mk⟩ b=some (iV ay t l b):=by
 have hin:=iH l;have hsm:=jG (ay:=ay) ht hl;rw[Hm hl.len,BK hsm hn (fZ hin)];rfl
 def hZ(ay:Nat)(t:an)(l:List ai)(p q:ae)(v:ByteArray):ae:=((ea l).find? (tB (jE ay t l) p q v)).getD vP
 def tE(ay:Nat)(t:an)(l:List ai)(a:ae):ae:=((ea l).find? (tD (iV ay t l) a)).getD vP
theorem YL(p q:ae)(v:ByteArray):oH ay t l p q v=some (hZ ay t l p q v):=Wx hl hlen (aar hn ht hl hlen) p q v
theorem YM(a:ae):k9 ay t l a=some (tE ay t l a):=Wy hl hlen (YQ hn ht hl hlen) a
theorem YZ(p q:ae)(v:ByteArray):mh ay t l p q v=some (hZ ay t l p q v):=Y8 hl hlen (LY hn ht hl) (aav hn ht hl hlen) p q v
theorem Y0(a:ae):jX ay t l a=some (tE ay t l a):=Zk hl hlen (LY hn ht hl) (Y2 hn ht hl hlen) a
end
end Go.Proofs.YtkgenianmdfmdaaGreat
namespace Go.Proofs.YtkgenianmdfmdaaGreat
open Go.TQ
theorem SF{bytes n:Nat}(h:bytes<=200)(hn:n<=1000000):bB bytes n=true:=
 cj ⟨QK (Nat.mul_le_mul hn h) (by decide),hn⟩
theorem xY{α ρ:Type}(l:List α)(hl:l.length<=1000000)(p:α->Bool){step:Int×Unit->Option ((Int×Unit)⊕ρ)}{fin:Option ρ}{f:Nat->α->Option ρ}
  (h1:∀(i:Nat) (x:α),i<l.length->l[i]?=some x->decide ((i:Int)<((l.length:Nat):Int))=true->idx l (i:Int)=some x->aG .i64 (i:Int) 1=((i+1:Nat):Int)->step ((i:Int),())=bif p x then Option.map Sum.inr (f i x)else some (.inl (((i+1:Nat):Int),())))
  (h2:(∀x∈l,p x=false)->decide (((l.length:Nat):Int)<((l.length:Nat):Int))=false->step (((l.length:Nat):Int),())=Option.map Sum.inr fin):
  aI step ((0:Int),())=match l.findIdx? p with|some i=>(l[i]?).bind (f i)|none=>fin:=by
 suffices key:∀(k i:Nat),i+k=l.length->(∀x∈l.take i,p x=false)->aI step ((i:Int),())=match(l.drop i).findIdx? p with|some j=>(l[i+j]?).bind (f (i+j))|none=>fin by
  have:=key l.length 0 (by omega) (by simp)
  rw[List.drop_zero]at this;simp only[Nat.zero_add]at this;exact this
 intro k
 induction k with
 |zero=>
  intro i hi hpre;obtain rfl:i=l.length:=by omega
  rw[List.take_length]at hpre;rw[iu,h2 hpre (Qh (Int.lt_irrefl _)),List.drop_length];cases fin<;>rfl
 |succ k ih=>
  intro i hi hpre;have hlt:i<l.length:=by omega
  have hx:l[i]?=some l[i]:=Qv hlt;have hs:=h1 i l[i] hlt hx (Qg (by omega)) (by rw[bC];exact hx) (bP (by omega) (by omega))
  rw[QM hlt,List.findIdx?_cons]
  cases hp:p l[i]with
  |true=>
   rw[hp]at hs;rw[iu,hs];simp only[Qk,Qt,Nat.add_zero,hx,Qa];cases f i l[i]<;>rfl
  |false=>
   rw[hp]at hs
   rw[bn hs,ih (i+1) (by omega) (fun x hx=>by
    rw[List.take_succ_eq_append_getElem hlt,Qz,List.mem_singleton]at hx;rcases hx with hx|rfl
    ·exact hpre x hx
    ·exact hp)]
   simp only[Qq,Qu]
   cases (l.drop (i+1)).findIdx? p with
   |none=>rfl
   |some j=>
    simp only[Qe];rw[show i+1+j=i+(j+1)by omega]
def Ak(l:List ai)(e:ai):Nat:=(l.findIdx? fun x=>decide (e.au<x.au)).getD l.length
 def mm(l:List ai)(e:ai):List ai×Bool×Unit:=
 if aO e then
  match l.findIdx? fun x=>decide (x.au=e.au)with
  |some i=>if e.aL<=((l[i]?).getD e).aL then(l,false,())else(l.set i e,true,())
  |none=>(l.take (Ak l e)++[e]++l.drop (Ak l e),true,())
 else(l,false,())
theorem ab6(l:List ai)(e:ai):Ak l e<=l.length:=by
 unfold Ak
 cases h:l.findIdx? fun x=>decide (e.au<x.au)with
 |none=>exact QI _
 |some i=>exact Nat.le_of_lt ((List.findIdx?_eq_some_iff_getElem.1 h).1)
section
variable {l : List ai} (hl : ∀ x ∈ l, dR x.ab) (hlen : l.length <= 1000)
 include hlen
theorem Wj(e:ai):dw l e=some (match l.findIdx? fun x=>decide (x.au=e.au)with|some i=>(i:Int)|none=> -1):=by
 unfold dw;refine(xY l (by omega) (fun x=>decide (x.au=e.au)) (f:=fun i _=>some (i:Int)) (fin:=some (-1)) (fun i x hi hx0 hd hx hw=> ?_) (fun hall hd=> ?_)).trans ?_
 ·simp only[hd,hx,hw,Qk,Qa,sR]
 ·simp only[hd,Ql]
 ·cases h:l.findIdx? fun x=>decide (x.au=e.au)with
  |none=>rfl
  |some i=>have:=(List.findIdx?_eq_some_iff_getElem.1 h).1;simp[Qv this]
theorem XN(e:ai):dv l e=some (match l.findIdx? fun x=>decide (e.au<x.au)with|some i=>(i:Int)|none=> -1):=by
 unfold dv;refine(xY l (by omega) (fun x=>decide (e.au<x.au)) (f:=fun i _=>some (i:Int)) (fin:=some (-1)) (fun i x hi hx0 hd hx hw=> ?_) (fun hall hd=> ?_)).trans ?_
 ·simp only[hd,hx,hw,Qk,Qa,sQ]
 ·simp only[hd,Ql]
 ·cases h:l.findIdx? fun x=>decide (e.au<x.au)with
  |none=>rfl
  |some i=>have:=(List.findIdx?_eq_some_iff_getElem.1 h).1;simp[Qv this]
 include hl
theorem Wg:fD l=some l:=by
 unfold fD
 suffices key:∀(k i:Nat),i+k=l.length->aI _ ((i:Int),l.take i,())=some l from key l.length 0 (by omega)
 intro k
 induction k with
 |zero=>
  intro i hi;obtain rfl:i=l.length:=by omega
  have hd:decide (((l.length:Nat):Int)<((l.length:Nat):Int))=false:=Qh (Int.lt_irrefl _);exact bX (by simp only[hd,Ql,Qe,List.take_length])
 |succ k ih=>
  intro i hi;have hlt:i<l.length:=by omega
  have hd:decide ((i:Int)<((l.length:Nat):Int))=true:=Qg (by omega)
  have hw:aG .i64 (i:Int) 1=((i+1:Nat):Int):=bP (by omega) (by omega)
  have hx:idx l (i:Int)=some l[i]:=by rw[bC];exact Qv hlt
  have hc:iD l[i]=some l[i]:=by simp only[iD,an.eta,uJ (hl _ (Q0 hlt)),Qa]
  refine(bn ?_).trans (ih (i+1) (by omega))
  simp only[hd,hx,hw,Qk,Qa,an.eta,ai.eta,hc];rw[SF (by omega) (by simp;omega),List.take_succ_eq_append_getElem hlt]
  rfl
theorem abb{e:ai}(he:dR e.ab):qB l e=some (mm l e):=by
 have hc:iD e=some e:=by simp only[iD,an.eta,uJ he,Qa]
 have hat:=ab6 l e;unfold qB;simp only[Wg hl hlen,an.eta,ai.eta,nV he,hc,Wj hlen,XN hlen,Qa,ba];unfold mm
 cases aO e with
 |false=>rfl
 |true=>
  simp only[Qo,Ql,Qt]
  cases h:l.findIdx? fun x=>decide (x.au=e.au)with
  |some i=>
   have hi:=(List.findIdx?_eq_some_iff_getElem.1 h).1;have hd:decide ((0:Int)<=(i:Int))=true:=Qg (by omega)
   have hx:idx l (i:Int)=some l[i]:=by rw[bC];exact Qv hi
   simp only[hd,hx,Qk,Qa,QV,Qv hi,Q3]
   by_cases hs:e.aL<=l[i].aL<;>simp[hs]
  |none=>
   have hd:decide ((0:Int)<= -1)=false:=rfl;simp only[hd,Ql]
   have hins:∀a:Nat,a<=l.length->ep l (a:Int) [e]=some (l.take a++[e]++l.drop a):=fun a ha=>by
    unfold ep Pu;have h1:decide ((0:Int)<=(a:Int))=true:=Qg (by omega)
    have h2:decide ((a:Int)<=((l.length:Nat):Int))=true:=Qg (by omega)
    rw[h1,h2,SF (by omega) (by simp;omega)]
    rfl
   unfold Ak at hat ⊢
   cases h':l.findIdx? fun x=>decide (e.au<x.au)with
   |none=>
    have hd2:decide ((-1:Int)<0)=true:=rfl;simp only[hd2,Qk,hins _ (QI _),Qa,Option.getD_none]
   |some j=>
    have hj:=(List.findIdx?_eq_some_iff_getElem.1 h').1;have hd2:decide ((j:Int)<0)=false:=Qh (by omega)
    simp only[hd2,Ql,hins _ (Nat.le_of_lt hj),Qa,Q3]
end
end Go.Proofs.YtkgenianmdfmdaaGreat
namespace Go.Proofs.YtkgenianmdfmdaaGreat
open Go.TQ
section
variable {l : List ai} (hlen : l.length <= 1000)
 include hlen
theorem Ev(e:ai){a b:Nat}(ha:a<=b)(hb:b<=l.length):cr (0:Int) (a:Int) l.length=true/\bB 176 (List.length ((l.take (Int.toNat (a:Int))).drop (Int.toNat (0:Int))))=true/\
  bB 176 (List.length ((l.take (Int.toNat (a:Int))).drop (Int.toNat (0:Int)))+List.length [e])=true/\cr (b:Int) (l.length:Int) l.length=true/\
  bB 176 (List.length (((l.take (Int.toNat (a:Int))).drop (Int.toNat (0:Int)))++[e])+List.length ((l.take (Int.toNat (l.length:Int))).drop (Int.toNat (b:Int))))=true/\
  (((l.take (Int.toNat (a:Int))).drop (Int.toNat (0:Int)))++[e])++((l.take (Int.toNat (l.length:Int))).drop (Int.toNat (b:Int)))=l.take a++[e]++l.drop b:=by
 refine⟨by simp[cr];omega,gU (by omega) (by simp;omega),gU (by omega) (by simp;omega),by simp[cr];omega,gU (by omega) (by simp;omega),?_⟩
 simp only[QV,Int.toNat_zero,List.drop_zero,List.take_length]
end
theorem Dl{α:Type}{p q:α->Bool}:∀{l:List α},(∀x∈l,p x=q x)->l.findIdx? p=l.findIdx? q
 |[],_=>rfl
 |x::l,h=>by rw[List.findIdx?_cons,List.findIdx?_cons,h x (by simp),Dl fun y hy=>h y (by simp[hy])]
theorem YK{l:List ai}(hl:∀x∈l,dR x.ab)(hlen:l.length<=1000){e:ai}(he:dR e.ab):wU l e=some (mm l e):=by
 unfold wU;simp only[an.eta,ai.eta,iI he,Qa,ba];unfold mm
 cases aO e with
 |false=>rfl
 |true=>
  simp only[Qo,Ql,Qt];refine(xY l (by omega) (fun x=>decide (x.au=e.au)) (f:=fun i x=>if e.aL<=x.aL then some (l,false,())else some (l.take i++[e]++l.drop (i+1),true,())) (fin:=some (l.take (Ak l e)++[e]++l.drop (Ak l e),true,())) (fun i x hi hx0 hd hx hw=> ?_) (fun hall hd=> ?_)).trans ?_
  ·simp only[hd,hx,hw,Qk,Qa]
   cases decide (x.au=e.au)with
   |false=>rfl
   |true=>
    simp only[Qk];obtain⟨f1,f2,f3,f4,f5,f6⟩:=Ev hlen e (show i<=i+1 by omega) (show i+1<=l.length by omega)
    simp only[f1,f2,f3,f4,f5,f6,Qk]
    by_cases hs:e.aL<=x.aL<;>simp[hs]
  ·simp only[hd,Ql];refine congrArg (Option.map Sum.inr) ?_
   have hcg:(l.findIdx? fun x=> !decide (x.au<e.au))=l.findIdx? fun x=>decide (e.au<x.au):=Dl fun x hx=>by
    have:=hall x hx;have hne:x.au≠e.au:=of_decide_eq_false this
    by_cases h:x.au<e.au
    ·have h':¬e.au<x.au:=by omega
     simp[h,h']
    ·have h':e.au<x.au:=by omega
     simp[h,h']
   refine(xY l (by omega) (fun x=> !decide (x.au<e.au)) (f:=fun i x=>some (l.take i++[e]++l.drop i,true,())) (fin:=some (l.take l.length++[e]++l.drop l.length,true,())) (fun i x hi hx0 hd hx hw=> ?_) (fun _ hd=> ?_)).trans ?_
   ·simp only[hd,hx,hw,Qk,Qa]
    cases decide (x.au<e.au)with
    |true=>rfl
    |false=>
     simp only[Ql,Qp,Qk];obtain⟨f1,f2,f3,f4,f5,f6⟩:=Ev hlen e (QI i) (show i<=l.length by omega)
     simp only[f1,f2,f3,f4,f5,f6,Qk]
   ·simp only[hd,Ql];obtain⟨f1,f2,f3,f4,f5,f6⟩:=Ev hlen e (QI l.length) (QI _);simp only[f1,f2,f3,f4,f5,f6,Qk]
   ·rw[hcg];unfold Ak
    cases h:l.findIdx? fun x=>decide (e.au<x.au)with
    |none=>rfl
    |some i=>
     have hi:=(List.findIdx?_eq_some_iff_getElem.1 h).1;simp only[Qv hi,Qa,Q3]
  ·cases h:l.findIdx? fun x=>decide (x.au=e.au)with
   |none=>rfl
   |some i=>
    have hi:=(List.findIdx?_eq_some_iff_getElem.1 h).1;simp only[Qv hi,Qa,Q3]
    by_cases hs:e.aL<=l[i].aL
    ·simp[hs]
    ·simp only[hs,Qu];rw[List.set_eq_take_append_cons_drop,Qr hi];simp
end Go.Proofs.YtkgenianmdfmdaaGreat
namespace Go.Proofs.YtkgenianmdfmdaaGreat
open Go.TQ
structure rG (m:af):Prop where
 n0:0<=m.au
 n1:m.au<10
 aR:dR m.ab
 len:m.aC.length<=100
 sm:∀e∈m.aC,dR e.ab
 valid:∀e∈m.aC,aO e=true
theorem uk{m:af}{e:ai}(h:e∈aP m):e∈m.aC\/(aD m.aa=false/\e=dS m):=by
 unfold aP at h;split at h
 ·exact .inl h
 ·rename_i hz;rw[(w9 _ _).mem_iff,Qz,List.mem_singleton]at h;rcases h with h|h
  ·exact .inl h
  ·exact .inr ⟨by simpa using hz,h⟩
theorem XL(m:af):(aP m).length<=m.aC.length+1:=by
 unfold aP;split
 ·omega
 ·rw[(w9 _ _).length_eq,QB,List.length_singleton];omega
theorem vd(m:af):(dS m).ab=m.ab:=pj m
theorem rG.jo{m:af}(h:rG m):oF (aP m)/\(aP m).length<=1000:=by
 have h1:=XL m;have h2:=h.len;refine⟨⟨by omega,fun e he=> ?_⟩,by omega⟩
 rcases uk he with he|⟨_,rfl⟩
 ·exact h.sm e he
 ·rw[vd];exact h.aR
theorem rG.ay{m:af}(h:rG m):((m.au.toNat:Nat):Int)=m.au/\m.au.toNat<10:=by
 have:=h.n0;have:=h.n1;omega
def dq(b:ae):ae:=if 1000<b.aj then⟨1000,b.Value⟩else b
theorem ab4(b:ae):oG b=some (dq b):=Xl b
def cz(p q b:ae):ae×ae:=
 if aD b=true then(p,q)else if aD p=true then(b,q)else if bg p b=true then(if bE p b=true then(b,if bE q b=true then bN else q)else(b,p))
 else if(bg b p&& !bE b p&&(aD q||bg q b))=true then(p,b)else(p,q)
theorem G7(a b:ae):bE a b=bE b a:=decide_eq_decide.2 ⟨Eq.symm,Eq.symm⟩
theorem aaD(p q b:ae):vB p q b=some ((cz p q b).1,(cz p q b).2,()):=by
 unfold vB cz;simp only[de,iN,fI,Qa,ba];cases aD b<;>cases aD p<;>cases bg p b<;>cases bE p b<;>cases bE q b<;>cases bg b p<;>cases bE b p<;>cases aD q<;>cases bg q b<;>rfl
theorem YT(p q b:ae):sq p q b=some ((cz p q b).1,(cz p q b).2,()):=by
 unfold sq cz;simp only[cJ,iF,eY,Qa,ba,G7 b p,G7 b q];cases aD b<;>cases aD p<;>cases bg p b<;>cases bE p b<;>cases bE q b<;>cases bg b p<;>cases aD q<;>cases bg q b<;>rfl
def zR(m:af):ByteArray:=if m.aA=2 then m.aa.Value else fu
 def dU(m:af):ae:=hZ m.au.toNat m.ab (aP m) m.ak m.aw (zR m)
def mS(m:af)(p q:ae):Int:=
 if m.aA=1/\m.aF≠0 then(if eH m<jC m.aa.Value m.aF p q then 0 else jC m.aa.Value m.aF p q)else m.aF
 def cn(m:af):af:=
 if m.aA=3\/aD m.aa=true then m else
  {m with ak:=(cz m.ak m.aw (dq (dU m))).1,aw:=(cz m.ak m.aw (dq (dU m))).2,aF:=mS m (cz m.ak m.aw (dq (dU m))).1 (cz m.ak m.aw (dq (dU m))).2}
theorem aan{m:af}(h:rG m)(p q:ae)(v:ByteArray):oH m.au m.ab (aP m) p q v=some (hZ m.au.toNat m.ab (aP m) p q v):=by
 have:=YL h.ay.2 h.aR h.jo.1 h.jo.2 p q v
 rwa [h.ay.1]at this
theorem aao{m:af}(h:rG m)(a:ae):k9 m.au m.ab (aP m) a=some (tE m.au.toNat m.ab (aP m) a):=by
 have:=YM h.ay.2 h.aR h.jo.1 h.jo.2 a
 rwa [h.ay.1]at this
theorem TR{m:af}(h:rG m):pA m=some (cn m):=by
 have hl:m.aC.length<=1000:=by have:=h.len;omega
 unfold pA cn;simp only[af.eta,an.eta,de,KC hl,aan h,ab4,aaD,yh,Pb,Qa,ba]
 by_cases h3:m.aA=3
 ·rw[Qg h3,Qr (.inl h3)];rfl
 ·rw[Qh h3]
  cases hz:aD m.aa with
  |true=>rw[Qr (.inr rfl)];rfl
  |false=>
   rw[Qs (by simp[h3])]
   simp only[Ql,Qa]
   by_cases h2:m.aA=2
   ·have h1:¬m.aA=1:=by omega
    simp only[Qg h2,Qh h1,Qk,Ql,Qa,mS,zR,dU,Qr h2,h1,false_and,Qu];rfl
   ·simp only[Qh h2,Ql];have hv:ByteArray.mk #[]=zR m:=by simp only[zR,Qs h2];rfl
    rw[hv];have hn:hZ m.au.toNat m.ab (aP m) m.ak m.aw (zR m)=dU m:=rfl;simp only[hn]
    by_cases h1:m.aA=1
    ·have hh:∀p q:ae,(bR {m with ak:=p,aw:=q}).aM=eH m:=fun p q=>by unfold bR;rw[Qr (show({m with ak:=p,aw:=q}:af).aA=1 from h1)];rfl
     simp only[Qg h1,Qk,Qa]
     by_cases hL:m.aF=0
     ·rw[Qg hL];unfold mS;rw[Qs (fun h=>h.2 hL)]
      rfl
     ·rw[Qh hL];unfold mS;rw[Qr ⟨h1,hL⟩];simp only[Qp,Qk];rw[show(bR (af.mk m.au m.bs m.aL m.ab m.aA m.aa (cz m.ak m.aw (dq (dU m))).1 (cz m.ak m.aw (dq (dU m))).2 m.av m.aF m.aM m.bf m.aC)).aM=eH m from hh _ _]
      by_cases hlt:eH m<jC m.aa.Value m.aF (cz m.ak m.aw (dq (dU m))).1 (cz m.ak m.aw (dq (dU m))).2
      ·rw[Qg hlt,Qr hlt];rfl
      ·rw[Qh hlt,Qs hlt];rfl
    ·rw[Qh h1];unfold mS;rw[Qs (fun h=>h1 h.1)]
     rfl
 def fE(m:af):ae:=tE m.au.toNat m.ab (aP m) m.av
def xa(m:af)(b:ae):af:=
 if bg m.aa b=true then{m with av:=b,aa:=b,aF:=if bE m.aa b=true then m.aF else 0}else{m with av:=b}
def mJ(m:af)(b:ae):af:=
 if m.aF=0/\bE m.aa b=true/\jC b.Value m.aa.aj m.ak m.aw<=b.aj then{m with aF:=jC b.Value m.aa.aj m.ak m.aw}else m
 def gl(m:af):af:=
 if m.aA≠1\/aD m.aa=true\/aD (fE m)=true then m else mJ (xa m (fE m)) (fE m)
theorem KR(m:af)(b:ae){α:Type}(j:af->Option α):
  ((bif decide (m.aF=(0:Int))then some (bE m.aa b)else some false).bind fun x=>bif x then(bif decide (jC b.Value m.aa.aj m.ak m.aw<=b.aj)then j {m with aF:=jC b.Value m.aa.aj m.ak m.aw}else j m)else j m)=j (mJ m b):=by
 unfold mJ
 by_cases hL:m.aF=0
 ·rw[Qg hL]
  cases hc:bE m.aa b with
  |true=>
   by_cases hle:jC b.Value m.aa.aj m.ak m.aw<=b.aj
   ·rw[Qr ⟨hL,rfl,hle⟩,Qg hle];rfl
   ·rw[Qs (fun h=>hle h.2.2),Qh hle];rfl
  |false=>
   rw[Qs (fun h=>by cases h.2.1)];rfl
 ·rw[Qh hL,Qs (fun h=>hL h.1)];rfl
theorem R3{m:af}(h:rG m):ob m=some (gl m):=by
 have hl:m.aC.length<=1000:=by have:=h.len;omega
 unfold ob gl;simp only[af.eta,an.eta,de,KC hl,aao h,Pb,Qa,ba,fI,iN];have hb:tE m.au.toNat m.ab (aP m) m.av=fE m:=rfl;simp only[hb]
 by_cases h1:m.aA=1
 ·rw[Qg h1]
  cases hz:aD m.aa with
  |true=>rw[Qr (.inr (.inl rfl))];rfl
  |false=>
   cases hzb:aD (fE m)with
   |true=>rw[Qr (.inr (.inr rfl))];rfl
   |false=>
    rw[Qs (by simp[h1])]
    simp only[Qo,Ql,Qa];unfold xa
    cases hlt:bg m.aa (fE m)with
    |true=>
     cases hcp:bE m.aa (fE m)with
     |true=>simp only[Qk,Qo,Ql,Qt];exact KR {m with av:=fE m,aa:=fE m} (fE m) some
     |false=>simp only[Qk,Qp,Qt,Qq,Qu];exact KR {m with av:=fE m,aa:=fE m,aF:=0} (fE m) some
    |false=>simp only[Ql,Qq,Qu];exact KR {m with av:=fE m} (fE m) some
 ·rw[Qh h1,Qr (.inl h1)];rfl
section
variable {ay : Nat} (hn : ay < 10) {t : an} (ht : dR t) {l : List ai} (hl : oF l) (hlen : l.length <= 1000)
 include hn ht hl hlen
theorem Sk(v:ByteArray)(lo hi:Int):iM ay t l v lo hi=some (jt ay t l v lo hi):=by
 have hin:=iH l;have hsm:=jG (ay:=ay) ht hl;simp only[iM,an.eta,Mh hl.aR hlen,yS hn hl,Qa,Bm hsm hn (fZ hin) (fZ hin)];rfl
theorem WM(v:ByteArray)(lo hi:Int):km ay t l v lo hi=some (pr ay t l v lo hi):=by
 have hin:=iH l;have hsm:=jG (ay:=ay) ht hl;simp only[km,an.eta,Mh hl.aR hlen,yS hn hl,Qa,zW hsm hn (fZ hin)];rfl
theorem WJ(p q:ae):nf ay t l p q=some (mw (jt ay t l) l p q (fN (jt ay t l) l p q)):=YN hl hlen (Sk hn ht hl hlen) p q
theorem aaq(v:ByteArray)(low bG:Int):me ay t l v low bG=some ((uf (aU l v) (jt ay t l v) low bG).1,(uf (aU l v) (jt ay t l v) low bG).2,()):=WK hl hlen (Sk hn ht hl hlen) v low bG
theorem aap(v:ByteArray):ng ay t l v=some (tj (aU l v) (pr ay t l v)):=YP hl hlen (WM hn ht hl hlen) v
end
 def dh(m:af):ByteArray->Int->Int->Bool:=jt m.au.toNat m.ab (aP m)
 def B7(m:af):ByteArray->Int->Int->Bool:=pr m.au.toNat m.ab (aP m)
 def dZ(m:af):ByteArray×Int×Int×Bool×Unit:=mw (dh m) (aP m) m.ak m.aw (fN (dh m) (aP m) m.ak m.aw)
 def cx(m:af):Int×Int:=uf (aU (aP m) m.aa.Value) (dh m m.aa.Value) m.aF m.aM
 def kN(m:af):Int×Int×Bool×Unit:=tj (aU (aP m) m.aa.Value) (B7 m m.aa.Value)
theorem YO{m:af}(h:rG m):nf m.au m.ab (aP m) m.ak m.aw=some (dZ m):=by
 have:=WJ h.ay.2 h.aR h.jo.1 h.jo.2 m.ak m.aw
 rwa [h.ay.1]at this
theorem abz{m:af}(h:rG m):me m.au m.ab (aP m) m.aa.Value m.aF m.aM=some ((cx m).1,(cx m).2,()):=by
 have:=aaq h.ay.2 h.aR h.jo.1 h.jo.2 m.aa.Value m.aF m.aM
 rwa [h.ay.1]at this
theorem aby{m:af}(h:rG m):ng m.au m.ab (aP m) m.aa.Value=some (kN m):=by
 have:=aap h.ay.2 h.aR h.jo.1 h.jo.2 m.aa.Value
 rwa [h.ay.1]at this
def AY(m:af)(v:ByteArray)(lo hi:Int):af:=
 {m with aa:=if(!bE m.aa ⟨hi,v⟩||bg m.aa ⟨hi,v⟩)=true then⟨bo m.aa.aj hi,v⟩else m.aa,ak:=if gK m.ak ⟨hi,v⟩=true then m.ak else⟨hi,v⟩,aA:=2,aF:=lo,aM:=hi,av:=⟨hi,v⟩,aw:=bN}
def vz(m:af)(lo hi:Int):af:=
 {m with aa:=⟨bo m.aa.aj hi,m.aa.Value⟩,ak:=⟨bo m.ak.aj hi,m.ak.Value⟩,av:=⟨bo m.av.aj hi,m.aa.Value⟩,aF:=lo,aM:=hi}
 def eo(m:af):af:=
 if m.aA=1 then(if(dZ m).2.2.2.1=true then AY m (dZ m).1 (dZ m).2.1 (dZ m).2.2.1 else m)
 else if m.aA=2 then vz m (cx m).1 (cx m).2 else m
theorem R4{m:af}(h:rG m):oe m=some (eo m):=by
 have hl:m.aC.length<=1000:=by have:=h.len;omega
 unfold oe eo;simp only[af.eta,an.eta,de,KC hl,YO h,abz h,Qa,ba,fI,iN,xM]
 by_cases h1:m.aA=1
 ·rw[Qg h1,Qr h1]
  cases hk:(dZ m).2.2.2.1 with
  |false=>simp only[Qk,Qp,Qq,Qu]
  |true=>
   simp only[Qk,Qo,Ql,Qt];unfold AY;cases bE m.aa ⟨(dZ m).2.2.1,(dZ m).1⟩<;>cases bg m.aa ⟨(dZ m).2.2.1,(dZ m).1⟩<;>cases gK m.ak ⟨(dZ m).2.2.1,(dZ m).1⟩<;>rfl
 ·rw[Qh h1,Qs h1]
  by_cases h2:m.aA=2
  ·rw[Qg h2,Qr h2];rfl
  ·rw[Qh h2,Qs h2];rfl
def FO(m:af)(lo hi:Int):af:={m with aA:=3,aF:=lo,aM:=hi,aa:=⟨hi,m.aa.Value⟩,ak:=bN,aw:=bN,av:=bN}
 def gI(m:af):af:=if m.aA=2/\(kN m).2.2.1=true then FO m (kN m).1 (kN m).2.1 else m
theorem ZB{m:af}(h:rG m):tK m=some (gI m):=by
 have hl:m.aC.length<=1000:=by have:=h.len;omega
 unfold tK gI;simp only[af.eta,an.eta,KC hl,aby h,Qa]
 by_cases h2:m.aA=2
 ·rw[Qg h2]
  cases hk:(kN m).2.2.1 with
  |false=>rw[Qs (fun h=>by cases h.2)];rfl
  |true=>rw[Qr ⟨h2,rfl⟩];rfl
 ·rw[Qh h2,Qs (fun h=>h2 h.1)];rfl
end Go.Proofs.YtkgenianmdfmdaaGreat
namespace Go.Proofs.YtkgenianmdfmdaaGreat
open Go.TQ
theorem Ah{α β ρ:Type}(l:List α)(hl:l.length<=1000)(f:α->β){step:Int×List β×Unit->Option ((Int×List β×Unit)⊕ρ)}{fin:List β->Option ρ}
  (h1:∀(i:Nat) (e:α) (s:List β),s.length<=1000->e∈l->decide ((i:Int)<((l.length:Nat):Int))=true->idx l (i:Int)=some e->aG .i64 (i:Int) 1=((i+1:Nat):Int)->step ((i:Int),s,())=some (.inl (((i+1:Nat):Int),s++[f e],())))
  (h2:∀s,decide (((l.length:Nat):Int)<((l.length:Nat):Int))=false->step (((l.length:Nat):Int),s,())=Option.map Sum.inr (fin s)):aI step ((0:Int),[],())=fin (l.map f):=by
 suffices key:∀(k i:Nat) (s:List β),i+k=l.length->s.length=i->aI step ((i:Int),s,())=fin (s++(l.drop i).map f)by
  have:=key l.length 0 [] (by omega) rfl
  simpa using this
 intro k
 induction k with
 |zero=>
  intro i s hi hs;obtain rfl:i=l.length:=by omega
  have hd:decide (((l.length:Nat):Int)<((l.length:Nat):Int))=false:=Qh (Int.lt_irrefl _);have h:=h2 s hd;rw[List.drop_length,QO,List.append_nil]
  cases hf:fin s with
  |none=>rw[hf]at h;exact JJ h
  |some r=>rw[hf]at h;exact bX h
 |succ k ih=>
  intro i s hi hs;have hlt:i<l.length:=by omega
  rw[bn (h1 i l[i] s (by omega) (Q0 hlt) (Qg (by omega)) (by rw[bC];exact Qv hlt) (bP (by omega) (by omega))),ih (i+1) (s++[f l[i]]) (by omega) (by simp;omega),
   QM hlt,QD,QL]
  rfl
theorem VF{α β ρ:Type}(l:List α)(hl:l.length<=1000)(f:α->β){step:Int×List β×Unit->Option ((Int×List β×Unit)⊕ρ)}{fin:List β->Option ρ}
  (h1:∀(i:Nat) (e:α) (s:List β),s.length=l.length->e∈l->i<l.length->decide ((i:Int)<((l.length:Nat):Int))=true->idx l (i:Int)=some e->aG .i64 (i:Int) 1=((i+1:Nat):Int)->step ((i:Int),s,())=some (.inl (((i+1:Nat):Int),s.set i (f e),())))
  (h2:∀s,decide (((l.length:Nat):Int)<((l.length:Nat):Int))=false->step (((l.length:Nat):Int),s,())=Option.map Sum.inr (fin s)) {s0:List β} (hs0:s0.length=l.length):aI step ((0:Int),s0,())=fin (l.map f):=by
 suffices key:∀(k i:Nat) (s:List β),i+k=l.length->s.length=l.length->aI step ((i:Int),s,())=fin (s.take i++(l.drop i).map f)by
  have:=key l.length 0 s0 (by omega) hs0
  simpa using this
 intro k
 induction k with
 |zero=>
  intro i s hi hs;obtain rfl:i=l.length:=by omega
  have hd:decide (((l.length:Nat):Int)<((l.length:Nat):Int))=false:=Qh (Int.lt_irrefl _);have h:=h2 s hd;rw[List.drop_length,QO,List.append_nil,<-hs,List.take_length];rw[<-hs]at h
  cases hf:fin s with
  |none=>rw[hf]at h;exact JJ h
  |some r=>rw[hf]at h;exact bX h
 |succ k ih=>
  intro i s hi hs;have hlt:i<l.length:=by omega
  rw[bn (h1 i l[i] s hs (Q0 hlt) hlt (Qg (by omega)) (by rw[bC];exact Qv hlt) (bP (by omega) (by omega))),ih (i+1) (s.set i (f l[i])) (by omega) (by simpa using hs),
   QM hlt,QD]
  congr 1;rw[List.take_add_one,List.take_set_of_le (QI i),List.getElem?_set_self (by omega)]
  simp
def EW(z:ae):List ae->ae
 |[]=>z
 |x::l=>l.foldl (fun a y=>if bg a y=true then y else a) x
theorem Kc(l:List ae)(hl:l.length<=1000000)(z:ae){step:Int×ae×Unit->Option ((Int×ae×Unit)⊕ae)}
  (h1:∀(i:Nat) (x s:ae),decide ((i:Int)<((l.length:Nat):Int))=true->idx l (i:Int)=some x->aG .i64 (i:Int) 1=((i+1:Nat):Int)->step ((i:Int),s,())=some (.inl (((i+1:Nat):Int),(if i=0 then x else if bg s x=true then x else s),())))
  (h2:∀s,decide (((l.length:Nat):Int)<((l.length:Nat):Int))=false->step (((l.length:Nat):Int),s,())=some (.inr s)):aI step ((0:Int),z,())=some (EW z l):=by
 have hd:decide (((l.length:Nat):Int)<((l.length:Nat):Int))=false:=Qh (Int.lt_irrefl _)
 have key:∀(k i:Nat) (s:ae),i+k=l.length->1<=i->aI step ((i:Int),s,())=some ((l.drop i).foldl (fun a y=>if bg a y=true then y else a) s):=by
  intro k
  induction k with
  |zero=>
   intro i s hi h1i;obtain rfl:i=l.length:=by omega
   rw[List.drop_length];exact bX (h2 s hd)
  |succ k ih=>
   intro i s hi h1i;have hlt:i<l.length:=by omega
   rw[bn (h1 i l[i] s (Qg (by omega)) (by rw[bC];exact Qv hlt) (bP (by omega) (by omega))),ih (i+1) _ (by omega) (by omega),QM hlt,QU,Qs (by omega:¬i=0)]
 cases l with
 |nil=>exact bX (h2 z hd)
 |cons x l=>
  have hx:=h1 0 x z (Qg (by simp)) (by rw[bC];rfl) (bP (by omega) (by omega))
  rw[Qr rfl]at hx;exact(bn hx).trans (key l.length 1 x (by simp;omega) (by omega))
theorem Zn(l:List ae)(hl:l.length<=1000000):mD l=some (EW bN l):=by
 unfold mD;refine Kc l hl bN (fun i x s hd hx hw=> ?_) (fun s hd=> ?_)
 ·simp only[hd,hx,hw,Qk,ba,Qa,iN]
  by_cases hi:i=0
  ·subst hi;rfl
  ·have:decide ((i:Int)=0)=false:=Qh (by omega)
   rw[this,Qs hi];cases bg s x<;>rfl
 ·simp only[hd,Ql,Qe]
theorem WR(l:List ae)(hl:l.length<=1000000):kT l=some (EW bN l):=by
 unfold kT;refine Kc l hl bN (fun i x s hd hx hw=> ?_) (fun s hd=> ?_)
 ·simp only[hd,hx,hw,Qk,ba,Qa,iF]
  by_cases hi:i=0
  ·subst hi;rfl
  ·have:decide ((i:Int)=0)=false:=Qh (by omega)
   rw[this,Qs hi];cases bg s x<;>rfl
 ·simp only[hd,Ql,Qe]
def dp(m:af):ByteArray:=
 if aD m.av=false then m.av.Value else if m.aA≠1 then m.aa.Value else if m.bf≠fu then m.bf else(EW bN (m.aC.map (·.aa))).Value
theorem KU{m:af}(h:rG m):ly m=some (dp m):=by
 have hl:m.aC.length<=1000:=by have:=h.len;omega
 unfold ly dp;simp only[de,Qa]
 cases hz:aD m.av with
 |false=>rfl
 |true=>
  simp only[Qo,Ql,Bool.true_eq_false,Qu]
  by_cases h1:m.aA=1
  ·rw[Qg h1,Qs (fun h=>h h1)]
   simp only[Qo,Ql]
   by_cases hp:m.bf=fu
   ·have hp':decide (m.bf=ByteArray.mk #[])=true:=Qg hp;rw[hp',Qs (fun h=>h hp)]
    simp only[Qo,Ql]
    rw[Ah m.aC hl (·.aa) (fin:=fun s=>Option.bind (mD s) fun r=>some r.Value) (fun i e s hs he hd hx hw=>by
     simp only[hd,hx,hw,Qk,Qa]
     rw[cj (by simp;omega),Qk]) (fun s hd=>by simp only[hd,Ql]),Zn _ (by simp;omega)]
    rfl
   ·have hp':decide (m.bf=ByteArray.mk #[])=false:=Qh hp;rw[hp',Qr hp];rfl
  ·rw[Qh h1,Qr h1];rfl
theorem OR{e:ai}(h:dR e.ab)(hv:aO e=true):nJ e=some (eu e):=by
 simp only[nJ,an.eta,ai.eta,iI h,Qa,hv,eu]
 by_cases h3:e.bx=3
 ·rw[Qg h3,Qr h3];rfl
 ·rw[Qh h3,Qs h3];rfl
theorem O1{e:ai}(h:dR e.ab)(hv:aO e=true):iR e=some (eu e):=by
 rw[Rv (Sd h)];have:fV (DM e.ab) e=true:=hv;rw[this,Qr rfl]
def zo(m:af)(n:Int):Nat:=cW (fun e=>decide (n<eu e)) m.aC
 def gk(m:af)(n:Int):Bool:=na (eW m.au.toNat m.ab (aP m)) m.au.toNat (zo m n)
theorem rG.LF{m:af}(h:rG m):qb m.aC:=fun e he=>iX (h.valid e he)
theorem Nh{m:af}(h:rG m)(n:Int):zo m n<1024:=fZ h.LF
theorem Te{m:af}(h:rG m)(n:Int):pO m n=some (gk m n):=by
 have hl:m.aC.length<=1000:=by have:=h.len;omega
 unfold pO
 rw[Ah m.aC hl (fun e=>decide (n<eu e)) (fin:=fun s=>Option.bind (jF m) fun r4=>Option.bind (jQ m.au m.ab r4) fun r5=>Option.bind (gr m.aC s) fun r6=>Option.bind (mg r5 m.au r6) fun r7=>some r7)
  (fun i e s hs he hd hx hw=>by
   simp only[hd,hx,hw,Qk,Qa,an.eta,ai.eta,OR (h.sm e he) (h.valid e he)]
   rw[cj (by simp;omega),Qk])
  (fun s hd=>by simp only[hd,Ql,af.eta,an.eta])]
 have hv:=yS h.ay.2 (t:=m.ab) h.jo.1;have hb:=Jk (jG (ay:=m.au.toNat) h.aR h.jo.1) (v:=m.au.toNat) (Nh h n);rw[h.ay.1]at hv hb;rw[KC hl,Qa,hv,Qa,zp m.aC hl _ (fun e he _=>h.LF e he),Qa,show cW (fun e=>decide (n<eu e)) m.aC=zo m n from rfl,hb]
 rfl
 def kj(m:af)(Fh:Int)(e:ai):Int:=
 if m.aa.aj<eu e/\eu e<Fh/\gk m (eu e)=false then eu e else Fh
 def fT(m:af):Int:=m.aC.foldl (kj m) 1000000
 def jJ(m:af):ByteArray:=if m.aA=1 then dp m else m.aa.Value
 def dH(m:af):af:=
 if m.aA=3\/gk m m.aa.aj=false then m
 else{m with aF:=if jJ m=m.aa.Value then m.aF else 0,aa:=⟨bo m.aa.aj (dP (fT m) 1000),jJ m⟩}
open Classical in
theorem Q6{m:af}(h:rG m){ρ:Type}{step:Int×Int×Unit->Option ((Int×Int×Unit)⊕ρ)}{fin:Int->Option ρ}
  (h1:∀(i:Nat) (e:ai) (s:Int),e∈m.aC->decide ((i:Int)<((m.aC.length:Nat):Int))=true->idx m.aC (i:Int)=some e->aG .i64 (i:Int) 1=((i+1:Nat):Int)->step (s,(i:Int),())=some (.inl (kj m s e,((i+1:Nat):Int),())))
  (h2:∀s,decide (((m.aC.length:Nat):Int)<((m.aC.length:Nat):Int))=false->step (s,((m.aC.length:Nat):Int),())=Option.map Sum.inr (fin s)):aI step ((1000000:Int),(0:Int),())=fin (fT m):=by
 have hl:=h.len
 have key:=gp m.aC (by omega) (fun i s=>(s,i,())) (fun e s=>if e∈m.aC then some (.inl (kj m s e))else none) fin (step:=step) (fun i x s hd hx hw=>by
  have hm:x∈m.aC:=by rw[bC]at hx;exact List.mem_of_getElem? hx
  rw[h1 i x s hm hd hx hw,Qr hm]) (fun s hd=>h2 s hd) 1000000
 refine key.trans ?_;unfold fT
 suffices h3:∀(l:List ai),(∀e∈l,e∈m.aC)->∀s,eN (fun e s=>if e∈m.aC then some (Sum.inl (β:=ρ) (kj m s e))else none) fin l s=fin (l.foldl (kj m) s)from h3 _ (fun e he=>he) _
 intro l
 induction l with
 |nil=>intro _ s;rfl
 |cons x l ih=>
  intro hx s;rw[eN,Qr (hx x Qx),QU];exact ih (fun e he=>hx e (Qy _ he)) _
theorem XC{m:af}(h:rG m):sn m=some (dH m):=by
 unfold sn dH;simp only[af.eta,an.eta,Te h,KU h,Qa]
 by_cases h3:m.aA=3
 ·rw[Qg h3,Qr (.inl h3)];rfl
 ·rw[Qh h3]
  cases ha:gk m m.aa.aj with
  |false=>rw[Qr (.inr rfl)];rfl
  |true=>
   rw[Qs (by simp[h3])]
   simp only[Ql,Qo];refine(Q6 h (fin:=fun c=>some {m with aF:=if jJ m=m.aa.Value then m.aF else 0,aa:=⟨bo m.aa.aj (dP c 1000),jJ m⟩}) (fun i e s he hd hx hw=> ?_) (fun s hd=> ?_)).trans rfl
   ·simp only[hd,hx,hw,Qk,ba,Qa,an.eta,ai.eta,OR (h.sm e he) (h.valid e he),Te h];unfold kj
    by_cases c1:m.aa.aj<eu e
    ·by_cases c2:eu e<s
     ·rw[Qg c1,Qg c2]
      cases c3:gk m (eu e)with
      |true=>rw[Qs (by simp)];rfl
      |false=>rw[Qr ⟨c1,c2,rfl⟩];rfl
     ·rw[Qg c1,Qh c2,Qs (fun h=>c2 h.2.1)];rfl
    ·rw[Qh c1,Qs (fun h=>c1 h.1)];rfl
   ·simp only[hd,Ql,ba,Qa];unfold jJ
    by_cases h1:m.aA=1
    ·rw[Qg h1,Qr h1]
     by_cases hv:dp m=m.aa.Value
     ·simp only[Qk,Qg hv,Qo,Ql,Qr hv]
     ·simp only[Qk,Qh hv,Qp,Qs hv]
    ·rw[Qh h1,Qs h1];simp only[Ql,decide_true,Qo,Qt]
end Go.Proofs.YtkgenianmdfmdaaGreat
namespace Go.Proofs.YtkgenianmdfmdaaGreat
open Go.TQ
def cI(b:ae):Prop:=1<=b.aj/\b.aj<=1000/\1<=b.Value.size/\b.Value.size<=200
theorem cI.valid{b:ae}(h:cI b):ct b=true:=by
 obtain⟨h1,h2,h3,h4⟩:=h;simp only[ct,Qm,Qn,Qi];exact⟨⟨.inl ⟨h1,h2⟩,h3⟩,h4⟩
theorem cI.finite{b:ae}(h:cI b):finite b=true:=by
 unfold Go.Proofs.YtkgenianmdfmdaaGreat.finite;rw[h.valid,Qg h.2.1];rfl
theorem SQ{b:ae}(h:ct b=true)(hc:b.aj<=1000):cI b:=by
 simp only[ct,Qm,Qn,Qi]at h;obtain⟨⟨h1,h2⟩,h3⟩:=h;exact⟨by omega,hc,h2,h3⟩
theorem cI.nz{b:ae}(h:cI b):aD b=false:=JI h.1
theorem cI.ne{b:ae}(h:cI b):b.Value≠fu:=by
 intro e;have:=h.2.2.1;rw[e]at this;exact absurd this (by decide)
theorem nh{b:ae}:aD b=true↔b=bN:=by
 obtain⟨c,v⟩:=b;simp[aD,bN]
theorem bF:aD bN=true:=nh.2 rfl
structure P1 (m:af):Prop where
 aK:m.aA=1
 aN:cI m.aa
 cq:m.ak=bN\/cI m.ak
 bM:m.aw=bN\/(cI m.aw/\cI m.ak/\bg m.aw m.ak=true/\bE m.aw m.ak=false)
 dF:m.av=bN\/(cI m.av/\b0 m.ak m.aw m.av=true)
 up:bg m.aa m.av=false
 bG:m.aM=0
 low:m.aF=0\/(1<=m.aF/\m.aF<=eH m/\kD m.ak m.aw m.aa.Value m.aF=false)
structure P2 (m:af):Prop where
 aK:m.aA=2
 aN:cI m.aa
 cq:cI m.ak/\m.ak.Value=m.aa.Value
 bM:m.aw=bN
 dF:m.av=bN\/(cI m.av/\m.av.Value=m.aa.Value)
 range:1<=m.aF/\m.aF<=m.aM/\m.aM<=m.ak.aj
structure P3 (m:af):Prop where
 aK:m.aA=3
 aN:cI m.aa
 cq:m.ak=bN
 bM:m.aw=bN
 dF:m.av=bN
 range:1<=m.aF/\m.aF<=m.aM/\m.aM<=1000
structure P0 (m:af):Prop where
 aK:m.aA=1
 aN:m.aa=bN
 cq:m.ak=bN
 bM:m.aw=bN
 dF:m.av=bN
 low:m.aF=0
 bG:m.aM=0
structure aZ (m:af):Prop where
 n0:0<=m.au
 n1:m.au<10
 bD:1<=m.bs/\m.bs<=1000000
 seq:0<=m.aL/\m.aL<=1000000
 aR:gL m.ab
 ow:m.bf.size<=200
 hv:∀e∈m.aC,aO e=true/\gL e.ab/\e.bs=m.bs/\e.au≠m.au
 oq:m.aC.Pairwise (fun a b=>a.au<b.au)
 body:P0 m\/P1 m\/P2 m\/P3 m
theorem IH:∀(l:List ai) (k:Nat),k<=10->(∀e∈l,(k:Int)<=e.au/\e.au<10)->l.Pairwise (fun a b=>a.au<b.au)->l.length+k<=10
 |[],k,hk,_,_=>by simpa using hk
 |x::l,k,hk,h,hp=>by
  rw[Q4]at hp;have hx:=h x Qx;have:=IH l (k+1) (by omega) (fun e he=>⟨by have:=hp.1 e he;omega,(h e (Qy _ he)).2⟩) hp.2
  rw[QE];omega
theorem aZ.len{m:af}(h:aZ m):m.aC.length<=10:=by
 have:=IH m.aC 0 (by omega) (fun e he=>by have:=iX (h.hv e he).1;omega) h.oq
 omega
theorem aZ.ev{m:af}(h:aZ m):rG m:=
 ⟨h.n0,h.n1,h.aR.sm,by have:=h.len;omega,fun e he=>(h.hv e he).2.1.sm,fun e he=>(h.hv e he).1⟩
theorem CR{m:af}(h:P1 m):0<=eH m/\eH m<=m.aa.aj/\(eH m=0\/(cI m.av/\m.av.Value=m.aa.Value/\eH m=m.av.aj)):=by
 unfold eH;split
 ·rename_i hc;simp only[Qm,Bool.not_eq_true',bE,Qi]at hc;rcases h.dF with e|⟨hf,_⟩
  ·rw[e,bF]at hc;cases hc.1
  ·have hup:=h.up;unfold bg at hup;split at hup
   ·rename_i e;exact⟨by have:=hf.1;omega,by omega,.inr ⟨hf,hc.2,rfl⟩⟩
   ·simp only[Qj]at hup;exact⟨by have:=hf.1;omega,by omega,.inr ⟨hf,hc.2,rfl⟩⟩
 ·exact⟨Int.le_refl _,by have:=h.aN.1;omega,.inl rfl⟩
theorem EC{m:af}(h:aZ m)(hz:aD m.aa=false):aO (dS m)=true:=by
 have hseq:1<=(dS m).aL/\(dS m).aL<=1000000:=by
  have h1:(dS m).aL=bo m.aL 1:=by show bo (bR m).aL 1=_;rw[PL]
  have:=h.seq;rw[h1];unfold bo;split<;>omega
 have hnode:(dS m).au=m.au:=lW m;have hslot:(dS m).bs=m.bs:=xd m
 have hhead:vp (dS m)=true:=by
  unfold vp;rw[hnode,hslot];simp only[Qm,Qi];exact⟨⟨⟨⟨⟨h.n0,h.n1⟩,h.bD.1⟩,h.bD.2⟩,hseq.1⟩,hseq.2⟩
 unfold aO;rw[vd,Md h.aR];unfold fV;rw[hhead];have hkind:(dS m).bx=m.aA:=VI m;rw[hkind];rcases h.body with h0|h1|h2|h3
 ·rw[h0.aN,bF]at hz;cases hz
 ·rw[Qr h1.aK];have hh:=CR h1;have e:dS m=⟨m.au,m.bs,bo (bR m).aL 1,m.ab,m.aA,m.aa,m.ak,m.aw,m.aF,eH m⟩:=by unfold dS bR;rw[Qr h1.aK]
  have hp:(aD m.ak||ct m.ak)=true:=by
   rcases h1.cq with e|hf
   ·rw[e,bF];rfl
   ·rw[hf.valid,Bool.or_true]
  have hq:(aD m.aw||ct m.aw)=true:=by
   rcases h1.bM with e|hf
   ·rw[e,bF];rfl
   ·rw[hf.1.valid,Bool.or_true]
  have hpo:yt (dS m)=true:=by
   rw[e];unfold yt;rcases h1.bM with e|⟨_,hf,hl,hc⟩
   ·simp only[e,bF,Bool.true_or]
   ·simp only[hf.nz,hl,hc,Qp,Bool.and_self,Bool.or_true]
  have hhp:(decide (eH m=0)||b0 m.ak m.aw ⟨eH m,m.aa.Value⟩)=true:=by
   rcases hh.2.2 with e|⟨hf,hv,e⟩
   ·rw[Qg e];rfl
   ·rw[e,<-hv];rcases h1.dF with e2|⟨_,hp⟩
    ·have:=hf.nz;rw[e2,bF]at this;cases this
    ·rw[hp,Bool.or_true]
  have hlow:0<=m.aF/\m.aF<=eH m/\(decide (m.aF=0)||(!dO m.ak ⟨m.aF,m.aa.Value⟩&& !dO m.aw ⟨m.aF,m.aa.Value⟩))=true:=by
   rcases h1.low with e|⟨h5,h6,h7⟩
   ·rw[e];exact⟨Int.le_refl _,hh.1,rfl⟩
   ·refine⟨by omega,h6,?_⟩
    unfold kD at h7;rw[Bool.or_eq_false_iff]at h7;rw[h7.1,h7.2];simp
  unfold fC;rw[hpo];rw[e];unfold at_
  simp only[h1.aN.finite,hp,hq,Qg hlow.1,Qg hlow.2.1,Qg hh.2.1,hhp,hlow.2.2,Bool.and_self,decide_true]
 ·rw[Qs (by rw[h2.aK];decide),Qr h2.aK]
  have e:dS m=⟨m.au,m.bs,bo (bR m).aL 1,m.ab,m.aA,m.aa,m.ak,bN,m.aF,m.aM⟩:=by unfold dS bR;rw[Qs (by rw[h2.aK];decide),Qr h2.aK]
  have hc:m.aM<=1000:=by have:=h2.range.2.2;have:=h2.cq.1.2.1;omega
  unfold rj pI;rw[e];simp only[h2.aN.finite,h2.cq.1.valid,bE,Qg h2.cq.2,bF,Qg h2.range.1,Qg h2.range.2.1,Qg h2.range.2.2,Qg hc,Bool.and_self,decide_true]
 ·rw[Qs (by rw[h3.aK];decide),Qs (by rw[h3.aK];decide),Qr h3.aK]
  have e:dS m=⟨m.au,m.bs,bo (bR m).aL 1,m.ab,m.aA,m.aa,bN,bN,m.aF,m.aM⟩:=by unfold dS bR;rw[Qs (by rw[h3.aK];decide),Qs (by rw[h3.aK];decide)]
  unfold wQ pI;rw[e];simp only[h3.aN.valid,bF,Qg h3.range.1,Qg h3.range.2.1,Qg h3.range.2.2,Bool.and_self,decide_true]
theorem aZ.gV{m:af}(h:aZ m):∀e∈aP m,aO e=true:=by
 intro e he;rcases uk he with he|⟨hz,rfl⟩
 ·exact(h.hv e he).1
 ·exact EC h hz
theorem aZ.Ss{m:af}(h:aZ m){e:ai}(he:e∈aP m)(hn:e.au.toNat=m.au.toNat):aD m.aa=false/\e=dS m:=by
 rcases uk he with he|⟨hz,rfl⟩
 ·have h1:=(h.hv e he).2.2.2;have h2:=iX (h.hv e he).1;have:=h.n0;omega
 ·exact⟨hz,rfl⟩
end Go.Proofs.YtkgenianmdfmdaaGreat
namespace Go.Proofs.YtkgenianmdfmdaaGreat
open Go.TQ
theorem uE(a b:ae):bg a b=true↔a.aj<b.aj\/(a.aj=b.aj/\jx a.Value b.Value=true):=by
 unfold bg;split
 ·rename_i e;rw[e];simp
 ·rename_i e;simp only[Qi];constructor
  ·exact .inl
  ·rintro(h|h)
   ·exact h
   ·exact absurd h.1 e
theorem kF{a b c:ae}(h:bg a b=true)(h':bg b c=true):bg a c=true:=wF.trans _ _ _ h h'
theorem Vr(a:ae):bg a a=false:=wF.irrefl a
theorem EL{a b:ae}(h:bg a b=false)(h':a≠b):bg b a=true:=by
 cases h1:bg b a with
 |true=>rfl
 |false=>exact absurd (wF.total a b h h1) h'
theorem gP{a b:ae}(h:bg a b=true):a.aj<=b.aj:=by
 rw[uE]at h;omega
theorem HS{a b:ae}(h:bg a b=false):b.aj<=a.aj:=by
 rcases Int.lt_or_le a.aj b.aj with h1|h1
 ·rw[(uE a b).2 (.inl h1)]at h;cases h
 ·exact h1
theorem Vp(v:ByteArray):jx v v=false:=wE.irrefl v
theorem CD{a b:ae}(hv:a.Value=b.Value):bg a b=decide (a.aj<b.aj):=by
 unfold bg;split
 ·rename_i e;rw[hv,Vp,e];simp
 ·rfl
theorem E9{p x:ae}(h:gK p x=true):bg p x=false:=by
 obtain⟨_,h2,h3⟩:=(jM p x).1 h;rw[CD h2,Qj];omega
theorem M8{p x q:ae}(h:gK p x=true)(hq:bg p q=true):bg x q=true:=by
 by_cases e:x=p
 ·rw[e];exact hq
 ·exact kF (EL (E9 h) (fun h=>e h.symm)) hq
theorem gb{a b:ae}:bE a b=true↔a.Value=b.Value:=decide_eq_true_iff
theorem gZ{a b:ae}:bE a b=false↔a.Value≠b.Value:=Qj
theorem qK(p q x:ae):b0 p q x=true↔gK p x=true\/gK q x=true\/(aD q=false/\bg x q=true):=by
 unfold b0;simp only[Qn,Qm,Bool.not_eq_true'];exact⟨fun h=>by rcases h with(h|h)|h<;>simp[h],fun h=>by rcases h with h|h|h<;>simp[h]⟩
def pN(p q:ae):Prop:=(p=bN\/cI p)/\(q=bN\/(cI q/\cI p/\bg q p=true/\bE q p=false))
theorem P1.fC{m:af}(h:P1 m):pN m.ak m.aw:=⟨h.cq,h.bM⟩
theorem zd{b:ae}(h:cI b):b≠bN:=fun e=>by have:=h.nz;rw[e,bF]at this;cases this
inductive qt (p q b:ae):ae->ae->Prop where
 |same:qt p q b p q
 |first (hp:p=bN) (hq:q=bN):qt p q b b bN
 |up (hp:cI p) (hl:bg p b=true) (hc:p.Value=b.Value):qt p q b b q
 |AA (hp:cI p) (hl:bg p b=true) (hc:p.Value≠b.Value):qt p q b b p
 |under (hp:cI p) (hl:bg b p=true) (hc:b.Value≠p.Value) (hq:q=bN\/bg q b=true):qt p q b p b
theorem Ze{p q b:ae}(h:pN p q)(hb:b=bN\/cI b):qt p q b (cz p q b).1 (cz p q b).2:=by
 unfold cz;rcases hb with rfl|hb
 ·rw[Qr bF];exact .same
 rw[Qs (by rw[hb.nz];decide)]
 rcases h.1 with rfl|hp
 ·have hq:q=bN:=by
   rcases h.2 with e|⟨_,e,_⟩
   ·exact e
   ·exact absurd rfl (zd e)
  rw[Qr bF,hq];exact .first rfl rfl
 rw[Qs (by rw[hp.nz];decide)]
 by_cases hl:bg p b=true
 ·rw[Qr hl]
  by_cases hc:bE p b=true
  ·rw[Qr hc]
   have hcq:bE q b=false:=by
    rw[gb]at hc;rw[gZ];rcases h.2 with rfl|⟨_,_,_,e⟩
    ·exact fun e=>hb.ne e.symm
    ·rw[gZ]at e;rw[<-hc];exact e
   rw[Qs (by rw[hcq];decide)]
   exact .up hp hl (gb.1 hc)
  ·rw[Qs hc];exact .AA hp hl (gZ.1 (by simpa using hc))
 ·rw[Qs hl];split
  ·rename_i hu;simp only[Qm,Qn,Bool.not_eq_true']at hu;refine .under hp hu.1.1 (gZ.1 hu.1.2) ?_;rcases hu.2 with e|e
   ·exact .inl (nh.1 e)
   ·exact .inr e
  ·exact .same
theorem qt.ok{p q b p' q':ae}(h:pN p q)(hb:b=bN\/cI b)(hj:qt p q b p' q'):pN p' q':=by
 have hbf:∀{x:ae},bg x b=true\/cI b\/(cI x/\bg b x=true)->True:=fun _=>trivial
 cases hj with
 |same=>exact h
 |first hp hq=>exact⟨hb,.inl rfl⟩
 |up hp hl hc=>
  have hb':cI b:=by
   rcases hb with rfl|hb
   ·have h1:=gP hl;have h2:=hp.1;have:(bN:ae).aj=0:=rfl;omega
   ·exact hb
  refine⟨.inr hb',?_⟩;rcases h.2 with e|⟨h1,h2,h3,h4⟩
  ·exact .inl e
  ·refine .inr ⟨h1,hb',kF h3 hl,?_⟩;rw[gZ]at h4 ⊢;rw[<-hc];exact h4
 |AA hp hl hc=>
  have hb':cI b:=by
   rcases hb with rfl|hb
   ·have h1:=gP hl;have h2:=hp.1;have:(bN:ae).aj=0:=rfl;omega
   ·exact hb
  exact⟨.inr hb',.inr ⟨hp,hb',hl,gZ.2 hc⟩⟩
 |under hp hl hc hq=>
  refine⟨.inr hp,?_⟩;rcases hb with e|hb
  ·exact .inl e
  ·exact .inr ⟨hb,hp,hl,gZ.2 hc⟩
theorem qt.mono{p q b p' q':ae}(h:pN p q)(hj:qt p q b p' q'){x:ae}(hx:b0 p q x=true):b0 p' q' x=true:=by
 rw[qK]at hx ⊢
 have hqp:aD q=false->bg q p=true:=fun hz=>by
  rcases h.2 with e|⟨_,_,e,_⟩
  ·rw[e,bF]at hz;cases hz
  ·exact e
 have hcq:gK q x=true->aD q=false:=fun hc=>((jM q x).1 hc).1
 cases hj with
 |same=>exact hx
 |first hp hq=>
  subst hp hq;rcases hx with hx|hx|hx
  ·have:=((jM _ _).1 hx).1;rw[bF]at this;cases this
  ·have:=((jM _ _).1 hx).1;rw[bF]at this;cases this
  ·rw[bF]at hx;cases hx.1
 |up hp hl hc=>
  rcases hx with hx|hx|hx
  ·obtain⟨h1,h2,h3⟩:=(jM _ _).1 hx;refine .inl ((jM _ _).2 ⟨?_,hc.symm.trans h2,Int.le_trans h3 (gP hl)⟩);have:=hp.1;have:=gP hl;exact JI (by omega)
  ·exact .inr (.inl hx)
  ·exact .inr (.inr hx)
 |AA hp hl hc=>
  rcases hx with hx|hx|hx
  ·exact .inr (.inl hx)
  ·exact .inr (.inr ⟨hp.nz,M8 hx (hqp (hcq hx))⟩)
  ·exact .inr (.inr ⟨hp.nz,kF hx.2 (hqp hx.1)⟩)
 |under hp hl hc hq=>
  have hbz:aD q=false->bg q b=true:=fun hz=>by
   rcases hq with e|e
   ·rw[e,bF]at hz;cases hz
   ·exact e
  have hbn:aD q=false->aD b=false:=fun hz=>by
   have h1:=gP (hbz hz);rcases h.2 with e|⟨e,_⟩
   ·rw[e,bF]at hz;cases hz
   ·have:=e.1;exact JI (by omega)
  rcases hx with hx|hx|hx
  ·exact .inl hx
  ·exact .inr (.inr ⟨hbn (hcq hx),M8 hx (hbz (hcq hx))⟩)
  ·exact .inr (.inr ⟨hbn hx.1,kF hx.2 (hbz hx.1)⟩)
theorem V9{p:ae}{v:ByteArray}{n k:Int}(h:dO p ⟨n,v⟩=false)(hk:n<=k):dO p ⟨k,v⟩=false:=R7 hk h
theorem Ot{v:ByteArray}{n:Int}{x:ae}(hx:x=bN\/ct x=true):n<=tw v n x/\dO x ⟨tw v n x,v⟩=false:=by
 unfold tw;split
 ·rename_i hc;rw[Qm]at hc;have ha:=hc.2;unfold dO at ha;rw[Qm,Qm]at ha;have hle:n<=x.aj:=gP ha.2;split
  ·refine⟨by omega,?_⟩
   unfold dO;rw[Bool.and_eq_false_iff];right
   cases hl:bg ⟨x.aj+1,v⟩ x with
   |false=>rfl
   |true=>have:=gP hl;simp only at this;omega
  ·rename_i hn;exact⟨hle,by simpa using hn⟩
 ·rename_i hc;refine⟨Int.le_refl _,?_⟩;rcases hx with rfl|hv
  ·unfold dO;rw[bF];rfl
  ·rw[hv,Bool.true_and]at hc;simpa using hc
theorem SD{v:ByteArray}{n:Int}{p q:ae}(hp:p=bN\/ct p=true)(hq:q=bN\/ct q=true):n<=jC v n p q/\1<=jC v n p q/\kD p q v (jC v n p q)=false:=by
 unfold jC;obtain⟨h1,h2⟩:=Ot (v:=v) (n:=bo n 1) hp;obtain⟨h3,h4⟩:=Ot (v:=v) (n:=tw v (bo n 1) p) hq;have hm:n<=bo n 1/\1<=bo n 1:=by unfold bo;split<;>omega
 refine⟨by omega,by omega,?_⟩
 unfold kD;rw[h4,Bool.or_false];exact V9 h2 h3
theorem IC{v:ByteArray}{n:Int}{x:ae}(h:dO x ⟨n,v⟩=false):tw v n x=n:=by
 unfold tw;rw[h,Bool.and_false];rfl
theorem Vn{v:ByteArray}{n:Int}{p q:ae}(h1:1<=n)(h:kD p q v n=false):jC v n p q=n:=by
 unfold kD at h;rw[Bool.or_eq_false_iff]at h;have hm:bo n 1=n:=by unfold bo;split<;>omega
 unfold jC;rw[hm,IC h.1,IC h.2]
theorem pN.valid{p q:ae}(h:pN p q):(p=bN\/ct p=true)/\(q=bN\/ct q=true):=
 ⟨h.1.imp id cI.valid,h.2.imp id fun h=>h.1.valid⟩
theorem Tu{e:ai}(hv:aO e=true){x:ae}(hx:x∈said e)(hz:aD x=false):ct x=true:=by
 have hv':=hv;unfold aO fV at hv';unfold said at hx;rw[Qr hv]at hx;rw[Qm,Qm]at hv';have hb:=hv'.2
 by_cases h1:e.bx=1
 ·rw[Qr h1]at hb hx;unfold fC at hb;simp only[Qm,Qn]at hb;obtain⟨⟨⟨⟨⟨⟨⟨⟨hf,hp⟩,hq⟩,_⟩,_⟩,_⟩,_⟩,_⟩,_⟩:=hb;simp only[QA,QR,or_false]at hx;rcases hx with rfl|rfl|rfl
  ·unfold finite at hf;rw[Qm]at hf;exact hf.1
  ·rcases hp with hp|hp
   ·rw[hp]at hz;cases hz
   ·exact hp
  ·rcases hq with hq|hq
   ·rw[hq]at hz;cases hz
   ·exact hq
 ·rw[Qs h1]at hb hx
  have hinf:∀{b:ae},ct b=true->ct ⟨1000000,b.Value⟩=true:=by
   intro b hb;simp only[ct,Qm,Qn,Qi]at hb ⊢;exact⟨⟨.inr trivial,hb.1.2⟩,hb.2⟩
  by_cases h2:e.bx=2
  ·rw[Qr h2]at hb hx;unfold rj at hb;simp only[Qm]at hb;obtain⟨⟨⟨⟨⟨hf,hp⟩,hc⟩,_⟩,_⟩,_⟩:=hb;simp only[QA,QR,or_false]at hx;rcases hx with rfl|rfl
   ·exact hp
   ·unfold finite at hf;rw[Qm]at hf;exact hinf hf.1
  ·rw[Qs h2]at hb hx;simp only[QA,QR,or_false]at hx;subst hx
   by_cases h3:e.bx=3
   ·rw[Qr h3]at hb;unfold wQ at hb;simp only[Qm]at hb;exact hinf hb.1.1.1
   ·rw[Qs h3]at hb;cases hb
theorem GL{e:ai}(hv:aO e=true):1<=e.aa.Value.size/\e.aa.Value.size<=200:=by
 have hv':=hv;unfold aO fV at hv';rw[Qm,Qm]at hv';have hb:=hv'.2
 have go:∀{b:ae},ct b=true->1<=b.Value.size/\b.Value.size<=200:=by
  intro b hb;simp only[ct,Qm,Qn,Qi]at hb;exact⟨hb.1.2,hb.2⟩
 have gof:∀{b:ae},finite b=true->1<=b.Value.size/\b.Value.size<=200:=by
  intro b hb;unfold finite at hb;rw[Qm]at hb;exact go hb.1
 by_cases h1:e.bx=1
 ·rw[Qr h1]at hb;unfold fC at hb;simp only[Qm]at hb;exact gof hb.1.1.1.1.1.1.1.1
 ·rw[Qs h1]at hb
  by_cases h2:e.bx=2
  ·rw[Qr h2]at hb;unfold rj at hb;simp only[Qm]at hb;exact gof hb.1.1.1.1.1
  ·rw[Qs h2]at hb
   by_cases h3:e.bx=3
   ·rw[Qr h3]at hb;unfold wQ at hb;simp only[Qm]at hb;exact go hb.1.1.1
   ·rw[Qs h3]at hb;cases hb
theorem ZU{b:ae}(h:ct b=true):cI (dq b):=by
 simp only[ct,Qm,Qn,Qi]at h;obtain⟨⟨h1,h2⟩,h3⟩:=h;unfold dq;split
 ·exact⟨(by decide:(1:Int)<=1000),(by decide:(1000:Int)<=1000),h2,h3⟩
 ·exact⟨by omega,by omega,h2,h3⟩
theorem PI{α:Type}{l:List α}{p:α->Bool}{z:α}:(l.find? p).getD z=z\/((l.find? p).getD z∈l/\p ((l.find? p).getD z)=true):=by
 cases h:l.find? p with
 |none=>exact .inl rfl
 |some x=>exact .inr ⟨List.mem_of_find?_eq_some h,List.find?_some h⟩
theorem Dn{m:af}(h:aZ m){x:ae}(hx:x∈ea (aP m)):ct x=true:=by
 obtain⟨e,he,h1,h2⟩:=((kG h.ev.jo.1.aR h.ev.jo.2).2.2.2 x).1 hx;exact Tu (h.gV e he) h1 h2
theorem ML{m:af}(h:aZ m):dU m=bN\/(ct (dU m)=true/\(zR m=fu\/(dU m).Value=zR m)/\b0 (oC m.ak) (oC m.aw) (dU m)=false/\jE m.au.toNat m.ab (aP m) (dU m)=true):=by
 unfold dU hZ;rcases PI (l:=ea (aP m)) (p:=tB (jE m.au.toNat m.ab (aP m)) m.ak m.aw (zR m)) (z:=vP)with e|⟨h1,h2⟩
 ·exact .inl e
 ·right;unfold tB at h2;simp only[Qm,Qn,Bool.not_eq_true',Qi]at h2;exact⟨Dn h h1,h2.1.1,h2.1.2,h2.2⟩
theorem vA{m:af}(h:aZ m):dq (dU m)=bN\/cI (dq (dU m)):=by
 rcases ML h with e|⟨h1,_⟩
 ·left;rw[e];decide
 ·exact .inr (ZU h1)
theorem Br{m:af}(h:aZ m)(h1:pN m.ak m.aw):qt m.ak m.aw (dq (dU m)) (cz m.ak m.aw (dq (dU m))).1 (cz m.ak m.aw (dq (dU m))).2:=Ze h1 (vA h)
theorem P2.fC{m:af}(h:P2 m):pN m.ak m.aw:=⟨.inr h.cq.1,.inl h.bM⟩
theorem YV{m:af}(h:aZ m)(h1:P1 m):P1 (cn m):=by
 unfold cn;rw[Qs (by rw[h1.aK,h1.aN.nz];decide)]
 have hj:=Br h h1.fC;generalize (cz m.ak m.aw (dq (dU m))).1=p at hj;generalize (cz m.ak m.aw (dq (dU m))).2=q at hj;have hok:=hj.ok h1.fC (vA h);refine⟨h1.aK,h1.aN,hok.1,hok.2,?_,h1.up,h1.bG,?_⟩
 ·rcases h1.dF with e|⟨hf,hp⟩
  ·exact .inl e
  ·exact .inr ⟨hf,hj.mono h1.fC hp⟩
 ·show mS m p q=0\/(1<=mS m p q/\mS m p q<=eH m/\kD p q m.aa.Value (mS m p q)=false);unfold mS
  by_cases hL:m.aF=0
  ·rw[Qs (fun h=>h.2 hL)];exact .inl hL
  ·rw[Qr ⟨h1.aK,hL⟩];split
   ·exact .inl rfl
   ·rename_i hlt;obtain⟨h2,h3,h4⟩:=SD (v:=m.aa.Value) (n:=m.aF) hok.valid.1 hok.valid.2;exact .inr ⟨h3,by omega,h4⟩
theorem Sp{m:af}(h:aZ m)(h2:P2 m):P2 (cn m)/\m.ak.aj<=(cn m).ak.aj/\(cn m).aw=bN:=by
 unfold cn;rw[Qs (by rw[h2.aK,h2.aN.nz];decide)]
 have hv:dq (dU m)=bN\/(dq (dU m)).Value=m.aa.Value:=by
  rcases ML h with e|⟨h3,h4,_⟩
  ·left;rw[e];decide
  ·right;have hc:(dq (dU m)).Value=(dU m).Value:=by unfold dq;split<;>rfl
   have hvo:zR m=m.aa.Value:=Qr h2.aK;rw[hvo]at h4;rw[hc];exact h4.resolve_left h2.aN.ne
 have hj:=Br h h2.fC;have hlow:∀p q,mS m p q=m.aF:=fun p q=>Qs (fun h=>by have:=h.1;rw[h2.aK]at this;cases this)
 simp only[hlow];have hok:=hj.ok h2.fC (vA h);generalize (cz m.ak m.aw (dq (dU m))).1=p at hj hok;generalize (cz m.ak m.aw (dq (dU m))).2=q at hj hok;generalize hb:dq (dU m)=b at hj hv
 have key:cI p/\p.Value=m.aa.Value/\m.ak.aj<=p.aj/\q=bN:=by
  cases hj with
  |same=>exact⟨h2.cq.1,h2.cq.2,Int.le_refl _,h2.bM⟩
  |first hp hq=>exact absurd hp (zd h2.cq.1)
  |up hp hl hc=>exact⟨hok.1.resolve_left (fun e=>by have:=gP hl;rw[e]at this;have h9:=h2.cq.1.1;have:(bN:ae).aj=0:=rfl;omega),hc.symm.trans h2.cq.2,gP hl,h2.bM⟩
  |AA hp hl hc=>
   exfalso;rcases hv with e|e
   ·have:=gP hl;rw[e]at this;have h9:=h2.cq.1.1;have:(bN:ae).aj=0:=rfl;omega
   ·exact hc (h2.cq.2.trans e.symm)
  |under hp hl hc hq=>
   rcases hv with e|e
   ·exact⟨h2.cq.1,h2.cq.2,Int.le_refl _,e⟩
   ·exact absurd (e.trans h2.cq.2.symm) hc
 exact⟨⟨h2.aK,h2.aN,⟨key.1,key.2.1⟩,key.2.2.2,h2.dF,⟨h2.range.1,h2.range.2.1,Int.le_trans h2.range.2.2 key.2.2.1⟩⟩,key.2.2.1,key.2.2.2⟩
theorem MC{m:af}(h:aZ m):aZ (cn m):=by
 have hid:m.aA=3\/aD m.aa=true->cn m=m:=fun hc=>Qr hc
 have mk:(P0 (cn m)\/P1 (cn m)\/P2 (cn m)\/P3 (cn m))->aZ (cn m):=by
  intro hb;unfold cn at hb ⊢;split at hb
  ·rename_i hc;rw[Qr hc];exact h
  ·rename_i hc;rw[Qs hc];exact⟨h.n0,h.n1,h.bD,h.seq,h.aR,h.ow,h.hv,h.oq,hb⟩
 rcases h.body with h0|h1|h2|h3
 ·rw[hid (.inr (by rw[h0.aN];exact bF))];exact h
 ·exact mk (.inr (.inl (YV h h1)))
 ·exact mk (.inr (.inr (.inl (Sp h h2).1)))
 ·rw[hid (.inl h3.aK)];exact h
end Go.Proofs.YtkgenianmdfmdaaGreat
namespace Go.Proofs.YtkgenianmdfmdaaGreat
open Go.TQ
end Go.Proofs.YtkgenianmdfmdaaGreat
namespace Go.Proofs.YtkgenianmdfmdaaGreat
open Go.TQ
theorem iv(q:Int->Bool):∀(r:List Int) (lo:Int),bH q r lo<=lo
 |[],lo=>Int.le_refl _
 |e::r,lo=>by
  rw[bH];split
  ·exact iv q r lo
  ·split
   ·exact Int.le_trans (iv q r e) (by omega)
   ·exact Int.le_refl _
theorem wu(q:Int->Bool):∀(r:List Int) (lo:Int),bH q r lo=lo\/q (bH q r lo)=true/\bH q r lo∈r
 |[],lo=> .inl rfl
 |e::r,lo=>by
  rw[bH];split
  ·exact(wu q r lo).imp id fun h=>⟨h.1,by simp[h.2]⟩
  ·split
   ·rename_i hq;rcases wu q r e with h|h
    ·exact .inr ⟨by rw[h];exact hq,by rw[h];simp⟩
    ·exact .inr ⟨h.1,by simp[h.2]⟩
   ·exact .inl rfl
theorem yi(q:Int->Bool):∀(r:List Int) (lo:Int),bH q r (bH q r lo)=bH q r lo
 |[],lo=>rfl
 |e::r,lo=>by
  by_cases h1:lo<=e
  ·have e1:bH q (e::r) lo=bH q r lo:=by rw[bH,Qr h1]
   have:=iv q r lo;rw[e1,bH,Qr (by omega)]
   exact yi q r lo
  ·cases h2:q e with
   |true=>
    have e1:bH q (e::r) lo=bH q r e:=by rw[bH,Qs h1,Qr h2]
    have:=iv q r e;rw[e1,bH,Qr (by omega)]
    exact yi q r e
   |false=>
    have e1:bH q (e::r) lo=lo:=by rw[bH,Qs h1,Qs (by simp[h2])]
    rw[e1,e1]
theorem zf(q:Int->Bool)(r:List Int)(lo:Int)(h:∀x∈r,1<=x)(h1:1<=lo):1<=bH q r lo:=by
 rcases wu q r lo with e|⟨_,e⟩
 ·omega
 ·exact h _ e
section
variable {ay : Nat} {t : an} {l : List ai} (p q : ae)
end
end Go.Proofs.YtkgenianmdfmdaaGreat
namespace Go.Proofs.YtkgenianmdfmdaaGreat
open Go.TQ
theorem Yx{m:af}(h:aZ m){p:ai->Bool}(hb:(cW p (bL (aP m))).testBit m.au.toNat=true):aD m.aa=false/\p (dS m)=true:=by
 rw[oX,List.any_eq_true]at hb;obtain⟨e,he,hp⟩:=hb;rw[Qm,Qi]at hp;obtain⟨h1,h2⟩:=h.Ss ((List.mem_filter.1 he).1) hp.2;rw[<-h2];exact⟨h1,hp.1⟩
theorem P4{m:af}(h:aZ m){b:ae}(hc:iV m.au.toNat m.ab (aP m) b=true):aD m.aa=false/\cQ (dS m) b=true:=by
 have hsm:=jG (ay:=m.au.toNat) h.aR.sm h.ev.jo.1;have hg:=wO hsm (fZ (p:=(cQ · b)) (iH (aP m)));exact Yx h (hg.inside _ hc).1
theorem RQ{m:af}(h1:m.aA=1){b:ae}(ha:cQ (dS m) b=true):aD b=false/\b0 m.ak m.aw b=true:=by
 have e:dS m=⟨m.au,m.bs,bo (bR m).aL 1,m.ab,m.aA,m.aa,m.ak,m.aw,m.aF,eH m⟩:=by unfold dS bR;rw[Qr h1]
 rw[e]at ha;unfold cQ at ha;rw[Qm,Qr h1]at ha;simpa using ha
theorem Vy{m:af}(h:aZ m)(h1:P1 m):fE m=bN\/(cI (fE m)/\bg m.av (fE m)=true/\b0 m.ak m.aw (fE m)=true):=by
 unfold fE tE;rcases PI (l:=ea (aP m)) (p:=tD (iV m.au.toNat m.ab (aP m)) m.av) (z:=vP)with e|⟨h2,h3⟩
 ·exact .inl e
 ·right;unfold tD at h3;simp only[Qm,Qi]at h3;exact⟨SQ (Dn h h2) h3.1.2,h3.1.1,(RQ h1.aK (P4 h h3.2).2).2⟩
theorem Zd{p q b:ae}{v:ByteArray}{n:Int}(hok:pN p q)(hb:b0 p q b=true)(hv:b.Value≠v)(ha:kD p q v n=false):b.aj<=n:=by
 unfold kD at ha;rw[Bool.or_eq_false_iff]at ha
 have key:∀x:ae,aD x=false->x.Value≠v->dO x ⟨n,v⟩=false->x.aj<=n:=by
  intro x hz hx h;unfold dO at h;rw[hz,(gZ (a:=x) (b:=⟨n,v⟩)).2 hx,Qp,Bool.and_self,Bool.true_and]at h;exact HS h
 have hqp:aD q=false->cI q/\cI p/\bg q p=true/\q.Value≠p.Value:=fun hz=>by
  rcases hok.2 with e|⟨e1,e2,e3,e4⟩
  ·rw[e,bF]at hz;cases hz
  ·exact⟨e1,e2,e3,gZ.1 e4⟩
 rw[qK]at hb;rcases hb with hb|hb|⟨hz,hl⟩
 ·obtain⟨h1,h2,h3⟩:=(jM _ _).1 hb;have:=key p h1 (by rw[h2];exact hv) ha.1
  omega
 ·obtain⟨h1,h2,h3⟩:=(jM _ _).1 hb;have:=key q h1 (by rw[h2];exact hv) ha.2
  omega
 ·obtain⟨e1,e2,e3,e4⟩:=hqp hz;have h5:=gP hl
  by_cases hqv:q.Value=v
  ·have:=key p e2.nz (by rw[<-hqv];exact fun e=>e4 e.symm) ha.1
   have:=gP e3;omega
  ·have:=key q hz hqv ha.2;omega
theorem abN{m:af}(h1:P1 m){b:ae}(hb:cI b)(hl:bg m.av b=true)(hp:b0 m.ak m.aw b=true):P1 (xa m b)/\(xa m b).ak=m.ak/\(xa m b).aw=m.aw/\(xa m b).av=b/\m.aa.aj<=(xa m b).aa.aj:=by
 unfold xa;have hh:=CR h1;split
 ·rename_i hlt
  have hhigh:∀L:Int,eH {m with av:=b,aa:=b,aF:=L}=b.aj:=by
   intro L;unfold eH;rw[Qr];rw[hb.nz,gb.2 rfl];rfl
  refine⟨⟨h1.aK,hb,h1.cq,h1.bM,.inr ⟨hb,hp⟩,Vr b,h1.bG,?_⟩,rfl,rfl,rfl,gP hlt⟩;show(if bE m.aa b=true then m.aF else 0)=0\/(1<=(if bE m.aa b=true then m.aF else 0)/\(if bE m.aa b=true then m.aF else 0)<=eH {m with av:=b,aa:=b,aF:=if bE m.aa b=true then m.aF else 0}/\kD m.ak m.aw b.Value (if bE m.aa b=true then m.aF else 0)=false)
  rw[hhigh];split
  ·rename_i hc;rw[gb]at hc;rcases h1.low with e|⟨h2,h3,h4⟩
   ·exact .inl e
   ·refine .inr ⟨h2,?_,by rw[<-hc];exact h4⟩
    have:=gP hlt;omega
  ·exact .inl rfl
 ·rename_i hlt;have hlt:bg m.aa b=false:=by simpa using hlt
  refine⟨⟨h1.aK,h1.aN,h1.cq,h1.bM,.inr ⟨hb,hp⟩,hlt,h1.bG,?_⟩,rfl,rfl,rfl,Int.le_refl _⟩;rcases h1.low with e|⟨h2,h3,h4⟩
  ·exact .inl e
  ·refine .inr ⟨h2,?_,h4⟩;show m.aF<=eH {m with av:=b}
   have hv:b.Value=m.aa.Value:=by
    refine Classical.byContradiction fun hv=> ?_
    have h5:=Zd h1.fC hp hv h4;have h6:=gP hl;rcases hh.2.2 with e|⟨e1,e2,e3⟩
    ·omega
    ·
     have e4:bg b m.av=false:=wF.asymm hl;have e5:=hl;rw[uE]at e5;have hbc:b.aj=m.av.aj:=by omega
     have hlow:m.aF=m.av.aj:=by omega
     have e6:bg ⟨m.aF,m.aa.Value⟩ b=true:=by
      have:(⟨m.aF,m.aa.Value⟩:ae)=m.av:=by rw[hlow,<-e2]
      rw[this];exact hl
     unfold kD at h4;rw[Bool.or_eq_false_iff]at h4
     have key:∀x:ae,aD x=false->x.Value≠m.aa.Value->dO x ⟨m.aF,m.aa.Value⟩=false->bg ⟨m.aF,m.aa.Value⟩ x=false:=by
      intro x hz hx h;unfold dO at h;rw[hz,(gZ (a:=x) (b:=⟨m.aF,m.aa.Value⟩)).2 hx,Qp,Bool.and_self,Bool.true_and]at h;exact h
     rw[qK]at hp;rcases hp with hp|hp|⟨hz,hq⟩
     ·obtain⟨g1,g2,g3⟩:=(jM _ _).1 hp;have g4:=key _ g1 (by rw[g2];exact hv) h4.1
      have g5:bg ⟨m.aF,m.aa.Value⟩ m.ak=true:=by
       by_cases e:b=m.ak
       ·rw[<-e];exact e6
       ·exact kF e6 (EL (E9 hp) (fun e'=>e e'.symm))
      rw[g5]at g4;cases g4
     ·obtain⟨g1,g2,g3⟩:=(jM _ _).1 hp;have g4:=key _ g1 (by rw[g2];exact hv) h4.2
      have g5:bg ⟨m.aF,m.aa.Value⟩ m.aw=true:=by
       by_cases e:b=m.aw
       ·rw[<-e];exact e6
       ·exact kF e6 (EL (E9 hp) (fun e'=>e e'.symm))
      rw[g5]at g4;cases g4
     ·rcases h1.bM with e|⟨f1,f2,f3,f4⟩
      ·rw[e,bF]at hz;cases hz
      ·by_cases hqv:m.aw.Value=m.aa.Value
       ·have g4:=key _ f2.nz (by rw[<-hqv];exact fun e=>(gZ.1 f4) e.symm) h4.1
        rw[kF e6 (kF hq f3)]at g4;cases g4
       ·have g4:=key _ hz hqv h4.2;rw[kF e6 hq]at g4;cases g4
   have hhigh:eH {m with av:=b}=b.aj:=by
    unfold eH;rw[Qr];show(!aD b&&bE b m.aa)=true;rw[hb.nz,gb.2 hv];rfl
   rw[hhigh];rcases hh.2.2 with e|⟨e1,e2,e3⟩
   ·omega
   ·have:=gP hl;omega
theorem Yz{m:af}(h1:P1 m){b:ae}(hb:cI b)(hc:m.av=b):P1 (mJ m b):=by
 unfold mJ;split
 ·rename_i hv;obtain⟨hL,hcp,hle⟩:=hv;rw[gb]at hcp;refine⟨h1.aK,h1.aN,h1.cq,h1.bM,h1.dF,h1.up,h1.bG,?_⟩;obtain⟨h2,h3,h4⟩:=SD (v:=b.Value) (n:=m.aa.aj) h1.fC.valid.1 h1.fC.valid.2;refine .inr ⟨h3,?_,by show kD m.ak m.aw m.aa.Value _=false;rw[hcp];exact h4⟩
  show jC b.Value m.aa.aj m.ak m.aw<=eH {m with aF:=jC b.Value m.aa.aj m.ak m.aw}
  have hhigh:eH {m with aF:=jC b.Value m.aa.aj m.ak m.aw}=b.aj:=by
   unfold eH;rw[Qr]
   ·show m.av.aj=_;rw[hc]
   ·show(!aD m.av&&bE m.av m.aa)=true;rw[hc,hb.nz,gb.2 hcp.symm];rfl
  rw[hhigh];exact hle
 ·exact h1
theorem Tn(m:af)(b:ae):(mJ m b).ak=m.ak/\(mJ m b).aw=m.aw/\(mJ m b).av=m.av/\(mJ m b).aa=m.aa:=by
 unfold mJ;split<;>exact⟨rfl,rfl,rfl,rfl⟩
theorem lp{m:af}(h:m.aA≠1\/aD m.aa=true\/aD (fE m)=true):gl m=m:=Qr h
theorem z8{m m':af}(h:aZ m)(he:m'.au=m.au/\m'.bs=m.bs/\m'.aL=m.aL/\m'.ab=m.ab/\m'.bf=m.bf/\m'.aC=m.aC)(hb:P0 m'\/P1 m'\/P2 m'\/P3 m'):aZ m':=by
 obtain⟨e1,e2,e3,e4,e5,e6⟩:=he;exact⟨by rw[e1];exact h.n0,by rw[e1];exact h.n1,by rw[e2];exact h.bD,by rw[e3];exact h.seq,by rw[e4];exact h.aR,by rw[e5];exact h.ow,by rw[e6,e1,e2];exact h.hv,by rw[e6];exact h.oq,hb⟩
structure eQ (m m':af):Prop where
 ay:m'.au=m.au
 bD:m'.bs=m.bs
 seq:m'.aL=m.aL
 aR:m'.ab=m.ab
 ow:m'.bf=m.bf
 heard:m'.aC=m.aC
theorem eQ.refl(m:af):eQ m m:=⟨rfl,rfl,rfl,rfl,rfl,rfl⟩
theorem eQ.all{m m':af}(h:eQ m m'):m'.au=m.au/\m'.bs=m.bs/\m'.aL=m.aL/\m'.ab=m.ab/\m'.bf=m.bf/\m'.aC=m.aC:=⟨h.ay,h.bD,h.seq,h.aR,h.ow,h.heard⟩
theorem oW(m:af):eQ m (cn m):=by unfold cn;split<;>exact⟨rfl,rfl,rfl,rfl,rfl,rfl⟩
theorem Zq(m:af)(b:ae):eQ m (xa m b):=by unfold xa;split<;>exact⟨rfl,rfl,rfl,rfl,rfl,rfl⟩
theorem UO(m:af)(b:ae):eQ m (mJ m b):=by unfold mJ;split<;>exact⟨rfl,rfl,rfl,rfl,rfl,rfl⟩
theorem oV(m:af):eQ m (gl m):=by
 unfold gl;split
 ·exact .refl m
 ·have h1:=UO (xa m (fE m)) (fE m);have h2:=Zq m (fE m);exact⟨h1.ay.trans h2.ay,h1.bD.trans h2.bD,h1.seq.trans h2.seq,h1.aR.trans h2.aR,h1.ow.trans h2.ow,h1.heard.trans h2.heard⟩
theorem nu(m:af):eQ m (eo m):=by
 unfold eo AY vz;split
 ·split<;>exact⟨rfl,rfl,rfl,rfl,rfl,rfl⟩
 ·split<;>exact⟨rfl,rfl,rfl,rfl,rfl,rfl⟩
theorem qN(m:af):eQ m (gI m):=by unfold gI FO;split<;>exact⟨rfl,rfl,rfl,rfl,rfl,rfl⟩
theorem qM(m:af):eQ m (dH m):=by unfold dH;split<;>exact⟨rfl,rfl,rfl,rfl,rfl,rfl⟩
theorem FC{m:af}(h:aZ m)(h1:P1 m):P1 (gl m)/\(gl m=m\/((gl m).ak=m.ak/\(gl m).aw=m.aw/\bg m.av (gl m).av=true/\m.aa.aj<=(gl m).aa.aj)):=by
 unfold gl;split
 ·exact⟨h1,.inl rfl⟩
 ·rename_i hc;rcases Vy h h1 with e|⟨hf,hl,hp⟩
  ·exact absurd (.inr (.inr (by rw[e];exact bF))) hc
  ·obtain⟨g1,g2,g3,g4,g5⟩:=abN h1 hf hl hp;obtain⟨v1,v2,v3,v4⟩:=Tn (xa m (fE m)) (fE m);exact⟨Yz g1 hf g4,.inr ⟨v1.trans g2,v2.trans g3,by rw[v3,g4];exact hl,by rw[v4];exact g5⟩⟩
theorem MA{m:af}(h:aZ m):aZ (gl m):=by
 rcases h.body with h0|h1|h2|h3
 ·rw[lp (.inr (.inl (by rw[h0.aN];exact bF)))];exact h
 ·exact z8 h (oV m).all (.inr (.inl (FC h h1).1))
 ·rw[lp (.inl (by rw[h2.aK];decide))];exact h
 ·rw[lp (.inl (by rw[h3.aK];decide))];exact h
theorem wA{m:af}(h:aZ m)(v:ByteArray):∀x∈aU (aP m) v,1<=x/\x<=1000:=Aj h.ev.jo.1 h.ev.jo.2 v
theorem Wm{m:af}(h:aZ m):∀v∈ft (aP m),1<=v.size/\v.size<=200:=by
 intro v hv;obtain⟨e,he,h1,h2⟩:=((nj h.ev.jo.1.aR h.ev.jo.2).2.2.2 v).1 hv;rw[h2];exact GL h1
theorem Uy{m:af}(h:aZ m){x:ByteArray->Int->Int->Bool}{p q:ae}:(fN x (aP m) p q).1=false\/(cI (fN x (aP m) p q).2/\(fN x (aP m) p q).2.Value∈ft (aP m)/\(fN x (aP m) p q).2.aj∈aU (aP m) (fN x (aP m) p q).2.Value/\
  kD p q (fN x (aP m) p q).2.Value (fN x (aP m) p q).2.aj=false/\x (fN x (aP m) p q).2.Value (fN x (aP m) p q).2.aj (fN x (aP m) p q).2.aj=true):=by
 let G:Bool×ae->Prop:=fun s=>s.1=false\/(cI s.2/\s.2.Value∈ft (aP m)/\s.2.aj∈aU (aP m) s.2.Value/\kD p q s.2.Value s.2.aj=false/\x s.2.Value s.2.aj s.2.aj=true)
 have inner:∀(v:ByteArray),v∈ft (aP m)->∀(b:List Int),(∀n∈b,n∈aU (aP m) v)->∀s,G s->G (b.foldl (fg x p q v) s):=by
  intro v hv b
  induction b with
  |nil=>intro _ s hs;exact hs
  |cons n b ih=>
   intro hb s hs;rw[QU];refine ih (fun k hk=>hb k (Qy _ hk)) _ ?_
   unfold fg;split
   ·rename_i hc;simp only[Qm,Bool.not_eq_true']at hc;have hn:=hb n Qx;have h1:=wA h v n hn;have h2:=Wm h v hv;exact .inr ⟨⟨h1.1,h1.2,h2.1,h2.2⟩,hv,hn,hc.1.2,hc.2⟩
   ·exact hs
 have outer:∀(vs:List ByteArray),(∀v∈vs,v∈ft (aP m))->∀s,G s->G (vs.foldl (fun s v=>(aU (aP m) v).foldl (fg x p q v) s) s):=by
  intro vs
  induction vs with
  |nil=>intro _ s hs;exact hs
  |cons v vs ih=>
   intro hv s hs;rw[QU];exact ih (fun u hu=>hv u (Qy _ hu)) _ (inner v (hv v Qx) _ (fun n hn=>hn) s hs)
 exact outer _ (fun v hv=>hv) (false,⟨0,fu⟩) (.inl rfl)
structure aci (m:af) (v:ByteArray) (lo hi:Int):Prop where
 fin:cI ⟨hi,v⟩
 lo1:1<=lo
 le:lo<=hi
 val:v∈ft (aP m)
 top:dh m v hi hi=true
 all:dh m v lo hi=true
theorem EX{m:af}(h:aZ m)(hk:(dZ m).2.2.2.1=true):aci m (dZ m).1 (dZ m).2.1 (dZ m).2.2.1:=by
 rcases Uy (x:=dh m) (p:=m.ak) (q:=m.aw) h with e|⟨h1,h2,h3,h4,h5⟩
 ·unfold dZ mw at hk;rw[e]at hk;cases hk
 ·have hb:(fN (dh m) (aP m) m.ak m.aw).1=true:=by
   unfold dZ mw at hk;split at hk
   ·assumption
   ·cases hk
  have e:dZ m=((fN (dh m) (aP m) m.ak m.aw).2.Value,bH (fun n=> !kD m.ak m.aw (fN (dh m) (aP m) m.ak m.aw).2.Value n&&dh m (fN (dh m) (aP m) m.ak m.aw).2.Value n (fN (dh m) (aP m) m.ak m.aw).2.aj) (aU (aP m) (fN (dh m) (aP m) m.ak m.aw).2.Value).reverse (fN (dh m) (aP m) m.ak m.aw).2.aj,(fN (dh m) (aP m) m.ak m.aw).2.aj,true,()):=by
   unfold dZ mw;rw[Qr hb]
  rw[e];refine⟨h1,zf _ _ _ (fun x hx=>(wA h _ x (List.mem_reverse.1 hx)).1) h1.1,iv _ _ _,h2,h5,?_⟩
  simp only;rcases wu (fun n=> !kD m.ak m.aw (fN (dh m) (aP m) m.ak m.aw).2.Value n&&dh m (fN (dh m) (aP m) m.ak m.aw).2.Value n (fN (dh m) (aP m) m.ak m.aw).2.aj) (aU (aP m) (fN (dh m) (aP m) m.ak m.aw).2.Value).reverse (fN (dh m) (aP m) m.ak m.aw).2.aj with e|⟨e,_⟩
  ·rw[e];exact h5
  ·rw[Qm]at e;exact e.2
theorem P5{m:af}(hb0:m.aa=bN\/cI m.aa)(hp0:m.ak=bN\/cI m.ak){v:ByteArray}{lo hi:Int}(hf:cI ⟨hi,v⟩)(hlo:1<=lo)(hle:lo<=hi):P2 (AY m v lo hi):=by
 unfold AY
 have hmax:cI ⟨bo m.aa.aj hi,v⟩:=by
  rcases hb0 with e|h2
  ·have:bo m.aa.aj hi=hi:=by
    have h3:=hf.1;simp only at h3;have h4:m.aa.aj=0:=by rw[e];rfl
    unfold bo;split<;>omega
   rw[this];exact hf
  ·have:bo m.aa.aj hi=m.aa.aj\/bo m.aa.aj hi=hi:=by unfold bo;split<;>simp
   rcases this with e|e<;>rw[e]
   ·exact⟨h2.1,h2.2.1,hf.2.2⟩
   ·exact hf
 have hbv:∀b:ae,b=(if(!bE m.aa ⟨hi,v⟩||bg m.aa ⟨hi,v⟩)=true then⟨bo m.aa.aj hi,v⟩else m.aa)->cI b/\b.Value=v:=by
  intro b hb;split at hb
  ·rw[hb];exact⟨hmax,rfl⟩
  ·rename_i hc;rw[hb];simp only[Qn,Bool.not_eq_true',not_or,Bool.not_eq_false]at hc;refine⟨hb0.resolve_left (fun e=> ?_),gb.1 hc.1⟩
   have:=gb.1 hc.1;rw[e]at this;exact hf.ne this.symm
 obtain⟨b1,b2⟩:=hbv _ rfl
 have hpv:∀p:ae,p=(if gK m.ak ⟨hi,v⟩=true then m.ak else⟨hi,v⟩)->cI p/\p.Value=v/\hi<=p.aj:=by
  intro p hp;split at hp
  ·rename_i hc;rw[hp];obtain⟨g1,g2,g3⟩:=(jM _ _).1 hc;refine⟨?_,g2,g3⟩;rcases hp0 with e|e
   ·rw[e,bF]at g1;cases g1
   ·exact e
  ·rw[hp];exact⟨hf,rfl,Int.le_refl _⟩
 obtain⟨p1,p2,p3⟩:=hpv _ rfl;exact⟨rfl,b1,⟨p1,p2.trans b2.symm⟩,rfl,.inr ⟨hf,b2.symm⟩,⟨hlo,hle,p3⟩⟩
theorem Ki{m:af}(h:aZ m)(h2:P2 m):1<=(cx m).1/\(cx m).1<=(cx m).2/\(cx m).2<=1000/\(((cx m).2=m.aM/\(cx m).1<=m.aF)\/m.aM<(cx m).2):=by
 have hr:=h2.range;have hH:m.aM<=1000:=by have:=h2.cq.1.2.1;omega
 have hb:∀x∈(aU (aP m) m.aa.Value).reverse,1<=x:=fun x hx=>(wA h _ x (List.mem_reverse.1 hx)).1
 unfold cx uf;split
 ·refine⟨zf _ _ _ hb hr.1,?_,hH,.inl ⟨rfl,iv _ _ _⟩⟩;exact Int.le_trans (iv _ _ _) hr.2.1
 ·rename_i n hn;have hnb:=wA h _ n (List.mem_reverse.1 (List.mem_of_find?_eq_some hn));have hnp:=List.find?_some hn;simp only[Qm,Qi]at hnp;have h5:1<=bH (fun x=>dh m m.aa.Value x n) (aU (aP m) m.aa.Value).reverse n:=zf _ _ _ hb hnb.1
  have h6:=iv (fun x=>dh m m.aa.Value x n) (aU (aP m) m.aa.Value).reverse n
  simp only;refine⟨zf _ _ _ hb ?_,?_,hnb.2,.inr hnp.1⟩
  ·split
   ·exact h5
   ·exact hr.1
  ·refine Int.le_trans (iv _ _ _) ?_;split
   ·exact h6
   ·omega
theorem Ui{m:af}(h2:P2 m){lo hi:Int}(hlo:1<=lo)(hle:lo<=hi)(hhi:hi<=1000):P2 (vz m lo hi):=by
 unfold vz;have hb:=h2.aN;have hp:=h2.cq;have e1:∀c:Int,bo c hi=c\/bo c hi=hi:=fun c=>by unfold bo;split<;>simp
 have e2:∀c:Int,hi<=bo c hi:=fun c=>by unfold bo;split<;>omega
 have mx:∀c:Int,c<=1000->cI ⟨bo c hi,m.aa.Value⟩:=by
  intro c hc;refine⟨by have:=e2 c;simp only;omega,?_,hb.2.2.1,hb.2.2.2⟩
  rcases e1 c with e|e<;>simp only[e]<;>omega
 refine⟨h2.aK,mx _ hb.2.1,⟨?_,?_⟩,h2.bM,.inr ⟨mx _ ?_,rfl⟩,⟨hlo,hle,e2 _⟩⟩
 ·show cI ⟨bo m.ak.aj hi,m.ak.Value⟩;rw[hp.2];exact mx _ hp.1.2.1
 ·exact hp.2
 ·rcases h2.dF with e|e
  ·rw[e];decide
  ·exact e.1.2.1
theorem MI{m:af}(h:aZ m):aZ (eo m):=by
 refine z8 h (nu m).all ?_;unfold eo;rcases h.body with h0|h1|h2|h3
 ·rw[Qr h0.aK];split
  ·rename_i hk;have hf:=EX h hk;exact .inr (.inr (.inl (P5 (.inl h0.aN) (.inl h0.cq) hf.fin hf.lo1 hf.le)))
  ·exact .inl h0
 ·rw[Qr h1.aK];split
  ·rename_i hk;have hf:=EX h hk;exact .inr (.inr (.inl (P5 (.inr h1.aN) h1.cq hf.fin hf.lo1 hf.le)))
  ·exact .inr (.inl h1)
 ·rw[Qs (by rw[h2.aK];decide),Qr h2.aK]
  have:=Ki h h2;exact .inr (.inr (.inl (Ui h2 this.1 this.2.1 this.2.2.1)))
 ·rw[Qs (by rw[h3.aK];decide),Qs (by rw[h3.aK];decide)]
  exact .inr (.inr (.inr h3))
theorem aaT{m:af}(h:aZ m)(hk:(kN m).2.2.1=true):1<=(kN m).1/\(kN m).1<=(kN m).2.1/\(kN m).2.1<=1000/\B7 m m.aa.Value (kN m).1 (kN m).2.1=true:=by
 unfold kN tj at hk ⊢;split at hk
 ·rename_i n hn;have hnb:=wA h _ n (List.mem_reverse.1 (List.mem_of_find?_eq_some hn));have hs:=List.find?_some hn;simp only;refine⟨zf _ _ _ (fun x hx=>(wA h _ x (List.mem_reverse.1 hx)).1) hnb.1,iv _ _ _,hnb.2,?_⟩
  rcases wu (fun x=>B7 m m.aa.Value x n) (aU (aP m) m.aa.Value).reverse n with e|⟨e,_⟩
  ·rw[e];exact hs
  ·exact e
 ·cases hk
theorem Sr{m:af}(h:aZ m)(h2:P2 m)(hk:(kN m).2.2.1=true):P3 (FO m (kN m).1 (kN m).2.1):=by
 obtain⟨g1,g2,g3,_⟩:=aaT h hk;unfold FO;exact⟨rfl,⟨by simp only;omega,g3,h2.aN.2.2.1,h2.aN.2.2.2⟩,rfl,rfl,rfl,⟨g1,g2,g3⟩⟩
theorem MG{m:af}(h:aZ m):aZ (gI m):=by
 refine z8 h (qN m).all ?_;unfold gI;split
 ·rename_i hc;rcases h.body with h0|h1|h2|h3
  ·have:=h0.aK;have:=hc.1;omega
  ·have:=h1.aK;have:=hc.1;omega
  ·exact .inr (.inr (.inr (Sr h h2 hc.2)))
  ·have:=h3.aK;have:=hc.1;omega
 ·exact h.body
theorem T9{z:ae}:∀{l:List ae},l≠[]->EW z l∈l
 |[],h=>absurd rfl h
 |x::l,_=>by
  show l.foldl (fun a y=>if bg a y=true then y else a) x∈x::l
  suffices key:∀(l:List ae) (a:ae),l.foldl (fun a y=>if bg a y=true then y else a) a=a\/l.foldl (fun a y=>if bg a y=true then y else a) a∈l by
   rcases key l x with e|e
   ·rw[e];exact Qx
   ·exact Qy _ e
  intro l
  induction l with
  |nil=>intro a;exact .inl rfl
  |cons y l ih=>
   intro a;rw[QU];rcases ih (if bg a y=true then y else a)with e|e
   ·rw[e];split
    ·exact .inr Qx
    ·exact .inl rfl
   ·exact .inr (Qy _ e)
theorem YH{t:an}(h:gL t){s:Nat}(hs:∀k,k<10->s.testBit k=true):jA s t=true:=by
 have hn:∀x:Int,0<=x->x<10->jZ s x=true:=by
  intro x h0 h1;unfold jZ et;rw[Qg h0,Qg h1,hs _ (by omega)]
  rfl
 have hc:t.bq.countP (jZ s)=t.bq.length:=List.countP_eq_length.2 fun x hx=>hn x (h.nodes x hx).1 (h.nodes x hx).2
 have hi:tO s t.aS=t.aS.length:=by
  rcases h.inner with e|⟨x,h0,h1,e⟩
  ·rw[e];rfl
  ·rw[e]
   have:jA s ⟨1,[x],[]⟩=true:=by
    rw[Fw];simp[List.countP_cons,hn x h0 h1,tO]
   simp[tO,this]
 rw[Fw,hc,hi,Qi];have:=h.th.2;omega
theorem KE{m:af}(h:aZ m){n:Int}(ha:gk m n=true):∃e∈m.aC,n<eu e:=by
 refine Classical.byContradiction fun hno=> ?_
 have hz:zo m n=0:=by
  refine yy fun k=> ?_
  unfold zo;rw[oX,Nat.zero_testBit,List.any_eq_false];intro e he;have:¬n<eu e:=fun hlt=>hno ⟨e,he,hlt⟩
  simp[this]
 unfold gk na at ha;rw[hz,Qm]at ha
 have hown:jU (eW m.au.toNat m.ab (aP m)) m.au.toNat=m.ab:=by
  unfold jU;rw[DJ h.ev.ay.2 m.ab (aP m) h.ev.ay.2,Qr rfl];rfl
 rw[hown,YH h.aR (fun k hk=>by rw[rU (by omega)];simp[hk])]at ha
 cases ha.2
theorem Sc{m:af}(h:aZ m)(h1:m.aA=1)(hc:m.av=bN\/cI m.av)(hh:m.aC≠[]\/m.bf≠fu\/m.av≠bN):1<=(dp m).size/\(dp m).size<=200:=by
 unfold dp;split
 ·rename_i hz;rcases hc with e|e
  ·rw[e,bF]at hz;cases hz
  ·exact e.2.2
 ·rename_i hz;have hz:aD m.av=true:=by simpa using hz
  rw[Qs (fun h=>h h1)]
  split
  ·rename_i hp;refine⟨?_,h.ow⟩;rcases Nat.eq_zero_or_pos m.bf.size with e|e
   ·exfalso;apply hp;have:m.bf.data=#[]:=Array.eq_empty_of_size_eq_zero e
    cases hm:m.bf with
    |mk d=>rw[hm]at this;simp only at this;rw[this];rfl
   ·exact e
  ·rename_i hp
   have hne:m.aC≠[]:=by
    rcases hh with e|e|e
    ·exact e
    ·exact absurd e hp
    ·exact absurd (nh.1 hz) e
   have hm:=T9 (z:=bN) (l:=m.aC.map (·.aa)) (by simpa using hne)
   obtain⟨e,he,heq⟩:=QP.1 hm;rw[<-heq];exact GL (h.hv e he).1
theorem VP{e:ai}(hv:aO e=true):1<=eu e/\(eu e<=1000\/eu e=1000000):=by
 unfold eu;split
 ·exact⟨by decide,.inr rfl⟩
 ·rename_i h3;have hv':=hv;unfold aO fV at hv';rw[Qm,Qm]at hv';have hb:=hv'.2
  have gof:∀{b:ae},finite b=true->1<=b.aj/\b.aj<=1000:=by
   intro b hb;unfold finite at hb;rw[Qm,Qi]at hb;have:=(SQ hb.1 hb.2);exact⟨this.1,this.2.1⟩
  by_cases h1:e.bx=1
  ·rw[Qr h1]at hb;unfold fC at hb;simp only[Qm]at hb;have:=gof hb.1.1.1.1.1.1.1.1;exact⟨this.1,.inl this.2⟩
  ·rw[Qs h1]at hb
   by_cases h2:e.bx=2
   ·rw[Qr h2]at hb;unfold rj at hb;simp only[Qm]at hb;have:=gof hb.1.1.1.1.1;exact⟨this.1,.inl this.2⟩
   ·rw[Qs h2,Qs h3]at hb;cases hb
theorem VX(m:af):fT m=1000000\/(m.aa.aj<fT m/\fT m<1000000/\gk m (fT m)=false/\∃e∈m.aC,fT m=eu e):=by
 unfold fT
 suffices key:∀(l:List ai),(∀e∈l,e∈m.aC)->∀s,(s=1000000\/(m.aa.aj<s/\s<1000000/\gk m s=false/\∃e∈m.aC,s=eu e))->
   (l.foldl (kj m) s=1000000\/(m.aa.aj<l.foldl (kj m) s/\l.foldl (kj m) s<1000000/\gk m (l.foldl (kj m) s)=false/\∃e∈m.aC,l.foldl (kj m) s=eu e))from key _ (fun e he=>he) _ (.inl rfl)
 intro l
 induction l with
 |nil=>intro _ s hs;exact hs
 |cons x l ih=>
  intro hm s hs;rw[QU];refine ih (fun e he=>hm e (Qy _ he)) _ ?_
  unfold kj;split
  ·rename_i hc;exact .inr ⟨hc.1,by rcases hs with e|e<;>omega,hc.2.2,x,hm x Qx,rfl⟩
  ·exact hs
theorem Fb{m:af}(h:aZ m)(hb:0<=m.aa.aj/\m.aa.aj<=1000):m.aa.aj<=bo m.aa.aj (dP (fT m) 1000)/\bo m.aa.aj (dP (fT m) 1000)<=1000/\1<=bo m.aa.aj (dP (fT m) 1000)/\
  (bo m.aa.aj (dP (fT m) 1000)=m.aa.aj->m.aa.aj=1000)/\bo m.aa.aj (dP (fT m) 1000)=dP (fT m) 1000:=by
 have hmin:dP (fT m) 1000<=1000/\1<=dP (fT m) 1000/\(m.aa.aj<dP (fT m) 1000\/dP (fT m) 1000=1000):=by
  rcases VX m with e|⟨g1,g2,_,x,hx,g4⟩
  ·rw[e];exact⟨by decide,by decide,.inr (by decide)⟩
  ·have hc:=VP (h.hv x hx).1;rw[<-g4]at hc;have:fT m<=1000:=by omega
   have e:dP (fT m) 1000=fT m:=by unfold dP;split<;>omega
   rw[e];omega
 unfold bo;split<;>omega
theorem Lo{m:af}(h:aZ m)(h1:P0 m\/P1 m)(ha:gk m m.aa.aj=true):P1 (dH m):=by
 have hph:m.aA=1:=by rcases h1 with h|h<;>exact h.aK
 have hbc:0<=m.aa.aj/\m.aa.aj<=1000:=by
  rcases h1 with h|h
  ·rw[h.aN];decide
  ·have:=h.aN;exact⟨by have:=this.1;omega,this.2.1⟩
 obtain⟨c1,c2,c3,_⟩:=Fb h hbc;obtain⟨e0,he0,_⟩:=KE h ha
 have hconf:m.av=bN\/cI m.av:=by
  rcases h1 with h|h
  ·exact .inl h.dF
  ·exact h.dF.imp id (·.1)
 have hv:=Sc h hph hconf (.inl (List.ne_nil_of_mem he0));unfold dH;rw[Qs (by rw[hph,ha];decide)]
 have hnv:jJ m=dp m:=Qr hph;rw[hnv];generalize hn:bo m.aa.aj (dP (fT m) 1000)=n at c1 c2 c3 ⊢
 have hpo:pN m.ak m.aw:=by
  rcases h1 with h|h
  ·exact⟨.inl h.cq,.inl h.bM⟩
  ·exact h.fC
 refine⟨hph,⟨c3,c2,hv.1,hv.2⟩,hpo.1,hpo.2,?_,?_,?_,?_⟩
 ·rcases h1 with h|h
  ·exact .inl h.dF
  ·exact h.dF
 ·show bg ⟨n,dp m⟩ m.av=false;rcases hconf with e|e
  ·rw[e]
   cases hl:bg ⟨n,dp m⟩ bN with
   |false=>rfl
   |true=>have:=gP hl;have h0:(bN:ae).aj=0:=rfl;simp only at this;omega
  ·have hvc:dp m=m.av.Value:=by unfold dp;rw[Qr e.nz]
   rw[CD (show(⟨n,dp m⟩:ae).Value=m.av.Value from hvc),Qj]
   rcases h1 with h|h
   ·exact absurd h.dF (zd e)
   ·have:=HS h.up;simp only;omega
 ·rcases h1 with h|h<;>exact h.bG
 ·show(if dp m=m.aa.Value then m.aF else 0)=0\/(1<=(if dp m=m.aa.Value then m.aF else 0)/\_<=_/\kD m.ak m.aw (dp m) (if dp m=m.aa.Value then m.aF else 0)=false)
  split
  ·rename_i hve;rcases h1 with h|h
   ·exact .inl h.low
   ·rcases h.low with e|⟨g1,g2,g3⟩
    ·exact .inl e
    ·refine .inr ⟨g1,?_,by rw[hve];exact g3⟩
     have:eH {m with aF:=m.aF,aa:=⟨n,dp m⟩}=eH m:=by
      unfold eH bE;simp only[hve]
     show m.aF<=eH {m with aF:=m.aF,aa:=⟨n,dp m⟩}
     rw[this];exact g2
  ·exact .inl rfl
theorem Sq{m:af}(h:aZ m)(h2:P2 m):P2 (dH m):=by
 unfold dH;split
 ·exact h2
 ·obtain⟨c1,c2,c3,_⟩:=Fb h ⟨by have:=h2.aN.1;omega,h2.aN.2.1⟩
  have hnv:jJ m=m.aa.Value:=Qs (by rw[h2.aK];decide)
  rw[hnv,Qr rfl];exact⟨h2.aK,⟨c3,c2,h2.aN.2.2⟩,h2.cq,h2.bM,h2.dF,h2.range⟩
theorem ME{m:af}(h:aZ m):aZ (dH m):=by
 have hid:m.aA=3\/gk m m.aa.aj=false->dH m=m:=fun hc=>Qr hc
 cases ha:gk m m.aa.aj with
 |false=>rw[hid (.inr ha)];exact h
 |true=>
  refine z8 h (qM m).all ?_;rcases h.body with h0|h1|h2|h3
  ·exact .inr (.inl (Lo h (.inl h0) ha))
  ·exact .inr (.inl (Lo h (.inr h1) ha))
  ·exact .inr (.inr (.inl (Sq h h2)))
  ·rw[hid (.inl h3.aK)];exact .inr (.inr (.inr h3))
end Go.Proofs.YtkgenianmdfmdaaGreat
namespace Go.Proofs.YtkgenianmdfmdaaGreat
open Go.TQ
theorem lexLt{a a' b b' B:Nat}(hb:b<B)(h:a<a'):a*B+b<a'*B+b':=by
 have h1:(a+1)*B<=a'*B:=Nat.mul_le_mul_right B h;rw[Nat.add_mul]at h1;omega
theorem wM{a a' b b' B:Nat}(h:a=a')(hb:b<b'):a*B+b<a'*B+b':=by rw[h];omega
theorem CC{a b A B:Nat}(ha:a<A)(hb:b<B):a*B+b<A*B:=by
 have h1:(a+1)*B<=A*B:=Nat.mul_le_mul_right B ha;rw[Nat.add_mul]at h1;omega
theorem cI.sm{b:ae}(h:cI b):Sm b:=⟨by have:=h.1;omega,h.2.1,h.2.2.2⟩
theorem Vj:Sm bN:=⟨by decide,by decide,by decide⟩
theorem oY{b:ae}(h:b=bN\/cI b):Sm b:=by
 rcases h with rfl|h
 ·exact Vj
 ·exact h.sm
theorem LM{b:ae}(h:cI b):lO bN<lO b:=qU Vj h.sm ((uE _ _).2 (.inl h.1))
 def t1(m:af):Nat:=2*m.aa.aj.toNat+(if m.aa.Value=jJ m then 1 else 0)
 def pq(m:af):Nat:=lO m.ak*WB+lO m.aw
 def r1(m:af):Nat:=(pq m*WB+lO m.av)*2002+t1 m
def K1:Nat:=(WB*WB)*WB*2002
 def r2(m:af):Nat:=(((m.aM.toNat*1001+(1000 - m.aF).toNat)*WB+lO m.ak)*WB+lO m.av)*1001+m.aa.aj.toNat
def K2:Nat:=((1001*1001)*WB*WB)*1001
 def iU(m:af):Nat:=if m.aA=1 then r1 m else if m.aA=2 then K1+r2 m else K1+K2
def wK(m:af):Prop:=(m.ak=bN\/cI m.ak)/\(m.aw=bN\/cI m.aw)/\(m.av=bN\/cI m.av)/\(m.aa=bN\/cI m.aa)
theorem P0.ok{m:af}(h:P0 m):wK m:=⟨.inl h.cq,.inl h.bM,.inl h.dF,.inl h.aN⟩
theorem P1.ok{m:af}(h:P1 m):wK m:=⟨h.cq,h.bM.imp id (·.1),h.dF.imp id (·.1),.inr h.aN⟩
theorem P2.ok{m:af}(h:P2 m):wK m:=⟨.inr h.cq.1,.inl h.bM,h.dF.imp id (·.1),.inr h.aN⟩
theorem Tr{m:af}(h:wK m):t1 m<2002:=by
 have:m.aa.aj<=1000:=by
  rcases h.2.2.2 with e|e
  ·rw[e];decide
  ·exact e.2.1
 unfold t1;split<;>omega
theorem abD{m:af}(h:wK m):pq m<WB*WB:=CC (mZ (oY h.1)) (mZ (oY h.2.1))
theorem TI{m:af}(h:wK m):r1 m<K1:=CC (CC (abD h) (mZ (oY h.2.2.1))) (Tr h)
theorem P2.bG{m:af}(h:P2 m):m.aM<=1000:=by have:=h.range.2.2;have:=h.cq.1.2.1;omega
theorem X9{m:af}(h:P2 m):r2 m<K2:=by
 have h1:=h.range;have h2:=h.bG;refine CC (CC (CC (CC (A:=1001) ?_ ?_) (mZ h.cq.1.sm)) (mZ (oY h.ok.2.2.1))) ?_
 ·omega
 ·omega
 ·have:=h.aN.2.1;omega
theorem u0{m:af}(h:m.aA=1):iU m=r1 m:=Qr h
theorem uZ{m:af}(h:m.aA=2):iU m=K1+r2 m:=by unfold iU;rw[Qs (by omega),Qr h]
theorem U4{m:af}(h:m.aA=3):iU m=K1+K2:=by unfold iU;rw[Qs (by omega),Qs (by omega)]
theorem Sj{m:af}(h:aZ m):iU m<=K1+K2:=by
 rcases h.body with h0|h1|h2|h3
 ·rw[u0 h0.aK];have:=TI h0.ok;omega
 ·rw[u0 h1.aK];have:=TI h1.ok;omega
 ·rw[uZ h2.aK];have:=X9 h2;omega
 ·rw[U4 h3.aK];exact QI _
theorem qt.up_{p q b p' q':ae}(h:pN p q)(hb:b=bN\/cI b)(hj:qt p q b p' q'):(p'=p/\q'=q)\/lO p*WB+lO q<lO p'*WB+lO q':=by
 have hok:=hj.ok h hb;have hp:=oY h.1;have hq:Sm q:=oY (h.2.imp id (·.1))
 cases hj with
 |same=>exact .inl ⟨rfl,rfl⟩
 |first h1 h2=>
  subst h1 h2;rcases hb with e|e
  ·exact .inl ⟨e,rfl⟩
  ·exact .inr (lexLt (mZ hq) (LM e))
 |up h1 hl hc=>exact .inr (lexLt (mZ hq) (qU hp (oY hb) hl))
 |AA h1 hl hc=>exact .inr (lexLt (mZ hq) (qU hp (oY hb) hl))
 |under h1 hl hc hq'=>
  rcases hq' with e|e
  ·subst e;rcases hb with e2|e2
   ·exact .inl ⟨rfl,e2⟩
   ·exact .inr (wM rfl (LM e2))
  ·exact .inr (wM rfl (qU hq (oY hb) e))
theorem tV{m m':af}(he:eQ m m')(h1:m'.aA=m.aA)(h2:m'.aa=m.aa)(h3:m'.ak=m.ak)(h4:m'.aw=m.aw)(h5:m'.av=m.av)(h6:m'.aF=m.aF)(h7:m'.aM=m.aM):m'=m:=by
 obtain⟨e1,e2,e3,e4,e5,e6⟩:=he;cases m;cases m';simp only at*;subst e1 e2 e3 e4 e5 e6 h1 h2 h3 h4 h5 h6 h7;rfl
theorem Ow{m m':af}(he:eQ m m')(h:lN m m'=true):m'=m:=by
 unfold lN at h;simp only[Qm,Qi,qG]at h;obtain⟨⟨⟨⟨⟨⟨h1,h2⟩,h3⟩,h4⟩,h5⟩,h6⟩,h7⟩:=h;exact tV he h1.symm h2.symm h3.symm h4.symm h5.symm h6.symm h7.symm
theorem rM(m:af):lN m m=true:=by
 unfold lN;simp only[decide_true,qG.2 rfl,Bool.and_self]
theorem abA{m m':af}(h:wK m)(hlt:pq m<pq m'):r1 m<r1 m':=lexLt (Tr h) (lexLt (mZ (oY h.2.2.1)) hlt)
theorem ac1{m m':af}(h:wK m)(hpq:pq m=pq m')(hlt:lO m.av<lO m'.av):r1 m<r1 m':=lexLt (Tr h) (wM hpq hlt)
theorem ac0{m m':af}(hpq:pq m=pq m')(hc:m.av=m'.av)(hlt:t1 m<t1 m'):r1 m<r1 m':=wM (by rw[hpq,hc]) hlt
theorem Jo{m:af}(h1:P1 m):mS m m.ak m.aw=m.aF:=by
 unfold mS;split
 ·rename_i hc;rcases h1.low with e|⟨g1,g2,g3⟩
  ·exact absurd e hc.2
  ·rw[Vn g1 g3,Qs (by omega)]
 ·rfl
theorem acP{m:af}(h:aZ m):cn m=m\/iU m<iU (cn m):=by
 have hid:m.aA=3\/aD m.aa=true->cn m=m:=fun hc=>Qr hc
 rcases h.body with h0|h1|h2|h3
 ·exact .inl (hid (.inr (by rw[h0.aN];exact bF)))
 ·have hj:=(Br h h1.fC).up_ h1.fC (vA h);have he:cn m={m with ak:=(cz m.ak m.aw (dq (dU m))).1,aw:=(cz m.ak m.aw (dq (dU m))).2,aF:=mS m (cz m.ak m.aw (dq (dU m))).1 (cz m.ak m.aw (dq (dU m))).2}:=Qs (by rw[h1.aK,h1.aN.nz];decide)
  rcases hj with⟨e1,e2⟩|hlt
  ·left;rw[he,e1,e2,Jo h1]
  ·right;rw[u0 h1.aK,u0 (by rw[he];exact h1.aK)]
   exact abA h1.ok (by rw[he];exact hlt)
 ·have hj:=(Br h h2.fC).up_ h2.fC (vA h);have hk:=Sp h h2;have he:cn m={m with ak:=(cz m.ak m.aw (dq (dU m))).1,aw:=(cz m.ak m.aw (dq (dU m))).2,aF:=mS m (cz m.ak m.aw (dq (dU m))).1 (cz m.ak m.aw (dq (dU m))).2}:=Qs (by rw[h2.aK,h2.aN.nz];decide)
  have hlow:∀p q,mS m p q=m.aF:=fun p q=>Qs (fun h=>by have:=h.1;rw[h2.aK]at this;cases this)
  rcases hj with⟨e1,e2⟩|hlt
  ·left;rw[he,e1,e2,hlow]
  ·right;rw[uZ h2.aK,uZ (by rw[he];exact h2.aK)]
   have e2:(cz m.ak m.aw (dq (dU m))).2=m.aw:=by
    have h3:=hk.2.2;rw[he]at h3;exact h3.trans h2.bM.symm
   have hp:lO m.ak<lO (cn m).ak:=by
    rw[he];simp only;rw[e2]at hlt;refine Nat.lt_of_not_le fun hle=> ?_
    have:=Nat.mul_le_mul_right WB hle;omega
   have e3:(cn m).aM=m.aM/\(cn m).aF=m.aF/\(cn m).av=m.av/\(cn m).aa=m.aa:=by rw[he];exact⟨rfl,hlow _ _,rfl,rfl⟩
   have:r2 m<r2 (cn m):=by
    unfold r2;rw[e3.1,e3.2.1,e3.2.2.1,e3.2.2.2];exact lexLt (by have:=h2.aN.2.1;omega) (lexLt (mZ (oY h2.ok.2.2.1)) (wM rfl hp))
   omega
 ·exact .inl (hid (.inl h3.aK))
theorem acO{m:af}(h:aZ m):gl m=m\/iU m<iU (gl m):=by
 rcases h.body with h0|h1|h2|h3
 ·exact .inl (lp (.inr (.inl (by rw[h0.aN];exact bF))))
 ·obtain⟨g1,g2⟩:=FC h h1;rcases g2 with e|⟨e1,e2,e3,_⟩
  ·exact .inl e
  ·right;rw[u0 h1.aK,u0 g1.aK];exact ac1 h1.ok (by unfold pq;rw[e1,e2]) (qU (oY h1.ok.2.2.1) (oY g1.ok.2.2.1) e3)
 ·exact .inl (lp (.inl (by rw[h2.aK];decide)))
 ·exact .inl (lp (.inl (by rw[h3.aK];decide)))
theorem JF(a b:Int):(bo a b=a/\b<=a)\/(bo a b=b/\a<b):=by unfold bo;split<;>omega
theorem lQ{a b:ae}(h1:a.aj=b.aj)(h2:a.Value=b.Value):a=b:=by cases a;cases b;simp only at h1 h2;rw[h1,h2]
theorem acS{m:af}(h:aZ m):eo m=m\/iU m<iU (eo m):=by
 have hC:m.aA=1->wK m->eo m=m\/iU m<iU (eo m):=by
  intro hp hok
  by_cases hk:(dZ m).2.2.2.1=true
  ·right;have e:eo m=AY m (dZ m).1 (dZ m).2.1 (dZ m).2.2.1:=by unfold eo;rw[Qr hp,Qr hk]
   rw[u0 hp,uZ (by rw[e];rfl)]
   have:=TI hok;omega
  ·left;unfold eo;rw[Qr hp,Qs hk]
 rcases h.body with h0|h1|h2|h3
 ·exact hC h0.aK h0.ok
 ·exact hC h1.aK h1.ok
 ·have e:eo m=vz m (cx m).1 (cx m).2:=by unfold eo;rw[Qs (by rw[h2.aK];decide),Qr h2.aK]
  obtain⟨g1,g2,g3,g4⟩:=Ki h h2;have h2':=Ui h2 g1 g2 g3;rw[e]
  have hr:m.aM.toNat<=1000/\(1000 - m.aF).toNat<1001/\m.aa.aj.toNat<1001:=by
   have:=h2.bG;have:=h2.range;have:=h2.aN.2.1;omega
  have hcB:m.av=(vz m (cx m).1 (cx m).2).av\/lO m.av<lO (vz m (cx m).1 (cx m).2).av:=by
   rcases h2.dF with e|⟨hf,hv⟩
   ·right;rw[e]
    exact LM (h2'.dF.resolve_left (fun e=>by
     have h1:=h2'.range;have h3:(vz m (cx m).1 (cx m).2).av.aj=bo m.av.aj (cx m).2:=rfl;rw[e]at h3;have h4:=JF m.av.aj (cx m).2;have h5:(bN:ae).aj=0:=rfl
     omega)).1
   ·rcases JF m.av.aj (cx m).2 with⟨e1,_⟩|⟨e1,e2⟩
    ·exact .inl (lQ e1.symm hv)
    ·right;refine qU hf.sm (oY h2'.ok.2.2.1) ((uE _ _).2 (.inl ?_));show m.av.aj<bo m.av.aj (cx m).2;omega
  have hpB:m.ak=(vz m (cx m).1 (cx m).2).ak\/lO m.ak<lO (vz m (cx m).1 (cx m).2).ak:=by
   rcases JF m.ak.aj (cx m).2 with⟨e1,_⟩|⟨e1,e2⟩
   ·exact .inl (lQ e1.symm rfl)
   ·right;refine qU h2.cq.1.sm h2'.cq.1.sm ((uE _ _).2 (.inl ?_));show m.ak.aj<bo m.ak.aj (cx m).2;omega
  have hbB:m.aa=(vz m (cx m).1 (cx m).2).aa\/m.aa.aj<(vz m (cx m).1 (cx m).2).aa.aj:=by
   rcases JF m.aa.aj (cx m).2 with⟨e1,_⟩|⟨e1,e2⟩
   ·exact .inl (lQ e1.symm rfl)
   ·right;show m.aa.aj<bo m.aa.aj (cx m).2;omega
  rw[uZ h2.aK,uZ h2'.aK];have hPs:=mZ h2.cq.1.sm;have hCs:=mZ (oY h2.ok.2.2.1);have hHi:(vz m (cx m).1 (cx m).2).aM=(cx m).2:=rfl;have hLo:(vz m (cx m).1 (cx m).2).aF=(cx m).1:=rfl;have fin:r2 m<r2 (vz m (cx m).1 (cx m).2)->K1+r2 m<K1+r2 (vz m (cx m).1 (cx m).2):=fun h=>by omega
  have hrng:=h2.range;rcases g4 with⟨e1,e2⟩|e1
  ·rcases Int.lt_or_eq_of_le e2 with e3|e3
   ·
    refine .inr (fin (lexLt hr.2.2 (lexLt hCs (lexLt hPs (wM ?_ ?_)))))
    ·rw[hHi,e1]
    ·rw[hLo];omega
   ·rcases hpB with hp|hp
    ·rcases hcB with hc|hc
     ·rcases hbB with hb|hb
      ·left;exact tV ⟨rfl,rfl,rfl,rfl,rfl,rfl⟩ rfl hb.symm hp.symm rfl hc.symm e3 e1
      ·refine .inr (fin (wM ?_ (by have:=h2.aN.1;omega)))
       rw[hHi,hLo,<-hp,<-hc,e1,e3]
     ·refine .inr (fin (lexLt hr.2.2 (wM ?_ hc)));rw[hHi,hLo,<-hp,e1,e3]
    ·refine .inr (fin (lexLt hr.2.2 (lexLt hCs (wM ?_ hp))));rw[hHi,hLo,e1,e3]
  ·refine .inr (fin (lexLt hr.2.2 (lexLt hCs (lexLt hPs (lexLt hr.2.1 ?_)))));rw[hHi];omega
 ·left;unfold eo;rw[Qs (by rw[h3.aK];decide),Qs (by rw[h3.aK];decide)]
theorem acR{m:af}(h:aZ m):gI m=m\/iU m<iU (gI m):=by
 by_cases hc:m.aA=2/\(kN m).2.2.1=true
 ·right;have e:gI m=FO m (kN m).1 (kN m).2.1:=Qr hc;rw[uZ hc.1,U4 (by rw[e];rfl)]
  rcases h.body with h0|h1|h2|h3
  ·have:=h0.aK;have:=hc.1;omega
  ·have:=h1.aK;have:=hc.1;omega
  ·have:=X9 h2;omega
  ·have:=h3.aK;have:=hc.1;omega
 ·exact .inl (Qs hc)
theorem acQ{m:af}(h:aZ m):dH m=m\/iU m<iU (dH m):=by
 have hid:m.aA=3\/gk m m.aa.aj=false->dH m=m:=fun hc=>Qr hc
 cases ha:gk m m.aa.aj with
 |false=>exact .inl (hid (.inr ha))
 |true=>
  have hC:m.aA=1->wK m->0<=m.aa.aj/\m.aa.aj<=1000->dH m=m\/iU m<iU (dH m):=by
   intro hp hok hb;obtain⟨c1,c2,c3,c4,_⟩:=Fb h hb;have e:dH m={m with aF:=if jJ m=m.aa.Value then m.aF else 0,aa:=⟨bo m.aa.aj (dP (fT m) 1000),jJ m⟩}:=Qs (by rw[hp,ha];decide)
   have hnv:jJ (dH m)=jJ m:=by
    unfold jJ dp;rw[e];simp only[hp,Qt,not_true_eq_false,Qu,ne_eq]
   by_cases hs:bo m.aa.aj (dP (fT m) 1000)=m.aa.aj/\jJ m=m.aa.Value
   ·left;rw[e];refine tV ⟨rfl,rfl,rfl,rfl,rfl,rfl⟩ rfl (lQ hs.1 hs.2) rfl rfl rfl ?_ rfl;exact Qr hs.2
   ·right;rw[u0 hp,u0 (by rw[e];exact hp)]
    refine ac0 (by rw[e];rfl) (by rw[e]) ?_
    unfold t1;rw[hnv];have hb':(dH m).aa=⟨bo m.aa.aj (dP (fT m) 1000),jJ m⟩:=by rw[e]
    rw[hb',Qr rfl];simp only
    by_cases hv:jJ m=m.aa.Value
    ·rw[Qr hv.symm];have:bo m.aa.aj (dP (fT m) 1000)≠m.aa.aj:=fun e=>hs ⟨e,hv⟩
     omega
    ·rw[Qs (fun e=>hv e.symm)]
     omega
  rcases h.body with h0|h1|h2|h3
  ·exact hC h0.aK h0.ok (by rw[h0.aN];decide)
  ·exact hC h1.aK h1.ok ⟨by have:=h1.aN.1;omega,h1.aN.2.1⟩
  ·obtain⟨c1,c2,c3,c4,_⟩:=Fb h ⟨by have:=h2.aN.1;omega,h2.aN.2.1⟩
   have hnv:jJ m=m.aa.Value:=Qs (by rw[h2.aK];decide)
   have e:dH m={m with aa:=⟨bo m.aa.aj (dP (fT m) 1000),m.aa.Value⟩}:=by
    unfold dH;rw[Qs (by rw[h2.aK,ha];decide),hnv,Qr rfl]
   rw[e]
   by_cases hs:bo m.aa.aj (dP (fT m) 1000)=m.aa.aj
   ·left;exact tV ⟨rfl,rfl,rfl,rfl,rfl,rfl⟩ rfl (lQ hs rfl) rfl rfl rfl rfl rfl
   ·right;rw[uZ h2.aK,uZ (show({m with aa:=⟨bo m.aa.aj (dP (fT m) 1000),m.aa.Value⟩}:af).aA=2 from h2.aK)]
    have:r2 m<r2 {m with aa:=⟨bo m.aa.aj (dP (fT m) 1000),m.aa.Value⟩}:=by
     refine wM rfl ?_;have:=h2.aN.1;show m.aa.aj.toNat<(bo m.aa.aj (dP (fT m) 1000)).toNat;omega
    omega
  ·exact .inl (hid (.inl h3.aK))
end Go.Proofs.YtkgenianmdfmdaaGreat
namespace Go.Proofs.YtkgenianmdfmdaaGreat
open Go.TQ
def acf(p:ai->Bool):Prop:=∀e s,p {e with aL:=s}=p e
structure Alike (l l':List ai):Prop where
 view:∀ay,ay<10->∀t,eW ay t l=eW ay t l'
 Sb:∀p,acf p->cW p (bL l)=cW p (bL l')
 bal:ea l=ea l'
 val:ft l=ft l'
 il:∀v,aU l v=aU l' v
section
variable {l l' : List ai} (h : Alike l l')
 include h
theorem Alike.acc{ay:Nat}(hn:ay<10)(t:an):jE ay t l=jE ay t l':=by
 funext b
 unfold jE;rw[h.view ay hn t,h.Sb _ (fun e s=>rfl),h.Sb _ (fun e s=>rfl)]
theorem Alike.dF{ay:Nat}(hn:ay<10)(t:an):iV ay t l=iV ay t l':=by
 funext b
 unfold iV;rw[h.view ay hn t,h.Sb _ (fun e s=>rfl)]
theorem Alike.ready{ay:Nat}(hn:ay<10)(t:an):jt ay t l=jt ay t l':=by
 funext v lo hi
 unfold jt;rw[h.view ay hn t,h.Sb _ (fun e s=>rfl),h.Sb _ (fun e s=>rfl)]
theorem Alike.sure{ay:Nat}(hn:ay<10)(t:an):pr ay t l=pr ay t l':=by
 funext v lo hi
 unfold pr;rw[h.view ay hn t,h.Sb _ (fun e s=>rfl)]
theorem Alike.next{ay:Nat}(hn:ay<10)(t:an)(p q:ae)(v:ByteArray):hZ ay t l p q v=hZ ay t l' p q v:=by
 unfold hZ;rw[h.bal,h.acc hn t]
theorem Alike.bG{ay:Nat}(hn:ay<10)(t:an)(a:ae):tE ay t l a=tE ay t l' a:=by
 unfold tE;rw[h.bal,h.dF hn t]
theorem Alike.Fh(x:ByteArray->Int->Int->Bool)(p q:ae):fN x l p q=fN x l' p q:=by
 unfold fN;rw[h.val];congr 1
 funext s v
 rw[h.il]
theorem Alike.first(x:ByteArray->Int->Int->Bool)(p q:ae)(s:Bool×ae):mw x l p q s=mw x l' p q s:=by
 unfold mw;rw[h.il]
end
theorem KD{l l':List ai}(hl:oF l)(hn:l.length<=1000)(hl':oF l')(hn':l'.length<=1000)
  (h1:∀x,(∃e∈l,x∈said e/\aD x=false)↔∃e∈l',x∈said e/\aD x=false) (h2:∀x,(∃e∈l,aO e=true/\x=e.aa.Value)↔∃e∈l',aO e=true/\x=e.aa.Value)
  (h3:∀v x,x∈ends v l↔x∈ends v l'):ea l=ea l'/\ft l=ft l'/\∀v,aU l v=aU l' v:=by
 obtain⟨_,a2,_,a4⟩:=kG hl.aR hn;obtain⟨_,b2,_,b4⟩:=kG hl'.aR hn';obtain⟨_,c2,_,c4⟩:=nj hl.aR hn;obtain⟨_,d2,_,d4⟩:=nj hl'.aR hn';refine⟨wF.flip.unique a2 b2 fun x=> ?_,wE.unique c2 d2 fun x=> ?_,fun v=> ?_⟩
 ·rw[a4,b4];exact h1 x
 ·rw[c4,d4];exact h2 x
 ·obtain⟨_,e2,_,e4⟩:=ff hl.aR hn v;obtain⟨_,f2,_,f4⟩:=ff hl'.aR hn' v;refine yn.unique (e2.imp fun h=>Qg h) (f2.imp fun h=>Qg h) fun x=> ?_
  rw[e4,f4];exact h3 v x
theorem UC{l l':List ai}(hl:oF l)(hn:l.length<=1000)(ha:wV l)(h:l.Perm l'):Alike l l':=by
 have hl':oF l':=⟨by rw[<-h.length_eq];exact hl.len,fun e he=>hl.aR e (h.mem_iff.2 he)⟩
 have hm:∀(P:ai->Prop),(∃e∈l,P e)↔∃e∈l',P e:=fun P=>⟨fun⟨e,he,hp⟩=>⟨e,h.mem_iff.1 he,hp⟩,fun⟨e,he,hp⟩=>⟨e,h.mem_iff.2 he,hp⟩⟩
 obtain⟨a,b,c⟩:=KD hl hn hl' (by rw[<-h.length_eq];exact hn) (fun x=>hm _) (fun x=>hm _) (fun v x=>by rw[qT,qT];exact hm _)
 exact⟨fun ay hn t=>To hn t ha h,fun p _=>UL (RJ h) p,a,b,c⟩
theorem V5{l:List ai}(hl:oF l)(hn:l.length<=1000)(f:ai->ai)(hf:∀e∈l,f e={e with aL:=(f e).aL}/\aO (f e)=aO e):Alike l (l.map f):=by
 have e1:∀e∈l,(f e).au=e.au/\(f e).ab=e.ab/\(f e).aa=e.aa/\(f e).bx=e.bx/\(f e).ak=e.ak/\(f e).aw=e.aw/\(f e).aF=e.aF/\(f e).aM=e.aM:=fun e he=>by
  have:=(hf e he).1;rw[this];exact⟨rfl,rfl,rfl,rfl,rfl,rfl,rfl,rfl⟩
 have hl':oF (l.map f):=⟨by rw[QC];exact hl.len,fun e he=>by
  obtain⟨x,hx,rfl⟩:=QP.1 he
  rw[(e1 x hx).2.1];exact hl.aR x hx⟩
 have hm:∀(P:ai->Prop),(∀e∈l,P e↔P (f e))->((∃e∈l,P e)↔∃e∈l.map f,P e):=fun P hP=>⟨fun⟨e,he,hp⟩=>⟨f e,QP.2 ⟨e,he,rfl⟩,(hP e he).1 hp⟩,fun⟨e,he,hp⟩=>by
  obtain⟨x,hx,rfl⟩:=QP.1 he
  exact⟨x,hx,(hP x hx).2 hp⟩⟩
 have hsaid:∀e∈l,said (f e)=said e:=fun e he=>by
  obtain⟨g1,g2,g3,g4,g5,g6,g7,g8⟩:=e1 e he;unfold said at_
  rw[(hf e he).2,g4,g3,g5,g6]
 have hbnd:∀v,∀e∈l,gB v (f e)=gB v e:=fun v e he=>by
  obtain⟨g1,g2,g3,g4,g5,g6,g7,g8⟩:=e1 e he;unfold gB;simp only[(hf e he).2,g4,g3,g7,g8]
 obtain⟨a,b,c⟩:=KD hl hn hl' (by rw[QC];exact hn) (fun x=>hm _ fun e he=>by rw[hsaid e he]) (fun x=>hm _ fun e he=>by rw[(hf e he).2,(e1 e he).2.2.1])
  (fun v x=>by rw[qT,qT];exact hm _ fun e he=>by rw[hbnd v e he,(e1 e he).2.2.2.2.2.2.1,(e1 e he).2.2.2.2.2.2.2])
 refine⟨fun ay hn t=> ?_,fun p hp=> ?_,a,b,c⟩
 ·unfold eW;generalize (List.replicate 10 fo).set ay ⟨true,t⟩=ms
  suffices key:∀(k:List ai) (ms:List bh),(∀e∈k,e∈l)->k.foldl cF ms=(k.map f).foldl cF ms from key l ms fun e he=>he
  intro k
  induction k with
  |nil=>intro ms _;rfl
  |cons x k ih=>
   intro ms hk;have hx:=hk x Qx
   have:cF ms (f x)=cF ms x:=by
    unfold cF;rw[(hf x hx).2,(e1 x hx).1,(e1 x hx).2.1]
   rw[QD,QU,QU,this];exact ih _ fun e he=>hk e (Qy _ he)
 ·unfold bL
  suffices key:∀(k:List ai),(∀e∈k,e∈l)->cW p (k.filter aO)=cW p ((k.map f).filter aO)from key l fun e he=>he
  intro k
  induction k with
  |nil=>intro _;rfl
  |cons x k ih=>
   intro hk;have hx:=hk x Qx
   have hpx:p (f x)=p x:=by
    rw[(hf x hx).1];exact hp x _
   rw[QD,List.filter_cons,List.filter_cons,(hf x hx).2];split
   ·rw[cW,cW,hpx,(e1 x hx).1,ih fun e he=>hk e (Qy _ he)]
   ·exact ih fun e he=>hk e (Qy _ he)
structure gm (m:af):Prop where
 zero:aD m.aa=true->m.aL=0
 pos:aD m.aa=false->1<=m.aL
def EE(m:af):ai:=⟨m.au,m.bs,m.aL,m.ab,m.aA,m.aa,m.ak,m.aw,m.aF,if m.aA=1 then eH m else m.aM⟩
theorem wY(m:af):dy m=some (EE m):=by
 unfold dy EE eH;simp only[ba,an.eta,cJ,eY,Qa]
 by_cases h1:m.aA=1
 ·rw[Qg h1,Qr h1];cases aD m.av<;>cases bE m.av m.aa<;>rfl
 ·rw[Qh h1,Qs h1];rfl
theorem Bt{m:af}(h:aZ m):EE m=bR m:=by
 unfold EE bR;rcases h.body with h0|h1|h2|h3
 ·rw[Qr h0.aK,Qr h0.aK]
 ·rw[Qr h1.aK,Qr h1.aK]
 ·rw[Qs (by rw[h2.aK];decide),Qs (by rw[h2.aK];decide),Qr h2.aK,h2.bM]
 ·rw[Qs (by rw[h3.aK];decide),Qs (by rw[h3.aK];decide),Qs (by rw[h3.aK];decide),h3.bM,h3.cq]
theorem Su{m:af}(hs:gm m)(hz:aD m.aa=false):dS m=bR m:=by
 unfold dS
 have:bo (bR m).aL 1=(bR m).aL:=by
  have:=hs.pos hz;rw[PL];unfold bo;split<;>omega
 rw[this]
def rS(m:af):List ai:=if aD m.aa=true then m.aC else m.aC++[EE m]
theorem VV{l:List ai}(hl:l.length<=1000):eA l=some l:=by
 unfold eA;have h1:bB 176 (List.length ([]:List ai)+List.length l)=true:=cj (by simp;omega)
 rw[h1]
 cases l with
 |nil=>simp
 |cons x l=>rfl
theorem EA{m:af}(h:m.aC.length<=100):cZ ⟨m⟩=some (rS m,⟨m⟩):=by
 unfold cZ rS;simp only[af.eta,an.eta,ai.eta,aB.eta,cJ,wY,Qa,VV (show m.aC.length<=1000 by omega)]
 cases aD m.aa with
 |true=>rfl
 |false=>
  simp only[Ql,Qq,Qu];rw[cj (by simp;omega)]
  rfl
theorem aZ.apart{m:af}(h:aZ m):wV (aP m):=by
 have hs:∀a∈m.aC,∀b∈m.aC,a.au=b.au->a=b:=by
  have:=h.oq;revert this;generalize m.aC=l;intro hp
  induction l with
  |nil=>intro a ha;cases ha
  |cons x l ih=>
   rw[Q4]at hp;intro a ha b hb e;rcases QA.1 ha with ha'|ha'<;>rcases QA.1 hb with hb'|hb'
   ·rw[ha',hb']
   ·have:=hp.1 b hb';rw[ha']at e;omega
   ·have:=hp.1 a ha';rw[hb']at e;omega
   ·exact ih hp.2 a ha' b hb' e
 intro a ha b hb e;rcases uk ha with ha|⟨_,rfl⟩<;>rcases uk hb with hb|⟨_,rfl⟩
 ·exact hs a ha b hb e
 ·exact absurd (e.trans (lW m)) (h.hv a ha).2.2.2
 ·exact absurd (e.symm.trans (lW m)) (h.hv b hb).2.2.2
 ·rfl
theorem MJ{m:af}(h:aZ m)(hs:gm m):(aP m).Perm (rS m):=by
 unfold aP rS;split
 ·exact .refl _
 ·rename_i hz;rw[Bt h,<-Su hs (by simpa using hz)]
  exact w9 _ _
theorem kE{m:af}(h:aZ m)(hs:gm m):Alike (aP m) (rS m):=UC h.ev.jo.1 h.ev.jo.2 h.apart (MJ h hs)
theorem oZ{m:af}(h:aZ m)(hs:gm m):oF (rS m)/\(rS m).length<=1000:=by
 have hp:=MJ h hs;have:=h.ev.jo;exact⟨⟨by rw[<-hp.length_eq];exact this.1.len,fun e he=>this.1.aR e (hp.mem_iff.2 he)⟩,by rw[<-hp.length_eq];exact this.2⟩
section
variable {m : af} (h : aZ m) (hs : gm m)
 include h hs
theorem aat(p q:ae)(v:ByteArray):mh m.au m.ab (rS m) p q v=some (hZ m.au.toNat m.ab (aP m) p q v):=by
 have:=YZ h.ev.ay.2 h.ev.aR (oZ h hs).1 (oZ h hs).2 p q v
 rwa [h.ev.ay.1,<-(kE h hs).next h.ev.ay.2]at this
theorem aau(a:ae):jX m.au m.ab (rS m) a=some (tE m.au.toNat m.ab (aP m) a):=by
 have:=Y0 h.ev.ay.2 h.ev.aR (oZ h hs).1 (oZ h hs).2 a
 rwa [h.ev.ay.1,<-(kE h hs).bG h.ev.ay.2]at this
theorem Y1:oO m.au m.ab (rS m) m.ak m.aw=some (dZ m):=by
 have hl:=oZ h hs;have:=abf (ON h.ev.ay.2 h.ev.aR hl.1) hl.1 hl.2 (look_eq h.ev.ay.2 h.ev.aR hl.1) m.ak m.aw;rw[h.ev.ay.1,<-(kE h hs).ready h.ev.ay.2,<-(kE h hs).Fh,<-(kE h hs).first]at this
 exact this
theorem abF:nO m.au m.ab (rS m) m.aa.Value m.aF m.aM=some ((cx m).1,(cx m).2,()):=by
 have hl:=oZ h hs;have:=Z6 (ON h.ev.ay.2 h.ev.aR hl.1) hl.1 hl.2 (look_eq h.ev.ay.2 h.ev.aR hl.1) m.aa.Value m.aF m.aM;rw[h.ev.ay.1,<-(kE h hs).ready h.ev.ay.2,<-(kE h hs).il]at this;exact this
theorem abE:oP m.au m.ab (rS m) m.aa.Value=some (kN m):=by
 have hl:=oZ h hs;have:=abg (YE h.ev.ay.2 h.ev.aR hl.1) hl.1 hl.2 (look_eq h.ev.ay.2 h.ev.aR hl.1) m.aa.Value;rw[h.ev.ay.1,<-(kE h hs).sure h.ev.ay.2,<-(kE h hs).il]at this;exact this
end
theorem Mx(v:ByteArray)(n:Int)(p q:ae):mI v n p q=some (jC v n p q):=by
 unfold mI jC;generalize bo n 1=k
 have hst:∀(i:Nat) (x:ae) (k:Int),i<2->[p,q][i]?=some x->
   (fun(v1:Int×Int×Unit)=>
    bif (decide (v1.2.1<((List.length [p,q]:Nat):Int)))then
    bm (fun(v2:Int×Unit)=>some (Sum.inl (v2.1,(aG .i64 v1.2.1 (1:Int)),()))) fun j3=>
    Option.bind (idx [p,q] v1.2.1) fun x4=>
    Option.bind (fR x4) fun r5=>
    Option.bind (bif (!r5)then some true else Option.bind (dM x4 (ae.mk v1.1 v)) fun r6=>some (!r6)) fun b7=>
    bif b7 then j3 (v1.1,())
    else Option.bind (dM x4 (ae.mk x4.aj v)) fun r8=>
     bif r8 then j3 ((aG .i64 x4.aj (1:Int)),())else j3 (x4.aj,())
    else(Option.map Sum.inr (some v1.1):Option ((Int×Int×Unit)⊕Int))) (k,(i:Int),())=some (Sum.inl (tw v k x,((i+1:Nat):Int),())):=by
  intro i x k hi hx;have hd:decide ((i:Int)<((List.length [p,q]:Nat):Int))=true:=Qg (by simp;omega)
  have hw:aG .i64 (i:Int) 1=((i+1:Nat):Int):=bP (by omega) (by omega)
  have hx':idx [p,q] (i:Int)=some x:=by rw[bC];exact hx
  simp only[hd,hw,hx',Qk,ba,Qa,rE,qj];unfold tw
  cases hv:ct x with
  |false=>simp
  |true=>
   have hc:aG .i64 x.aj 1=x.aj+1:=by
    have:1<=x.aj/\x.aj<=1000000:=by
     simp only[ct,Qm,Qn,Qi]at hv;omega
    exact bP (by omega) (by omega)
   cases h1:dO x ⟨k,v⟩with
   |false=>simp
   |true=>cases h2:dO x ⟨x.aj,v⟩<;>simp[hc]
 refine(bn (hst 0 p k (by omega) rfl)).trans ((bn (hst 1 q _ (by omega) rfl)).trans (bX ?_))
 rfl
theorem Xa(b:ae):(⟨dP b.aj 1000,b.Value⟩:ae)=dq b:=by
 unfold dP dq;split<;>rfl
section
variable {m : af} (h : aZ m) (hs : gm m)
 include h
theorem TS(hz:aD (dU m)=true):cn m=m:=by
 have hid:m.aA=3\/aD m.aa=true->cn m=m:=fun hc=>Qr hc
 have hj:cz m.ak m.aw (dq (dU m))=(m.ak,m.aw):=by
  have:dq (dU m)=bN:=by rw[nh.1 hz];decide
  rw[this];exact Qr bF
 have he:¬(m.aA=3\/aD m.aa=true)->mS m m.ak m.aw=m.aF->cn m=m:=by
  intro hc hl;unfold cn;rw[Qs hc,hj];simp only;rw[hl]
 rcases h.body with h0|h1|h2|h3
 ·exact hid (.inr (by rw[h0.aN];exact bF))
 ·exact he (by rw[h1.aK,h1.aN.nz];decide) (Jo h1)
 ·exact he (by rw[h2.aK,h2.aN.nz];decide) (Qs (fun h=>by have:=h.1;rw[h2.aK]at this;cases this))
 ·exact hid (.inl h3.aK)
 include hs
theorem TP:jz ⟨m⟩=some ((),⟨cn m⟩):=by
 have hl:m.aC.length<=100:=by have:=h.len;omega
 unfold jz;simp only[af.eta,an.eta,aB.eta,cJ,EA hl,aat h hs,YT,Mx,wY,Qa,ba,Xa]
 by_cases h3:m.aA=3\/aD m.aa=true
 ·have e:cn m=m:=Qr h3;rw[e];rcases h3 with h3|h3
  ·rw[Qg h3];cases aD m.aa<;>rfl
  ·rw[h3];rfl
 ·have hz:aD m.aa=false:=by
   cases hz:aD m.aa with
   |true=>exact absurd (.inr hz) h3
   |false=>rfl
  have h3':¬m.aA=3:=fun e=>h3 (.inl e)
  rw[hz,Qh h3'];simp only[Ql,Qa]
  have hmain:∀v:ByteArray,v=zR m->(bif aD (hZ m.au.toNat m.ab (aP m) m.ak m.aw v)then some ((),(⟨m⟩:aB))else
    Option.bind (bif decide (m.aA=1)then some (!decide (m.aF=0))else some false) fun b9=>
    bif b9 then
     bif decide ((EE ⟨m.au,m.bs,m.aL,m.ab,m.aA,m.aa,(cz m.ak m.aw (dq (hZ m.au.toNat m.ab (aP m) m.ak m.aw v))).1,(cz m.ak m.aw (dq (hZ m.au.toNat m.ab (aP m) m.ak m.aw v))).2,m.av,jC m.aa.Value m.aF (cz m.ak m.aw (dq (hZ m.au.toNat m.ab (aP m) m.ak m.aw v))).1 (cz m.ak m.aw (dq (hZ m.au.toNat m.ab (aP m) m.ak m.aw v))).2,m.aM,m.bf,m.aC⟩).aM<jC m.aa.Value m.aF (cz m.ak m.aw (dq (hZ m.au.toNat m.ab (aP m) m.ak m.aw v))).1 (cz m.ak m.aw (dq (hZ m.au.toNat m.ab (aP m) m.ak m.aw v))).2)then
      some ((),(⟨⟨m.au,m.bs,m.aL,m.ab,m.aA,m.aa,(cz m.ak m.aw (dq (hZ m.au.toNat m.ab (aP m) m.ak m.aw v))).1,(cz m.ak m.aw (dq (hZ m.au.toNat m.ab (aP m) m.ak m.aw v))).2,m.av,0,m.aM,m.bf,m.aC⟩⟩:aB))
     else some ((),(⟨⟨m.au,m.bs,m.aL,m.ab,m.aA,m.aa,(cz m.ak m.aw (dq (hZ m.au.toNat m.ab (aP m) m.ak m.aw v))).1,(cz m.ak m.aw (dq (hZ m.au.toNat m.ab (aP m) m.ak m.aw v))).2,m.av,jC m.aa.Value m.aF (cz m.ak m.aw (dq (hZ m.au.toNat m.ab (aP m) m.ak m.aw v))).1 (cz m.ak m.aw (dq (hZ m.au.toNat m.ab (aP m) m.ak m.aw v))).2,m.aM,m.bf,m.aC⟩⟩:aB))
    else some ((),(⟨⟨m.au,m.bs,m.aL,m.ab,m.aA,m.aa,(cz m.ak m.aw (dq (hZ m.au.toNat m.ab (aP m) m.ak m.aw v))).1,(cz m.ak m.aw (dq (hZ m.au.toNat m.ab (aP m) m.ak m.aw v))).2,m.av,m.aF,m.aM,m.bf,m.aC⟩⟩:aB)))=some ((),(⟨cn m⟩:aB)):=by
   intro v hv;subst hv;rw[show hZ m.au.toNat m.ab (aP m) m.ak m.aw (zR m)=dU m from rfl]
   cases hzn:aD (dU m)with
   |true=>rw[TS h hzn];rfl
   |false=>
    simp only[Ql];have e:cn m={m with ak:=(cz m.ak m.aw (dq (dU m))).1,aw:=(cz m.ak m.aw (dq (dU m))).2,aF:=mS m (cz m.ak m.aw (dq (dU m))).1 (cz m.ak m.aw (dq (dU m))).2}:=Qs h3
    rw[e];unfold mS
    by_cases hc:m.aA=1/\m.aF≠0
    ·rw[Qg hc.1,Qh hc.2,Qr hc];simp only[Qk,Qa,Qp];have hh:∀(p q:ae) (L:Int),(EE {m with ak:=p,aw:=q,aF:=L}).aM=eH m:=fun p q L=>by unfold EE;exact Qr hc.1
     rw[hh];split
     ·rename_i hlt;rw[Qg hlt];rfl
     ·rename_i hlt;rw[Qh hlt];rfl
    ·rw[Qs hc]
     by_cases h1:m.aA=1
     ·rw[Qg h1,Qg (show m.aF=0 from Classical.byContradiction fun hn=>hc ⟨h1,hn⟩)];rfl
     ·rw[Qh h1];rfl
  by_cases h2:m.aA=2
  ·rw[Qg h2];exact hmain _ (Qr h2).symm
  ·rw[Qh h2];exact hmain _ (Qs h2).symm
end
theorem UX(m:af)(b:ae):ju ⟨m⟩ b=some ((),⟨{m with aF:=bif bE m.aa b then m.aF else 0,aa:=b}⟩):=by
 unfold ju;simp only[af.eta,an.eta,aB.eta,eY,Qa,ba];cases bE m.aa b<;>rfl
theorem HO(m:af)(b:ae){α:Type}(j:af->Option α):
  (bif decide (m.aF=(0:Int))then(bif bE m.aa b then(bif decide (jC b.Value m.aa.aj m.ak m.aw<=b.aj)then j {m with aF:=jC b.Value m.aa.aj m.ak m.aw}else j m)else j m)else(bif false then(bif decide (jC b.Value m.aa.aj m.ak m.aw<=b.aj)then j {m with aF:=jC b.Value m.aa.aj m.ak m.aw}else j m)else j m))=j (mJ m b):=by
 unfold mJ
 by_cases hL:m.aF=0
 ·rw[Qg hL]
  cases hc:bE m.aa b with
  |true=>
   by_cases hle:jC b.Value m.aa.aj m.ak m.aw<=b.aj
   ·rw[Qr ⟨hL,rfl,hle⟩,Qg hle];rfl
   ·rw[Qs (fun h=>hle h.2.2),Qh hle];rfl
  |false=>
   rw[Qs (fun h=>by cases h.2.1)];rfl
 ·rw[Qh hL,Qs (fun h=>hL h.1)];rfl
section
variable {m : af} (h : aZ m) (hs : gm m)
 include h hs
theorem aaa:lh ⟨m⟩=some ((),⟨gl m⟩):=by
 have hl:m.aC.length<=100:=by have:=h.len;omega
 unfold lh;simp only[af.eta,an.eta,aB.eta,cJ,EA hl,aau h hs,Mx,UX,eY,iF,Qa,ba];have hb:tE m.au.toNat m.ab (aP m) m.av=fE m:=rfl;simp only[hb];unfold gl
 cases hz:aD m.aa with
 |true=>rw[Qr (.inr (.inl rfl))];rfl
 |false=>
  by_cases h1:m.aA=1
  ·rw[Qg h1]
   cases hzb:aD (fE m)with
   |true=>rw[Qr (.inr (.inr rfl))];rfl
   |false=>
    rw[Qs (by simp[h1])]
    simp only[Qo,Ql,Qa];unfold xa
    cases hlt:bg m.aa (fE m)with
    |true=>
     simp only[Qk,Qt]
     cases hcp:bE m.aa (fE m)with
     |true=>exact HO {m with av:=fE m,aa:=fE m} (fE m) (fun x=>some ((),(⟨x⟩:aB)))
     |false=>exact HO {m with av:=fE m,aa:=fE m,aF:=0} (fE m) (fun x=>some ((),(⟨x⟩:aB)))
    |false=>
     simp only[Ql,Qq,Qu];exact HO {m with av:=fE m} (fE m) (fun x=>some ((),(⟨x⟩:aB)))
  ·rw[Qh h1,Qr (.inl h1)];rfl
theorem VT:jR ⟨m⟩=some ((),⟨eo m⟩):=by
 have hl:m.aC.length<=100:=by have:=h.len;omega
 unfold jR;simp only[af.eta,an.eta,aB.eta,EA hl,Y1 h hs,abF h hs,eY,iF,Qa,ba];unfold eo
 by_cases h1:m.aA=1
 ·rw[Qg h1,Qr h1];simp only[Qk]
  cases hk:(dZ m).2.2.2.1 with
  |false=>rfl
  |true=>
   have hf:=EX h hk
   have hcov:gK m.ak ⟨(dZ m).2.2.1,(dZ m).1⟩= !(bg m.ak ⟨(dZ m).2.2.1,(dZ m).1⟩|| !bE m.ak ⟨(dZ m).2.2.1,(dZ m).1⟩):=by
    cases hc:bE m.ak ⟨(dZ m).2.2.1,(dZ m).1⟩with
    |false=>unfold gK;rw[hc];simp
    |true=>
     have hv:=gb.1 hc
     have hnz:aD m.ak=false:=by
      cases hz:aD m.ak with
      |false=>rfl
      |true=>rw[nh.1 hz]at hv;exact absurd hv.symm hf.fin.ne
     unfold gK;rw[hc,hnz,CD hv,Qo,Bool.or_false,Qp,Bool.and_self,Bool.true_and];rw[QW];simp only[Qi,Bool.not_eq_true',Qj];omega
   simp only[Qo,Ql,Qt];unfold AY;rw[hcov];cases bE m.aa ⟨(dZ m).2.2.1,(dZ m).1⟩<;>cases bg m.aa ⟨(dZ m).2.2.1,(dZ m).1⟩<;>cases bg m.ak ⟨(dZ m).2.2.1,(dZ m).1⟩<;>cases bE m.ak ⟨(dZ m).2.2.1,(dZ m).1⟩<;>rfl
 ·rw[Qh h1,Qs h1]
  by_cases h2:m.aA=2
  ·rw[Qg h2,Qr h2];rcases h.body with k|k|k|k
   ·exact absurd k.aK h1
   ·exact absurd k.aK h1
   ·unfold vz;rw[k.cq.2];rfl
   ·have:=k.aK;omega
  ·rw[Qh h2,Qs h2];rfl
theorem Xs:kb ⟨m⟩=some ((),⟨gI m⟩):=by
 have hl:m.aC.length<=100:=by have:=h.len;omega
 unfold kb gI;simp only[af.eta,an.eta,aB.eta,EA hl,abE h hs,Qa]
 by_cases h2:m.aA=2
 ·rw[Qg h2]
  cases hk:(kN m).2.2.1 with
  |false=>rw[Qs (fun h=>by cases h.2)];rfl
  |true=>rw[Qr ⟨h2,rfl⟩];rfl
 ·rw[Qh h2,Qs (fun h=>h2 h.1)];rfl
end
theorem OV{m:af}(h:rG m):gu ⟨m⟩=some (dp m):=by
 have hl:m.aC.length<=1000:=by have:=h.len;omega
 unfold gu dp;simp only[cJ,Qa]
 cases hz:aD m.av with
 |false=>rfl
 |true=>
  simp only[Qo,Ql,Bool.true_eq_false,Qu]
  by_cases h1:m.aA=1
  ·rw[Qg h1,Qs (fun h=>h h1)]
   simp only[Qo,Ql]
   by_cases hp:m.bf=fu
   ·have hp':decide (m.bf=ByteArray.mk #[])=true:=Qg hp;rw[hp',Qs (fun h=>h hp)]
    simp only[Qo,Ql]
    rw[Ah m.aC hl (·.aa) (fin:=fun s=>Option.bind (kT s) fun r=>some r.Value) (fun i e s hs he hd hx hw=>by
     simp only[hd,hx,hw,Qk,Qa]
     rw[cj (by simp;omega),Qk]) (fun s hd=>by simp only[hd,Ql]),WR _ (by simp;omega)]
    rfl
   ·have hp':decide (m.bf=ByteArray.mk #[])=false:=Qh hp;rw[hp',Qr hp];rfl
  ·rw[Qh h1,Qr h1];rfl
theorem YX(l:List ai)(hlen:l.length<=1000)(p:ai->Bool)(hp:∀e∈l,p e=true->0<=e.au/\e.au<10):nM l (l.map p)=some ((cW p l:Nat):Int):=by
 unfold nM
 suffices key:∀(k i s:Nat),i+k=l.length->s<1024->aI _ ((s:Int),(i:Int),())=some ((s|||cW p (l.drop i):Nat):Int)by
  have:=key l.length 0 0 (by omega) (by omega)
  rw[Nat.zero_or,List.drop_zero]at this;exact this
 intro k
 induction k with
 |zero=>
  intro i s hi hs;obtain rfl:i=l.length:=by omega
  have hd:decide (((l.length:Nat):Int)<((l.length:Nat):Int))=false:=Qh (Int.lt_irrefl _);rw[bX (r:=(s:Int)) (by simp only[hd,Ql,Qe]),List.drop_length,cW]
  simp
 |succ k ih=>
  intro i s hi hs;have hlt:i<l.length:=by omega
  have hd:decide ((i:Int)<((l.length:Nat):Int))=true:=Qg (by omega)
  have hd2:decide ((i:Int)<(((l.map p).length:Nat):Int))=true:=Qg (by rw[QC];omega)
  have hw:aG .i64 (i:Int) 1=((i+1:Nat):Int):=bP (by omega) (by omega)
  have hx:idx l (i:Int)=some l[i]:=by rw[bC];exact Qv hlt
  have hx2:idx (l.map p) (i:Int)=some (p l[i]):=by rw[bC,QT,Qv hlt];rfl
  rw[QM hlt,cW]
  cases hpe:p l[i]with
  |false=>
   rw[bn (s':=((s:Int),((i+1:Nat):Int),())) (by simp only[hd,hd2,hx,hx2,hw,hpe,Qk,Ql,ba,Qa]),ih (i+1) s (by omega) hs]
   simp
  |true=>
   obtain⟨h0,h1⟩:=hp _ (Q0 hlt) hpe;have hn0:¬l[i].au<0:=by omega
   have d1:decide ((0:Int)<=l[i].au)=true:=Qg h0;have d2:decide (l[i].au<(10:Int))=true:=Qg (by omega)
   rw[bn (s':=(((s|||2 ^ l[i].au.toNat:Nat):Int),((i+1:Nat):Int),())) (by
    simp only[hd,hd2,hx,hx2,hw,hpe,Qk,ba,Qa,d1,d2,hn0,Qu]
    rw[yv hs h0 h1]),ih (i+1) _ (by omega) (Jq hs h1)]
   simp[Nat.or_assoc]
theorem WU{m:af}(h:rG m)(n:Int):kL ⟨m⟩ n=some ((zo m n:Nat):Int):=by
 have hl:m.aC.length<=1000:=by have:=h.len;omega
 unfold kL;have d1:decide (((m.aC.length:Nat):Int)=((m.aC.length:Nat):Int))=true:=Qg rfl;have d2:decide (0<=((m.aC.length:Nat):Int))=true:=Qg (Int.natCast_nonneg _);have d3:bB 1 m.aC.length=true:=cj (by omega)
 simp only[d1,d2,d3,QV,Bool.and_self,Qk]
 rw[VF m.aC hl (fun e=>decide (n<eu e)) (fin:=fun s=>Option.bind (nM m.aC s) fun r=>some r)
  (fun i e s hsl he hi hd hx hw=>by
   have h1:idx s (i:Int)=some s[i]:=by rw[bC];exact Qv (by omega)
   have h2:s[i]?=some s[i]:=Qv (by omega)
   simp only[hd,hx,hw,h1,h2,Qk,Qa,an.eta,ai.eta,O1 (h.sm e he) (h.valid e he),QV])
  (fun s hd=>by simp only[hd,Ql]) (by simp),YX m.aC hl _ (fun e he _=>h.LF e he)]
 rfl
section
variable {m : af} (h : aZ m) (hs : gm m)
 include h hs
theorem MW(n:Int):gM n ⟨eW m.au.toNat m.ab (rS m)⟩ ⟨m⟩=some (gk m n):=by
 unfold gM;simp only[af.eta,an.eta,aB.eta,WU h.ev,Qa];have hb:=Nk (jG (ay:=m.au.toNat) h.ev.aR (oZ h hs).1) (v:=m.au.toNat) (Nh h.ev n);rw[h.ev.ay.1]at hb;rw[hb,Qa];unfold gk;rw[(kE h hs).view _ h.ev.ay.2]
theorem Xj:ka ⟨m⟩=some ((),⟨dH m⟩):=by
 have hl:m.aC.length<=100:=by have:=h.len;omega
 have hv:=Tf h.ev.ay.2 h.ev.aR (oZ h hs).1;rw[h.ev.ay.1]at hv;unfold ka dH;simp only[af.eta,an.eta,aB.eta,cJ,EA hl,hv,MW h hs,OV h.ev,UX,Qa,ba]
 by_cases h3:m.aA=3
 ·rw[Qg h3,Qr (.inl h3)];rfl
 ·rw[Qh h3]
  cases ha:gk m m.aa.aj with
  |false=>rw[Qr (.inr rfl)];rfl
  |true=>
   rw[Qs (by simp[h3])]
   simp only[Ql,Qo]
   have hbc:0<=m.aa.aj/\m.aa.aj<=1000:=by
    rcases h.body with k|k|k|k
    ·rw[k.aN];decide
    ·exact⟨by have:=k.aN.1;omega,k.aN.2.1⟩
    ·exact⟨by have:=k.aN.1;omega,k.aN.2.1⟩
    ·exact absurd k.aK h3
   have hz1:aD m.aa=true->m.aA=1:=by
    intro hz;rcases h.body with k|k|k|k
    ·exact k.aK
    ·exact k.aK
    ·rw[k.aN.nz]at hz;cases hz
    ·exact absurd k.aK h3
   refine(Q6 h.ev (fin:=fun c=>some ((),(⟨{m with aF:=bif bE m.aa ⟨dP c 1000,jJ m⟩then m.aF else 0,aa:=⟨dP c 1000,jJ m⟩}⟩:aB))) (fun i e s he hd hx hw=> ?_) (fun s hd=> ?_)).trans ?_
   ·simp only[hd,hx,hw,Qk,ba,Qa,an.eta,ai.eta,O1 (h.ev.sm e he) (h.ev.valid e he),MW h hs];unfold kj
    by_cases c1:m.aa.aj<eu e
    ·by_cases c2:eu e<s
     ·rw[Qg c1,Qg c2]
      cases c3:gk m (eu e)with
      |true=>rw[Qs (by simp)];rfl
      |false=>rw[Qr ⟨c1,c2,rfl⟩];rfl
     ·rw[Qg c1,Qh c2,Qs (fun h=>c2 h.2.1)];rfl
    ·rw[Qh c1,Qs (fun h=>c1 h.1)];rfl
   ·simp only[hd,Ql,ba,Qa];unfold jJ
    by_cases h1:m.aA=1
    ·rw[Qg h1,Qr h1];cases aD m.aa<;>rfl
    ·rw[Qh h1,Qs h1]
     cases hz:aD m.aa with
     |true=>exact absurd (hz1 hz) h1
     |false=>rfl
   ·have hm:=(Fb h hbc).2.2.2.2;rw[hm]
    have hcp:(bif bE m.aa ⟨dP (fT m) 1000,jJ m⟩then m.aF else 0)=(if jJ m=m.aa.Value then m.aF else 0):=by
     by_cases e:jJ m=m.aa.Value
     ·rw[Qr e,(gb (a:=m.aa) (b:=⟨dP (fT m) 1000,jJ m⟩)).2 e.symm];rfl
     ·rw[Qs e,(gZ (a:=m.aa) (b:=⟨dP (fT m) 1000,jJ m⟩)).2 (fun hc=>e hc.symm)];rfl
    rw[hcp]
end
end Go.Proofs.YtkgenianmdfmdaaGreat
namespace Go.Proofs.YtkgenianmdfmdaaGreat
open Go.TQ
theorem Rh{m:af}(h:aZ m)(s:Int):aP {m with aL:=s}=(aP m).map (fun e=>if e.au=m.au then{e with aL:=bo s 1}else e):=by
 have hf:∀e∈m.aC,(if e.au=m.au then{e with aL:=bo s 1}else e)=e:=fun e he=>Qs (h.hv e he).2.2.2
 have hmap:m.aC.map (fun e=>if e.au=m.au then{e with aL:=bo s 1}else e)=m.aC:=by
  rw[List.map_congr_left hf];simp
 have hown:dS {m with aL:=s}={dS m with aL:=bo s 1}:=by
  unfold dS bR eH;split
  ·rfl
  ·split<;>rfl
 unfold aP;split
 ·exact hmap.symm
 ·rw[hown];have hn:(dS m).au=m.au:=lW m
  suffices key:∀l:List ai,(∀e∈l,(if e.au=m.au then{e with aL:=bo s 1}else e)=e)->qf {dS m with aL:=bo s 1} l=(qf (dS m) l).map (fun e=>if e.au=m.au then{e with aL:=bo s 1}else e)from key _ hf
  intro l
  induction l with
  |nil=>
   intro _;simp only[qf,QD,QO,hn,Qt]
  |cons x l ih=>
   intro hx;unfold qf;simp only;split
   ·rw[QD,QD,hn,Qr rfl,hx x Qx,List.map_congr_left (fun e he=>hx e (Qy _ he))]
    simp
   ·rw[QD,hx x Qx,ih fun e he=>hx e (Qy _ he)]
theorem LD{m:af}(h:aZ m){s:Int}(hs:0<=s/\s<=1000000):aZ {m with aL:=s}:=by
 refine⟨h.n0,h.n1,h.bD,hs,h.aR,h.ow,h.hv,h.oq,?_⟩;rcases h.body with k|k|k|k
 ·exact .inl ⟨k.aK,k.aN,k.cq,k.bM,k.dF,k.low,k.bG⟩
 ·exact .inr (.inl ⟨k.aK,k.aN,k.cq,k.bM,k.dF,k.up,k.bG,k.low⟩)
 ·exact .inr (.inr (.inl ⟨k.aK,k.aN,k.cq,k.bM,k.dF,k.range⟩))
 ·exact .inr (.inr (.inr ⟨k.aK,k.aN,k.cq,k.bM,k.dF,k.range⟩))
theorem nH{m:af}(h:aZ m){s:Int}(hs:0<=s/\s<=1000000):Alike (aP m) (aP {m with aL:=s}):=by
 rw[Rh h s];refine V5 h.ev.jo.1 h.ev.jo.2 _ fun e he=> ?_
 split
 ·rename_i hn;refine⟨rfl,?_⟩;rw[h.gV e he];have hv:=h.gV e he
  have hm:{e with aL:=bo s 1}∈aP {m with aL:=s}:=by
   rw[Rh h s];exact QP.2 ⟨e,he,Qr hn⟩
  exact(LD h hs).gV _ hm
 ·exact⟨rfl,rfl⟩
theorem Zp(m:af)(s:Int)(b:ae):xa {m with aL:=s} b={xa m b with aL:=s}:=by
 unfold xa
 by_cases h:bg m.aa b=true
 ·simp only[Qr h]
 ·simp only[Qs h]
theorem UN(m:af)(s:Int)(b:ae):mJ {m with aL:=s} b={mJ m b with aL:=s}:=by
 unfold mJ
 by_cases h:m.aF=0/\bE m.aa b=true/\jC b.Value m.aa.aj m.ak m.aw<=b.aj
 ·simp only[Qr h]
 ·simp only[Qs h]
section
variable {m : af} (h : aZ m) {s : Int} (hs : 0 <= s /\ s <= 1000000)
 include h hs
theorem Y5:dU {m with aL:=s}=dU m:=((nH h hs).next h.ev.ay.2 m.ab _ _ _).symm
theorem Zl:fE {m with aL:=s}=fE m:=((nH h hs).bG h.ev.ay.2 m.ab _).symm
theorem Mr:dh {m with aL:=s}=dh m:=((nH h hs).ready h.ev.ay.2 m.ab).symm
theorem Wq:B7 {m with aL:=s}=B7 m:=((nH h hs).sure h.ev.ay.2 m.ab).symm
theorem Zz:dZ {m with aL:=s}=dZ m:=by
 unfold dZ;rw[Mr h hs];simp only;rw[<-(nH h hs).Fh,<-(nH h hs).first]
theorem ZD:cx {m with aL:=s}=cx m:=by
 unfold cx;rw[Mr h hs];simp only;rw[<-(nH h hs).il]
theorem ZC:kN {m with aL:=s}=kN m:=by
 unfold kN;rw[Wq h hs];simp only;rw[<-(nH h hs).il]
theorem Ng(n:Int):gk {m with aL:=s} n=gk m n:=by
 unfold gk;simp only;rw[<-(nH h hs).view _ h.ev.ay.2];rfl
theorem ZT:fT {m with aL:=s}=fT m:=by
 unfold fT;simp only;congr 1
 funext b e
 unfold kj;simp only[Ng h hs]
theorem MB:cn {m with aL:=s}={cn m with aL:=s}:=by
 unfold cn;simp only[Y5 h hs];split<;>rfl
theorem Mz:gl {m with aL:=s}={gl m with aL:=s}:=by
 unfold gl;simp only[Zl h hs];split
 ·rfl
 ·rw[Zp,UN]
theorem MH:eo {m with aL:=s}={eo m with aL:=s}:=by
 unfold eo;simp only[Zz h hs,ZD h hs];split
 ·split<;>rfl
 ·split<;>rfl
theorem MF:gI {m with aL:=s}={gI m with aL:=s}:=by
 unfold gI;simp only[ZC h hs];split<;>rfl
theorem MD:dH {m with aL:=s}={dH m with aL:=s}:=by
 unfold dH;simp only[Ng h hs,ZT h hs];split<;>rfl
end
open Classical in
 def cd(m:af):af:=
 if cn m=m then(if gl m=m then(if eo m=m then(if gI m=m then dH m else gI m)else eo m)else gl m)else cn m
structure zu (m:af):Prop where
 p:cn m=m
 s:gl m=m
 c:eo m=m
 f:gI m=m
 k:dH m=m
theorem Wr{m:af}(h:cd m=m):zu m:=by
 unfold cd at h;split at h
 ·split at h
  ·split at h
   ·split at h
    ·exact⟨by assumption,by assumption,by assumption,by assumption,h⟩
    ·contradiction
   ·contradiction
  ·contradiction
 ·contradiction
theorem PH{m:af}(h:zu m):cd m=m:=by
 unfold cd;rw[Qr h.p,Qr h.s,Qr h.c,Qr h.f,h.k]
theorem vW{m:af}{Q:af->Prop}(h1:Q (cn m))(h2:Q (gl m))(h3:Q (eo m))(h4:Q (gI m))(h5:Q (dH m)):Q (cd m):=by
 unfold cd;split
 ·split
  ·split
   ·split
    ·exact h5
    ·exact h4
   ·exact h3
  ·exact h2
 ·exact h1
theorem wW{m:af}(h:aZ m):aZ (cd m):=vW (MC h) (MA h) (MI h) (MG h) (ME h)
theorem uA(m:af):eQ m (cd m):=vW (oW m) (oV m) (nu m) (qN m) (qM m)
theorem Oq{m:af}(h:aZ m):cd m=m\/iU m<iU (cd m):=vW (Q:=fun x=>x=m\/iU m<iU x) (acP h) (acO h) (acS h) (acR h) (acQ h)
theorem TX(m:af):(cn m).aa=m.aa:=by unfold cn;split<;>rfl
theorem Hk{m:af}(h:aZ m)(hz:aD m.aa=false):aD (cd m).aa=false:=by
 have hb:P1 m\/P2 m\/P3 m:=h.body.resolve_left fun k=>by rw[k.aN,bF]at hz;cases hz
 refine vW (Q:=fun x=>aD x.aa=false) (by rw[TX];exact hz) ?_ ?_ ?_ ?_
 ·rcases hb with k|k|k
  ·exact(FC h k).1.aN.nz
  ·rw[lp (.inl (by rw[k.aK];decide))];exact hz
  ·rw[lp (.inl (by rw[k.aK];decide))];exact hz
 ·unfold eo;rcases hb with k|k|k
  ·rw[Qr k.aK];split
   ·rename_i hk;have hf:=EX h hk;exact(P5 (.inr k.aN) k.cq hf.fin hf.lo1 hf.le).aN.nz
   ·exact hz
  ·rw[Qs (by rw[k.aK];decide),Qr k.aK]
   obtain⟨g1,g2,g3,_⟩:=Ki h k;exact(Ui k g1 g2 g3).aN.nz
  ·rw[Qs (by rw[k.aK];decide),Qs (by rw[k.aK];decide)];exact hz
 ·unfold gI;split
  ·rename_i hc;rcases hb with k|k|k
   ·have:=k.aK;have:=hc.1;omega
   ·exact(Sr h k hc.2).aN.nz
   ·have:=k.aK;have:=hc.1;omega
  ·exact hz
 ·cases ha:gk m m.aa.aj with
  |false=>
   have:dH m=m:=Qr (.inr ha);rw[this];exact hz
  |true=>
   rcases hb with k|k|k
   ·exact(Lo h (.inr k) ha).aN.nz
   ·exact(Sq h k).aN.nz
   ·have:dH m=m:=Qr (.inl k.aK);rw[this];exact hz
def cy(m:af):af:=if aD m.aa=false then{m with aL:=bo m.aL 1}else m
theorem Sw{m:af}(h:aZ m):0<=bo m.aL 1/\bo m.aL 1<=1000000:=by
 have:=h.seq;unfold bo;split<;>omega
theorem Cy{m:af}(h:aZ m):aZ (cy m):=by
 unfold cy;split
 ·exact LD h (Sw h)
 ·exact h
theorem FE{m:af}(h:aD m.aa=true->m.aL=0):gm (cy m):=by
 unfold cy;split
 ·rename_i hz;exact⟨fun e=>(by rw[show({m with aL:=bo m.aL 1}:af).aa=m.aa from rfl,hz]at e;cases e),fun _=>by show 1<=bo m.aL 1;unfold bo;split<;>omega⟩
 ·rename_i hz;exact⟨h,fun e=>absurd e hz⟩
theorem SO{m:af}(h:aZ m)(hf:zu m){s:Int}(hs:0<=s/\s<=1000000):zu {m with aL:=s}:=
 ⟨by rw[MB h hs,hf.p],by rw[Mz h hs,hf.s],by rw[MH h hs,hf.c],by rw[MF h hs,hf.f],by rw[MD h hs,hf.k]⟩
theorem W8{m:af}(h:aZ m)(hf:zu m):zu (cy m):=by
 unfold cy;split
 ·exact SO h hf (Sw h)
 ·exact hf
theorem Y6{m:af}(hs:gm m):cy m=m:=by
 unfold cy;split
 ·rename_i hz;have:=hs.pos hz;have e:bo m.aL 1=m.aL:=by unfold bo;split<;>omega
  rw[e]
 ·rfl
theorem WE(m:af):iU (cy m)=iU m:=by
 unfold cy;split<;>rfl
theorem O4{m:af}(h:0<=m.aL):dg ⟨m⟩=some ((),⟨cy m⟩):=by
 unfold dg cy;simp only[af.eta,an.eta,aB.eta,cJ,Qa]
 cases hz:aD m.aa with
 |true=>rfl
 |false=>
  simp only[Qp,Qk,Qa,Qt]
  by_cases hs:m.aL=0
  ·have e:bo m.aL 1=1:=by unfold bo;split<;>omega
   rw[Qg hs,e];rfl
  ·have e:bo m.aL 1=m.aL:=by unfold bo;split<;>omega
   rw[Qh hs,e];rfl
theorem tb{m m':af}(he:eQ m m'):
  (decide (m'.aA=m.aA)&&(decide (m'.aF=m.aF)&&(decide (m'.aM=m.aM)&&(decide (m'.aa.aj=m.aa.aj)&&(decide (m'.aa.Value=m.aa.Value)&&(decide (m'.ak.aj=m.ak.aj)&&(decide (m'.ak.Value=m.ak.Value)&&(decide (m'.aw.aj=m.aw.aj)&&(decide (m'.aw.Value=m.aw.Value)&&(decide (m'.av.aj=m.av.aj)&&(decide (m'.av.Value=m.av.Value)&&true)))))))))))=true↔m'=m:=by
 simp only[Qm,Qi];constructor
 ·rintro⟨h1,h2,h3,h4,h5,h6,h7,h8,h9,h10,h11,_⟩;exact tV he h1 (lQ h4 h5) (lQ h6 h7) (lQ h8 h9) (lQ h10 h11) h2 h3
 ·rintro rfl;simp
open Classical in
theorem aac{m:af}(h:aZ m)(hs:gm m):lj ⟨m⟩=some (if cd m=m then(false,⟨m⟩)else(true,⟨cy (cd m)⟩)):=by
 have hnum:∀{x:af},aZ x->dg ⟨x⟩=some ((),⟨cy x⟩):=fun hx=>O4 hx.seq.1
 unfold lj;simp only[af.eta,an.eta,aB.eta,fh,Qa,TP h hs]
 by_cases hP:cn m=m
 ·simp only[(tb (oW m)).2 hP,Bool.xor_true,Qo,Ql,show xor true true=false from rfl]
  rw[hP,aaa h hs];simp only[Qa]
  by_cases hS:gl m=m
  ·simp only[(tb (oV m)).2 hS,Ql,show xor true true=false from rfl]
   rw[hS,VT h hs];simp only[Qa]
   by_cases hC:eo m=m
   ·simp only[(tb (nu m)).2 hC,Ql,show xor true true=false from rfl]
    rw[hC,Xs h hs];simp only[Qa]
    by_cases hF:gI m=m
    ·simp only[(tb (qN m)).2 hF,Ql,show xor true true=false from rfl]
     rw[hF,Xj h hs];simp only[Qa];have e:cd m=dH m:=by unfold cd;rw[Qr hP,Qr hS,Qr hC,Qr hF]
     rw[e]
     by_cases hK:dH m=m
     ·simp only[(tb (qM m)).2 hK,Ql,show xor true true=false from rfl]
      rw[Qr hK,hK]
     ·have hb:=mt (tb (qM m)).1 hK;rw[QX]at hb;simp only[hb,Qk,show xor true false=true from rfl]
      rw[hnum (ME h),Qs hK];rfl
    ·have e:cd m=gI m:=by unfold cd;rw[Qr hP,Qr hS,Qr hC,Qs hF]
     have hb:=mt (tb (qN m)).1 hF;rw[QX]at hb;simp only[hb,Qk,show xor true false=true from rfl]
     rw[hnum (MG h),e,Qs hF];rfl
   ·have e:cd m=eo m:=by unfold cd;rw[Qr hP,Qr hS,Qs hC]
    have hb:=mt (tb (nu m)).1 hC;rw[QX]at hb;simp only[hb,Qk,show xor true false=true from rfl]
    rw[hnum (MI h),e,Qs hC];rfl
  ·have e:cd m=gl m:=by unfold cd;rw[Qr hP,Qs hS]
   have hb:=mt (tb (oV m)).1 hS;rw[QX]at hb;simp only[hb,Qk,show xor true false=true from rfl]
   rw[hnum (MA h),e,Qs hS];rfl
 ·have e:cd m=cn m:=by unfold cd;rw[Qs hP]
  have hb:=mt (tb (oW m)).1 hP;rw[QX]at hb;simp only[hb,Qk,show xor true false=true from rfl]
  rw[hnum (MC h),e,Qs hP];rfl
structure A3 (R:af->Prop) (m m':af):Prop where
 inv:aZ m'
 seq:gm m'
 env:m'.au=m.au/\m'.bs=m.bs/\m'.ab=m.ab/\m'.bf=m.bf/\m'.aC=m.aC
 num:m'.aL=m.aL\/(m.aL=0/\m'.aL=1)
 nz:aD m.aa=false->aD m'.aa=false
 rel:R m'
 fix:zu m'
theorem V6{R:af->Prop}(hR1:∀m,aZ m->R m->R (cd m))(hR2:∀m,R m->R (cy m)){m:af}(h:aZ m)(hs:aD m.aa=true->m.aL=0)(hr:R m):Yd (fJ ⟨m⟩) fun q=>∃m',q=((),⟨m'⟩)/\A3 R m m':=by
 unfold fJ;simp only[af.eta,an.eta,aB.eta,O4 h.seq.1,Qa]
 have num1:∀{x:af},aZ x->(cy x).aL=x.aL\/(x.aL=0/\(cy x).aL=1):=fun{x} hx=>by
  have:=hx.seq;unfold cy;split
  ·show bo x.aL 1=x.aL\/(x.aL=0/\bo x.aL 1=1);unfold bo;split<;>omega
  ·exact .inl rfl
 have env1:∀x:af,(cy x).au=x.au/\(cy x).bs=x.bs/\(cy x).ab=x.ab/\(cy x).bf=x.bf/\(cy x).aC=x.aC/\(cy x).aa=x.aa:=fun x=>by
  unfold cy;split<;>exact⟨rfl,rfl,rfl,rfl,rfl,rfl⟩
 refine Yd.down (fun s=>∃x,s=((⟨x⟩:aB),())/\aZ x/\gm x/\R x/\(x.au=m.au/\x.bs=m.bs/\x.ab=m.ab/\x.bf=m.bf/\x.aC=m.aC)/\(x.aL=m.aL\/(m.aL=0/\x.aL=1))/\(aD m.aa=false->aD x.aa=false)) (fun s=>K1+K2 - iU s.1.ao) ?_ ⟨cy m,rfl,Cy h,FE hs,hR2 _ hr,⟨(env1 m).1,(env1 m).2.1,(env1 m).2.2.1,(env1 m).2.2.2.1,(env1 m).2.2.2.2.1⟩,num1 h,fun hz=>by rw[(env1 m).2.2.2.2.2];exact hz⟩
 rintro s ⟨x,rfl,hx,hsx,hrx,hex,hnx,hzx⟩;simp only[aac hx hsx,Qa]
 by_cases hst:cd x=x
 ·rw[Qr hst];exact .some ⟨x,rfl,⟨hx,hsx,hex,hnx,hzx,hrx,Wr hst⟩⟩
 ·rw[Qs hst];have hi:=wW hx;have hv:=uA x;have hup:=(Oq hx).resolve_left hst;refine .some ⟨⟨cy (cd x),rfl,Cy hi,FE ?_,hR2 _ (hR1 _ hx hrx),?_,?_,?_⟩,?_⟩
  ·intro hz;rw[hv.seq];refine hsx.zero ?_
   cases hzz:aD x.aa with
   |true=>rfl
   |false=>rw[Hk hx hzz]at hz;cases hz
  ·obtain⟨e1,e2,e3,e4,e5,_⟩:=env1 (cd x);exact⟨e1.trans (hv.ay.trans hex.1),e2.trans (hv.bD.trans hex.2.1),e3.trans (hv.aR.trans hex.2.2.1),e4.trans (hv.ow.trans hex.2.2.2.1),e5.trans (hv.heard.trans hex.2.2.2.2)⟩
  ·have h1:=num1 hi;rw[hv.seq]at h1;rcases h1 with e|⟨e1,e2⟩
   ·rw[e];exact hnx
   ·right;rcases hnx with e3|⟨_,e3⟩
    ·exact⟨by rw[<-e3];exact e1,e2⟩
    ·omega
  ·intro hz;rw[(env1 (cd x)).2.2.2.2.2];exact Hk hx (hzx hz)
  ·have h1:=Sj hi;show K1+K2 - iU (cy (cd x))<K1+K2 - iU x;rw[WE];omega
end Go.Proofs.YtkgenianmdfmdaaGreat
namespace Go.Proofs.YtkgenianmdfmdaaGreat
open Go.TQ
theorem XM{α:Type}{s t:List α}(hl:s.length=t.length)(hn:s.length<=1000000){step:Int×Unit->Option ((Int×Unit)⊕Bool)}
  (h1:∀(i:Nat) (h:i<s.length) (h':i<t.length),decide ((i:Int)<((s.length:Nat):Int))=true->idx s (i:Int)=some s[i]->idx t (i:Int)=some t[i]->aG .i64 (i:Int) 1=((i+1:Nat):Int)->∃b:Bool,step ((i:Int),())=some (bif b then .inl (((i+1:Nat):Int),())else .inr false)/\(b=true↔s[i]=t[i]))
  (h2:decide (((s.length:Nat):Int)<((s.length:Nat):Int))=false->step (((s.length:Nat):Int),())=some (.inr true)):∃b,aI step (0,())=some b/\(b=true↔s=t):=by
 suffices key:∀(k i:Nat),i+k=s.length->∃b,aI step ((i:Int),())=some b/\(b=true↔s.drop i=t.drop i)from by simpa using key s.length 0 (by omega)
 intro k
 induction k with
 |zero=>
  intro i hi;obtain rfl:i=s.length:=by omega
  refine⟨true,bX (h2 (Qh (Int.lt_irrefl _))),?_⟩;rw[List.drop_eq_nil_of_le (by omega),List.drop_eq_nil_of_le (by omega)]
  simp
 |succ k ih=>
  intro i hi;have hi':i<s.length:=by omega
  have hi'':i<t.length:=by omega
  obtain⟨b,h3,h4⟩:=h1 i hi' hi'' (Qg (by omega)) (by rw[bC];exact Qv hi') (by rw[bC];exact Qv hi'') (bP (by omega) (by omega))
  rw[QM hi',QM hi'',List.cons.injEq]
  cases b with
  |false=>
   refine⟨false,bX h3,?_⟩;simp only[Qq,false_iff]at h4 ⊢;exact fun h=>h4 h.1
  |true=>
   obtain⟨b,h5,h6⟩:=ih (i+1) (by omega)
   refine⟨b,(bn h3).trans h5,?_⟩;rw[h6];exact⟨fun h=>⟨h4.1 rfl,h⟩,fun h=>h.2⟩
theorem Vs{α:Type}{s t:List α}(h:s.length≠t.length):(false=true↔s=t):=by
 simp only[Qq,false_iff];exact fun h1=>h (by rw[h1])
 def Yp(a0:List Int)(a1:List Int):Option Bool:=
 bif (!decide (((List.length a0:Nat):Int)=((List.length a1:Nat):Int)))then
 some false
 else
 aI (fun(v1:Int×Unit)=>
 bif (decide (v1.1<((List.length a0:Nat):Int)))then
 Option.bind (idx a0 v1.1) fun x2=>
 Option.bind (idx a1 v1.1) fun x3=>
 bif (!decide (x2=x3))then
 Option.map Sum.inr (some false)
 else
 some (Sum.inl ((aG .i64 v1.1 (1:Int)),()))
 else
 Option.map Sum.inr (some true)) ((0:Int),())
theorem Yi(s t:List Int)(h:s.length<=1000000):∃b,Yp s t=some b/\(b=true↔s=t):=by
 unfold Yp
 by_cases hl:s.length=t.length
 ·rw[Qg (by omega:((s.length:Nat):Int)=((t.length:Nat):Int)),Qo,Ql]
  refine XM hl h (fun i hi hi' hd hx hy hw=> ?_) (fun hd=> ?_)
  ·refine⟨decide (s[i]=t[i]),?_,by simp⟩
   simp only[hd,hx,hy,hw,Qk,Qa];cases decide (s[i]=t[i])<;>rfl
  ·simp only[hd,Ql];rfl
 ·rw[Qh (by omega:¬((s.length:Nat):Int)=((t.length:Nat):Int)),Qp,Qk]
  exact⟨false,rfl,Vs hl⟩
theorem aaE(s t:List Int)(h:s.length<=1000000):∃b,zz s t=some b/\(b=true↔s=t):=Yi s t h
theorem abJ(s t:List Int)(h:s.length<=1000000):∃b,nY s t=some b/\(b=true↔s=t):=Yi s t h
theorem Me(a b:an):a=b↔a.aT=b.aT/\a.bq=b.bq/\a.aS=b.aS:=by
 cases a;cases b;simp
theorem abe{n:Nat}:∀{a b:an},SizeOf.sizeOf a<n->dR a->∃r,zt n (a,b,())=some r/\(r=true↔a=b):=by
 induction n with
 |zero=>intro a b h;omega
 |succ n ih=>
  intro a b hs hm;show∃r,vL (zt n) a b=some r/\(r=true↔a=b);have hl:=hm.len;have hns:=hm.nodes;obtain⟨r,h1,h2⟩:=aaE a.bq b.bq hns;rw[Me];unfold vL
  by_cases ht:a.aT=b.aT
  ·rw[Qg ht];simp only[Qo,Ql,h1,Qa]
   cases r with
   |false=>
    simp only[Qp,Qk,Qa];refine⟨false,rfl,?_⟩;simp only[Qq,false_iff]at h2 ⊢;exact fun h=>h2 h.2.1
   |true=>
    simp only[Qo,Ql,Qa]
    by_cases hi:a.aS.length=b.aS.length
    ·rw[Qg (by omega:((a.aS.length:Nat):Int)=((b.aS.length:Nat):Int)),Qo,Ql]
     have key:∀step:Int×Unit->Option ((Int×Unit)⊕Bool),(∃r,aI step (0,())=some r/\(r=true↔a.aS=b.aS))->∃r,aI step (0,())=some r/\(r=true↔a.aT=b.aT/\a.bq=b.bq/\a.aS=b.aS):=by
      rintro step ⟨r,h3,h4⟩;exact⟨r,h3,by rw[h4];exact⟨fun h=>⟨ht,h2.1 rfl,h⟩,fun h=>h.2.2⟩⟩
     refine key _ (XM hi hl (fun i hi hi' hd hx hy hw=> ?_) (fun hd=> ?_))
     ·have hu:=Q0 hi;obtain⟨r,h3,h4⟩:=ih (a:=a.aS[i]) (b:=b.aS[i]) (by have:=q8 hu;omega) (hm.inner _ hu)
      refine⟨r,?_,h4⟩;simp only[hd,hx,hy,hw,Qk,Qa,an.eta,h3];cases r<;>rfl
     ·simp only[hd,Ql];rfl
    ·rw[Qh (by omega:¬((a.aS.length:Nat):Int)=((b.aS.length:Nat):Int)),Qp,Qk]
     refine⟨false,rfl,?_⟩;simp only[Qq,false_iff];exact fun h=>hi (by rw[h.2.2])
  ·rw[Qh ht];refine⟨false,rfl,?_⟩;simp only[Qq,false_iff];exact fun h=>ht h.1
theorem ac8{a b:an}(h:dR a):∃r,zy a b=some r/\(r=true↔a=b):=abe (by omega) h
theorem ach{n:Nat}:∀{a b:an},SizeOf.sizeOf a<n->dR a->∃r,uo n (a,b,())=some r/\(r=true↔a=b):=by
 induction n with
 |zero=>intro a b h;omega
 |succ n ih=>
  intro a b hs hm;show∃r,pG (uo n) a b=some r/\(r=true↔a=b);have hl:=hm.len;have hns:=hm.nodes;obtain⟨r,h1,h2⟩:=abJ a.bq b.bq hns;rw[Me];unfold pG
  by_cases ht:a.aT=b.aT
  ·rw[Qg ht];simp only[Qk,h1,Qa]
   cases r with
   |false=>
    simp only[Ql,Qa];refine⟨false,rfl,?_⟩;simp only[Qq,false_iff]at h2 ⊢;exact fun h=>h2 h.2.1
   |true=>
    simp only[Qk,Qa]
    have key:∀o:Option Bool,(∃r,o=some r/\(r=true↔a.aS=b.aS))->∃r,(Option.bind (Option.bind o fun r3=>some r3) fun b4=>some b4)=some r/\(r=true↔a.aT=b.aT/\a.bq=b.bq/\a.aS=b.aS):=by
     rintro o ⟨r,rfl,h4⟩;exact⟨r,rfl,by rw[h4];exact⟨fun h=>⟨ht,h2.1 rfl,h⟩,fun h=>h.2.2⟩⟩
    refine key _ ?_;unfold di
    by_cases hi:a.aS.length=b.aS.length
    ·rw[Qg (by omega:((a.aS.length:Nat):Int)=((b.aS.length:Nat):Int)),Qo,Ql]
     refine XM hi hl (fun i hi hi' hd hx hy hw=> ?_) (fun hd=> ?_)
     ·have hu:=Q0 hi;obtain⟨r,h3,h4⟩:=ih (a:=a.aS[i]) (b:=b.aS[i]) (by have:=q8 hu;omega) (hm.inner _ hu)
      refine⟨r,?_,h4⟩;simp only[hd,hx,hy,hw,Qk,Qa,an.eta,h3];cases r<;>rfl
     ·simp only[hd,Ql];rfl
    ·rw[Qh (by omega:¬((a.aS.length:Nat):Int)=((b.aS.length:Nat):Int)),Qp,Qk]
     exact⟨false,rfl,Vs hi⟩
  ·rw[Qh ht];refine⟨false,rfl,?_⟩;simp only[Qq,false_iff];exact fun h=>ht h.1
theorem eqT{a b:an}(h:dR a):∃r,ur a b=some r/\(r=true↔a=b):=ach (by omega) h
theorem SR(a b:Int)(s t:ByteArray):js false a b s t=(decide (a=b)&&decide (s=t)):=by
 simp
theorem Ky(a b:ae):a=b↔a.aj=b.aj/\a.Value=b.Value:=by
 cases a;cases b;simp
theorem LO(a b:ai):a=b↔a.au=b.au/\a.bs=b.bs/\a.aL=b.aL/\a.ab=b.ab/\a.bx=b.bx/\a.aa=b.aa/\a.ak=b.ak/\a.aw=b.aw/\a.aF=b.aF/\a.aM=b.aM:=by
 cases a;cases b;simp
theorem S6(a b:Bool):(bif a then some b else some false)=some (a&&b):=by cases a<;>rfl
theorem ac7{a b:ai}(h:dR a.ab):∃r,vC a b=some r/\(r=true↔a=b):=by
 obtain⟨r,h1,h2⟩:=ac8 (a:=a.ab) (b:=b.ab) h;have hc:∀x:Bool,(bif x then some r else some false)=some (x&&r):=fun x=>by cases x<;>rfl
 refine⟨_,by simp only[vC,an.eta,h1,Qa,S6,hc,SR];rfl,?_⟩
 rw[LO];simp only[Qm,Qi,h2,Ky];constructor
 ·rintro⟨⟨⟨⟨⟨⟨⟨⟨⟨h1,h2⟩,h3⟩,h4⟩,h5⟩,h6⟩,h7⟩,h8⟩,h9⟩,h10⟩;exact⟨h1,h2,h3,h4,h5,h6,h7,h8,h9,h10⟩
 ·rintro⟨h1,h2,h3,h4,h5,h6,h7,h8,h9,h10⟩;exact⟨⟨⟨⟨⟨⟨⟨⟨⟨h1,h2⟩,h3⟩,h4⟩,h5⟩,h6⟩,h7⟩,h8⟩,h9⟩,h10⟩
end Go.Proofs.YtkgenianmdfmdaaGreat
namespace Go.Proofs.YtkgenianmdfmdaaGreat
open Go.TQ
theorem J7{m:af}(h:aZ m){ρ:Type}{step:Int×Unit->Option ((Int×Unit)⊕ρ)}{fin:Option ρ}
  (h1:∀(i:Nat) (e:ai),e∈m.aC->decide ((i:Int)<((m.aC.length:Nat):Int))=true->idx m.aC (i:Int)=some e->aG .i64 (i:Int) 1=((i+1:Nat):Int)->
   (i=0\/(decide ((0:Int)<(i:Int))=true/\∃x,idx m.aC (dK .i64 (i:Int) 1)=some x/\decide (e.au<=x.au)=false))->step ((i:Int),())=some (.inl (((i+1:Nat):Int),())))
  (h2:decide (((m.aC.length:Nat):Int)<((m.aC.length:Nat):Int))=false->step (((m.aC.length:Nat):Int),())=Option.map Sum.inr fin):aI step (0,())=fin:=by
 have hl:=h.len;refine Mp m.aC.length (by omega) (fun i hi hd hw=> ?_) h2
 have hx:idx m.aC (i:Int)=some m.aC[i]:=by rw[bC];exact Qv hi
 refine h1 i m.aC[i] (Q0 hi) hd hx hw ?_
 cases i with
 |zero=>exact .inl rfl
 |succ i=>
  refine .inr ⟨Qg (by omega),m.aC[i],?_,?_⟩
  ·have:dK .i64 ((i+1:Nat):Int) 1=(i:Int):=by rw[tu (by omega) (by omega)];omega
   rw[this,bC];exact Qv (by omega)
  ·have:=List.pairwise_iff_getElem.1 h.oq i (i+1) (by omega) hi (by omega)
   exact Qh (by omega)
theorem Zm{m:af}(h:aZ m):qA m=some true:=by
 unfold qA;refine J7 h (fun i e he hd hx hw hi=> ?_) (fun hd=>by simp only[hd,Ql])
 obtain⟨g1,g2,g3,g4⟩:=h.hv e he;simp only[hd,hx,hw,Qk,Qa,ba,an.eta,ai.eta,nV g2.sm,g1,Qo,Ql,Qg g3,Qh g4];rcases hi with rfl|⟨hi,x,hx2,hn⟩
 ·rfl
 ·rw[hi,hx2];simp only[Qk,Qa,hn,Ql]
theorem Lp{m:af}(h:aZ m)(hs:gm m)(hz:aD m.aa=false):aO (bR m)=true:=by
 rw[<-Su hs hz];exact EC h hz
theorem Y7:js false bN.aj (0:Int) bN.Value (ByteArray.mk #[])=true:=by decide
theorem BP{m:af}(h:aZ m)(hs:gm m):jS m=some true:=by
 have d1:decide (m.au<0)=false:=Qh (by have:=h.n0;omega)
 have d2:decide ((10:Int)<=m.au)=false:=Qh (by have:=h.n1;omega)
 have d3:decide (m.bs<1)=false:=Qh (by have:=h.bD;omega)
 have d4:decide ((1000000:Int)<m.bs)=false:=Qh (by have:=h.bD;omega)
 have d5:decide (m.aL<0)=false:=Qh (by have:=h.seq;omega)
 have d6:decide ((1000000:Int)<m.aL)=false:=Qh (by have:=h.seq;omega)
 have d7:decide ((200:Int)<((m.bf.size:Nat):Int))=false:=Qh (by have:=h.ow;omega)
 have hm:dR (bR m).ab:=by rw[pj];exact h.aR.sm
 unfold jS;simp only[d1,d2,d3,d4,d5,d6,d7,Ql,Qa,an.eta,af.eta,ai.eta,nX h.aR,decide_true,Qo,Zm h,cJ,wY,Bt h,nV hm]
 cases hz:aD m.aa with
 |true=>
  have h0:P0 m:=by
   rcases h.body with k|k|k|k
   ·exact k
   ·rw[k.aN.nz]at hz;cases hz
   ·rw[k.aN.nz]at hz;cases hz
   ·rw[k.aN.nz]at hz;cases hz
  unfold vH;simp only[h0.aK,hs.zero hz,h0.cq,h0.bM,h0.dF,h0.low,h0.bG,Y7,decide_true,Qk,Qa]
 |false=>
  have hv:=Lp h hs hz;simp only[hv,Ql,Qk]
  have hconf:mO m=some true:=by
   unfold mO;simp only[cJ,rE,oR,eY,Qa]
   have fin:∀(hf:cI m.av) (hp:(b0 m.ak m.aw m.av||(!decide (m.aA=1)&&bE m.av m.aa))=true),_:=fun hf hp=>(show(bif aD m.av then some true else
     (bif !ct m.av then some true else some (decide (1000<m.av.aj))).bind fun b3=>bif b3 then some false else
     (bif b0 m.ak m.aw m.av then some true else(bif !decide (m.aA=1)then some (bE m.av m.aa)else some false).bind fun b6=>some b6).bind fun b7=>some b7)=some true by
    rw[hf.nz,hf.valid,Qh (show¬1000<m.av.aj by have:=hf.2.1;omega)]
    revert hp
    cases b0 m.ak m.aw m.av<;>cases decide (m.aA=1)<;>cases bE m.av m.aa<;>simp)
   have nob:m.av=bN->(bif aD m.av then some true else
     (bif !ct m.av then some true else some (decide (1000<m.av.aj))).bind fun b3=>bif b3 then some false else
     (bif b0 m.ak m.aw m.av then some true else(bif !decide (m.aA=1)then some (bE m.av m.aa)else some false).bind fun b6=>some b6).bind fun b7=>some b7)=some true:=fun e=>by rw[e,bF];rfl
   rcases h.body with k|k|k|k
   ·exact nob k.dF
   ·rcases k.dF with e|⟨hf,hp⟩
    ·exact nob e
    ·exact fin hf (by rw[hp];rfl)
   ·rcases k.dF with e|⟨hf,hp⟩
    ·exact nob e
    ·exact fin hf (by rw[gb.2 hp,Qh (show¬m.aA=1 by have:=k.aK;omega)];simp)
   ·exact nob k.dF
  rw[hconf];simp only[Qa,Qk];rcases h.body with k|k|k|k
  ·rw[k.aN,bF]at hz;cases hz
  ·simp only[k.aK,k.bG,decide_true,Qo,Ql,Qa,Qp,Qk,show decide ((1:Int)=3)=false from rfl]
  ·simp only[k.aK,k.bM,bF,show decide ((2:Int)=1)=false from rfl,show decide ((2:Int)=3)=false from rfl,Qo,Ql,Qa,Qp,Qk]
  ·simp only[k.aK,k.bM,k.cq,bF,show decide ((3:Int)=1)=false from rfl,decide_true,Qo,Ql,Qa,Qp,Qk]
theorem yD{m:af}(h:aZ m)(hs:gm m):jY m=some true:=by
 have d1:decide (m.au<0)=false:=Qh (by have:=h.n0;omega)
 have d2:decide ((9:Int)<m.au)=false:=Qh (by have:=h.n1;omega)
 have d3:decide (m.bs<1)=false:=Qh (by have:=h.bD;omega)
 have d4:decide ((1000000:Int)<m.bs)=false:=Qh (by have:=h.bD;omega)
 have d5:decide (m.aL<0)=false:=Qh (by have:=h.seq;omega)
 have d6:decide ((1000000:Int)<m.aL)=false:=Qh (by have:=h.seq;omega)
 have d7:decide ((200:Int)<((m.bf.size:Nat):Int))=false:=Qh (by have:=h.ow;omega)
 have hm:dR (bR m).ab:=by rw[pj];exact h.aR.sm
 unfold jY;simp only[d1,d2,d3,d4,d5,d6,d7,Ql,Qa,an.eta,nL h.aR,decide_true,Qo];refine J7 h (fun i e he hd hx hw hi=> ?_) (fun hd=> ?_)
 ·obtain⟨g1,g2,g3,g4⟩:=h.hv e he;simp only[hd,hx,hw,Qk,Qa,ba,an.eta,ai.eta,iI g2.sm,g1,Qo,Ql,Qg g3,Qh g4];rcases hi with rfl|⟨hi,x,hx2,hn⟩
  ·rfl
  ·rw[hi,hx2];simp only[Qk,Qa,hn,Ql]
 ·simp only[hd,Ql];congr 1;simp only[de,zw,mL,fI,Qa,an.eta,af.eta,ai.eta,yh,iI hm]
  cases hz:aD m.aa with
  |true=>
   have h0:P0 m:=by
    rcases h.body with k|k|k|k
    ·exact k
    ·rw[k.aN.nz]at hz;cases hz
    ·rw[k.aN.nz]at hz;cases hz
    ·rw[k.aN.nz]at hz;cases hz
   simp only[h0.aK,hs.zero hz,h0.cq,h0.bM,h0.dF,h0.low,h0.bG,bF,decide_true,Qk,Qa]
  |false=>
   have hv:=Lp h hs hz;simp only[hv,Ql,Qo];rcases h.body with k|k|k|k
   ·rw[k.aN,bF]at hz;cases hz
   ·simp only[k.aK,k.bG,decide_true,Qo,Ql,Qa,Qp,Qk,show decide ((1:Int)=3)=false from rfl,show decide ((1:Int)=2)=false from rfl]
    rcases k.dF with e|⟨hf,hp⟩
    ·rw[e,bF];rfl
    ·rw[hf.nz,hf.valid,Qh (show¬1000<m.av.aj by have:=hf.2.1;omega),hp];rfl
   ·simp only[k.aK,k.bM,bF,show decide ((2:Int)=1)=false from rfl,show decide ((2:Int)=3)=false from rfl,decide_true,Qo,Ql,Qa,Qp,Qk]
    rcases k.dF with e|⟨hf,hp⟩
    ·rw[e,bF];rfl
    ·rw[hf.nz,hf.valid,Qh (show¬1000<m.av.aj by have:=hf.2.1;omega),gb.2 hp];rfl
   ·simp only[k.aK,k.bM,k.cq,k.dF,bF,show decide ((3:Int)=1)=false from rfl,show decide ((3:Int)=2)=false from rfl,decide_true,Qo,Ql,Qa,Qp,Qk]
end Go.Proofs.YtkgenianmdfmdaaGreat
namespace Go.Proofs.YtkgenianmdfmdaaGreat
open Go.TQ
theorem yX(x:af):(cy x).au=x.au/\(cy x).bs=x.bs/\(cy x).ab=x.ab/\(cy x).bf=x.bf/\(cy x).aC=x.aC/\(cy x).aa=x.aa:=by
 unfold cy;split<;>exact⟨rfl,rfl,rfl,rfl,rfl,rfl⟩
theorem W0{x:af}(hx:aZ x):(cy x).aL=x.aL\/(x.aL=0/\(cy x).aL=1):=by
 have:=hx.seq;unfold cy;split
 ·show bo x.aL 1=x.aL\/(x.aL=0/\bo x.aL 1=1);unfold bo;split<;>omega
 ·exact .inl rfl
theorem wc{m m':af}(he:eQ m m')(h:¬m'=m):lN m m'=false:=by
 cases hs:lN m m' with
 |false=>rfl
 |true=>exact absurd (Ow he hs) h
theorem V7{R:af->Prop}(hR1:∀m,aZ m->R m->R (cd m))(hR2:∀m,R m->R (cy m)){m:af}(h:aZ m)(hs:gm m)(hr:R m):Yd (qx m) (A3 R m):=by
 unfold qx;simp only[af.eta,an.eta,yD h hs,Qa,Qo,Ql];refine Yd.down (fun s=>aZ s.1/\R s.1/\eQ m s.1/\(aD m.aa=false->aD s.1.aa=false)) (fun s=>K1+K2 - iU s.1) ?_ ⟨h,hr,eQ.refl m,id⟩
 rintro⟨x,z,_⟩ ⟨hx,hrx,hex,hzx⟩;simp only at hx hrx hex hzx;simp only[af.eta,ba,TR hx.ev,Qa,aal]
 have hgo:∀{y:af},y=cd x->¬y=x->(aZ y/\R y/\eQ m y/\(aD m.aa=false->aD y.aa=false))/\K1+K2 - iU y<K1+K2 - iU x:=by
  rintro y rfl hne;have hv:=uA x;have hup:=(Oq hx).resolve_left hne;have h1:=Sj (wW hx);exact⟨⟨wW hx,hR1 _ hx hrx,⟨hv.ay.trans hex.ay,hv.bD.trans hex.bD,hv.seq.trans hex.seq,hv.aR.trans hex.aR,hv.ow.trans hex.ow,hv.heard.trans hex.heard⟩,fun hz=>Hk hx (hzx hz)⟩,by omega⟩
 by_cases hP:cn x=x
 ·simp only[hP,rM,Qk,R3 hx.ev,Qa]
  by_cases hS:gl x=x
  ·simp only[hS,rM,Qk,R4 hx.ev,Qa]
   by_cases hC:eo x=x
   ·simp only[hC,rM,Qk,ZB hx.ev,Qa]
    by_cases hF:gI x=x
    ·simp only[hF,rM,Qk,XC hx.ev,Qa];have e:cd x=dH x:=by unfold cd;rw[Qr hP,Qr hS,Qr hC,Qr hF]
     by_cases hK:dH x=x
     ·simp only[hK,rM,Qk,de,Qa]
      have hnum:(bif !aD x.aa then Option.map Sum.inr (some (⟨x.au,x.bs,bo x.aL (1:Int),x.ab,x.aA,x.aa,x.ak,x.aw,x.av,x.aF,x.aM,x.bf,x.aC⟩:af))else Option.map (Sum.inr (α:=af×af×Unit)) (some x))=some (Sum.inr (cy x)):=by
       unfold cy;cases aD x.aa<;>rfl
      rw[hnum];obtain⟨e1,e2,e3,e4,e5,e6⟩:=yX x;refine .some ⟨Cy hx,FE fun hz=> ?_,⟨e1.trans hex.ay,e2.trans hex.bD,e3.trans hex.aR,e4.trans hex.ow,e5.trans hex.heard⟩,?_,fun hz=>by rw[e6];exact hzx hz,hR2 _ hrx,W8 hx ⟨hP,hS,hC,hF,hK⟩⟩
      ·rw[hex.seq];refine hs.zero ?_
       cases hzz:aD m.aa with
       |true=>rfl
       |false=>rw[hzx hzz]at hz;cases hz
      ·have:=W0 hx;rw[hex.seq]at this;exact this
     ·simp only[wc (qM x) hK,Ql];exact .some (hgo e.symm hK)
    ·simp only[wc (qN x) hF,Ql];have e:cd x=gI x:=by unfold cd;rw[Qr hP,Qr hS,Qr hC,Qs hF]
     exact .some (hgo e.symm hF)
   ·simp only[wc (nu x) hC,Ql];have e:cd x=eo x:=by unfold cd;rw[Qr hP,Qr hS,Qs hC]
    exact .some (hgo e.symm hC)
  ·simp only[wc (oV x) hS,Ql];have e:cd x=gl x:=by unfold cd;rw[Qr hP,Qs hS]
   exact .some (hgo e.symm hS)
 ·simp only[wc (oW x) hP,Ql];have e:cd x=cn x:=by unfold cd;rw[Qs hP]
  exact .some (hgo e.symm hP)
open Classical in
 def iL(m m2:af):af:=if aD m.aa=false/\{bR m with aL:=0}≠{bR m2 with aL:=0}then{m2 with aL:=dP (m2.aL+1) 1000000}else m2
theorem Iq(m m2:af):∃s,iL m m2={m2 with aL:=s}/\(s=m2.aL\/s=dP (m2.aL+1) 1000000):=by
 unfold iL;split
 ·exact⟨_,rfl,.inr rfl⟩
 ·exact⟨m2.aL,rfl,.inl rfl⟩
theorem AZ{m m2:af}(h:aZ m2):∃s,iL m m2={m2 with aL:=s}/\m2.aL<=s/\0<=s/\s<=1000000:=by
 obtain⟨s,h1,h2⟩:=Iq m m2;have:=h.seq;refine⟨s,h1,?_⟩;rcases h2 with rfl|rfl
 ·omega
 ·unfold dP;split<;>omega
theorem Q8{m m2:af}(h:aZ m2):aZ (iL m m2):=by
 obtain⟨s,h1,h2⟩:=AZ (m:=m) h;rw[h1];exact LD h h2.2
theorem XE{m m2:af}(h:aZ m2)(hf:zu m2):zu (iL m m2):=by
 obtain⟨s,h1,h2⟩:=AZ (m:=m) h;rw[h1];exact SO h hf h2.2
theorem Ta{m m2:af}(h:aZ m2)(hs:gm m2)(hnz:aD m.aa=false->aD m2.aa=false):gm (iL m m2):=by
 unfold iL;split
 ·rename_i hc;have:=hs.pos (hnz hc.1);refine⟨fun hz=> ?_,fun _=> ?_⟩
  ·rw[show({m2 with aL:=dP (m2.aL+1) 1000000}:af).aa=m2.aa from rfl,hnz hc.1]at hz
   cases hz
  ·show 1<=dP (m2.aL+1) 1000000;unfold dP;split<;>omega
 ·exact hs
def Hf(R:af->Prop)(m m1:af)(q:af×Int×Unit):Prop:=∃m2,q=(iL m m2,(0:Int),())/\A3 R (cy m1) m2
theorem ZX{R:af->Prop}{m1 m2:af}(h1:aZ m1)(h:A3 R m1 m2):A3 R (cy m1) m2:=by
 obtain⟨e1,e2,e3,e4,e5,e6⟩:=yX m1;refine⟨h.inv,h.seq,?_,?_,fun hz=>h.nz (by rw[e6]at hz;exact hz),h.rel,h.fix⟩
 ·obtain⟨a1,a2,a3,a4,a5⟩:=h.env;exact⟨a1.trans e1.symm,a2.trans e2.symm,a3.trans e3.symm,a4.trans e4.symm,a5.trans e5.symm⟩
 ·have hn:=h.num;have hq:=h1.seq
  cases hz:aD m1.aa with
  |true=>
   have:cy m1=m1:=Qs (by rw[hz];decide)
   rw[this];exact hn
  |false=>
   have h3:=h.seq.pos (h.nz hz);have:(cy m1).aL=bo m1.aL 1:=by unfold cy;rw[Qr hz]
   rw[this];left;unfold bo;split<;>omega
theorem ZE{m:af}(h:aZ m):dR ({bR m with aL:=0}:ai).ab:=by rw[show({bR m with aL:=0}:ai).ab=(bR m).ab from rfl,pj];exact h.aR.sm
theorem ya{R:af->Prop}(hR1:∀m,aZ m->R m->R (cd m))(hR2:∀m,R m->R (cy m)){m m1:af}(h:aZ m)(h1:aZ m1)(hz1:aD m1.aa=true->m1.aL=0)(hnz:aD m.aa=false->aD m1.aa=false)(hr:R m1):
  Yd (gd m (cy m1)) fun q=>∃m2,q=iL m m2/\A3 R (cy m1) m2:=by
 unfold gd;simp only[af.eta,an.eta];refine Yd.bind (V7 hR1 hR2 (Cy h1) (FE hz1) (hR2 _ hr)) fun m2 ha=> ?_
 have hq:=ha.inv.seq;obtain⟨r,g1,g2⟩:=ac7 (a:={bR m with aL:=0}) (b:={bR m2 with aL:=0}) (ZE h)
 have hadd:aG .i64 m2.aL 1=m2.aL+1:=bP (by omega) (by omega)
 simp only[de,Qa,yh,ba,g1,hadd]
 cases hz2:aD m2.aa with
 |true=>
  have hz:aD m.aa=true:=by
   cases hc:aD m.aa with
   |true=>rfl
   |false=>rw[ha.nz (by rw[(yX m1).2.2.2.2.2];exact hnz hc)]at hz2;cases hz2
  refine .some ⟨m2,?_,ha⟩;unfold iL;rw[Qs (by rw[hz];rintro⟨e,_⟩;cases e)]
 |false=>
  refine Yd.of_eq (x:=iL m m2) ?_ ⟨m2,rfl,ha⟩;unfold iL
  cases hz:aD m.aa with
  |true=>rw[Qs (by rintro⟨e,_⟩;cases e)];rfl
  |false=>
   cases r with
   |true=>rw[Qs (fun e=>e.2 (g2.1 rfl))];rfl
   |false=>rw[Qr ⟨rfl,fun e=>by have:=g2.2 e;cases this⟩];rfl
theorem aak(a b:ai)(h:dR a.ab)(hn:a.au=b.au)(hs:a.bs=b.bs):∃r,mi a b=some r/\(r=true↔{a with aL:=0}={b with aL:=0}):=by
 obtain⟨r,h1,h2⟩:=eqT (a:=a.ab) (b:=b.ab) h;refine⟨r&&decide (a.bx=b.bx)&&decide (a.aa=b.aa)&&decide (a.ak=b.ak)&&decide (a.aw=b.aw)&&decide (a.aF=b.aF)&&decide (a.aM=b.aM),?_,?_⟩
 ·unfold mi;simp only[an.eta,h1,Qa,S6,SR,<-Bool.decide_and,<-Ky,Qa]
 ·rw[LO];simp only[Qm,Qi,hn,hs,h2,true_and];simp only[and_assoc]
theorem C2{m:af}(h:aZ m):ky m=some m:=by
 unfold ky;simp only[an.eta,uJ h.aR.sm,Qa];rw[Wg (fun e he=>(h.hv e he).2.1.sm) (by have:=h.len;omega)]
 rfl
theorem Mu{l:List ai}{e:ai}(hv:aO e=true):
  (∃x∈l,x.au=e.au/\e.aL<=x.aL/\mm l e=(l,false,()))\/
  (∃a b,((∃x,l=a++x::b/\x.au=e.au/\x.aL<e.aL)\/(l=a++b/\(∀x∈l,x.au≠e.au)/\(∀x∈a,¬e.au<x.au)/\(∀x,b.head?=some x->e.au<x.au)))/\mm l e=(a++e::b,true,())):=by
 unfold mm;rw[Qr hv]
 cases hf:l.findIdx? (fun x=>decide (x.au=e.au))with
 |some i=>
  obtain⟨hi,h2,_⟩:=List.findIdx?_eq_some_iff_getElem.1 hf;have hx:l[i]?=some l[i]:=Qv hi;have h2:=of_decide_eq_true h2;simp only[hx,Q3]
  by_cases hle:e.aL<=l[i].aL
  ·left;rw[Qr hle];exact⟨l[i],Q0 hi,h2,hle,rfl⟩
  ·right;rw[Qs hle];refine⟨l.take i,l.drop (i+1),.inl ⟨l[i],?_,h2,by omega⟩,?_⟩
   ·rw[List.getElem_cons_drop];exact(List.take_append_drop i l).symm
   ·rw[List.set_eq_take_append_cons_drop,Qr hi]
 |none=>
  right
  have hne:∀x∈l,x.au≠e.au:=fun x hx he=>by
   have:=List.findIdx?_eq_none_iff.1 hf x hx;rw[he]at this;simp at this
  refine⟨l.take (Ak l e),l.drop (Ak l e),.inr ⟨(List.take_append_drop _ l).symm,hne,?_,?_⟩,by rw[QL];rfl⟩
  ·intro x hx hlt;obtain⟨j,hj,rfl⟩:=List.getElem_of_mem hx;rw[List.getElem_take]at hlt;rw[List.length_take]at hj;unfold Ak at hj
   cases hg:l.findIdx? (fun x=>decide (e.au<x.au))with
   |none=>
    have:=List.findIdx?_eq_none_iff.1 hg _ (Q0 (show j<l.length by omega))
    simp[hlt]at this
   |some k=>
    obtain⟨_,_,h3⟩:=List.findIdx?_eq_some_iff_getElem.1 hg;rw[hg,Q3]at hj;have:=h3 j (by omega)
    simp[hlt]at this
  ·intro x hx;rw[List.head?_drop]at hx;unfold Ak at hx
   cases hg:l.findIdx? (fun x=>decide (e.au<x.au))with
   |none=>rw[hg,Option.getD_none,List.getElem?_eq_none (QI _)]at hx;cases hx
   |some k=>
    obtain⟨hk,h2,_⟩:=List.findIdx?_eq_some_iff_getElem.1 hg;rw[hg,Q3,Qv hk]at hx;obtain rfl:=Option.some.inj hx;exact of_decide_eq_true h2
theorem Sl{l:List ai}{e:ai}{y:ai}(hy:y∈(mm l e).1):y=e\/y∈l:=by
 by_cases hv:aO e=true
 ·rcases Mu (l:=l) hv with⟨x,_,_,_,h⟩|⟨a,b,h1,h⟩
  ·rw[h]at hy;exact .inr hy
  ·rw[h]at hy;rcases Qz.1 hy with hy|hy
   ·rcases h1 with⟨x,rfl,_⟩|⟨rfl,_⟩
    ·exact .inr (List.mem_append_left _ hy)
    ·exact .inr (List.mem_append_left _ hy)
   ·rcases QA.1 hy with hy|hy
    ·exact .inl hy
    ·rcases h1 with⟨x,rfl,_⟩|⟨rfl,_⟩
     ·exact .inr (List.mem_append_right _ (Qy _ hy))
     ·exact .inr (List.mem_append_right _ hy)
 ·unfold mm at hy;rw[Qs hv]at hy;exact .inr hy
theorem TN{l:List ai}{e:ai}(hl:l.Pairwise (fun a b=>a.au<b.au)):(mm l e).1.Pairwise (fun a b=>a.au<b.au):=by
 by_cases hv:aO e=true
 ·rcases Mu (l:=l) hv with⟨x,_,_,_,h⟩|⟨a,b,h1,h⟩
  ·rw[h];exact hl
  ·rw[h];show(a++e::b).Pairwise _;rcases h1 with⟨x,rfl,hn,_⟩|⟨rfl,hne,ha,hb⟩
   ·rw[List.pairwise_append,Q4]at hl ⊢;obtain⟨g1,⟨g2,g3⟩,g4⟩:=hl;refine⟨g1,⟨fun y hy=> ?_,g3⟩,fun y hy z hz=> ?_⟩
    ·rw[<-hn];exact g2 y hy
    ·rcases QA.1 hz with rfl|hz
     ·rw[<-hn];exact g4 y hy x Qx
     ·exact g4 y hy z (Qy _ hz)
   ·rw[List.pairwise_append]at hl;rw[List.pairwise_append,Q4];obtain⟨g1,g3,g4⟩:=hl
    have hbe:∀y∈b,e.au<y.au:=by
     intro y hy
     cases b with
     |nil=>cases hy
     |cons z b=>
      have:=hb z rfl;rcases QA.1 hy with rfl|hy
      ·exact this
      ·have:=(Q4.1 g3).1 y hy;omega
    refine⟨g1,⟨hbe,g3⟩,fun y hy z hz=> ?_⟩
    rcases QA.1 hz with rfl|hz
    ·have h2:=ha y hy;have h3:=hne y (List.mem_append_left _ hy);omega
    ·exact g4 y hy z hz
 ·unfold mm;rw[Qs hv];exact hl
structure BY (m:af) (e:ai):Prop where
 valid:aO e=true
 aR:gL e.ab
 bD:e.bs=m.bs
 ay:e.au≠m.au
 def nD(m:af)(e:ai):af:={m with aC:=(mm m.aC e).1}
theorem CS{m:af}(h:aZ m){e:ai}(he:BY m e):aZ (nD m e):=by
 refine⟨h.n0,h.n1,h.bD,h.seq,h.aR,h.ow,fun y hy=> ?_,TN h.oq,?_⟩
 ·rcases Sl hy with rfl|hy
  ·exact⟨he.valid,he.aR,he.bD,he.ay⟩
  ·exact h.hv y hy
 ·rcases h.body with k|k|k|k
  ·exact .inl ⟨k.aK,k.aN,k.cq,k.bM,k.dF,k.low,k.bG⟩
  ·exact .inr (.inl ⟨k.aK,k.aN,k.cq,k.bM,k.dF,k.up,k.bG,k.low⟩)
  ·exact .inr (.inr (.inl ⟨k.aK,k.aN,k.cq,k.bM,k.dF,k.range⟩))
  ·exact .inr (.inr (.inr ⟨k.aK,k.aN,k.cq,k.bM,k.dF,k.range⟩))
def Ag(m:af)(t:an):af:={m with ab:=t}
theorem PR{m:af}(h:aZ m){t:an}(ht:gL t):aZ (Ag m t):=by
 refine⟨h.n0,h.n1,h.bD,h.seq,ht,h.ow,h.hv,h.oq,?_⟩;rcases h.body with k|k|k|k
 ·exact .inl ⟨k.aK,k.aN,k.cq,k.bM,k.dF,k.low,k.bG⟩
 ·exact .inr (.inl ⟨k.aK,k.aN,k.cq,k.bM,k.dF,k.up,k.bG,k.low⟩)
 ·exact .inr (.inr (.inl ⟨k.aK,k.aN,k.cq,k.bM,k.dF,k.range⟩))
 ·exact .inr (.inr (.inr ⟨k.aK,k.aN,k.cq,k.bM,k.dF,k.range⟩))
def dI(m:af)(v:ByteArray):af:=if aD m.aa=true then{m with bf:=v,aa:=⟨1,dp {m with bf:=v}⟩}else{m with bf:=v}
theorem YG{v:ByteArray}(h:1<=v.size):v≠fu:=by
 rintro rfl;exact absurd h (by decide)
theorem Og{m:af}(h:P0 m){v:ByteArray}(hv:1<=v.size):dp {m with bf:=v}=v:=by
 unfold dp;rw[Qs (by rw[show({m with bf:=v}:af).av=m.av from rfl,h.dF,bF];decide),Qs (by rw[show({m with bf:=v}:af).aA=m.aA from rfl,h.aK];decide),Qr (YG hv)]
theorem yV{m:af}(h:aZ m){v:ByteArray}(hv:1<=v.size/\v.size<=200):aZ (dI m v):=by
 unfold dI;rcases h.body with k|k|k|k
 ·rw[Qr (by rw[k.aN];exact bF),Og k hv.1]
  refine⟨h.n0,h.n1,h.bD,h.seq,h.aR,hv.2,h.hv,h.oq,.inr (.inl ⟨k.aK,⟨by show(1:Int)<=1;omega,by show(1:Int)<=1000;omega,hv.1,hv.2⟩,.inl k.cq,.inl k.bM,.inl k.dF,?_,k.bG,.inl k.low⟩)⟩
  show bg _ m.av=false;rw[k.dF]
  cases hl:bg (⟨1,v⟩:ae) bN with
  |false=>rfl
  |true=>have:=gP hl;exact absurd (show(1:Int)<=0 from this) (by decide)
 ·rw[Qs (by rw[k.aN.nz];decide)]
  exact⟨h.n0,h.n1,h.bD,h.seq,h.aR,hv.2,h.hv,h.oq,.inr (.inl ⟨k.aK,k.aN,k.cq,k.bM,k.dF,k.up,k.bG,k.low⟩)⟩
 ·rw[Qs (by rw[k.aN.nz];decide)]
  exact⟨h.n0,h.n1,h.bD,h.seq,h.aR,hv.2,h.hv,h.oq,.inr (.inr (.inl ⟨k.aK,k.aN,k.cq,k.bM,k.dF,k.range⟩))⟩
 ·rw[Qs (by rw[k.aN.nz];decide)]
  exact⟨h.n0,h.n1,h.bD,h.seq,h.aR,hv.2,h.hv,h.oq,.inr (.inr (.inr ⟨k.aK,k.aN,k.cq,k.bM,k.dF,k.range⟩))⟩
def kV(m:af):af:={m with aF:=if dp m=m.aa.Value then m.aF else 0,aa:=⟨m.aa.aj+1,dp m⟩}
theorem Wn{m:af}(h:aZ m)(h3:m.aA≠3)(hv:dp m≠fu):1<=(dp m).size/\(dp m).size<=200:=by
 have h1:m.aA=1->(m.av=bN\/cI m.av)->1<=(dp m).size/\(dp m).size<=200:=fun hp hc=>by
  refine Sc h hp hc ?_;refine Classical.byContradiction fun hn=>hv ?_
  simp only[not_or,Classical.not_not]at hn;obtain⟨a1,a2,a3⟩:=hn;unfold dp;rw[Qs (by rw[a3,bF];decide),Qs (by rw[hp];decide),Qs (by rw[a2];exact fun e=>e rfl),a1]
  rfl
 rcases h.body with k|k|k|k
 ·exact h1 k.aK (.inl k.dF)
 ·exact h1 k.aK (k.dF.imp_right And.left)
 ·unfold dp;rcases k.dF with e|⟨hf,_⟩
  ·rw[Qs (by rw[e,bF];decide),Qr (by rw[k.aK];decide)]
   exact k.aN.2.2
  ·rw[Qr hf.nz];exact hf.2.2
 ·exact absurd k.aK h3
theorem XY{m:af}(k:P2 m):dp m=m.aa.Value:=by
 unfold dp;rcases k.dF with e|⟨hf,he⟩
 ·rw[Qs (by rw[e,bF];decide),Qr (by rw[k.aK];decide)]
 ·rw[Qr hf.nz,he]
theorem On{m:af}(h:aZ m)(h3:m.aA≠3)(hv:dp m≠fu)(hc:m.aa.aj<1000):aZ (kV m):=by
 have hsz:=Wn h h3 hv;refine⟨h.n0,h.n1,h.bD,h.seq,h.aR,h.ow,h.hv,h.oq,?_⟩;have hfin:0<=m.aa.aj->cI (kV m).aa:=fun h0=>⟨by show 1<=m.aa.aj+1;omega,by show m.aa.aj+1<=1000;omega,hsz⟩
 rcases h.body with k|k|k|k
 ·have h0:m.aa.aj=0:=by rw[k.aN];rfl
  refine .inr (.inl ⟨k.aK,hfin (by omega),.inl k.cq,.inl k.bM,.inl k.dF,?_,k.bG,.inl ?_⟩)
  ·show bg (⟨m.aa.aj+1,dp m⟩:ae) m.av=false;rw[k.dF]
   cases hl:bg (⟨m.aa.aj+1,dp m⟩:ae) bN with
   |false=>rfl
   |true=>have:=gP hl;exact absurd (show m.aa.aj+1<=0 from this) (by omega)
  ·show(if dp m=m.aa.Value then m.aF else 0)=0
   rw[k.low,ite_self]
 ·have hb:=k.aN;have h0:0<=m.aa.aj:=by have:=hb.1;omega
  refine .inr (.inl ⟨k.aK,hfin h0,k.cq,k.bM,k.dF,?_,k.bG,?_⟩)
  ·show bg (⟨m.aa.aj+1,dp m⟩:ae) m.av=false
   cases hl:bg (⟨m.aa.aj+1,dp m⟩:ae) m.av with
   |false=>rfl
   |true=>
    have h1:=gP hl;have h2:=HS k.up;exact absurd (show m.aa.aj+1<=m.av.aj from h1) (by omega)
  ·show(if dp m=m.aa.Value then m.aF else 0)=0\/_
   by_cases he:dp m=m.aa.Value
   ·have hlow:(kV m).aF=m.aF:=by show(if dp m=m.aa.Value then m.aF else 0)=m.aF;rw[Qr he]
    have hhigh:eH (kV m)=eH m:=by
     show(if(!aD m.av&&bE m.av ⟨m.aa.aj+1,dp m⟩)=true then m.av.aj else 0)=eH m
     rw[he];rfl
    rw[Qr he,hlow,hhigh];rcases k.low with e|⟨g1,g2,g3⟩
    ·exact .inl e
    ·refine .inr ⟨g1,g2,?_⟩;show kD m.ak m.aw (dp m) m.aF=false;rw[he];exact g3
   ·rw[Qs he];exact .inl rfl
 ·have hb:=k.aN;have h0:0<=m.aa.aj:=by have:=hb.1;omega
  have hv2:=XY k;have hval:(kV m).aa.Value=m.aa.Value:=hv2;have hlow:(kV m).aF=m.aF:=by show(if dp m=m.aa.Value then m.aF else 0)=m.aF;rw[Qr hv2]
  refine .inr (.inr (.inl ⟨k.aK,hfin h0,?_,k.bM,?_,?_⟩))
  ·rw[hval];exact k.cq
  ·rw[hval];exact k.dF
  ·rw[hlow];exact k.range
 ·exact absurd k.aK h3
end Go.Proofs.YtkgenianmdfmdaaGreat
namespace Go.Proofs.YtkgenianmdfmdaaGreat
open Go.TQ
def abk:an:=⟨0,[],[]⟩
def B1:af:=⟨0,0,0,abk,0,bN,bN,bN,bN,0,0,fu,[]⟩
theorem JB{m m1:af}(hs:gm m)(hb:aD m1.aa=aD m.aa)(hq:m1.aL=m.aL):cy m1=m1:=by
 refine Y6 ⟨fun hz=> ?_,fun hz=> ?_⟩
 ·rw[hq];exact hs.zero (by rw[<-hb];exact hz)
 ·rw[hq];exact hs.pos (by rw[<-hb];exact hz)
theorem kh{m:af}{v:ByteArray}:(aD m.aa=false->aD (dI m v).aa=false)/\(dI m v).aL=m.aL:=by
 unfold dI;split
 ·rename_i hz;refine⟨fun e=> ?_,rfl⟩
  rw[hz]at e;cases e
 ·exact⟨fun e=>e,rfl⟩
theorem OY{m:af}(h:aZ m){v:ByteArray}(hv:1<=v.size/\v.size<=200):aD (dI m v).aa=false:=by
 rcases h.body with k|k|k|k
 ·unfold dI;rw[Qr (by rw[k.aN];exact bF),Og k hv.1]
  exact cI.nz ⟨by show(1:Int)<=1;omega,by show(1:Int)<=1000;omega,hv.1,hv.2⟩
 ·exact kh.1 k.aN.nz
 ·exact kh.1 k.aN.nz
 ·exact kh.1 k.aN.nz
theorem Ft{m:af}(h:aZ m):aD (kV m).aa=false:=by
 have:0<=m.aa.aj:=by
  rcases h.body with k|k|k|k
  ·rw[k.aN];decide
  ·have:=k.aN.1;omega
  ·have:=k.aN.1;omega
  ·have:=k.aN.1;omega
 cases hz:aD (kV m).aa with
 |false=>rfl
 |true=>
  have:=nh.1 hz;have h2:m.aa.aj+1=0:=congrArg ae.aj this;omega
section
variable {R : af -> Prop} (hR1 : ∀ m, aZ m -> R m -> R (cd m)) (hR2 : ∀ m, R m -> R (cy m)) {m : af} (h : aZ m) (hs : gm m)
 include hR1 hR2 h hs
theorem WI{v:ByteArray}(hv:1<=v.size/\v.size<=200)(hr:R (dI m v)):Yd (qv m v) (Hf R m (dI m v)):=by
 have d1:decide (((ByteArray.size v:Nat):Int)<(1:Int))=false:=Qh (by omega)
 have d2:decide ((200:Int)<((ByteArray.size v:Nat):Int))=false:=Qh (by omega)
 have hi:=yV h hv;have hval:ly {m with bf:=v}=some (dp {m with bf:=v}):=KU (m:={m with bf:=v}) ⟨h.ev.n0,h.ev.n1,h.ev.aR,h.ev.len,h.ev.sm,h.ev.valid⟩
 unfold qv;simp only[af.eta,an.eta,yD h hs,Qa,Qo,Ql,d1,d2,de,ba]
 have key:Yd ((gd m (cy (dI m v))).bind fun r5=>some (r5,(0:Int),())) (Hf R m (dI m v)):=
  Yd.bind (ya hR1 hR2 h hi (fun hz=>by rw[kh.2];exact hs.zero (by cases hc:aD m.aa with|true=>rfl|false=>rw[kh.1 hc]at hz;cases hz)) kh.1 hr) fun q hq=>by
   obtain⟨m2,rfl,ha⟩:=hq;exact .some ⟨m2,rfl,ha⟩
 cases hz:aD m.aa with
 |true=>
  have hsq:=hs.zero hz
  have he:cy (dI m v)=⟨m.au,m.bs,1,m.ab,m.aA,⟨1,dp {m with bf:=v}⟩,m.ak,m.aw,m.av,m.aF,m.aM,v,m.aC⟩:=by
   unfold cy;rw[Qr (OY h hv),kh.2,hsq];unfold dI;rw[Qr hz];rfl
  rw[he]at key;simp only[Qk];rw[show(⟨m.au,m.bs,m.aL,m.ab,m.aA,m.aa,m.ak,m.aw,m.av,m.aF,m.aM,v,m.aC⟩:af)={m with bf:=v}from rfl,hval]
  exact key
 |false=>
  have he:cy (dI m v)=⟨m.au,m.bs,m.aL,m.ab,m.aA,m.aa,m.ak,m.aw,m.av,m.aF,m.aM,v,m.aC⟩:=by
   rw[JB hs (by rw[kh.1 hz,hz]) kh.2]
   unfold dI;rw[Qs (by rw[hz];decide)]
  rw[he]at key;exact key
theorem WH{e:ai}(he:BY m e)(hr:R (nD m e)):Yd (k8 m e) fun q=>(Hf R m (nD m e) q/\(mm m.aC e).2.1=true)\/(q=(B1,(9:Int),())/\(mm m.aC e).2.1=false):=by
 have hi:=CS h he;have hlen:=h.len;have hput:=YK (l:=m.aC) (fun x hx=>(h.hv x hx).2.1.sm) (by omega) (e:=e) he.aR.sm
 have hid:cy (nD m e)=nD m e:=JB hs rfl rfl;unfold k8;simp only[af.eta,an.eta,ai.eta,yD h hs,Qa,Qo,Ql,iI he.aR.sm,he.valid,Qh he.ay,Qg he.bD,hput]
 cases hp:(mm m.aC e).2.1 with
 |false=>exact .some (.inr ⟨rfl,rfl⟩)
 |true=>
  have:=ya hR1 hR2 h hi hs.zero (fun e=>e) hr
  rw[hid]at this;refine Yd.bind this fun q hq=> ?_
  obtain⟨m2,rfl,ha⟩:=hq;exact .some (.inl ⟨⟨m2,rfl,by rw[hid];exact ha⟩,rfl⟩)
theorem WG(hr:R (kV m)):Yd (qu m) fun q=>(Hf R m (kV m) q/\m.aA≠3/\dp m≠fu/\m.aa.aj<1000)\/(q=(B1,(62:Int),())/\(m.aA=3\/dp m=fu))\/(q=(B1,(3:Int),())/\1000<=m.aa.aj):=by
 unfold qu;simp only[af.eta,an.eta,yD h hs,Qa,Qo,Ql,KU h.ev,ba]
 by_cases h3:m.aA=3
 ·rw[Qg h3];exact .some (.inr (.inl ⟨rfl,.inl h3⟩))
 ·rw[Qh h3]
  by_cases hv:dp m=ByteArray.mk #[]
  ·rw[Qg hv];exact .some (.inr (.inl ⟨rfl,.inr hv⟩))
  ·rw[Qh hv]
   by_cases hc:(1000:Int)<=m.aa.aj
   ·rw[Qg hc];exact .some (.inr (.inr ⟨rfl,hc⟩))
   ·rw[Qh hc];have hi:=On h h3 hv (by omega)
    have hb0:0<=m.aa.aj:=by
     rcases h.body with k|k|k|k
     ·rw[k.aN];decide
     ·have:=k.aN.1;omega
     ·have:=k.aN.1;omega
     ·have:=k.aN.1;omega
    have hadd:aG .i64 m.aa.aj 1=m.aa.aj+1:=bP (by omega) (by omega)
    have key:Yd ((gd m (cy (kV m))).bind fun r5=>some (r5,(0:Int),())) (Hf R m (kV m)):=
     Yd.bind (ya hR1 hR2 h hi (fun hz=>by rw[Ft h]at hz;cases hz) (fun _=>Ft h) hr) fun q hq=>by
      obtain⟨m2,rfl,ha⟩:=hq;exact .some ⟨m2,rfl,ha⟩
    have he:cy (kV m)=⟨m.au,m.bs,bo m.aL 1,m.ab,m.aA,⟨m.aa.aj+1,dp m⟩,m.ak,m.aw,m.av,(if dp m=m.aa.Value then m.aF else 0),m.aM,m.bf,m.aC⟩:=by
     unfold cy;rw[Qr (Ft h)];rfl
    rw[he]at key;simp only[hadd,Ql,Qk]
    by_cases hev:dp m=m.aa.Value
    ·simp only[Qg hev,Qo,Ql];rw[Qr hev]at key;exact key.mono fun q hq=> .inl ⟨hq,h3,hv,by omega⟩
    ·simp only[Qh hev,Qp,Qk];rw[Qs hev]at key;exact key.mono fun q hq=> .inl ⟨hq,h3,hv,by omega⟩
theorem WL{t:an}(ht:gL t)(hr:R (Ag m t)):Yd (qw m t) (Hf R m (Ag m t)):=by
 have hi:=PR h ht;have hid:cy (Ag m t)=Ag m t:=JB hs rfl rfl;unfold qw;simp only[af.eta,an.eta,yD h hs,Qa,Qo,Ql,nL ht,decide_true];have:=ya hR1 hR2 h hi hs.zero (fun e=>e) hr
 rw[hid]at this;refine Yd.bind this fun q hq=> ?_
 obtain⟨m2,rfl,ha⟩:=hq;exact .some ⟨m2,rfl,by rw[hid];exact ha⟩
end
def gS(ay bD:Int)(t:an):af:=⟨ay,bD,0,t,1,bN,bN,bN,bN,0,0,fu,[]⟩
theorem acZ{ay bD:Int}{t:an}(h0:0<=ay)(h1:ay<10)(h2:1<=bD)(h3:bD<=1000000)(ht:gL t):wT ay bD t=some (gS ay bD t,(0:Int),()):=by
 unfold wT;simp only[an.eta,Qh (show¬ay<0 by omega),Qh (show¬(9:Int)<ay by omega),Qh (show¬bD<1 by omega),Qh (show¬(1000000:Int)<bD by omega),Ql,Qa,nL ht,decide_true,Qo]
 rfl
theorem ac2{ay bD:Int}{t:an}(h0:0<=ay)(h1:ay<10)(h2:1<=bD)(h3:bD<=1000000)(ht:gL t):pT ay bD t=some (gS ay bD t,(0:Int),()):=by
 unfold pT;simp only[an.eta,Qh (show¬ay<0 by omega),Qh (show¬(10:Int)<=ay by omega),Qh (show¬bD<1 by omega),Qh (show¬(1000000:Int)<bD by omega),Ql,Qa,nX ht,decide_true,Qo,uJ ht.sm]
 rfl
theorem Sy{ay bD:Int}{t:an}(h0:0<=ay)(h1:ay<10)(h2:1<=bD)(h3:bD<=1000000)(ht:gL t):aZ (gS ay bD t)/\gm (gS ay bD t):=
 ⟨⟨h0,h1,⟨h2,h3⟩,⟨by show(0:Int)<=0;omega,by show(0:Int)<=1000000;omega⟩,ht,(by show fu.size<=200;decide),(fun e he=>absurd he QR),List.Pairwise.nil,.inl ⟨rfl,rfl,rfl,rfl,rfl,rfl,rfl⟩⟩,⟨fun _=>rfl,fun hz=>absurd (show aD bN=false from hz) (by rw[bF];decide)⟩⟩
theorem Y9{ay bD:Int}{t:an}(h:aZ (gS ay bD t)):zu (gS ay bD t):=by
 have hz:aD (gS ay bD t).aa=true:=bF;have hall:aP (gS ay bD t)=[]:=Qr hz;refine⟨Qr (.inr hz),lp (.inr (.inl hz)),?_,Qs (fun e=>by have:=e.1;exact absurd (show(1:Int)=2 from this) (by decide)),?_⟩
 ·unfold eo;rw[Qr (show(gS ay bD t).aA=1 from rfl)]
  rw[Qs];intro hk;have:=(EX h hk).val;rw[hall]at this;have hv:=((nj (l:=[]) (fun e he=>by cases he) (by decide)).2.2.2 _).1 this
  obtain⟨e,he,_⟩:=hv;cases he
 ·cases ha:gk (gS ay bD t) (gS ay bD t).aa.aj with
  |false=>exact Qr (.inr ha)
  |true=>
   obtain⟨e,he,_⟩:=KE h ha;cases he
section
variable {R : af -> Prop} (hR1 : ∀ m, aZ m -> R m -> R (cd m)) (hR2 : ∀ m, R m -> R (cy m)) {m : af} (h : aZ m) (hs : gm m)
 include hR1 hR2 h hs
theorem Q5{m1:af}(h1:aZ m1)(hz1:aD m1.aa=true->m1.aL=0)(hnz:aD m.aa=false->aD m1.aa=false)(hn:m1.au=m.au)(hsl:m1.bs=m.bs)(hr:R m1):
  Yd (Option.bind (fJ ⟨m1⟩) fun p4=>
   bm (fun(v5:aB×Unit)=>some (v5.1.ao,(0:Int),())) fun j6=>
   bm (fun(v7:Bool×Unit)=>
   bif v7.1 then
   j6 ((aB.mk (af.mk p4.2.ao.au p4.2.ao.bs (dP (aG .i64 p4.2.ao.aL (1:Int)) (1000000:Int)) p4.2.ao.ab p4.2.ao.aA p4.2.ao.aa p4.2.ao.ak p4.2.ao.aw p4.2.ao.av p4.2.ao.aF p4.2.ao.aM p4.2.ao.bf p4.2.ao.aC)),())
   else
   j6 (p4.2,())) fun j8=>
   Option.bind (bl m.aa) fun r9=>
   bif (!r9)then
   Option.bind (dy m) fun r10=>
   Option.bind (dy p4.2.ao) fun r11=>
   Option.bind (mi r10 r11) fun r12=>
   j8 ((!r12),())
   else
   j8 (false,())) (Hf R m m1):=by
 refine Yd.bind (V6 hR1 hR2 h1 hz1 hr) fun q hq=> ?_
 obtain⟨m2,rfl,ha⟩:=hq;have hq:=ha.inv.seq;have hadd:aG .i64 m2.aL 1=m2.aL+1:=bP (by omega) (by omega)
 obtain⟨r,g1,g2⟩:=aak (bR m) (bR m2) (by rw[pj];exact h.aR.sm) (by rw[lW,lW,ha.env.1,hn]) (by rw[xd,xd,ha.env.2.1,hsl])
 simp only[ba,cJ,Qa,wY,Bt h,Bt ha.inv,hadd,g1];have hb:=ZX h1 ha;refine Yd.of_eq (x:=(iL m m2,(0:Int),())) ?_ ⟨m2,rfl,hb⟩;unfold iL
 cases hz:aD m.aa with
 |true=>rw[Qs (by rintro⟨e,_⟩;cases e)];rfl
 |false=>
  cases r with
  |true=>rw[Qs (fun e=>e.2 (g2.1 rfl))];rfl
  |false=>rw[Qr ⟨rfl,fun e=>by have:=g2.2 e;cases this⟩];rfl
theorem WX{v:ByteArray}(hv:1<=v.size/\v.size<=200)(hr:R (dI m v)):Yd (iC m v) (Hf R m (dI m v)):=by
 have d1:decide (((ByteArray.size v:Nat):Int)<(1:Int))=false:=Qh (by omega)
 have d2:decide ((200:Int)<((ByteArray.size v:Nat):Int))=false:=Qh (by omega)
 have hi:=yV h hv;have hval:gu ⟨{m with bf:=v}⟩=some (dp {m with bf:=v}):=OV (m:={m with bf:=v}) ⟨h.ev.n0,h.ev.n1,h.ev.aR,h.ev.len,h.ev.sm,h.ev.valid⟩
 have hdo:mP ⟨m⟩ v=some ((0:Int),⟨dI m v⟩):=by
  unfold mP dI;simp only[af.eta,aB.eta,d1,d2,Ql,Qa,cJ,ba]
  cases hz:aD m.aa with
  |true=>
   simp only[Qk,Qt,an.eta];rw[show(⟨m.au,m.bs,m.aL,m.ab,m.aA,m.aa,m.ak,m.aw,m.av,m.aF,m.aM,v,m.aC⟩:af)={m with bf:=v}from rfl,hval]
   rfl
  |false=>simp only[Ql,Qq,Qu,an.eta]
 unfold iC pD;simp only[af.eta,an.eta,ai.eta,aB.eta,BP h hs,C2 h,hdo,Qa,Qo,Ql,decide_true];refine Yd.bind (Q5 hR1 hR2 h hs hi (fun hz=>by rw[kh.2];exact hs.zero (by cases hc:aD m.aa with|true=>rfl|false=>rw[kh.1 hc]at hz;cases hz)) kh.1 (by unfold dI;split<;>rfl) (by unfold dI;split<;>rfl) hr) fun q hq=> ?_
 obtain⟨m2,rfl,ha⟩:=hq;exact .some ⟨m2,rfl,ha⟩
theorem WW{e:ai}(he:BY m e)(hr:R (nD m e)):Yd (iB m e) fun q=>(Hf R m (nD m e) q/\(mm m.aC e).2.1=true)\/(q=(B1,(9:Int),())/\(mm m.aC e).2.1=false):=by
 have hi:=CS h he;have hlen:=h.len;have hput:=abb (l:=m.aC) (fun x hx=>(h.hv x hx).2.1.sm) (by omega) (e:=e) he.aR.sm
 have hdo:iP ⟨m⟩ e=some (bif (mm m.aC e).2.1 then((0:Int),⟨nD m e⟩)else((9:Int),⟨m⟩)):=by
  unfold iP;simp only[af.eta,aB.eta,ai.eta,an.eta,ba,nV he.aR.sm,he.valid,Qa,Qo,Ql,Qh he.ay,Qg he.bD,hput];cases (mm m.aC e).2.1<;>rfl
 unfold iB lS;simp only[af.eta,an.eta,ai.eta,aB.eta,BP h hs,C2 h,hdo,Qa,Qo,Ql]
 cases hp:(mm m.aC e).2.1 with
 |false=>exact .some (.inr ⟨rfl,rfl⟩)
 |true=>
  simp only[Qk,decide_true,Qo,Ql];refine Yd.bind (Q5 hR1 hR2 h hs hi hs.zero (fun e=>e) rfl rfl hr) fun q hq=> ?_
  obtain⟨m2,rfl,ha⟩:=hq;exact .some (.inl ⟨⟨m2,rfl,ha⟩,trivial⟩)
end
theorem WY{m:af}(h:aZ m)(hs:gm m):∃e,og m=some (e,!aD m.aa,())/\(aD m.aa=false->e=bR m):=by
 unfold og;simp only[af.eta,an.eta,ai.eta,cJ,BP h hs,C2 h,wY,Bt h,Qa]
 cases aD m.aa with
 |true=>exact⟨_,rfl,fun e=>by cases e⟩
 |false=>exact⟨_,rfl,fun _=>rfl⟩
theorem WZ{m:af}(h:aZ m)(hs:gm m):lI m=some (bif decide (m.aA=3)then m.aa.Value else fu,decide (m.aA=3),()):=by
 unfold lI;simp only[af.eta,an.eta,BP h hs,Qa];cases decide (m.aA=3)<;>rfl
theorem YY{m:af}(h:aZ m)(hs:gm m){e:ai}(ht:dR e.ab)(hbad:aO e=false\/e.au=m.au\/e.bs≠m.bs):iB m e=some (B1,(61:Int),()):=by
 have hdo:iP ⟨m⟩ e=some ((61:Int),⟨m⟩):=by
  unfold iP;simp only[af.eta,aB.eta,ai.eta,an.eta,ba,nV ht,Qa]
  cases hv:aO e with
  |false=>rfl
  |true=>
   by_cases hn:e.au=m.au
   ·rw[Qg hn];rfl
   ·have hsl:e.bs≠m.bs:=(hbad.resolve_left (by rw[hv];decide)).resolve_left hn
    rw[Qh hn,Qh hsl];rfl
 unfold iB lS;simp only[af.eta,an.eta,ai.eta,aB.eta,BP h hs,C2 h,hdo,Qa,Qo,Ql];rfl
end Go.Proofs.YtkgenianmdfmdaaGreat
end
noncomputable section
namespace Go.Proofs.YtkgenianmdfmdaaGreat
open Go.TQ
def gT(n:Nat)(k:Int)(i s:Nat):Bool:=s.testBit i&&decide (k<=(((sU n).countP (jZ s):Nat):Int))
def bT(n:Nat)(k:Int)(i s:Nat):Bool:= !decide (k<=(((sU n).countP (jZ (pW s i)):Nat):Int))
structure n9 (n:Nat) (k:Int) (m:af):Prop where
 n10:n<=10
 k1:1<=k
 kn:k<=n
 aR:m.ab=flat n k
 heard:∀e∈m.aC,e.ab=flat n k
theorem n9.all{n:Nat}{k:Int}{m:af}(hf:n9 n k m){e:ai}(he:e∈aP m):e.ab=flat n k:=by
 rcases uk he with he|⟨_,rfl⟩
 ·exact hf.heard e he
 ·rw[vd];exact hf.aR
section
variable {n : Nat} {k : Int} {m : af} (h : aZ m) (hf : n9 n k m)
 include h
theorem vZ:bL (aP m)=aP m:=xV h.gV
 include hf
theorem Ov{j:Nat}(hj:j<10)(hs:j=m.au.toNat\/∃e∈aP m,e.au.toNat=j):lD (eW m.au.toNat m.ab (aP m)) j=true/\jU (eW m.au.toNat m.ab (aP m)) j=flat n k:=
 UP h.ev.ay.2 (fun _=>flat n k) hf.aR.symm (fun e he=>by rw[vZ h]at he;exact hf.all he) hj (by rw[vZ h];exact hs)
theorem Ua{s:Nat}(hs:∀j,s.testBit j=true->∃e∈aP m,e.au.toNat=j):(gq (eW m.au.toNat m.ab (aP m)) s).testBit m.au.toNat=gT n k m.au.toNat s:=by
 have hs10:∀j,s.testBit j=true->j<10:=fun j hj=>by
  obtain⟨e,he,rfl⟩:=hs j hj;have:=iX (h.gV e he);omega
 have hg:=wO (jG (ay:=m.au.toNat) h.aR.sm h.ev.jo.1) (Bu hs10);have hi:=Ov h hf h.ev.ay.2 (.inl rfl);unfold gT;rw[QW,Qm,Qi];constructor
 ·intro hb;have h1:=hg.inside _ hb;refine⟨h1.1,?_⟩;have h3:=h1.2.2;rw[hi.2,Ho]at h3;have h3:=of_decide_eq_true h3;have h2:=Ur (s':=s) (fun j hj=>(hg.inside j hj).1) (sU n)
  omega
 ·rintro⟨hb,hc⟩;refine hg.max s (fun j hj=> ?_) _ hb
  obtain⟨g1,g2⟩:=Ov h hf (hs10 j hj) (.inr (hs j hj));exact⟨hj,g1,by rw[g2,Ho];exact Qg hc⟩
theorem XG(s:Nat):na (eW m.au.toNat m.ab (aP m)) m.au.toNat s=bT n k m.au.toNat s:=by
 obtain⟨g1,g2⟩:=Ov h hf h.ev.ay.2 (.inl rfl);unfold na bT;rw[g1,g2,Ho,Bool.true_and]
end
theorem Fq{p:ai->Bool}{l:List ai}{j:Nat}(hb:(cW p l).testBit j=true):∃e∈l,e.au.toNat=j:=by
 rw[oX,List.any_eq_true]at hb;obtain⟨e,he,hp⟩:=hb;rw[Qm,Qi]at hp;exact⟨e,he,hp.2⟩
theorem Oe{p q:ai->Bool}{l:List ai}{j:Nat}(hb:(cW p l|||cW q l).testBit j=true):∃e∈l,e.au.toNat=j:=by
 rw[Nat.testBit_or,Qn]at hb;rcases hb with hb|hb
 ·exact Fq hb
 ·exact Fq hb
def Ri(n:Nat)(k:Int)(i:Nat)(l:List ai)(b:ae):Bool:=bT n k i (cW (cQ · b) l)||gT n k i (cW (fun e=>ni e b||cQ e b) l|||cW (cQ · b) l)
def Kp(n:Nat)(k:Int)(i:Nat)(l:List ai)(b:ae):Bool:=gT n k i (cW (cQ · b) l)
def qI(n:Nat)(k:Int)(i:Nat)(l:List ai)(v:ByteArray)(lo hi:Int):Bool:=bT n k i (cW (dj · v lo hi) l)||gT n k i (cW (fun e=>ke e v lo hi||dj e v lo hi) l|||cW (dj · v lo hi) l)
def IA(n:Nat)(k:Int)(i:Nat)(l:List ai)(v:ByteArray)(lo hi:Int):Bool:=gT n k i (cW (dj · v lo hi) l)
def X4(e:ai):List ae:=if e.bx=1 then[e.aa,e.ak,e.aw]else if e.bx=2 then[e.ak,at_ e 1000000]else[at_ e 1000000]
def rp(l:List ai):List ae:=((l.flatMap X4).filter fun b=> !aD b).foldl (fun l x=>eK (fun x y=>bg y x) x l) []
def KT(l:List ai):List ByteArray:=(l.map (·.aa.Value)).foldl (fun l x=>eK jx x l) []
def N9(v:ByteArray)(e:ai):List Int:=if e.aa.Value=v/\e.aF≠0 then[e.aF,e.aM]else[]
def qa(l:List ai)(v:ByteArray):List Int:=(l.flatMap (N9 v)).foldl (fun l x=>eK (fun a b=>decide (a<b)) x l) []
section
variable {l : List ai} (hv : ∀ e ∈ l, aO e = true) (hsm : ∀ e ∈ l, dR e.ab) (hlen : l.length <= 1000)
 include hv hsm hlen
theorem Nc:ea l=rp l:=by
 obtain⟨_,h2,_,h4⟩:=kG hsm hlen;obtain⟨h5,h6⟩:=y9 wF.flip ((l.flatMap X4).filter fun b=> !aD b) [] .nil
 refine wF.flip.unique h2 h5 fun x=> ?_
 unfold rp;rw[h4,h6];simp only[List.mem_filter,QQ,QR,or_false,Bool.not_eq_true'];constructor
 ·rintro⟨e,he,hx,hz⟩;refine⟨⟨e,he,?_⟩,hz⟩;unfold said at hx;rw[hv e he]at hx;exact hx
 ·rintro⟨⟨e,he,hx⟩,hz⟩;refine⟨e,he,?_,hz⟩;unfold said;rw[hv e he];exact hx
theorem Wl:ft l=KT l:=by
 obtain⟨_,h2,_,h4⟩:=nj hsm hlen;obtain⟨h5,h6⟩:=y9 wE (l.map (·.aa.Value)) [] .nil;refine wE.unique h2 h5 fun x=> ?_
 unfold KT;rw[h4,h6];simp only[QP,QR,or_false];constructor
 ·rintro⟨e,he,_,rfl⟩;exact⟨e,he,rfl⟩
 ·rintro⟨e,he,rfl⟩;exact⟨e,he,hv e he,rfl⟩
theorem Ir:aU l=qa l:=by
 funext v
 obtain⟨_,h2,_,h4⟩:=ff hsm hlen v;obtain⟨h5,h6⟩:=y9 yn (l.flatMap (N9 v)) [] .nil;refine yn.unique (h2.imp fun hab=>Qg hab) h5 fun x=> ?_
 unfold qa;rw[h4,h6,qT];simp only[QQ,QR,or_false];constructor
 ·rintro⟨e,he,hb,hx⟩;refine⟨e,he,?_⟩;simp only[gB,Qm,Qi,Bool.not_eq_true',Qj]at hb;unfold N9;rw[Qr ⟨hb.1.2,hb.2⟩];simpa using hx
 ·rintro⟨e,he,hx⟩;unfold N9 at hx;split at hx
  ·rename_i hc;refine⟨e,he,?_,by simpa using hx⟩
   simp only[gB,Qm,Qi,Bool.not_eq_true',Qj];exact⟨⟨hv e he,hc.1⟩,hc.2⟩
  ·cases hx
end
section
variable {n : Nat} {k : Int} {m : af} (h : aZ m) (hf : n9 n k m)
 include h hf
theorem ab8:jE m.au.toNat m.ab (aP m)=Ri n k m.au.toNat (aP m):=by
 funext b
 unfold jE jL Ri;rw[vZ h,XG h hf,Ua h hf fun j hj=>Oe hj]
theorem aa0:iV m.au.toNat m.ab (aP m)=Kp n k m.au.toNat (aP m):=by
 funext b
 unfold iV Kp;rw[vZ h,Ua h hf fun j hj=>Fq hj]
theorem Si:dh m=qI n k m.au.toNat (aP m):=by
 funext v lo hi
 unfold dh jt jL qI;rw[vZ h,XG h hf,Ua h hf fun j hj=>Oe hj]
theorem aab:B7 m=IA n k m.au.toNat (aP m):=by
 funext v lo hi
 unfold B7 pr IA;rw[vZ h,Ua h hf fun j hj=>Fq hj]
end
def V1(x:ByteArray->Int->Int->Bool)(p q:ae)(v:ByteArray)(s:Bool×ae)(n:Int):Bool×ae:=
 if bg s.2 ⟨n,v⟩&& !kD p q v n&&x v n n then(true,⟨n,v⟩)else s
def Od(x:ByteArray->Int->Int->Bool)(l:List ai)(p q:ae):Bool×ae:=
 (KT l).foldl (fun s v=>(qa l v).foldl (V1 x p q v) s) (false,⟨0,fu⟩)
def Kg(x:ByteArray->Int->Int->Bool)(l:List ai)(p q:ae)(s:Bool×ae):ByteArray×Int×Int×Bool×Unit:=
 if s.1 then(s.2.Value,bH (fun n=> !kD p q s.2.Value n&&x s.2.Value n s.2.aj) (qa l s.2.Value).reverse s.2.aj,s.2.aj,true,())else(fu,0,0,false,())
def Xm(b:List Int)(ready:Int->Int->Bool)(low bG:Int):Int×Int:=
 match b.reverse.find? (fun n=>decide (bG<n)&&ready n n)with
 |none=>(bH (fun x=>ready x bG) b.reverse low,bG)
 |some n=>
  let bottom:=bH (fun x=>ready x n) b.reverse n
  (bH (fun x=>ready x n) b.reverse (if bG<bottom - 1\/bottom<low then bottom else low),n)
def Vd(nx:ae)(m:af):af:=
 if m.aA=3\/aD m.aa=true then m else
  {m with ak:=(cz m.ak m.aw (dq nx)).1,aw:=(cz m.ak m.aw (dq nx)).2,aF:=mS m (cz m.ak m.aw (dq nx)).1 (cz m.ak m.aw (dq nx)).2}
def Vc(hg:ae)(m:af):af:=if m.aA≠1\/aD m.aa=true\/aD hg=true then m else mJ (xa m hg) hg
def Vf(fs:ByteArray×Int×Int×Bool×Unit)(ex:Int×Int)(m:af):af:=
 if m.aA=1 then(if fs.2.2.2.1=true then AY m fs.1 fs.2.1 fs.2.2.1 else m)
 else if m.aA=2 then vz m ex.1 ex.2 else m
def Ve(fn:Int×Int×Bool×Unit)(m:af):af:=if m.aA=2/\fn.2.2.1=true then FO m fn.1 fn.2.1 else m
def XD(ah:Int->Bool)(m:af):Int:=m.aC.foldl (fun Fh e=>if m.aa.aj<eu e/\eu e<Fh/\ah (eu e)=false then eu e else Fh) 1000000
def Yc(m:af):ByteArray:=if m.aA=1 then dp m else m.aa.Value
def O0(ah:Int->Bool)(m:af):af:=
 if m.aA=3\/ah m.aa.aj=false then m
 else{m with aF:=if Yc m=m.aa.Value then m.aF else 0,aa:=⟨bo m.aa.aj (dP (XD ah m) 1000),Yc m⟩}
def KF(n:Nat)(k:Int)(m:af)(c:Int):Bool:=bT n k m.au.toNat (zo m c)
def FB(m p r:af):af:=bif lN m p then r else p
def stepT(n:Nat)(k:Int)(m:af):af:=
 FB m (Vd (((rp (aP m)).find? (tB (Ri n k m.au.toNat (aP m)) m.ak m.aw (zR m))).getD vP) m)<|
 FB m (Vc (((rp (aP m)).find? (tD (Kp n k m.au.toNat (aP m)) m.av)).getD vP) m)<|
 FB m (Vf (Kg (qI n k m.au.toNat (aP m)) (aP m) m.ak m.aw (Od (qI n k m.au.toNat (aP m)) (aP m) m.ak m.aw)) (Xm (qa (aP m) m.aa.Value) (qI n k m.au.toNat (aP m) m.aa.Value) m.aF m.aM) m)<|
 FB m (Ve (tj (qa (aP m) m.aa.Value) (IA n k m.au.toNat (aP m) m.aa.Value)) m)<|
 O0 (KF n k m) m
open Classical in
theorem FA{m m' r:af}(he:eQ m m'):FB m m' r=if m'=m then r else m':=by
 unfold FB
 by_cases h:m'=m
 ·rw[Qr h,h,rM];rfl
 ·rw[Qs h,wc he h];rfl
section
variable {n : Nat} {k : Int} {m : af} (h : aZ m) (hf : n9 n k m)
 include h hf
theorem abH:dU m=((rp (aP m)).find? (tB (Ri n k m.au.toNat (aP m)) m.ak m.aw (zR m))).getD vP:=by
 unfold dU hZ;rw[ab8 h hf,Nc h.gV h.ev.jo.1.aR h.ev.jo.2]
theorem abM:fE m=((rp (aP m)).find? (tD (Kp n k m.au.toNat (aP m)) m.av)).getD vP:=by
 unfold fE tE;rw[aa0 h hf,Nc h.gV h.ev.jo.1.aR h.ev.jo.2]
theorem abX:dZ m=Kg (qI n k m.au.toNat (aP m)) (aP m) m.ak m.aw (Od (qI n k m.au.toNat (aP m)) (aP m) m.ak m.aw):=by
 unfold dZ mw fN Kg Od;rw[Si h hf,Ir h.gV h.ev.jo.1.aR h.ev.jo.2,Wl h.gV h.ev.jo.1.aR h.ev.jo.2];rfl
theorem ab1:cx m=Xm (qa (aP m) m.aa.Value) (qI n k m.au.toNat (aP m) m.aa.Value) m.aF m.aM:=by
 unfold cx;rw[Si h hf,Ir h.gV h.ev.jo.1.aR h.ev.jo.2];rfl
theorem ab0:kN m=tj (qa (aP m) m.aa.Value) (IA n k m.au.toNat (aP m) m.aa.Value):=by
 unfold kN;rw[aab h hf,Ir h.gV h.ev.jo.1.aR h.ev.jo.2]
theorem Td:gk m=KF n k m:=by
 funext c
 exact XG h hf _
theorem YW:dH m=O0 (KF n k m) m:=by
 have e:fT m=XD (KF n k m) m:=by
  unfold fT XD kj;rw[Td h hf]
 unfold dH O0;rw[Td h hf,e];rfl
theorem aad:cd m=stepT n k m:=by
 have eP:Vd (((rp (aP m)).find? (tB (Ri n k m.au.toNat (aP m)) m.ak m.aw (zR m))).getD vP) m=cn m:=by rw[<-abH h hf];rfl
 have eS:Vc (((rp (aP m)).find? (tD (Kp n k m.au.toNat (aP m)) m.av)).getD vP) m=gl m:=by rw[<-abM h hf];rfl
 have eC:Vf (Kg (qI n k m.au.toNat (aP m)) (aP m) m.ak m.aw (Od (qI n k m.au.toNat (aP m)) (aP m) m.ak m.aw)) (Xm (qa (aP m) m.aa.Value) (qI n k m.au.toNat (aP m) m.aa.Value) m.aF m.aM) m=eo m:=by rw[<-abX h hf,<-ab1 h hf];rfl
 have eF:Ve (tj (qa (aP m) m.aa.Value) (IA n k m.au.toNat (aP m) m.aa.Value)) m=gI m:=by rw[<-ab0 h hf];rfl
 unfold cd stepT;rw[eP,eS,eC,eF,<-YW h hf,FA (oW m),FA (oV m),FA (nu m),FA (qN m)]
end
 def qp:Nat->af->af
 |0,m=>m
 |j+1,m=>qp j (cd m)
theorem CQ:∀(j:Nat) (m:af),qp (j+1) m=cd (qp j m)
 |0,_=>rfl
 |j+1,m=>CQ j (cd m)
theorem FL{m:af}(h:aZ m):∀j,aZ (qp j m)
 |0=>h
 |j+1=>by rw[CQ];exact wW (FL h j)
theorem H7{m:af}(h:cd m=m):∀j,qp j m=m
 |0=>rfl
 |j+1=>by rw[qp,h];exact H7 h j
theorem LC:∀(i j:Nat) (m:af),qp (i+j) m=qp j (qp i m)
 |0,j,m=>by rw[Nat.zero_add];rfl
 |i+1,j,m=>by rw[show i+1+j=(i+j)+1 by omega,qp,LC i j];rfl
theorem Zf{m:af}{i j:Nat}(hi:cd (qp i m)=qp i m)(hj:cd (qp j m)=qp j m):qp i m=qp j m:=by
 rcases Nat.le_total i j with hl|hl
 ·have:=LC i (j - i) m;rw[H7 hi]at this;rw[<-this,show i+(j - i)=j by omega]
 ·have:=LC j (i - j) m;rw[H7 hj]at this;rw[<-this,show j+(i - j)=i by omega]
theorem DS{m m':af}(he:eQ m m')(s:Int):({m' with aL:=s}:af)={m with aL:=s}↔m'=m:=by
 constructor
 ·intro h;have e1:m'.aA=m.aA:=(congrArg af.aA h:_);have e2:m'.aa=m.aa:=(congrArg af.aa h:_);have e3:m'.ak=m.ak:=(congrArg af.ak h:_);have e4:m'.aw=m.aw:=(congrArg af.aw h:_);have e5:m'.av=m.av:=(congrArg af.av h:_);have e6:m'.aF=m.aF:=(congrArg af.aF h:_);have e7:m'.aM=m.aM:=(congrArg af.aM h:_);exact tV he e1 e2 e3 e4 e5 e6 e7
 ·rintro rfl;rfl
open Classical in
theorem Mf{m:af}(h:aZ m){s:Int}(hs:0<=s/\s<=1000000):cd {m with aL:=s}={cd m with aL:=s}:=by
 unfold cd;rw[MB h hs,Mz h hs,MH h hs,MF h hs,MD h hs];simp only[DS (oW m),DS (oV m),DS (nu m),DS (qN m)]
 by_cases hP:cn m=m
 ·by_cases hS:gl m=m
  ·by_cases hC:eo m=m
   ·by_cases hF:gI m=m
    ·simp only[Qr hP,Qr hS,Qr hC,Qr hF]
    ·simp only[Qr hP,Qr hS,Qr hC,Qs hF]
   ·simp only[Qr hP,Qr hS,Qs hC]
  ·simp only[Qr hP,Qs hS]
 ·simp only[Qs hP]
def Reach(m x:af):Prop:=∃j s,(0<=s/\s<=1000000)/\x={qp j m with aL:=s}
theorem yq{m:af}(h:aZ m):∀x,aZ x->Reach m x->Reach m (cd x):=by
 rintro x _ ⟨j,s,hs,rfl⟩;exact⟨j+1,s,hs,by rw[Mf (FL h j) hs,CQ]⟩
theorem yp{m:af}:∀x,Reach m x->Reach m (cy x):=by
 rintro x ⟨j,s,hs,rfl⟩;unfold cy;split
 ·exact⟨j,bo s 1,by unfold bo;split<;>omega,rfl⟩
 ·exact⟨j,s,hs,rfl⟩
theorem yr{m:af}(h:aZ m):Reach m m:=⟨0,m.aL,h.seq,rfl⟩
def runT(n:Nat)(k:Int):Nat->af->Option af
 |0,_=>none
 |f+1,m=>if lN m (stepT n k m)=true then some m else runT n k f (stepT n k m)
theorem n9.step{n:Nat}{k:Int}{m m':af}(hf:n9 n k m)(he:eQ m m'):n9 n k m':=⟨hf.n10,hf.k1,hf.kn,by rw[he.aR];exact hf.aR,by rw[he.heard];exact hf.heard⟩
theorem OD{n:Nat}{k:Int}:∀{f:Nat} {m z:af},aZ m->n9 n k m->runT n k f m=some z->∃j,qp j m=z/\cd z=z
 |0,m,z,_,_,e=>by cases e
 |f+1,m,z,h,hf,e=>by
  rw[runT,<-aad h hf]at e;split at e
  ·rename_i hs;obtain rfl:=Option.some.inj e;exact⟨0,rfl,Ow (uA m) hs⟩
  ·obtain⟨j,h1,h2⟩:=OD (wW h) (hf.step (uA m)) e;exact⟨j+1,h1,h2⟩
theorem Yt{n:Nat}{k:Int}{f:Nat}{m1 z m m2:af}(h:aZ m1)(hf:n9 n k m1)(hz:runT n k f m1=some z)(ha:A3 (Reach m1) m m2):m2={z with aL:=m2.aL}:=by
 obtain⟨j,s,hs,e⟩:=ha.rel;obtain⟨i,h1,h2⟩:=OD h hf hz;have h3:=PH ha.fix;rw[e,Mf (FL h j) hs]at h3;have h4:=(DS (uA (qp j m1)) s).1 h3;rw[<-h1]at h2;have h5:=Zf h2 h4;rw[e,<-h5,h1]
def Ln(l:List ai)(e:ai):List ai×Bool:=
 match l.findIdx? fun x=>decide (x.au=e.au)with
 |some i=>if e.aL<=((l[i]?).getD e).aL then(l,false)else(l.set i e,true)
 |none=>(l.take (Ak l e)++[e]++l.drop (Ak l e),true)
theorem abC{l:List ai}{e:ai}(hv:aO e=true):(mm l e).1=(Ln l e).1/\(mm l e).2.1=(Ln l e).2:=by
 unfold mm Ln;rw[Qr hv]
 cases l.findIdx? (fun x=>decide (x.au=e.au))with
 |none=>exact⟨rfl,rfl⟩
 |some i=>
  by_cases hc:e.aL<=((l[i]?).getD e).aL
  ·simp only[Qr hc];exact⟨trivial,trivial⟩
  ·simp only[Qs hc];exact⟨trivial,trivial⟩
def NX(a b:ai):Bool:=decide (a.bx=b.bx)&&wG a.aa b.aa&&wG a.ak b.ak&&wG a.aw b.aw&&decide (a.aF=b.aF)&&decide (a.aM=b.aM)
def Oc(m m2:af):af:=if NX (bR m) (bR m2)=true then m2 else{m2 with aL:=dP (m2.aL+1) 1000000}
theorem aa2{m m2:af}(hz:aD m.aa=false)(hn:m2.au=m.au)(hs:m2.bs=m.bs)(ht:m2.ab=m.ab):iL m m2=Oc m m2:=by
 have key:(NX (bR m) (bR m2)=true)↔({bR m with aL:=0}:ai)={bR m2 with aL:=0}:=by
  rw[LO];unfold NX;simp only[Qm,Qi,qG,lW,xd,pj,hn,hs,ht,true_and,and_assoc]
 unfold iL Oc
 by_cases hk:NX (bR m) (bR m2)=true
 ·rw[Qr hk,Qs (fun e=>e.2 (key.1 hk))]
 ·rw[Qs hk,Qr ⟨hz,fun e=>hk (key.2 e)⟩]
structure py (n:Nat) (k:Int) (m:af):Prop where
 inv:aZ m
 seq:gm m
 flat:n9 n k m
 nz:aD m.aa=false
 bD:m.bs=1
theorem py.env{n:Nat}{k:Int}{m:af}(h:py n k m):aO (bR m)=true/\(bR m).ab=Go.Proofs.YtkgenianmdfmdaaGreat.flat n k/\(bR m).bs=1:=⟨Lp h.inv h.seq h.nz,by rw[pj];exact h.flat.aR,by rw[xd];exact h.bD⟩
def TC(n:Nat)(k:Int)(m:af)(e:ai):Option af:=
 if e.au=m.au then some m else
 if(Ln m.aC e).2=false then some m else
 (runT n k 20 {m with aC:=(Ln m.aC e).1}).map fun z=>Oc m {z with aL:=m.aL}
theorem Xb{n:Nat}{k:Int}{m m1 m2:af}{R:af->Prop}(h:py n k m)(hf:n9 n k m1)(hnz:aD m1.aa=false)(hsl:m1.bs=1)(ha:A3 R m1 m2):py n k (iL m m2):=by
 have hz2:=ha.nz hnz;obtain⟨s,e,hs⟩:=AZ (m:=m) ha.inv;refine⟨Q8 ha.inv,Ta ha.inv ha.seq (fun _=>hz2),?_,by rw[e];exact hz2,by rw[e];exact ha.env.2.1.trans hsl⟩
 rw[e];exact⟨hf.n10,hf.k1,hf.kn,ha.env.2.2.1.trans hf.aR,fun x hx=>hf.heard x (by have:x∈m2.aC:=hx;rw[ha.env.2.2.2.2]at this;exact this)⟩
theorem U1{n:Nat}{k:Int}{m x:af}{e:ai}(h:py n k m)(hv:aO e=true)(ht:e.ab=flat n k)(hsl:e.bs=1)(hx:TC n k m e=some x):
  ∃y c,iB m e=some (y,c,())/\((c=0/\y=x)\/(c≠0/\x=m))/\py n k x:=by
 have hgood:gL e.ab:=by rw[ht];exact Af n h.flat.n10 k h.flat.k1 h.flat.kn
 unfold TC at hx;split at hx
 ·rename_i hn;obtain rfl:=Option.some.inj hx;exact⟨_,_,YY h.inv h.seq hgood.sm (.inr (.inl hn)),.inr ⟨by decide,rfl⟩,h⟩
 ·rename_i hn;have he:BY m e:=⟨hv,hgood,by rw[hsl,h.bD],hn⟩
  have hi:=CS h.inv he;have hp:=abC (l:=m.aC) hv;have hm1:nD m e={m with aC:=(Ln m.aC e).1}:=by unfold nD;rw[hp.1]
  obtain⟨q,hq,hq2⟩:=WW (R:=Reach (nD m e)) (yq hi) yp h.inv h.seq he (yr hi);rcases hq2 with⟨⟨m2,rfl,ha⟩,hok⟩|⟨rfl,hok⟩
  ·rw[hp.2]at hok;rw[Qs (by rw[hok];decide),<-hm1]at hx
   obtain⟨z,hz,rfl⟩:=Qb.1 hx
   have hf1:n9 n k (nD m e):=⟨h.flat.n10,h.flat.k1,h.flat.kn,h.flat.aR,fun y hy=>by
    rcases Sl hy with rfl|hy
    ·exact ht
    ·exact h.flat.heard y hy⟩
   have e2:=Yt hi hf1 hz ha;have hid:cy (nD m e)=nD m e:=JB h.seq rfl rfl;rw[hid]at ha
   have hsq:m2.aL=m.aL:=by
    rcases ha.num with g|⟨g,_⟩
    ·exact g
    ·have:=h.seq.pos h.nz;have g:m.aL=0:=g;omega
   have hb:iL m m2=Oc m {z with aL:=m.aL}:=by
    rw[aa2 h.nz ha.env.1 ha.env.2.1 ha.env.2.2.1,<-hsq,<-e2]
   refine⟨_,_,hq,.inl ⟨rfl,hb⟩,?_⟩;rw[<-hb];exact Xb h hf1 h.nz h.bD ha
  ·rw[hp.2]at hok;rw[Qr hok]at hx;obtain rfl:=Option.some.inj hx;exact⟨_,_,hq,.inr ⟨by decide,rfl⟩,h⟩
end Go.Proofs.YtkgenianmdfmdaaGreat
namespace Go.Proofs.YtkgenianmdfmdaaGreat
open Go.TQ
theorem VD{σ ρ:Type}(n:Nat)(P:Nat->σ->Prop)(r:ρ->Prop){step:Int×σ×Unit->Option ((Int×σ×Unit)⊕ρ)}
  (h1:∀(i:Nat) (s:σ),i<n->P i s->∃s',step ((i:Int),s,())=some (.inl (((i+1:Nat):Int),s',()))/\P (i+1) s')
  (h2:∀s,P n s->Yd (step ((n:Int),s,())) fun y=>match y with| .inl _=>False| .inr q=>r q):∀s0,P 0 s0->Yd (aI step ((0:Int),s0,())) r:=by
 suffices key:∀(d i:Nat),i+d=n->∀s,P i s->Yd (aI step ((i:Int),s,())) r from fun s0 h=>key n 0 (by omega) s0 h
 intro d
 induction d with
 |zero=>
  intro i hi s hs;obtain rfl:i=n:=by omega
  refine Yd.loop ((h2 s hs).mono fun y hy=> ?_)
  cases y with
  |inl _=>exact hy.elim
  |inr q=>exact hy
 |succ d ih=>
  intro i hi s hs;obtain⟨s',e,hs'⟩:=h1 i s (by omega) hs
  exact Yd.loop (Yd.of_eq e (ih (i+1) (by omega) s' hs'))
theorem abm{α:Type}{o:Option α}{x:α}(h:Yd o fun q=>q=x):o=some x:=by
 obtain⟨q,rfl,rfl⟩:=h;rfl
theorem abl{α β:Type}{o:Option β}{f:α->β}{P:α->Prop}(h:Yd o fun q=>∃s,q=f s/\P s):∃s,o=some (f s)/\P s:=by
 obtain⟨q,rfl,s,rfl,hp⟩:=h;exact⟨s,rfl,hp⟩
def uB(n:Nat)(k:Int):af->List ai->Option af
 |m,[]=>some m
 |m,e::es=>(TC n k m e).bind fun x=>uB n k x es
def Er(n:Nat)(k:Int)(es:List ai):List af->Option (List af)
 |[]=>some []
 |m::ms=>(uB n k m es).bind fun x=>(Er n k es ms).map (x::·)
theorem OI{n:Nat}{k:Int}{es:List ai}:∀{ms ms':List af},Er n k es ms=some ms'->ms'.length=ms.length/\∀(t:Nat) (m:af),ms[t]?=some m->∃x,ms'[t]?=some x/\uB n k m es=some x
 |[],ms',h=>by
  obtain rfl:=Option.some.inj h;exact⟨rfl,fun t m e=>by simp at e⟩
 |m::ms,ms',h=>by
  rw[Er]at h;obtain⟨x,h1,h2⟩:=Qc.1 h;obtain⟨r,h3,rfl⟩:=Qb.1 h2;obtain⟨g1,g2⟩:=OI h3;refine⟨by simp[g1],fun t y e=> ?_⟩
  cases t with
  |zero=>exact⟨x,rfl,by rw[List.getElem?_cons_zero]at e;rw[<-Option.some.inj e];exact h1⟩
  |succ t=>exact g2 t y (by rw[List.getElem?_cons_succ]at e;exact e)
section
variable {n : Nat} {k : Int}
theorem Et:∀{es:List ai} {m x:af},py n k m->(∀e∈es,aO e=true/\e.ab=flat n k/\e.bs=1)->uB n k m es=some x->py n k x
 |[],m,x,h,_,e=>by rw[<-Option.some.inj e];exact h
 |e::es,m,x,h,he,hx=>by
  rw[uB]at hx;obtain⟨y,h1,h2⟩:=Qc.1 hx;obtain⟨g1,g2,g3⟩:=he e Qx;obtain⟨_,_,_,_,hl⟩:=U1 h g1 g2 g3 h1;exact Et hl (fun e he'=>he e (Qy _ he')) h2
theorem yo{ms ms':List af}(hl:ms.length<=10)(h:∀m∈ms,py n k m)(hr:Er n k (ms.map bR) ms=some ms'):tL ms=some ms'/\(∀m∈ms',py n k m)/\ms'.length=ms.length:=by
 obtain⟨hlen,hat⟩:=OI hr
 have hes:∀e∈ms.map bR,aO e=true/\e.ab=flat n k/\e.bs=1:=fun e he=>by
  obtain⟨m,hm,rfl⟩:=QP.1 he;exact(h m hm).env
 refine⟨?_,fun m hm=> ?_,hlen⟩
 ·have hlo:∀{b c:Nat},b<=240->c<=1000000->bB b c=true:=fun hb hc=>cj ⟨QK (Nat.mul_le_mul hc hb) (by decide),hc⟩
  unfold tL;refine Eq.trans (Ah ms (by omega) bR (fin:= ?fin) (fun i m s hs hm hd hx hw=> ?h1) (fun s hd=> ?h2)) ?h3
  case h2=>
   simp only[hd,Ql];exact rfl
  case h1=>
   obtain⟨e,he1,he2⟩:=WY (h m hm).inv (h m hm).seq;have hz:=(h m hm).nz;rw[he2 hz]at he1;have hlo1:bB 176 (s.length+[bR m].length)=true:=hlo (by omega) (by simp only[List.length_singleton];omega)
   simp only[hd,hx,hw,Qk,ba,Qa,af.eta,an.eta,ai.eta,he1,hz,Qp,hlo1]
  case h3=>
   rw[hlo (b:=240) (c:=ms.length) (by omega) (by omega)]
   simp only[Qk];refine abm (VD ms.length (fun i out=>out.length=ms.length/\(∀t,t<i->out[t]?=ms'[t]?)/\∀t,i<=t->out[t]?=ms[t]?) (fun q=>q=ms') (fun i out hi ho=> ?_) (fun out ho=> ?_) ms ⟨rfl,fun t ht=>by omega,fun t _=>rfl⟩)
   ·
    obtain⟨ho1,ho2,ho3⟩:=ho;have hd6:decide ((i:Int)<((ms.length:Nat):Int))=true:=Qg (by omega)
    have hm:ms[i]?=some ms[i]:=Qv hi;obtain⟨x,hx1,hx2⟩:=hat i ms[i] hm;have hw6:aG .i64 (i:Int) 1=((i+1:Nat):Int):=bP (by omega) (by omega)
    simp only[hd6,Qk]
    suffices hin:∃o:List af,_=some (Sum.inl (((i+1:Nat):Int),o,()))/\(o.length=ms.length/\(∀t,t≠i->o[t]?=out[t]?)/\o[i]?=some x)by
     obtain⟨o,hq,g1,g2,g3⟩:=hin;refine⟨o,hq,g1,fun t ht=> ?_,fun t ht=> ?_⟩
     ·by_cases hti:t=i
      ·rw[hti,g3,hx1]
      ·rw[g2 t hti];exact ho2 t (by omega)
     ·rw[g2 t (by omega)];exact ho3 t (by omega)
    refine abl (f:=fun o:List af=>Sum.inl (((i+1:Nat):Int),o,())) (VD (ms.map bR).length
     (fun j o=>o.length=ms.length/\(∀t,t≠i->o[t]?=out[t]?)/\∃y,o[i]?=some y/\py n k y/\uB n k y ((ms.map bR).drop j)=some x) _ (fun j o hj ho=> ?_) (fun o ho=> ?_) out ⟨ho1,fun t _=>rfl,ms[i],by rw[ho3 i (QI i)];exact hm,h _ (Q0 hi),hx2⟩)
    ·obtain⟨g1,g2,y,g3,g4,g5⟩:=ho;have hd7:decide ((j:Int)<(((ms.map bR).length:Nat):Int))=true:=Qg (by omega)
     have hw7:aG .i64 (j:Int) 1=((j+1:Nat):Int):=bP (by omega) (by rw[QC]at hj;omega)
     have he:(ms.map bR)[j]?=some (ms.map bR)[j]:=Qv hj;have hdrop:(ms.map bR).drop j=(ms.map bR)[j]::(ms.map bR).drop (j+1):=(QM hj);rw[hdrop,uB]at g5;obtain⟨z,h1,h2⟩:=Qc.1 g5;obtain⟨a1,a2,a3⟩:=hes _ (Q0 hj);obtain⟨w,c,b1,b2,b3⟩:=U1 g4 a1 a2 a3 h1;have hxj:idx (ms.map bR) (j:Int)=some (ms.map bR)[j]:=by rw[bC];exact he
     have hxi:idx o (i:Int)=some y:=by rw[bC];exact g3
     simp only[hd7,Qk,ba,af.eta,an.eta,ai.eta,hxj,QV,he,Qa,hxi,g3,b1,hw7];rcases b2 with⟨rfl,rfl⟩|⟨hc,rfl⟩
     ·refine⟨o.set i w,by rw[Qg rfl];rfl,by rw[QY];exact g1,fun t ht=>by rw[List.getElem?_set_ne (Ne.symm ht)];exact g2 t ht,w,by rw[List.getElem?_set_self (by omega)],b3,h2⟩
     ·exact⟨o,by rw[Qh hc];rfl,g1,g2,z,g3,b3,h2⟩
    ·obtain⟨g1,g2,y,g3,g4,g5⟩:=ho;have hd7:decide ((((ms.map bR).length:Nat):Int)<(((ms.map bR).length:Nat):Int))=false:=Qh (by omega)
     rw[List.drop_length,uB]at g5;obtain rfl:=Option.some.inj g5;simp only[hd7,Ql,hw6];exact .some ⟨o,rfl,g1,g2,g3⟩
   ·obtain⟨ho1,ho2,ho3⟩:=ho;have hd6:decide (((ms.length:Nat):Int)<((ms.length:Nat):Int))=false:=Qh (by omega)
    simp only[hd6,Ql];refine .some (List.ext_getElem? fun t=> ?_)
    by_cases ht:t<ms.length
    ·exact ho2 t ht
    ·rw[List.getElem?_eq_none (by omega),List.getElem?_eq_none (by omega)]
 ·obtain⟨t,ht,rfl⟩:=List.getElem_of_mem hm;obtain⟨x,hx1,hx2⟩:=hat t (ms[t]'(by omega)) (Qv (by omega))
  rw[Qv ht]at hx1;obtain rfl:=Option.some.inj hx1;exact Et (h _ (Q0 _)) hes hx2
end
end Go.Proofs.YtkgenianmdfmdaaGreat
namespace Go.Proofs.YtkgenianmdfmdaaGreat
open Go.TQ
def aV:ByteArray:=ByteArray.mk #[97]
def firstM(n:Nat)(k:Int)(i:Int)(v:ByteArray):af:={dI (gS i 1 (flat n k)) v with aL:=1}
def FF(n:Nat)(k:Int)(s:List af):Option (List af):=Er n k (s.map bR) s
def aai(n:Nat)(k:Int)(s:List af):Option (List af):=(FF n k s).bind fun s=>(FF n k s).bind fun s=>(FF n k s).bind fun s=>(FF n k s).bind fun s=>(FF n k s).bind fun s=>FF n k s
def Un(m:af):Bool:=decide (m.aA=3)&&decide (m.aa.Value=aV)
def X5:List af:=[firstM 4 3 0 aV,firstM 4 3 1 aV,firstM 4 3 2 aV,firstM 4 3 3 aV]
theorem VE:([0,1,2,3]:List Int).all (fun i=>(runT 4 3 5 (dI (gS i 1 (flat 4 3)) aV)).any (lN (firstM 4 3 i aV)))=true:=by decide+kernel
theorem aah:((aai 4 3 X5).map (List.all · Un))=some true:=by decide+kernel
section
variable {n : Nat} {k : Int} (hn : n <= 10) (hk1 : 1 <= k) (hkn : k <= n) {i : Int} (hi0 : 0 <= i) (hi9 : i < 10) {v : ByteArray} (hv : 1 <= v.size /\ v.size <= 200)
 include hn hk1 hkn hi0 hi9
theorem Vk:aZ (gS i 1 (flat n k))/\gm (gS i 1 (flat n k))/\n9 n k (gS i 1 (flat n k)):=by
 obtain⟨h1,h2⟩:=Sy hi0 hi9 (show(1:Int)<=1 by omega) (show(1:Int)<=1000000 by omega) (Af n hn k hk1 hkn)
 exact⟨h1,h2,hn,hk1,hkn,rfl,fun e he=>absurd he QR⟩
 include hv
theorem Xk{z:af}(hz:runT n k 5 (dI (gS i 1 (flat n k)) v)=some z):iC (gS i 1 (flat n k)) v=some ({z with aL:=1},(0:Int),())/\py n k {z with aL:=1}:=by
 obtain⟨h1,h2,h3⟩:=Vk hn hk1 hkn hi0 hi9;have hp:=yV h1 hv;have hz0:aD (gS i 1 (flat n k)).aa=true:=bF
 have henv:(dI (gS i 1 (flat n k)) v).ab=flat n k/\(dI (gS i 1 (flat n k)) v).aC=[]/\(dI (gS i 1 (flat n k)) v).bs=1:=by
  unfold dI;split<;>exact⟨rfl,rfl,rfl⟩
 have hf:n9 n k (dI (gS i 1 (flat n k)) v):=⟨hn,hk1,hkn,henv.1,fun e he=>by rw[henv.2.1]at he;cases he⟩
 obtain⟨q,hq,m2,rfl,ha⟩:=WX (R:=Reach (dI (gS i 1 (flat n k)) v)) (yq hp) yp h1 h2 hv (yr hp);have hnz:=OY h1 hv;have e1:=Yt hp hf hz ha
 have hsq:(cy (dI (gS i 1 (flat n k)) v)).aL=1:=by
  unfold cy;rw[Qr hnz,kh.2];rfl
 have hs2:m2.aL=1:=by
  have:=ha.num;rw[hsq]at this;omega
 have hb:iL (gS i 1 (flat n k)) m2=m2:=by
  unfold iL;rw[Qs (fun e=>by rw[hz0]at e;cases e.1)]
 rw[hb]at hq;rw[hs2]at e1;obtain⟨f1,f2,f3,f4,f5,f6⟩:=yX (dI (gS i 1 (flat n k)) v);refine⟨by rw[hq,e1],?_⟩
 rw[<-e1];exact⟨ha.inv,ha.seq,⟨hn,hk1,hkn,ha.env.2.2.1.trans (f3.trans hf.aR),fun e he=>by rw[ha.env.2.2.2.2,f5,henv.2.1]at he;cases he⟩,ha.nz (by rw[f6];exact hnz),ha.env.2.1.trans (f2.trans henv.2.2)⟩
end
theorem Yu:1<=aV.size/\aV.size<=200:=by decide
theorem EZ(i:Int)(hi:i=0\/i=1\/i=2\/i=3):iC (gS i 1 (flat 4 3)) aV=some (firstM 4 3 i aV,(0:Int),())/\py 4 3 (firstM 4 3 i aV):=by
 have h:=QH.1 VE i (by simp;exact hi)
 cases hr:runT 4 3 5 (dI (gS i 1 (flat 4 3)) aV)with
 |none=>rw[hr]at h;cases h
 |some z=>
  rw[hr]at h;have h:lN (firstM 4 3 i aV) z=true:=h;have hg:=Xk (n:=4) (k:=3) (by omega) (by omega) (by omega) (by omega) (by omega) Yu hr
  obtain⟨h1,h2,h3⟩:=Vk (n:=4) (k:=3) (i:=i) (by omega) (by omega) (by omega) (by omega) (by omega)
  have hp:=yV h1 Yu
  have hf:n9 4 3 (dI (gS i 1 (flat 4 3)) aV):=⟨by omega,by omega,by omega,by unfold dI;split<;>rfl,fun e he=>by
   have:(dI (gS i 1 (flat 4 3)) aV).aC=[]:=by unfold dI;split<;>rfl
   rw[this]at he;cases he⟩
  obtain⟨j,hj,_⟩:=OD hp hf hr
  have henv:∀(j:Nat) (m:af),eQ m (qp j m):=by
   intro j
   induction j with
   |zero=>exact fun m=>eQ.refl m
   |succ j ih=>
    intro m;have a:=uA m;have b:=ih (cd m);exact⟨b.ay.trans a.ay,b.bD.trans a.bD,b.seq.trans a.seq,b.aR.trans a.aR,b.ow.trans a.ow,b.heard.trans a.heard⟩
  have he:=henv j (dI (gS i 1 (flat 4 3)) aV);rw[hj]at he
  have hz:({z with aL:=1}:af)=firstM 4 3 i aV:=tV (m:=firstM 4 3 i aV) (m':={z with aL:=1}) ⟨he.ay,he.bD,rfl,he.aR,he.ow,he.heard⟩
   (by simp only[lN,Qm,Qi]at h;exact h.1.1.1.1.1.1.symm)
   (by simp only[lN,Qm,Qi,qG]at h;exact h.1.1.1.1.1.2.symm)
   (by simp only[lN,Qm,Qi,qG]at h;exact h.1.1.1.1.2.symm)
   (by simp only[lN,Qm,Qi,qG]at h;exact h.1.1.1.2.symm)
   (by simp only[lN,Qm,Qi,qG]at h;exact h.1.1.2.symm)
   (by simp only[lN,Qm,Qi]at h;exact h.1.2.symm)
   (by simp only[lN,Qm,Qi]at h;exact h.2.symm)
  rw[hz]at hg;exact hg
theorem VL{n:Nat}{k:Int}{m:af}(h:py n k m)(hd:Un m=true):lI m=some (aV,true,()):=by
 simp only[Un,Qm,Qi]at hd;rw[WZ h.inv h.seq,Qg hd.1,hd.2];rfl
theorem aaj:vJ=some true:=by
 have hF:tt 4 3=some (flat 4 3):=Z5 4 (by omega) 3
 have hlo:∀{c:Nat},c<=1000000->bB 240 c=true:=fun hc=>cj ⟨QK (Nat.mul_le_mul hc (QI 240)) (by decide),hc⟩
 have hN:∀i:Int,(i=0\/i=1\/i=2\/i=3)->pT i 1 (flat 4 3)=some (gS i 1 (flat 4 3),(0:Int),()):=fun i hi=>ac2 (by omega) (by omega) (by omega) (by omega) (Af 4 (by omega) 3 (by omega) (by omega))
 have ha:(ByteArray.mk #[97]:ByteArray)=aV:=rfl;have hsim:=aah;obtain⟨s6,hs6,hdone⟩:=Qb.1 hsim;unfold aai at hs6;obtain⟨s1,e1,hs6⟩:=Qc.1 hs6;obtain⟨s2,e2,hs6⟩:=Qc.1 hs6;obtain⟨s3,e3,hs6⟩:=Qc.1 hs6;obtain⟨s4,e4,hs6⟩:=Qc.1 hs6;obtain⟨s5,e5,e6⟩:=Qc.1 hs6
 have h0:∀m∈X5,py 4 3 m:=by
  intro m hm;simp only[X5,QA,QR,or_false]at hm;rcases hm with rfl|rfl|rfl|rfl
  ·exact(EZ 0 (by omega)).2
  ·exact(EZ 1 (by omega)).2
  ·exact(EZ 2 (by omega)).2
  ·exact(EZ 3 (by omega)).2
 obtain⟨g1,h1,l1⟩:=yo (by decide) h0 e1
 have l1:s1.length=4:=l1;obtain⟨g2,h2,l2⟩:=yo (by omega) h1 e2
 obtain⟨g3,h3,l3⟩:=yo (by omega) h2 e3
 obtain⟨g4,h4,l4⟩:=yo (by omega) h3 e4
 obtain⟨g5,h5,l5⟩:=yo (by omega) h4 e5
 obtain⟨g6,h6,l6⟩:=yo (by omega) h5 e6
 have l6':s6.length=4:=by omega
 unfold vJ
 have hbeg:∀(i:Int) (l:List af),(i=0\/i=1\/i=2\/i=3)->l.length<=1000->iC (gS i 1 (flat 4 3)) aV=some (firstM 4 3 i aV,(0:Int),())/\decide (i<4)=true/\aG .i64 i 1=i+1/\bB 240 (l.length+[firstM 4 3 i aV].length)=true:=fun i l hi hl=>
  ⟨(EZ i hi).1,Qg (by omega),bP (by omega) (by omega),hlo (by simp only[List.length_singleton];omega)⟩
 obtain⟨a1,a2,a3,a4⟩:=hbeg 0 [] (by omega) (by decide)
 obtain⟨b1,b2,b3,b4⟩:=hbeg 1 ([]++[firstM 4 3 0 aV]) (by omega) (by decide)
 obtain⟨c1,c2,c3,c4⟩:=hbeg 2 ([]++[firstM 4 3 0 aV]++[firstM 4 3 1 aV]) (by omega) (by decide)
 obtain⟨d1,d2,d3,d4⟩:=hbeg 3 ([]++[firstM 4 3 0 aV]++[firstM 4 3 1 aV]++[firstM 4 3 2 aV]) (by omega) (by decide)
 rw[bn (s':=(1,[]++[firstM 4 3 0 aV],())) (by simp only[hF,hN 0 (by omega),a1,a2,a3,a4,ha,an.eta,af.eta,Qa,Qk,Ql,decide_true,Qo];rfl)]
 rw[bn (s':=(2,[]++[firstM 4 3 0 aV]++[firstM 4 3 1 aV],())) (by simp only[hF,hN 1 (by omega),b1,b2,b3,b4,ha,an.eta,af.eta,Qa,Qk,Ql,decide_true,Qo];rfl)]
 rw[bn (s':=(3,[]++[firstM 4 3 0 aV]++[firstM 4 3 1 aV]++[firstM 4 3 2 aV],())) (by simp only[hF,hN 2 (by omega),c1,c2,c3,c4,ha,an.eta,af.eta,Qa,Qk,Ql,decide_true,Qo];rfl)]
 rw[bn (s':=(4,X5,())) (by simp only[hF,hN 3 (by omega),d1,d2,d3,d4,ha,an.eta,af.eta,Qa,Qk,Ql,decide_true,Qo];rfl)]
 refine(bX (r:=true) ?_);have hk:∀j:Int,0<=j->j<6->decide (j<6)=true/\aG .i64 j 1=j+1:=fun j h0 h6=>⟨Qg h6,bP (by omega) (by omega)⟩
 simp only[show decide ((4:Int)<4)=false from rfl,Ql]
 rw[bn (s':=(s1,1,())) (by simp only[(hk 0 (by omega) (by omega)).1,(hk 0 (by omega) (by omega)).2,Qk,g1,Qa];rfl)]
 rw[bn (s':=(s2,2,())) (by simp only[(hk 1 (by omega) (by omega)).1,(hk 1 (by omega) (by omega)).2,Qk,g2,Qa];rfl)]
 rw[bn (s':=(s3,3,())) (by simp only[(hk 2 (by omega) (by omega)).1,(hk 2 (by omega) (by omega)).2,Qk,g3,Qa];rfl)]
 rw[bn (s':=(s4,4,())) (by simp only[(hk 3 (by omega) (by omega)).1,(hk 3 (by omega) (by omega)).2,Qk,g4,Qa];rfl)]
 rw[bn (s':=(s5,5,())) (by simp only[(hk 4 (by omega) (by omega)).1,(hk 4 (by omega) (by omega)).2,Qk,g5,Qa];rfl)]
 rw[bn (s':=(s6,6,())) (by simp only[(hk 5 (by omega) (by omega)).1,(hk 5 (by omega) (by omega)).2,Qk,g6,Qa];rfl)]
 rw[bX (r:=true) ?_]
 ·rfl
 simp only[show decide ((6:Int)<6)=false from rfl,Ql]
 rw[Mp s6.length (fin:=some true) (by omega) (fun i hi hd hw=> ?_) (fun hd=> ?_)]
 ·rfl
 ·have hx:idx s6 (i:Int)=some s6[i]:=by rw[bC];exact Qv hi
  have hm:s6[i]∈s6:=Q0 hi;have hdec:=VL (h6 _ hm) (QH.1 hdone _ hm);simp only[hd,hx,hw,hdec,ha,Qk,Qa,af.eta,an.eta,Qo,Ql,decide_true]
 ·simp only[hd,Ql]
end Go.Proofs.YtkgenianmdfmdaaGreat
namespace Go.Proofs.YtkgenianmdfmdaaGreat
open Go.TQ
def xm(m m1:af):Prop:=
 (∃v,(1<=v.size/\v.size<=200)/\m1=dI m v)\/(∃e,BY m e/\m1=nD m e)\/(m.aA≠3/\dp m≠fu/\m.aa.aj<1000/\m1=kV m)\/(∃t,gL t/\m1=Ag m t)
structure Yw (m m1:af):Prop where
 inv:aZ m1
 ay:m1.au=m.au
 bD:m1.bs=m.bs
 seq:m1.aL=m.aL
 nz:aD m.aa=false->aD m1.aa=false
theorem wB{m m1:af}(h:aZ m)(hb:xm m m1):Yw m m1:=by
 rcases hb with⟨v,hv,rfl⟩|⟨e,he,rfl⟩|⟨h3,hv,hc,rfl⟩|⟨t,ht,rfl⟩
 ·exact⟨yV h hv,by unfold dI;split<;>rfl,by unfold dI;split<;>rfl,kh.2,kh.1⟩
 ·exact⟨CS h he,rfl,rfl,rfl,fun e=>e⟩
 ·exact⟨On h h3 hv hc,rfl,rfl,rfl,fun _=>Ft h⟩
 ·exact⟨PR h ht,rfl,rfl,rfl,fun e=>e⟩
def FX(m x:af):Prop:=x=m\/∃m1 m2,xm m m1/\A3 (Reach m1) (cy m1) m2/\x=iL m m2
structure Nj (m:af):Prop where
 inv:aZ m
 seq:gm m
 fix:zu m
 ay:m.au=0
 bD:m.bs=1
theorem XF(m m2:af):(iL m m2).au=m2.au/\(iL m m2).bs=m2.bs/\(iL m m2).aC=m2.aC/\(iL m m2).aa=m2.aa:=by
 obtain⟨s,e,_⟩:=Iq m m2;rw[e];exact⟨rfl,rfl,rfl,rfl⟩
theorem aa4{m m1 m2:af}{R:af->Prop}(h:Nj m)(hf:Yw m m1)(ha:A3 R (cy m1) m2):Nj (iL m m2):=by
 obtain⟨e1,e2,e3,e4⟩:=XF m m2;obtain⟨f1,f2,f3,f4,f5,f6⟩:=yX m1;exact⟨Q8 ha.inv,Ta ha.inv ha.seq (fun hz=>ha.nz (by rw[f6];exact hf.nz hz)),XE ha.inv ha.fix,by rw[e1,ha.env.1,f1,hf.ay];exact h.ay,by rw[e2,ha.env.2.1,f2,hf.bD];exact h.bD⟩
theorem Ws{m x:af}(h:Nj m)(hq:FX m x):Nj x:=by
 rcases hq with rfl|⟨m1,m2,hb,ha,rfl⟩
 ·exact h
 ·exact aa4 h (wB h.inv hb) ha
theorem Ct{m m1:af}(hb:xm m m1){q:af×Int×Unit}(hq:Hf (Reach m1) m m1 q):q.2.1=0/\FX m q.1:=by
 obtain⟨m2,rfl,ha⟩:=hq;exact⟨rfl,.inr ⟨m1,m2,hb,ha,rfl⟩⟩
theorem YJ{m:af}(h:aZ m)(hs:gm m){e:ai}(ht:dR e.ab)(hbad:aO e=false\/e.au=m.au\/e.bs≠m.bs):k8 m e=some (B1,(61:Int),()):=by
 unfold k8;simp only[af.eta,an.eta,ai.eta,yD h hs,Qa,Qo,Ql,iI ht]
 cases hv:aO e with
 |false=>rfl
 |true=>
  by_cases hn:e.au=m.au
  ·rw[Qg hn];rfl
  ·have hsl:e.bs≠m.bs:=(hbad.resolve_left (by rw[hv];decide)).resolve_left hn
   rw[Qh hn,Qh hsl];rfl
theorem UR{v:ByteArray}(h:KG v):1<=v.size/\v.size<=200:=by
 have:=h.size;omega
theorem aaf{m:af}(h:Nj m){s:dQ}(hO:lX s):Yd (vI s m) fun q=>lX q.2/\FX m q.1:=by
 unfold vI;simp only[af.eta,an.eta,ba];refine Yd.bind (rq hO (by omega)) fun p3 ⟨hO3,_,_,_⟩=> ?_
 have fin:∀{x:af×Int×Unit} {s':dQ},lX s'->((x.2.1=0/\FX m x.1)\/x.2.1≠0)->Yd (bif !decide (x.2.1=0)then some (m,s')else some (x.1,s')) fun q=>lX q.2/\FX m q.1:=fun{x s'} hO' hx=>by
  rcases hx with⟨h0,hq⟩|h0
  ·rw[Qg h0];exact .some ⟨hO',hq⟩
  ·rw[Qh h0];exact .some ⟨hO',.inl rfl⟩
 refine Yd.cond (fun _=> ?_) (fun _=>Yd.cond (fun _=> ?_) (fun _=>Yd.cond (fun _=> ?_) (fun _=> ?_)))
 ·refine Yd.bind (Iu hO3) fun p4 ⟨hO4,hv⟩=> ?_
  have hb:xm m (dI m p4.1):= .inl ⟨p4.1,UR hv,rfl⟩;have hi:=(wB h.inv hb).inv;refine Yd.bind (WI (R:=Reach (dI m p4.1)) (yq hi) yp h.inv h.seq (UR hv) (yr hi)) fun q hq=> ?_
  exact fin hO4 (.inl (Ct hb hq))
 ·have hR:∃R:af->Prop,(∀m,aZ m->R m->R (cd m))/\(∀m,R m->R (cy m))/\R (kV m)/\(aZ (kV m)->∀x,R x->Reach (kV m) x):=by
   by_cases hi:aZ (kV m)
   ·exact⟨Reach (kV m),yq hi,yp,yr hi,fun _ x hx=>hx⟩
   ·exact⟨fun _=>True,fun _ _ _=>trivial,fun _ _=>trivial,trivial,fun hi'=>absurd hi' hi⟩
  obtain⟨R,hR1,hR2,hR0,hRR⟩:=hR;refine Yd.bind (WG hR1 hR2 h.inv h.seq hR0) fun q hq=> ?_
  refine fin hO3 ?_;rcases hq with⟨⟨m2,rfl,ha⟩,h3,hv,hc⟩|⟨rfl,_⟩|⟨rfl,_⟩
  ·have hb:xm m (kV m):= .inr (.inr (.inl ⟨h3,hv,hc,rfl⟩));refine .inl (Ct hb ⟨m2,rfl,ha.inv,ha.seq,ha.env,ha.num,ha.nz,hRR (wB h.inv hb).inv _ ha.rel,ha.fix⟩)
  ·exact .inr (by decide)
  ·exact .inr (by decide)
 ·refine Yd.bind (Iv hO3 (n:=5) (by omega) (by omega)) fun p7 ⟨hO7,ht,_,_⟩=> ?_
  have hb:xm m (Ag m p7.1):= .inr (.inr (.inr ⟨p7.1,ht,rfl⟩));have hi:=(wB h.inv hb).inv;refine Yd.bind (WL (R:=Reach (Ag m p7.1)) (yq hi) yp h.inv h.seq ht (yr hi)) fun q hq=> ?_
  exact fin hO7 (.inl (Ct hb hq))
 ·refine Yd.bind (pw hO3 (by omega) (by omega) (by omega)) fun p9 ⟨hO9,hlo,hhi,_⟩=> ?_
  have hhi:=hhi (by omega)
  refine Yd.bind (R9 hO9 (by omega) (by omega) (by omega) (by omega) (n:=5) (by omega) (by omega)) fun p10 ⟨hO10,he⟩=> ?_
  have hsq:=h.inv.seq;have hseq:=he.seq;have hmul:aaz .i64 3 m.aL=3*m.aL:=wrap64 (by omega) (by omega)
  have hadd:aG .i64 p10.1.aL (3*m.aL)=p10.1.aL+3*m.aL:=bP (by omega) (by omega)
  rw[hmul,hadd];generalize hE:(ai.mk p10.1.au p10.1.bs (p10.1.aL+3*m.aL) p10.1.ab p10.1.bx p10.1.aa p10.1.ak p10.1.aw p10.1.aF p10.1.aM)=E;have hT:gL E.ab:=by rw[<-hE];exact he.aR
  have hN:E.au=p9.1:=by rw[<-hE];exact he.ay
  have hS:E.bs=1:=by rw[<-hE];exact he.bD
  cases hv:aO E with
  |false=>
   rw[YJ h.inv h.seq hT.sm (.inl hv)];simp only[Qa];exact fin (x:=(B1,(61:Int),())) hO10 (.inr (by decide))
  |true=>
   have hh:BY m E:=⟨hv,hT,by rw[hS,h.bD],by rw[hN,h.ay];omega⟩
   have hb:xm m (nD m E):= .inr (.inl ⟨E,hh,rfl⟩);have hi:=(wB h.inv hb).inv;refine Yd.bind (WH (R:=Reach (nD m E)) (yq hi) yp h.inv h.seq hh (yr hi)) fun q hq=> ?_
   refine fin hO10 ?_;rcases hq with⟨hq,_⟩|⟨rfl,_⟩
   ·exact .inl (Ct hb hq)
   ·exact .inr (by decide)
theorem ac4{t:an}(ht:gL t):Nj (gS 0 1 t):=by
 obtain⟨h1,h2⟩:=Sy (ay:=0) (bD:=1) (by omega) (by omega) (by omega) (by omega) ht
 exact⟨h1,h2,Y9 h1,rfl,rfl⟩
end Go.Proofs.YtkgenianmdfmdaaGreat
namespace Go.Proofs.YtkgenianmdfmdaaGreat
open Go.TQ
structure adG (m x:af):Prop where
 up:m.aL<=x.aL
 one:x.aL<=m.aL+1
 same:aD m.aa=false->x.aL=m.aL->bR x=bR m
 nz:aD m.aa=false->aD x.aa=false
end Go.Proofs.YtkgenianmdfmdaaGreat
namespace Go.Proofs.YtkgenianmdfmdaaGreat
open Go.TQ
theorem PG{e:ai}{v:ByteArray}{lo hi a b:Int}(h1:lo<=a)(h2:a<=b)(h3:b<=hi)(h:vr e v lo hi=true):vr e v a b=true:=by
 simp only[vr,Qm,Qi]at h ⊢;obtain⟨⟨⟨a1,a2⟩,a3⟩,a4⟩:=h;exact⟨⟨⟨by omega,by omega⟩,a3⟩,by omega⟩
theorem UM{e:ai}{v:ByteArray}{lo hi a b:Int}(h1:lo<=a)(h2:a<=b)(h3:b<=hi)(h:ke e v lo hi=true):ke e v a b=true:=by
 simp only[ke,Qm]at h ⊢;refine⟨PG h1 h2 h3 h.1,?_⟩;have h4:=h.2;simp only[Qn,Qm,Bool.not_eq_true',Qj,Qi]at h4 ⊢;omega
theorem Hc{e:ai}{v:ByteArray}{lo hi a b:Int}(h1:lo<=a)(h2:a<=b)(h3:b<=hi)(h:dj e v lo hi=true):dj e v a b=true:=by
 simp only[dj,Qm]at h ⊢;refine⟨PG h1 h2 h3 h.1,?_⟩;have h4:=h.2;simp only[Qn,Qm,Qi]at h4 ⊢;omega
theorem U2{m:af}(h:aZ m){v:ByteArray}{lo hi a b:Int}(h1:lo<=a)(h2:a<=b)(h3:b<=hi)(hr:dh m v lo hi=true):dh m v a b=true:=by
 have hin:=iH (aP m);have hs:=h.ev.jo;refine PK (jG h.aR.sm hs.1) (fZ hin) (fZ hin) (fZ hin) (fZ hin) (L9 fun e _ he=> ?_) (L9 fun e _ he=>Hc h1 h2 h3 he) hr
 rw[Qn]at he ⊢;exact he.imp (UM h1 h2 h3) (Hc h1 h2 h3)
theorem Pv{x y:ai}(hn:y.au=x.au):∀{l:List ai},(∀e∈l,e.au≠x.au)->qf y l=(qf x l).map fun e=>if e.au=x.au then y else e
 |[],_=>by simp[qf]
 |z::l,h=>by
  have hz:=h z Qx;have hl:∀e∈l,e.au≠x.au:=fun e he=>h e (Qy _ he)
  have hm:(l.map fun e=>if e.au=x.au then y else e)=l:=by
   conv=>rhs;rw[<-List.map_id l]
   exact List.map_congr_left fun e he=>Qs (hl e he)
  unfold qf;rw[hn];split
  ·rw[QD,QD,Qr rfl,Qs hz,hm]
  ·rw[QD,Qs hz,<-Pv hn hl]
theorem allM_map{x y:af}(hx:aD x.aa=false)(hy:aD y.aa=false)(hn:y.au=x.au)(hh:y.aC=x.aC)(hne:∀e∈x.aC,e.au≠x.au):aP y=(aP x).map fun e=>if e.au=x.au then dS y else e:=by
 unfold aP;rw[hx,hy,hh];have h1:(dS x).au=x.au:=lW x;have h2:(dS y).au=x.au:=(lW y).trans hn;have:=Pv (x:=dS x) (y:=dS y) (h2.trans h1.symm) (l:=x.aC) (by rw[h1];exact hne)
 rw[h1]at this;exact this
theorem Wk{f:ai->ai}{l:List ai}(hf:∀e∈l,aO (f e)=aO e/\(f e).au=e.au/\(f e).ab=e.ab)(ay:Nat)(t:an):eW ay t (l.map f)=eW ay t l:=by
 unfold eW;generalize (List.replicate 10 fo).set ay ⟨true,t⟩=ms
 induction l generalizing ms with
 |nil=>rfl
 |cons e l ih=>
  obtain⟨h1,h2,h3⟩:=hf e Qx;rw[QD,QU,QU]
  have:cF ms (f e)=cF ms e:=by
   unfold cF;rw[h1,h2,h3]
  rw[this];exact ih (fun x hx=>hf x (Qy _ hx)) _
theorem Sa{p q:ai->Bool}{f:ai->ai}{l:List ai}(hf:∀e∈l,(f e).au=e.au/\(p (f e)=true->q e=true))(k:Nat)(hk:(cW p (l.map f)).testBit k=true):(cW q l).testBit k=true:=by
 rw[oX,List.any_eq_true]at hk ⊢;obtain⟨z,hz,h1⟩:=hk;obtain⟨e,he,rfl⟩:=QP.1 hz;obtain⟨h2,h3⟩:=hf e he;rw[Qm,h2]at h1;exact⟨e,he,by rw[h3 h1.1,h1.2];rfl⟩
theorem LQ{q:Int->Bool}:∀{r:List Int} {lo k:Int},r.Pairwise (fun a b=>b<a)->k∈r->k<lo->(∀j∈r,k<=j->j<lo->q j=true)->bH q r lo<=k
 |[],lo,k,_,hk,_,_=>absurd hk QR
 |e::r,lo,k,hs,hk,hlt,hq=>by
  rw[Q4]at hs;rw[bH]
  have hke:k=e\/(k∈r/\k<e):=by
   rcases QA.1 hk with h|h
   ·exact .inl h
   ·exact .inr ⟨h,hs.1 k h⟩
  split
  ·rename_i hle;rcases hke with h|⟨h,h'⟩
   ·omega
   ·exact LQ hs.2 h hlt fun j hj=>hq j (Qy _ hj)
  ·rename_i hle;have hqe:q e=true:=hq e Qx (by omega) (by omega)
   rw[Qr hqe];rcases hke with h|⟨h,h'⟩
   ·rw[h];exact iv _ _ _
   ·exact LQ hs.2 h h' fun j hj h1 h2=>hq j (Qy _ hj) h1 (by omega)
theorem VK{q:Int->Bool}{r:List Int}{lo:Int}(h:∀k∈r,k<lo->q k=false):bH q r lo=lo:=by
 have h1:=iv q r lo;rcases wu q r lo with e|⟨e1,e2⟩
 ·exact e
 ·by_cases hlt:bH q r lo<lo
  ·rw[h _ e2 hlt]at e1;cases e1
  ·omega
theorem Kh{p:Int->Bool}:∀{r:List Int} {n:Int},r.Pairwise (fun a b=>b<a)->r.find? p=some n->∀k∈r,n<k->p k=false
 |[],n,_,h=>by cases h
 |e::r,n,hs,h=>by
  rw[Q4]at hs;intro k hk hlt;rw[List.find?_cons]at h
  cases hp:p e with
  |true=>
   rw[hp]at h;injection h with h
   rcases QA.1 hk with h'|h'
   ·omega
   ·have:=hs.1 k h';omega
  |false=>
   rw[hp]at h;rcases QA.1 hk with h'|h'
   ·rw[h'];exact hp
   ·exact Kh hs.2 h k h' hlt
theorem T7{a x:af}(ha:aZ a)(a2:P2 a)(hx:aZ x)(x2:P2 x)(hn:x.au=a.au)(ht:x.ab=a.ab)(hh:x.aC=a.aC)(hv:x.aa.Value=a.aa.Value)(he:cx a=(x.aF,x.aM))(hj:a.aM<x.aF):cx x=(x.aF,x.aM):=by
 have az:aD a.aa=false:=a2.aN.nz;have xz:aD x.aa=false:=x2.aN.nz;have ar:=a2.range;have xr:=x2.range;have hmap:=allM_map az xz hn hh fun e hem=>(ha.hv e hem).2.2.2
 have oa:dS a=⟨a.au,a.bs,bo a.aL 1,a.ab,a.aA,a.aa,a.ak,bN,a.aF,a.aM⟩:=by
  unfold dS bR;rw[Qs (by rw[a2.aK];decide),Qr a2.aK]
 have ox:dS x=⟨x.au,x.bs,bo x.aL 1,x.ab,x.aA,x.aa,x.ak,bN,x.aF,x.aM⟩:=by
  unfold dS bR;rw[Qs (by rw[x2.aK];decide),Qr x2.aK]
 have hown:∀e∈aP a,e.au=a.au->e=dS a:=fun e hem hne=>(ha.Ss hem (by rw[hne])).2
 have hf:∀e∈aP a,aO (if e.au=a.au then dS x else e)=aO e/\(if e.au=a.au then dS x else e).au=e.au/\(if e.au=a.au then dS x else e).ab=e.ab:=fun e hem=>by
  split
  ·rename_i hne;have h1:=hown e hem hne;refine⟨?_,?_,?_⟩
   ·rw[EC hx xz,ha.gV e hem]
   ·rw[hne,<-hn];exact lW x
   ·rw[h1,vd,vd,ht]
  ·exact⟨rfl,rfl,rfl⟩
 have key1:∀k hi,(k<x.aF\/x.aM<hi)->dh x a.aa.Value k hi=true->dh a a.aa.Value k hi=true:=by
  intro k hi hp hr;have hin:=iH (aP a);have hin':=iH (aP x);have hs:=ha.ev.jo;have hra:bL (aP a)=aP a:=xV ha.gV;have hrx:bL (aP x)=aP x:=xV hx.gV
  have hacc:∀e∈aP a,dj (if e.au=a.au then dS x else e) a.aa.Value k hi=true->dj e a.aa.Value k hi=true:=fun e hem hac=>by
   split at hac
   ·rw[ox]at hac;unfold dj vr at hac;simp only[x2.aK,Qm,Qn,Qi]at hac;obtain⟨⟨_,h1⟩,h2⟩:=hac;omega
   ·exact hac
  have hvt:∀e∈aP a,(ke (if e.au=a.au then dS x else e) a.aa.Value k hi||dj (if e.au=a.au then dS x else e) a.aa.Value k hi)=true->(ke e a.aa.Value k hi||dj e a.aa.Value k hi)=true:=fun e hem hac=>by
   rw[Qn]at hac ⊢;rcases hac with hac|hac
   ·left;split at hac
    ·rename_i hne;rw[hown e hem hne,oa];rw[ox]at hac;unfold ke vr at hac ⊢;simp only[x2.aK,a2.aK,Qm,Qn,Qi]at hac ⊢;obtain⟨⟨⟨⟨h1,h2⟩,h3⟩,h4⟩,_⟩:=hac;exact⟨⟨⟨⟨h1,h2⟩,trivial⟩,by omega⟩,.inl (by decide)⟩
    ·exact hac
   ·exact .inr (hacc e hem hac)
  unfold dh jt at hr ⊢;rw[hrx,hmap,Wk hf,hn,ht]at hr;rw[hra];have hin0:qb (aP a):=by rw[<-hra];exact hin
  have hin1:qb ((aP a).map fun e=>if e.au=a.au then dS x else e):=by rw[<-hmap,<-hrx];exact hin'
  exact PK (jG ha.aR.sm hs.1) (fZ hin1) (fZ hin1) (fZ hin0) (fZ hin0)
   (Sa fun e hem=>⟨(hf e hem).2.1,hvt e hem⟩) (Sa fun e hem=>⟨(hf e hem).2.1,hacc e hem⟩) hr
 have sa:=ha.ev.jo;have sx:=hx.ev.jo
 have CF:∀k∈aU (aP x) x.aa.Value,k=x.aF\/k=x.aM\/k∈aU (aP a) a.aa.Value:=fun k hk=>by
  rw[(ff sx.1.aR sx.2 _).2.2.2 k,qT]at hk;obtain⟨e,hem,hb,hkk⟩:=hk;rcases uk hem with h1|⟨_,h1⟩
  ·right;right;rw[(ff sa.1.aR sa.2 _).2.2.2 k,qT];refine⟨e,?_,by rw[<-hv];exact hb,hkk⟩
   unfold aP;rw[az];exact(w9 _ _).symm.subset (Qz.2 (.inl (by rw[<-hh];exact h1)))
  ·rw[h1,ox]at hkk;rcases hkk with h2|h2
   ·exact .inl h2
   ·exact .inr (.inl h2)
 have hsort:(aU (aP a) a.aa.Value).reverse.Pairwise (fun p q=>q<p):=by
  rw[List.pairwise_reverse];exact(ff sa.1.aR sa.2 _).2.1
 have hjump:∃n,(aU (aP a) a.aa.Value).reverse.find? (fun n=>decide (a.aM<n)&&dh a a.aa.Value n n)=some n/\x.aM=n/\x.aF=bH (fun k=>dh a a.aa.Value k n) (aU (aP a) a.aa.Value).reverse n:=by
  unfold cx uf at he;split at he
  ·exfalso;have h1:bH (fun k=>dh a a.aa.Value k a.aM) (aU (aP a) a.aa.Value).reverse a.aF=x.aF:=congrArg Prod.fst he
   have h2:=iv (fun k=>dh a a.aa.Value k a.aM) (aU (aP a) a.aa.Value).reverse a.aF
   omega
  ·rename_i n hfn;refine⟨n,hfn,(congrArg Prod.snd he).symm,?_⟩;have h1:=congrArg Prod.fst he;simp only at h1;split at h1
   ·rw[yi]at h1;exact h1.symm
   ·exfalso;have h2:=iv (fun k=>dh a a.aa.Value k n) (aU (aP a) a.aa.Value).reverse a.aF
    omega
 obtain⟨n,hfn,hH,hL⟩:=hjump;have hfirst:=Kh hsort hfn
 have hnone:(aU (aP x) x.aa.Value).reverse.find? (fun k=>decide (x.aM<k)&&dh x x.aa.Value k k)=none:=by
  rw[List.find?_eq_none];intro k hk hp;rw[Qm,Qi]at hp;rcases CF k (List.mem_reverse.1 hk)with h1|h1|h1
  ·omega
  ·omega
  ·have h2:=hfirst k (List.mem_reverse.2 h1) (by omega)
   rw[hv]at hp;rw[key1 k k (.inr hp.1) hp.2,Qg (by omega)]at h2
   cases h2
 have hstay:bH (fun k=>dh x x.aa.Value k x.aM) (aU (aP x) x.aa.Value).reverse x.aF=x.aF:=by
  refine VK fun k hk hlt=> ?_
  cases hr:dh x x.aa.Value k x.aM with
  |false=>rfl
  |true=>
   exfalso;rcases CF k (List.mem_reverse.1 hk)with h1|h1|h1
   ·omega
   ·omega
   ·rw[hv]at hr;have h2:=key1 k x.aM (.inl hlt) hr;rw[hH]at h2;have h3:=LQ (q:=fun k=>dh a a.aa.Value k n) hsort (List.mem_reverse.2 h1) (lo:=n) (by omega) fun j hj h4 h5=>U2 ha h4 (by omega) (Int.le_refl n) h2
    omega
 unfold cx uf;rw[hnone];simp only[hstay]
end Go.Proofs.YtkgenianmdfmdaaGreat
namespace Go.Proofs.YtkgenianmdfmdaaGreat
open Go.TQ
theorem aaU(b:List Int)(ready:Int->Int->Bool)(low bG:Int):(uf b ready low bG).1<=low\/bG<(uf b ready low bG).1:=by
 unfold uf;split
 ·exact .inl (iv _ _ _)
 ·rename_i n _;simp only;split
  ·rename_i hc;rw[yi];omega
  ·exact .inl (iv _ _ _)
structure Fm (a x:af):Prop where
 ay:x.au=a.au
 aR:x.ab=a.ab
 heard:x.aC=a.aC
 ph:a.aA<=x.aA
 cq:x.aA=1->∀b,b0 a.ak a.aw b=true->b0 x.ak x.aw b=true
 val:a.aA≠1->x.aa.Value=a.aa.Value
 U0:a.aA=2->x.aA=2->a.aM<=x.aM/\(x.aF<=a.aF\/(a.aM<x.aF/\∃c,aZ c/\P2 c/\c.au=a.au/\c.ab=a.ab/\c.aC=a.aC/\c.aa.Value=a.aa.Value/\cx c=(x.aF,x.aM)/\c.aM<x.aF))
 G8:x.aA≠3->a.aa.aj<=x.aa.aj
 ext:a.aA=3->x.aa=a.aa/\x.aF=a.aF/\x.aM=a.aM
theorem Xg(a:af):Fm a a:=⟨rfl,rfl,rfl,Int.le_refl _,fun _ _ h=>h,fun _=>rfl,fun _ _=>⟨Int.le_refl _,.inl (Int.le_refl _)⟩,fun _=>Int.le_refl _,fun _=>⟨rfl,rfl,rfl⟩⟩
theorem aae{x:af}(h3:x.aA=3):cd x=x:=by
 refine PH ⟨?_,lp (.inl (by omega)),?_,?_,?_⟩
 ·unfold cn;rw[Qr (.inl h3)]
 ·unfold eo;rw[Qs (by omega),Qs (by omega)]
 ·unfold gI;rw[Qs (by intro e;have:=e.1;omega)]
 ·unfold dH;rw[Qr (.inl h3)]
theorem FG(a b:Int):a<=bo a b/\b<=bo a b:=by unfold bo;split<;>omega
section
variable {a x y : af} (ha : 1 <= a.aA) (hr : Fm a x)
 include ha hr
theorem N5(h1:x.aA=1)(he:eQ x y)(hp:y.aA=1\/y.aA=2)(cq:y.aA=1->∀b,b0 x.ak x.aw b=true->b0 y.ak y.aw b=true)(G8:x.aa.aj<=y.aa.aj):Fm a y:=by
 have hph:=hr.ph;have hc:=hr.G8 (by omega)
 exact⟨by rw[he.ay,hr.ay],by rw[he.aR,hr.aR],by rw[he.heard,hr.heard],by omega,fun hq b hb=>cq hq b (hr.cq h1 b hb),fun hq=>absurd (show a.aA=1 by omega) hq,fun hq=>absurd hq (by omega),fun _=>by omega,fun hq=>absurd hq (by omega)⟩
theorem Yj(h2:x.aA=2)(he:eQ x y)(hp:y.aA=2)(hv:y.aa.Value=x.aa.Value)(hl:y.aF=x.aF)(hh:y.aM=x.aM)(G8:x.aa.aj<=y.aa.aj):Fm a y:=by
 have hph:=hr.ph;have hc:=hr.G8 (by omega)
 exact⟨by rw[he.ay,hr.ay],by rw[he.aR,hr.aR],by rw[he.heard,hr.heard],by omega,fun hq=>absurd hq (by omega),fun hq=>by rw[hv];exact hr.val hq,fun hq _=>by rw[hl,hh];exact hr.U0 hq h2,fun _=>by omega,fun hq=>absurd hq (by omega)⟩
theorem MS(h:aZ x)(h1:x.aA=1)(hb:P0 x\/P1 x):Fm a (cd x):=by
 refine vW ?_ ?_ ?_ ?_ ?_
 ·refine N5 ha hr h1 (oW x) (.inl ?_) (fun _ b hx=> ?_) (by rw[TX];exact Int.le_refl _)
  ·unfold cn;split<;>exact h1
  ·rcases hb with h0|p1
   ·rw[show cn x=x by unfold cn;rw[Qr (.inr (nh.2 h0.aN))]];exact hx
   ·unfold cn;split
    ·exact hx
    ·exact qt.mono p1.fC (Br h p1.fC) hx
 ·rcases hb with h0|p1
  ·rw[lp (.inr (.inl (nh.2 h0.aN)))];exact hr
  ·obtain⟨q1,q2⟩:=FC h p1;refine N5 ha hr h1 (oV x) (.inl q1.aK) (fun _ b hx=> ?_) ?_
   ·rcases q2 with e|⟨e1,e2,_⟩
    ·rw[e];exact hx
    ·rw[e1,e2];exact hx
   ·rcases q2 with e|⟨_,_,_,e⟩
    ·rw[e];exact Int.le_refl _
    ·exact e
 ·by_cases hk:(dZ x).2.2.2.1=true
  ·have e:eo x=AY x (dZ x).1 (dZ x).2.1 (dZ x).2.2.1:=by
    unfold eo;rw[Qr h1,Qr hk]
   have env:=nu x;rw[e]at env ⊢;refine N5 ha hr h1 env (.inr rfl) (fun hq=>absurd hq (by show¬(2:Int)=1;decide)) ?_
   unfold AY;simp only;split
   ·exact(FG _ _).1
   ·exact Int.le_refl _
  ·have e:eo x=x:=by unfold eo;rw[Qr h1,Qs hk]
   rw[e];exact hr
 ·have e:gI x=x:=by unfold gI;rw[Qs (by intro e;have:=e.1;omega)]
  rw[e];exact hr
 ·refine N5 ha hr h1 (qM x) (.inl ?_) (fun _ b hx=> ?_) ?_
  ·unfold dH;split<;>exact h1
  ·unfold dH;split<;>exact hx
  ·unfold dH;split
   ·exact Int.le_refl _
   ·exact(FG _ _).1
theorem Vw(h:aZ x)(h2:P2 x):Fm a (cd x):=by
 have hp:=h2.aK;have hph:=hr.ph;refine vW ?_ ?_ ?_ ?_ ?_
 ·refine Yj ha hr hp (oW x) ?_ (by rw[TX]) ?_ ?_ (by rw[TX];exact Int.le_refl _)
  ·unfold cn;split<;>exact hp
  ·unfold cn;split
   ·rfl
   ·show mS x _ _=x.aF;unfold mS;rw[Qs (by intro e;have:=e.1;omega)]
  ·unfold cn;split<;>rfl
 ·rw[lp (.inl (by omega))];exact hr
 ·have e:eo x=vz x (cx x).1 (cx x).2:=by
   unfold eo;rw[Qs (by omega),Qr hp]
  have he:=nu x;rw[e]at he ⊢;have hc:=hr.G8 (by omega)
  have hcm:=(FG x.aa.aj (cx x).2).1;refine⟨by rw[he.ay,hr.ay],by rw[he.aR,hr.aR],by rw[he.heard,hr.heard],by show a.aA<=x.aA;omega,fun hq=>absurd hq (by show¬x.aA=1;omega),fun hq=>hr.val hq,fun hq _=> ?_,fun _=>by show a.aa.aj<=bo x.aa.aj (cx x).2;omega,fun hq=>absurd hq (by omega)⟩
  show a.aM<=(cx x).2/\((cx x).1<=a.aF\/(a.aM<(cx x).1/\∃c,aZ c/\P2 c/\c.au=a.au/\c.ab=a.ab/\c.aC=a.aC/\c.aa.Value=a.aa.Value/\cx c=((cx x).1,(cx x).2)/\c.aM<(cx x).1));obtain⟨r1,r2⟩:=hr.U0 hq hp;have hval:x.aa.Value=a.aa.Value:=hr.val (by omega)
  rcases r2 with r2|⟨r2,c,c1,c2,c3,c4,c5,c6,c7,c8⟩
  ·obtain⟨_,_,_,e4⟩:=Ki h h2;have e5:(cx x).1<=x.aF\/x.aM<(cx x).1:=aaU _ _ _ _;refine⟨by omega,?_⟩
   rcases e5 with e5|e5
   ·exact .inl (by omega)
   ·exact .inr ⟨by omega,x,h,h2,hr.ay,hr.aR,hr.heard,hval,rfl,e5⟩
  ·have hs:=T7 c1 c2 h h2 (by rw[hr.ay,c3]) (by rw[hr.aR,c4]) (by rw[hr.heard,c5]) (by rw[hval,c6]) c7 c8
   rw[hs];exact⟨r1,.inr ⟨r2,c,c1,c2,c3,c4,c5,c6,c7,c8⟩⟩
 ·unfold gI;split
  ·exact⟨hr.ay,hr.aR,hr.heard,by show a.aA<=3;omega,fun hq=>absurd hq (by show¬(3:Int)=1;decide),fun hq=>hr.val hq,fun _ hq=>absurd hq (by show¬(3:Int)=2;decide),fun hq=>absurd rfl hq,fun hq=>absurd hq (by omega)⟩
  ·exact hr
 ·refine Yj ha hr hp (qM x) ?_ ?_ ?_ ?_ ?_
  ·unfold dH;split<;>exact hp
  ·unfold dH;split
   ·rfl
   ·show jJ x=_;unfold jJ;rw[Qs (by omega)]
  ·unfold dH;split
   ·rfl
   ·show(if jJ x=x.aa.Value then x.aF else 0)=x.aF
    rw[Qr];unfold jJ;rw[Qs (by omega)]
  ·unfold dH;split<;>rfl
  ·unfold dH;split
   ·exact Int.le_refl _
   ·exact(FG _ _).1
theorem Xf(h:aZ x):Fm a (cd x):=by
 rcases h.body with h0|h1|h2|h3
 ·exact MS ha hr h h0.aK (.inl h0)
 ·exact MS ha hr h h1.aK (.inr h1)
 ·exact Vw ha hr h h2
 ·rw[aae h3.aK];exact hr
end
theorem Ez{m:af}(h:aZ m):1<=m.aA/\m.aA<=3:=by
 rcases h.body with h0|h1|h2|h3
 ·rw[h0.aK];decide
 ·rw[h1.aK];decide
 ·rw[h2.aK];decide
 ·rw[h3.aK];decide
theorem Vx{a:af}(h:aZ a):∀j,Fm a (qp j a)
 |0=>Xg a
 |j+1=>by rw[CQ];exact Xf (Ez h).1 (Vx h j) (FL h j)
structure adi (m x:af):Prop where
 ph:m.aA<=x.aA
 cq:x.aA=1->∀b,b0 m.ak m.aw b=true->b0 x.ak x.aw b=true
 val:m.aA≠1->x.aa.Value=m.aa.Value
 U0:m.aA=2->x.aA=2->m.aM<=x.aM/\(x.aF<=m.aF\/m.aM<x.aF)
 G8:x.aA≠3->m.aa.aj<=x.aa.aj
 ext:m.aA=3->x.aa=m.aa/\x.aF=m.aF/\x.aM=m.aM
structure adj (m a:af):Prop where
 ph:a.aA=m.aA
 cq:a.ak=m.ak/\a.aw=m.aw
 val:m.aA≠1->a.aa.Value=m.aa.Value/\a.aF=m.aF
 bG:a.aM=m.aM
 G8:m.aa.aj<=a.aa.aj
 ext:m.aA=3->a.aa=m.aa
theorem ab5{m a:af}(h:aZ m)(hb:xm m a):adj m a:=by
 rcases hb with⟨v,hv,rfl⟩|⟨e,he,rfl⟩|⟨h3,hv,hc,rfl⟩|⟨t,ht,rfl⟩
 ·unfold dI;split
  ·rename_i hz;have hz:=nh.1 hz
   have hp:m.aA=1:=by
    rcases h.body with h0|h1'|h2|h3'
    ·exact h0.aK
    ·exact h1'.aK
    ·exact absurd hz (zd h2.aN)
    ·exact absurd hz (zd h3'.aN)
   exact⟨rfl,⟨rfl,rfl⟩,fun hq=>absurd hp hq,rfl,by rw[hz];show(0:Int)<=1;decide,fun hq=>absurd hq (by omega)⟩
  ·exact⟨rfl,⟨rfl,rfl⟩,fun _=>⟨rfl,rfl⟩,rfl,Int.le_refl _,fun _=>rfl⟩
 ·exact⟨rfl,⟨rfl,rfl⟩,fun _=>⟨rfl,rfl⟩,rfl,Int.le_refl _,fun _=>rfl⟩
 ·refine⟨rfl,⟨rfl,rfl⟩,fun hq=> ?_,rfl,by show m.aa.aj<=m.aa.aj+1;omega,fun hq=>absurd hq h3⟩
  have p2:P2 m:=by
   rcases h.body with h0|h1'|h2|h3'
   ·exact absurd h0.aK hq
   ·exact absurd h1'.aK hq
   ·exact h2
   ·exact absurd h3'.aK h3
  have:=XY p2;exact⟨this,by show(if dp m=m.aa.Value then m.aF else 0)=m.aF;rw[Qr this]⟩
 ·exact⟨rfl,⟨rfl,rfl⟩,fun _=>⟨rfl,rfl⟩,rfl,Int.le_refl _,fun _=>rfl⟩
theorem abL{m x:af}(h:aZ m)(hq:FX m x):adi m x:=by
 rcases hq with rfl|⟨a,m2,hb,hadv,rfl⟩
 ·exact⟨Int.le_refl _,fun _ _ h=>h,fun _=>rfl,fun _ _=>⟨Int.le_refl _,.inl (Int.le_refl _)⟩,fun _=>Int.le_refl _,fun _=>⟨rfl,rfl,rfl⟩⟩
 ·have hB:=ab5 h hb;have ha:=(wB h hb).inv;obtain⟨j,s,_,e⟩:=hadv.rel;obtain⟨s',e',_⟩:=Iq m m2;have hR:=Vx ha j;rw[e',e];have hp:=hB.ph;refine⟨by rw[<-hp];exact hR.ph,fun hq b hb=> ?_,fun hq=> ?_,fun hq hq'=> ?_,fun hq=>Int.le_trans hB.G8 (hR.G8 hq),fun hq=> ?_⟩
  ·exact hR.cq hq b (by rw[hB.cq.1,hB.cq.2];exact hb)
  ·exact(hR.val (by omega)).trans (hB.val hq).1
  ·obtain⟨r1,r2⟩:=hR.U0 (by omega) hq'
   have hl:=(hB.val (by omega)).2
   have hh:=hB.bG;refine⟨by show m.aM<=(qp j a).aM;omega,?_⟩
   rcases r2 with r2|⟨r2,_⟩
   ·exact .inl (by show(qp j a).aF<=m.aF;omega)
   ·exact .inr (by show m.aM<(qp j a).aF;omega)
  ·obtain⟨g1,g2,g3⟩:=hR.ext (by omega)
   exact⟨g1.trans (hB.ext hq),g2.trans (hB.val (by omega)).2,g3.trans hB.bG⟩
end Go.Proofs.YtkgenianmdfmdaaGreat
namespace Go.Proofs.YtkgenianmdfmdaaGreat
open Go.TQ
theorem aaG(l:List Int):oN l=some true:=by
 refine Yd.eq_true ?_;unfold oN;simp only[af.eta,an.eta,ai.eta,aaj,Qa];refine Yd.bind (abc l) fun s hO=> ?_
 refine Yd.bind (Iv hO (n:=5) (by omega) (by omega)) fun p2 ⟨hO2,ht,_,_⟩=> ?_
 rw[acZ (by omega) (by omega) (by omega) (by omega) ht]
 simp only[Qa];refine Yd.down (fun v=>0<=v.1/\v.1<=12/\lX v.2.1/\Nj v.2.2.1) (fun v=>(12 - v.1).toNat) ?_ ⟨by show(0:Int)<=0;omega,by show(0:Int)<=12;omega,hO2,ac4 ht⟩
 rintro⟨i,s',m,_⟩ ⟨hi0,hi12,hOs,hm⟩;simp only at hi0 hi12 hOs hm;simp only
 by_cases hi:i<12
 ·rw[Qg hi];simp only[Qk];refine Yd.bind (aaf hm hOs) fun p5 ⟨hO5,hq⟩=> ?_
  have hx:=Ws hm hq;have H:=abL hm.inv hq;have hadd:aG .i64 i 1=i+1:=bP (by omega) (by omega)
  have hpx:=Ez hx.inv;have hpm:=Ez hm.inv
  have g1:(bif (bif (bif decide (m.aA=1)then decide (p5.1.aA=1)else false)then !aD m.ak else false)then(bif (!b0 p5.1.ak p5.1.aw m.ak)then true else(bif (!aD m.aw)then !b0 p5.1.ak p5.1.aw m.aw else false))else false)=false:=by
   by_cases h1:m.aA=1
   ·by_cases h2:p5.1.aA=1
    ·cases hz:aD m.ak with
     |true=>simp
     |false=>
      have c1:b0 p5.1.ak p5.1.aw m.ak=true:=H.cq h2 _ ((qK _ _ _).2 (.inl (by unfold gK;rw[hz,gb.2 rfl];simp)))
      rw[c1]
      cases hz2:aD m.aw with
      |true=>simp
      |false=>
       have c2:b0 p5.1.ak p5.1.aw m.aw=true:=H.cq h2 _ ((qK _ _ _).2 (.inr (.inl (by unfold gK;rw[hz2,gb.2 rfl];simp))))
       rw[c2];simp
    ·rw[Qh h2];simp
   ·rw[Qh h1];simp
  have g2:(bif decide (p5.1.aA<m.aA)then true else(bif (!decide (m.aA=1))then !decide (p5.1.aa.Value=m.aa.Value)else false))=false:=by
   rw[Qh (by have:=H.ph;omega)]
   by_cases h1:m.aA=1
   ·rw[Qg h1];rfl
   ·rw[Qg (H.val h1)];simp
  have g3:(bif (bif decide (m.aA=2)then decide (p5.1.aA=2)else false)then(bif (bif decide (m.aF<p5.1.aF)then decide (p5.1.aF<=m.aM)else false)then true else decide (p5.1.aM<m.aM))else false)=false:=by
   by_cases h1:m.aA=2
   ·by_cases h2:p5.1.aA=2
    ·obtain⟨r1,r2⟩:=H.U0 h1 h2;rw[Qh (show¬p5.1.aM<m.aM by omega)]
     rcases r2 with r2|r2
     ·rw[Qh (show¬m.aF<p5.1.aF by omega)];simp
     ·rw[Qh (show¬p5.1.aF<=m.aM by omega)];simp
    ·rw[Qh h2];simp
   ·rw[Qh h1];simp
  have g4:(bif (bif (!decide (p5.1.aA=3))then decide (p5.1.aa.aj<m.aa.aj)else false)then true else(bif decide (m.aA=3)then(bif (bif js true p5.1.aa.aj m.aa.aj p5.1.aa.Value m.aa.Value then true else !decide (p5.1.aF=m.aF))then true else !decide (p5.1.aM=m.aM))else false))=false:=by
   have c1:(bif (!decide (p5.1.aA=3))then decide (p5.1.aa.aj<m.aa.aj)else false)=false:=by
    by_cases h1:p5.1.aA=3
    ·rw[Qg h1];rfl
    ·rw[Qh (show¬p5.1.aa.aj<m.aa.aj by have:=H.G8 h1;omega)];simp
   rw[c1]
   by_cases h1:m.aA=3
   ·obtain⟨e1,e2,e3⟩:=H.ext h1;rw[Qg h1,e1,e2,e3];simp[js]
   ·rw[Qh h1];rfl
  have g5:(bif decide (p5.1.aA=1)then !decide (p5.1.aF=0)else false)=true->dO p5.1.ak ⟨p5.1.aF,p5.1.aa.Value⟩=false/\dO p5.1.aw ⟨p5.1.aF,p5.1.aa.Value⟩=false/\decide (p5.1.aa.aj<p5.1.aF)=false:=fun hg=>by
   by_cases h1:p5.1.aA=1
   ·by_cases h2:p5.1.aF=0
    ·rw[Qg h2]at hg;simp at hg
    ·rcases hx.inv.body with k0|k1|k2|k3
     ·exact absurd k0.low h2
     ·rcases k1.low with e|⟨e1,e2,e3⟩
      ·exact absurd e h2
      ·have hh:=CR k1;unfold kD at e3;rw[Bool.or_eq_false_iff]at e3;exact⟨e3.1,e3.2,Qh (by omega)⟩
     ·have:=k2.aK;omega
     ·have:=k3.aK;omega
   ·rw[Qh h1]at hg;cases hg
  simp only[de,mL,sP,Qa,ji,ba,g1,g2,g3,g4,Ql,hadd]
  have hgoal:∀y,y=(Sum.inl (i+1,p5.2,p5.1,()):(Int×dQ×af×Unit)⊕Bool)->match y with| .inl s''=>(0<=s''.1/\s''.1<=12/\lX s''.2.1/\Nj s''.2.2.1)/\(12 - s''.1).toNat<(12 - i).toNat| .inr r=>r=true:=by
   rintro y rfl;exact⟨⟨by omega,by omega,hO5,hx⟩,by show(12 - (i+1)).toNat<(12 - i).toNat;omega⟩
  cases hg:(bif decide (p5.1.aA=1)then !decide (p5.1.aF=0)else false)with
  |false=>simp only[Ql];exact⟨_,rfl,hgoal _ rfl⟩
  |true=>
   obtain⟨e1,e2,e3⟩:=g5 hg;simp only[Qk,e1,e2,e3,Ql];exact⟨_,rfl,hgoal _ rfl⟩
 ·rw[Qh hi];exact .some rfl
end Go.Proofs.YtkgenianmdfmdaaGreat
end
noncomputable section
namespace Go.TQ
open Go.RowKit
theorem rep_ints{w:World}{M:Nat->Prop}{G:Gh}{a:Option Addr}{len cap:Nat}{zs:List Int}(hM:∀b,¬M b)
  (h:(a=none/\len=0/\cap=0/\zs=[])\/∃x,a=some x/\len<=cap/\cap<=maxLen/\zs.length=cap/\(∀i,i<zs.length->w.cell? (x.add i)=some (.int .i64 (zs.getD i 0)))/\∀n∈zs,(Lit.int .i64 n).wf=true):
  aW w M G (.sl ((zs.take len).map fun n=>[.int .i64 n])) (.slice a len cap):=by
 rcases h with⟨rfl,rfl,rfl,rfl⟩|⟨x,rfl,h1,h2,h3,h4,_⟩
 ·exact .slnil
 ·have hfl:∀l:List Int,(l.map fun n=>[PV.int .i64 n]).flatten=l.map fun n=> .int .i64 n:=by
   intro l
   induction l with
   |nil=>rfl
   |cons n l ih=>simp only[QD,List.flatten_cons,ih];rfl
  have hlen:((zs.take len).map fun n=>[PV.int .i64 n]).length=len:=by simp;omega
  have:=aW.sl (w:=w) (M:=M) (G:=G) ((zs.take len).map fun n=>[.int .i64 n]) x cap 1 ((zs.take len).map fun n=> .int .i64 n) (fun e he=>by obtain⟨n,_,rfl⟩:=QP.1 he;rfl) (by rw[hfl];simp)
   (fun i v hv=> ?_) (fun i y v hy hv=> ?_) (by rw[hlen];exact h1) h2
  ·rw[hlen]at this;exact this
  ·refine⟨?_,hM _⟩;rw[QT,Qb]at hv;obtain⟨n,hn,rfl⟩:=hv;rw[List.getElem?_take]at hn;split at hn
   ·have hi:i<zs.length:=(Qw.1 hn).1;rw[h4 i hi,List.getD_eq_getElem?_getD,hn];rfl
   ·cases hn
  ·rw[hfl]at hy;rw[QT]at hy hv;rw[Qb]at hy hv;obtain⟨n,hn,rfl⟩:=hy;obtain⟨n',hn',rfl⟩:=hv;rw[hn]at hn';injection hn' with e
   subst e;exact .int _ _
theorem law_calls{P:Program}{f:FuncId}{args:List PV}{vs:List Value}{w:World}(h:Wf P f false [] args (.bool true) [])(hr:aY w (fun _=>False) cU args vs):
  Calls P f vs.toArray w fun e w'=>e= .returned (.bool true)/\Below w.heap.size w w':=by
 refine(h w (fun _=>False) (fun _ hb=>hb.elim) 0 0 [] vs (fun hq=>by cases hq) ?_).mono ?_
 ·exact⟨hr.1,fun i x v hx hv=>(hr.2 i x v hx hv).mono (dB.of fun _ _=>fun hq=>by rcases hq with⟨hq,_⟩|hq;cases hq;exact hq) (Gh.le.refl _)⟩
 ·rintro e w' ⟨v,_,rfl,hv,_,hF⟩;refine⟨by rw[hv.lv],hF.os,hF.tape,hF.output,hF.size,fun k hk=>hF.block k hk (by simp)⟩
end Go.TQ
end
