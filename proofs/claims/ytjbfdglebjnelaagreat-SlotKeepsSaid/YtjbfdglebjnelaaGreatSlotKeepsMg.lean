/-
  Texts made small by a program (see NOTES). Conditions: those that each theorem names.
-/
import Derived.Test.YtjbfdglebjnelaaGreatSlotKeepsMf
set_option linter.unusedVariables false
set_option linter.unusedSimpArgs false
set_option linter.unusedSectionVars false
set_option maxHeartbeats 2000000
noncomputable section
namespace Go.Proofs.YtjbfdglebjnelaaGreat
open Go.TQ
def kg{A ρ:Type}(g:A->Int->A⊕ρ)(fin:A->Option ρ):List Int->A->Option ρ
 |[],a=>fin a
 |x::l,a=>match g a x with
  | .inl a'=>kg g fin l a'
  | .inr r=>some r
theorem xp{A σ ρ:Type}(b:List Int)(hb:b.length<=1000000)(st:A->Int->σ)(g:A->Int->A⊕ρ)(fin:A->Option ρ){step:σ->Option (σ⊕ρ)}
  (h1:∀(i:Nat) (x:Int) (a:A),idx b (i:Int)=some x->decide ((0:Int)<=(i:Int))=true->da .i64 (i:Int) 1=(i:Int) - 1->step (st a (i:Int))=some (match g a x with| .inl a'=> .inl (st a' ((i:Int) - 1))| .inr r=> .inr r))
  (h2:∀a,decide ((0:Int)<=(-1:Int))=false->step (st a (-1))=Option.map Sum.inr (fin a)):∀n:Nat,n<=b.length->∀a:A,aF step (st a ((n:Int) - 1))=kg g fin (b.take n).reverse a
 |0,_,a=>by
  rw[show((0:Nat):Int) - 1= -1 by omega,jd,h2 a rfl,List.take_zero,List.reverse_nil,kg]
  cases fin a<;>rfl
 |n+1,hn,a=>by
  have hlt:n<b.length:=by omega
  have hs:=h1 n b[n] a (by rw[bA];exact Qv hlt) (Qg (by omega)) (pK (by omega) (by omega))
  rw[show((n+1:Nat):Int) - 1=(n:Int)by omega,List.take_succ_eq_append_getElem hlt,List.reverse_append,List.reverse_singleton,List.singleton_append,kg]
  cases hg:g a b[n]with
  |inl a'=>rw[hg]at hs;rw[bz hs,xp b hb st g fin h1 h2 n (by omega) a']
  |inr r=>rw[hg]at hs;rw[bJ hs]
theorem I8(b:List Int)(hb:b.length<=1000000):da .i64 ((b.length:Nat):Int) 1=((b.length:Nat):Int) - 1:=pK (by omega) (by omega)
theorem CH{ρ:Type}(q:Int->Bool)(f:Int->ρ):∀(l:List Int) (lo:Int),kg (fun lo x=>if lo<=x then .inl lo else if q x then .inl x else .inr (f lo)) (fun lo=>some (f lo)) l lo=some (f (cy q l lo))
 |[],lo=>rfl
 |x::l,lo=>by
  rw[kg,cy]
  by_cases h1:lo<=x
  ·rw[Qr h1,Qr h1];exact CH q f l lo
  ·rw[Qs h1,Qs h1]
   cases hq:q x with
   |true=>rw[Qr rfl,Qr rfl];exact CH q f l x
   |false=>rw[Qs (by simp),Qs (by simp)]
theorem Sn{A ρ:Type}(s:A)(c p:Int->Bool)(f:Int->ρ)(d:ρ)(g:A->Int->A⊕ρ)(fin:A->Option ρ)(hg:∀z,g s z=if c z then(if p z then .inr (f z)else .inl s)else .inr d)(hfin:fin s=some d)(hc:∀a b,b<a->c b=true->c a=true):
  ∀r:List Int,r.Pairwise (fun a b=>b<a)->kg g fin r s=some (match r.find? (fun n=>c n&&p n)with|some n=>f n|none=>d)
 |[],_=>hfin
 |z::r,h=>by
  rw[kg,hg,List.find?_cons];rw[Q4]at h
  cases hz:c z with
  |false=>
   have:r.find? (fun n=>c n&&p n)=none:=by
    rw[List.find?_eq_none];intro n hn hcn;rw[Qm]at hcn;rw[hc z n (h.1 n hn) hcn.1]at hz;cases hz
   simp[this]
  |true=>
   cases hp:p z with
   |true=>simp
   |false=>
    simp only[Qt,Bool.true_and];exact Sn s c p f d g fin hg hfin hc r h.2
theorem NO{ρ:Type}(q:Int->Bool)(f:Int->ρ):∀(r:List Int) (lo:Int),(∀z∈r,z<lo)->r.Pairwise (fun a b=>b<a)->kg (fun lo z=>if q z then .inl z else .inr (f lo)) (fun lo=>some (f lo)) r lo=some (f (cy q r lo))
 |[],lo,_,_=>rfl
 |z::r,lo,h,hs=>by
  rw[Q4]at hs;have hz:=h z (by simp)
  have h0:¬lo<=z:=by omega
  rw[kg,cy,Qs h0]
  cases hq:q z with
  |true=>rw[Qr rfl,Qr rfl];exact NO q f r z hs.1 hs.2
  |false=>rw[Qs (by simp),Qs (by simp)]
theorem OZ{α B ρ:Type}(l:List α)(hl:l.length<=1000000)(f:B->α->B){step:Int×B×Unit->Option ((Int×B×Unit)⊕ρ)}{fin:B->Option ρ}
  (h1:∀(i:Nat) (x:α) (b:B),x∈l->decide ((i:Int)<((l.length:Nat):Int))=true->idx l (i:Int)=some x->aB .i64 (i:Int) 1=((i+1:Nat):Int)->step ((i:Int),b,())=some (.inl (((i+1:Nat):Int),f b x,())))
  (h2:∀b,decide (((l.length:Nat):Int)<((l.length:Nat):Int))=false->step (((l.length:Nat):Int),b,())=Option.map Sum.inr (fin b)) (b:B):aF step ((0:Int),b,())=fin (l.foldl f b):=by
 suffices key:∀(k i:Nat) (b:B),i+k=l.length->aF step ((i:Int),b,())=fin ((l.drop i).foldl f b)from key l.length 0 b (by omega)
 intro k
 induction k with
 |zero=>
  intro i b hi;obtain rfl:i=l.length:=by omega
  rw[jd,h2 b (Qh (Int.lt_irrefl _)),List.drop_length,List.foldl_nil];cases fin b<;>rfl
 |succ k ih=>
  intro i b hi;have hlt:i<l.length:=by omega
  rw[bz (h1 i l[i] b (Q0 hlt) (Qg (by omega)) (by rw[bA];exact Qv hlt) (bL (by omega) (by omega))),ih (i+1) _ (by omega),QM hlt,QU]
theorem K6(q:Int->Bool):∀(l r:List Int) (lo:Int),(∀x∈l,lo<=x)->cy q (l++r) lo=cy q r lo
 |[],r,lo,_=>rfl
 |x::l,r,lo,h=>by
  rw[List.cons_append,cy,Qr (h x (by simp))]
  exact K6 q l r lo fun y hy=>h y (by simp[hy])
theorem F1(q:Int->Bool):∀(r:List Int) (lo:Int),(∀x∈r,0<=x/\x<=1000000)->0<=lo/\lo<=1000000->0<=cy q r lo/\cy q r lo<=1000000
 |[],lo,_,h=>h
 |x::r,lo,hx,h=>by
  rw[cy];split
  ·exact F1 q r lo (fun y hy=>hx y (by simp[hy])) h
  ·split
   ·exact F1 q r x (fun y hy=>hx y (by simp[hy])) (hx x (by simp))
   ·exact h
 def ft(x:ByteArray->Int->Int->Bool)(p q:ab)(v:ByteArray)(s:Bool×ab)(n:Int):Bool×ab:=
 if bs s.2 ⟨n,v⟩&& !lQ p q v n&&x v n n then(true,⟨n,v⟩)else s
 def gf(x:ByteArray->Int->Int->Bool)(l:List al)(p q:ab):Bool×ab:=
 (fJ l).foldl (fun s v=>(bo l v).foldl (ft x p q v) s) (false,⟨0,eQ⟩)
 def nK(x:ByteArray->Int->Int->Bool)(l:List al)(p q:ab)(s:Bool×ab):ByteArray×Int×Int×Bool×Unit:=
 if s.1 then(s.2.Value,cy (fun n=> !lQ p q s.2.Value n&&x s.2.Value n s.2.an) (bo l s.2.Value).reverse s.2.an,s.2.an,true,())else(eQ,0,0,false,())
section
variable {S : gg} {x y : ByteArray -> Int -> Int -> Bool} (hx : ∀ v lo hi, gR S v lo hi = some (x v lo hi)) (hy : ∀ v lo hi, mJ S v lo hi = some (y v lo hi))
section
 include hx
theorem adj(b:List Int)(lo:Int)(p q z:ab):js b lo p q z S=some (cy (fun n=> !lQ p q z.Value n&&x z.Value n z.an) b.reverse lo):=by
 have:=Bo (p:=fun e=>my e p q z S) (q:=fun n=> !lQ p q z.Value n&&x z.Value n z.an) (fun e=>by
  simp only[my,Px,hx,Qa,ky]
  cases lQ p q z.Value e<;>simp) b.reverse lo
 simp only[js,cp,aU,Qa];exact this
theorem adi(b:List Int)(lo:Int)(v:ByteArray)(hi:Int):jH b lo S v hi=some (cy (fun z=>x v z hi) b.reverse lo):=by
 have:=Bo (p:=fun e=>pX e S v hi) (q:=fun z=>x v z hi) (fun e=>by simp only[pX,hx,Qa]) b.reverse lo
 simp only[jH,cp,aU,Qa];exact this
theorem Wt(b:List Int)(lo:Int)(v:ByteArray)(hi:Int):gS b lo S v hi=some (cy (fun z=>x v z hi) b.reverse lo):=by
 have:=Bo (p:=fun e=>pW e S v hi) (q:=fun z=>x v z hi) (fun e=>by simp only[pW,hx,Qa]) b.reverse lo
 simp only[gS,cp,aU,Qa];exact this
theorem Tc(b:List Int)(v:ByteArray)(low bS:Int)(hb:∀x∈b,0<=x/\x<=1000000):∀r:List Int,(∀x∈r,x∈b)->me (Bn S b v) (abG S b v) r (low,bS,())=
  some (match r.find? (fun n=>decide (bS<n)&&x v n n)with
   |none=>(cy (fun z=>x v z bS) b.reverse low,bS,())
   |some n=>(cy (fun z=>x v z n) b.reverse (if bS<cy (fun z=>x v z n) b.reverse n - 1\/cy (fun z=>x v z n) b.reverse n<low then cy (fun z=>x v z n) b.reverse n else low),n,()))
 |[],_=>by simp only[me,abG,Wt hx,Qa,List.find?_nil]
 |e::r,hr=>by
  have ih:=Tc b v low bS hb r (fun x hx=>hr x (by simp[hx]))
  rw[List.find?_cons,me]
  by_cases hle:e<=bS
  ·have h2:decide (bS<e)=false:=Qh (by omega)
   have h1:decide (e<=bS)=true:=Qg hle;have hst:Bn S b v r.length e (low,bS,())=some (.inl (low,bS,())):=by simp only[Bn,h1,Qk,Qa]
   rw[hst,h2,Bool.false_and];exact ih
  ·have h2:decide (bS<e)=true:=Qg (by omega)
   have h1:decide (e<=bS)=false:=Qh hle;rw[h2,Bool.true_and]
   cases hr':x v e e with
   |false=>
    have hst:Bn S b v r.length e (low,bS,())=some (.inl (low,bS,())):=by simp only[Bn,h1,Ql,hx,hr',Qp,Qa,Qk]
    rw[hst];exact ih
   |true=>
    have hb9:=F1 (fun z=>x v z e) b.reverse e (fun z hz=>hb z (by simpa using hz)) (hb e (hr e (by simp)))
    simp only[Bn,h1,Ql,hx,hr',Qo,adi hx,Wt hx,Qa,aU,ky,Bool.cond_true_left,Qe];generalize cy (fun z=>x v z e) b.reverse e=bt at*
    have e3:da .i64 bt 1=bt - 1:=pK (by omega) (by omega)
    rw[e3]
    by_cases hc:bS<bt - 1\/bt<low
    ·have:(decide (bS<bt - 1)||decide (bt<low))=true:=by rw[Qn];simpa using hc
     rw[this,Qr hc];rfl
    ·have:(decide (bS<bt - 1)||decide (bt<low))=false:=by
      rw[<-QX,Qn];simpa using hc
     rw[this,Qs hc];rfl
end
section
 include hy
theorem afO(b:List Int)(lo:Int)(v:ByteArray)(hi:Int):jG b lo S v hi=some (cy (fun z=>y v z hi) b.reverse lo):=by
 have:=Bo (p:=fun e=>rF e S v hi) (q:=fun z=>y v z hi) (fun e=>by simp only[rF,hy,Qa]) b.reverse lo
 simp only[jG,cp,aU,Qa];exact this
end
variable {aC : Int} {t : aj} {l : List al} (hl : pI l) (hlen : l.length <= 1000) (hL : fo aC t l = some S)
 include hl hlen hL
section
 include hx
theorem ahu(p q:ab):qH aC t l p q=some (nK x l p q (gf x l p q)):=by
 obtain⟨h1,_,h3,_⟩:=qN hl.aO hlen;unfold qH;simp only[aj.eta,hL,h1,Qa];refine(O0 (fJ l) (by omega) (fun s v=>(bo l v).foldl (ft x p q v) s) (fin:=fun s=>some (nK x l p q s)) (fun i v a b hv hd hx' hw=> ?_) (fun a b hd=> ?_) false ⟨0,ByteArray.mk #[]⟩)
 ·obtain⟨g1,_,g3,_⟩:=il hl.aO hlen v;simp only[hd,hx',hw,Qk,Qa,g1];refine(O0 (bo l v) (by omega) (ft x p q v) (fin:=fun s=>some (Sum.inl (s.1,((i+1:Nat):Int),s.2,()))) (fun i' n a' b' hv' hd' hx'' hw'=> ?_) (fun a' b' hd'=> ?_) a b)
  ·simp only[hd',hx'',hw',Qk,aU,Qa,jj,Px,hx,ky];unfold ft;cases bs b' ⟨n,v⟩<;>cases lQ p q v n<;>cases x v n n<;>simp
  ·simp only[hd',Ql]
 ·simp only[hd,Ql];obtain⟨g1,_,g3,_⟩:=il hl.aO hlen b.Value;unfold nK;cases a
  ·rfl
  ·simp only[Qo,Ql,g1,Qa,adj hx,Qt]
theorem agh(v:ByteArray)(low bS:Int):pn aC t l v low bS=some ((DF (bo l v) (x v) low bS).1,(DF (bo l v) (x v) low bS).2,()):=by
 obtain⟨h1,_,_,_⟩:=il hl.aO hlen v;have hin:=C2 hl hlen v;unfold pn;simp only[aj.eta,hL,h1,Qa,cp];refine(Tc hx (bo l v) v low bS (fun x hx=>by have:=hin x hx;omega) (bo l v).reverse (by simp)).trans ?_
 unfold DF;cases (bo l v).reverse.find? (fun n=>decide (bS<n)&&x v n n)<;>rfl
end
section
 include hy
theorem ahv(v:ByteArray):qI aC t l v=some (vk (bo l v) (y v)):=by
 obtain⟨h1,_,_,_⟩:=il hl.aO hlen v
 have:=YD (p:=fun e=>mJ S v e e) (q:=fun e=>y v e e) (d:=fun e=>jG (bo l v) e S v e) (f:=fun e=>cy (fun z=>y v z e) (bo l v).reverse e)
  (fun e=>hy v e e) (fun e=>afO hy (bo l v) e v e) (bo l v).reverse
 simp only[qI,aj.eta,hL,h1,cp,Qa,vk];exact this
end
end
 def CF(x:ByteArray->Int->Int->Bool)(p q:ab)(v:ByteArray)(s:ab)(n:Int):ab:=if bs s ⟨n,v⟩&& !lQ p q v n&&x v n n then⟨n,v⟩else s
theorem WR{x:ByteArray->Int->Int->Bool}{p q:ab}(v:ByteArray):∀(b:List Int),(∀n∈b,1<=n)->∀s:Bool×ab,s.1= !aG s.2->
  (b.foldl (ft x p q v) s).2=b.foldl (CF x p q v) s.2/\(b.foldl (ft x p q v) s).1= !aG (b.foldl (ft x p q v) s).2
 |[],_,s,h=>⟨rfl,h⟩
 |n::b,hb,s,h=>by
  rw[QU,QU];have hn:=hb n (by simp)
  have h1:(ft x p q v s n).2=CF x p q v s.2 n:=by unfold ft CF;split<;>rfl
  have h2:(ft x p q v s n).1= !aG (ft x p q v s n).2:=by
   unfold ft;split
   ·have:decide (n=0)=false:=Qh (by omega)
    simp[aG,this]
   ·exact h
  rw[<-h1];exact WR v b (fun n hn=>hb n (by simp[hn])) _ h2
theorem WT{x:ByteArray->Int->Int->Bool}{p q:ab}{l:List al}(hl:pI l)(hlen:l.length<=1000):∀(vs:List ByteArray) (s:Bool×ab),s.1= !aG s.2->
  (vs.foldl (fun s v=>(bo l v).foldl (ft x p q v) s) s).2=vs.foldl (fun s v=>(bo l v).foldl (CF x p q v) s) s.2/\(vs.foldl (fun s v=>(bo l v).foldl (ft x p q v) s) s).1= !aG (vs.foldl (fun s v=>(bo l v).foldl (ft x p q v) s) s).2
 |[],s,h=>⟨rfl,h⟩
 |v::vs,s,h=>by
  rw[QU,QU];obtain⟨h1,h2⟩:=WR (x:=x) (p:=p) (q:=q) v (bo l v) (fun n hn=>(C2 hl hlen v n hn).1) s h
  rw[<-h1];exact WT hl hlen vs _ h2
section
variable {aC : Int} {t : aj} {l : List al} (hl : pI l) (hlen : l.length <= 1000) {x y : ByteArray -> Int -> Int -> Bool} (hx : ∀ v lo hi, jo aC t l v lo hi = some (x v lo hi)) (hy : ∀ v lo hi, lu aC t l v lo hi = some (y v lo hi))
 include hl hlen
section
 include hx
theorem acy(v:ByteArray)(lo hi:Int):tD aC t l v lo hi=some (cy (fun z=>x v z hi) (bo l v).reverse lo):=by
 obtain⟨_,_,h3,_⟩:=il hl.aO hlen v;unfold tD;simp only[aj.eta,xl hl.aO hlen,Qa,I8 _ (by omega:(bo l v).length<=1000000),aU]
 refine(xp (bo l v) (by omega) (fun lo i=>(lo,i,())) (fun lo z=>if lo<=z then .inl lo else if x v z hi then .inl z else .inr lo) (fun lo=>some lo) (fun i z a hi' hd hs=> ?_) (fun a hd=> ?_) (bo l v).length (QI _) lo).trans ?_
 ·simp only[hi',hd,hs,Qk,Qa,hx]
  by_cases h1:a<=z
  ·simp[h1]
  ·cases x v z hi<;>simp[h1]
 ·simp only[hd,Ql]
 ·rw[List.take_length];exact CH (fun z=>x v z hi) (fun lo=>lo) _ _
theorem acG(v:ByteArray)(low bS:Int):nv aC t l v low bS=some ((DF (bo l v) (x v) low bS).1,(DF (bo l v) (x v) low bS).2,()):=by
 obtain⟨_,h2,h3,_⟩:=il hl.aO hlen v;have hin:=C2 hl hlen v;unfold nv;simp only[aj.eta,xl hl.aO hlen,acy hl hlen hx,Qa,I8 _ (by omega:(bo l v).length<=1000000),aU]
 refine(xp (bo l v) (by omega) (fun(s:Int×Int) i=>(s.1,s.2,i,()))
  (fun s z=>if s.2<z then(if x v z z then .inr (cy (fun w=>x v w z) (bo l v).reverse (if s.2<cy (fun w=>x v w z) (bo l v).reverse z - 1\/cy (fun w=>x v w z) (bo l v).reverse z<s.1 then cy (fun w=>x v w z) (bo l v).reverse z else s.1),z,())else .inl s)
   else .inr (cy (fun w=>x v w s.2) (bo l v).reverse s.1,s.2,()))
  (fun s=>some (cy (fun w=>x v w s.2) (bo l v).reverse s.1,s.2,())) (fun i z s hi' hd hs=> ?_) (fun s hd=> ?_) (bo l v).length (QI _) (low,bS)).trans ?_
 ·have hz:z∈bo l v:=by rw[bA]at hi';exact List.mem_of_getElem? hi'
  have hb9:=F1 (fun w=>x v w z) (bo l v).reverse z (fun w hw=>by have:=hin w (by simpa using hw);omega) (by have:=hin z hz;omega)
  simp only[hi',hd,hs,Qk,Qa,hx]
  by_cases h1:s.2<z
  ·simp only[h1,decide_true,Qk,Qt]
   cases hxz:x v z z with
   |false=>simp
   |true=>
    generalize cy (fun w=>x v w z) (bo l v).reverse z=bt at*
    have e3:da .i64 bt 1=bt - 1:=pK (by omega) (by omega)
    simp only[Qo,Ql,e3,Qt]
    by_cases h4:s.2<bt - 1
    ·simp[h4]
    ·by_cases h5:bt<s.1
     ·simp[h4,h5,dC]
     ·simp[h4,h5,dC]
  ·simp[h1]
 ·simp only[hd,Ql,Qa]
 ·rw[List.take_length]
  refine(Sn (low,bS) (fun z=>decide (bS<z)) (fun z=>x v z z) (fun z=>(cy (fun w=>x v w z) (bo l v).reverse (if bS<cy (fun w=>x v w z) (bo l v).reverse z - 1\/cy (fun w=>x v w z) (bo l v).reverse z<low then cy (fun w=>x v w z) (bo l v).reverse z else low),z,()))
   (cy (fun w=>x v w bS) (bo l v).reverse low,bS,()) _ _ (fun z=> ?_) rfl (fun a b h h'=> ?_) _ (List.pairwise_reverse.2 h2)).trans ?_
  ·by_cases h4:bS<z<;>simp[h4]
  ·simp only[Qi]at h' ⊢;omega
  ·unfold DF;cases (bo l v).reverse.find? (fun n=>decide (bS<n)&&x v n n)<;>rfl
 omit hl hlen hx in
theorem YB(p q:ab)(n:Int)(v:ByteArray):tC p q n v=some (!lQ p q v n):=by
  simp only[tC,AL,Qa,lQ];cases ea p ⟨n,v⟩<;>cases ea q ⟨n,v⟩<;>rfl
theorem aeN(p q:ab):oz aC t l p q=some (nK x l p q (gf x l p q)):=by
 obtain⟨_,_,h3,_⟩:=qN hl.aO hlen;obtain⟨e1,e2⟩:=WT (x:=x) (p:=p) (q:=q) hl hlen (fJ l) (false,⟨0,eQ⟩) rfl;unfold oz;simp only[aj.eta,Zq hl.aO hlen,Qa];refine(OZ (fJ l) (by omega) (fun s v=>(bo l v).foldl (CF x p q v) s) (fin:=fun s=>some (nK x l p q (!aG s,s))) (fun i v b hv hd hx' hw=> ?_) (fun b hd=> ?_) ⟨0,ByteArray.mk #[]⟩).trans ?_
 ·obtain⟨_,_,g3,_⟩:=il hl.aO hlen v;simp only[hd,hx',hw,Qk,Qa,xl hl.aO hlen];refine(OZ (bo l v) (by omega) (CF x p q v) (fin:=fun s=>some (Sum.inl (((i+1:Nat):Int),s,()))) (fun i' n b' hv' hd' hx'' hw'=> ?_) (fun b' hd'=> ?_) b)
  ·simp only[hd',hx'',hw',Qk,aU,Qa,jq,YB,hx,ky];unfold CF;cases bs b' ⟨n,v⟩<;>cases lQ p q v n<;>cases x v n n<;>simp
  ·simp only[hd',Ql]
 ·obtain⟨_,_,g3,_⟩:=il hl.aO hlen b.Value;simp only[hd,Ql,c6,Qa];unfold nK
  cases aG b with
  |true=>rfl
  |false=>
   simp only[Qp,Qt,Ql,xl hl.aO hlen,Qa,aU,I8 _ (by omega:(bo l b.Value).length<=1000000)]
   refine congrArg (Option.map Sum.inr) ((xp (bo l b.Value) (by omega) (fun lo i=>(lo,i,())) (fun lo z=>if lo<=z then .inl lo else if !lQ p q b.Value z&&x b.Value z b.an then .inl z else .inr (b.Value,lo,b.an,true,())) (fun lo=>some (b.Value,lo,b.an,true,())) (fun i z a hi' hd hs=> ?_) (fun a hd=> ?_) (bo l b.Value).length (QI _) b.an).trans ?_)
   ·simp only[hi',hd,hs,Qk,Qa,hx,YB]
    by_cases h1:a<=z
    ·simp[h1]
    ·cases lQ p q b.Value z<;>cases x b.Value z b.an<;>simp[h1]
   ·simp only[hd,Ql]
   ·rw[List.take_length];exact CH (fun z=> !lQ p q b.Value z&&x b.Value z b.an) (fun lo=>(b.Value,lo,b.an,true,())) _ _
 ·unfold gf;rw[show(fJ l).foldl (fun s v=>(bo l v).foldl (CF x p q v) s) ⟨0,ByteArray.mk #[]⟩=((fJ l).foldl (fun s v=>(bo l v).foldl (ft x p q v) s) (false,⟨0,eQ⟩)).2 from e1.symm,<-e2]
end
section
 include hy
theorem aeP(v:ByteArray):oA aC t l v=some (vk (bo l v) (y v)):=by
 obtain⟨_,h2,h3,_⟩:=il hl.aO hlen v;unfold oA;simp only[aj.eta,xl hl.aO hlen,Qa,I8 _ (by omega:(bo l v).length<=1000000),aU]
 unfold vk;generalize bo l v=b at*
 suffices key:∀n:Nat,n<=b.length->aF _ (((n:Nat):Int) - 1,())=some (match(b.take n).reverse.find? (fun e=>y v e e)with|some e=>(cy (fun z=>y v z e) b.reverse e,e,true,())|none=>(0,0,false,()))by
  have:=key b.length (QI _);rw[List.take_length]at this;exact this
 intro n
 induction n with
 |zero=>
  intro _;rw[show((0:Nat):Int) - 1= -1 by omega]
  have hd:decide ((0:Int)<= -1)=false:=rfl;exact bJ (by simp only[hd,Ql,Qe,List.take_zero,List.reverse_nil,List.find?_nil])
 |succ n ih=>
  intro hn;have hlt:n<b.length:=by omega
  have hxn:idx b (n:Int)=some b[n]:=by rw[bA];exact Qv hlt
  have hd:decide ((0:Int)<=(n:Int))=true:=Qg (by omega)
  have hs:da .i64 (n:Int) 1=(n:Int) - 1:=pK (by omega) (by omega)
  rw[show((n+1:Nat):Int) - 1=(n:Int)by omega,List.take_succ_eq_append_getElem hlt,List.reverse_append,List.reverse_singleton,List.singleton_append,List.find?_cons]
  cases hyn:y v b[n] b[n]with
  |false=>
   rw[bz (s':=((n:Int) - 1,())) (by simp only[hd,hxn,hs,hy,hyn,Qk,Qa,Qp])]
   exact ih (by omega)
  |true=>
   have hb:b=b.take n++b[n]::b.drop (n+1):=by rw[<-QM hlt,List.take_append_drop]
   have hp:(b.take n++b[n]::b.drop (n+1)).Pairwise (·<·):=hb▸h2;rw[List.pairwise_append,Q4]at hp;obtain⟨p1,⟨p2,p3⟩,p4⟩:=hp;refine bJ ?_;simp only[hd,hxn,hs,hy,hyn,Qk,Ql,Qa,Qo];refine(xp b (by omega) (fun lo i=>(lo,i,())) (fun lo z=>if y v z b[n]then .inl z else .inr (.inr (lo,b[n],true,()))) (fun lo=>some (.inr (lo,b[n],true,()))) (fun i z a hi' hd' hs'=> ?_) (fun a hd'=> ?_) n (by omega) b[n]).trans ?_
   ·simp only[hi',hd',hs',Qk,Qa];cases y v z b[n]<;>simp
   ·simp only[hd',Ql,Qe]
   ·rw[NO (fun z=>y v z b[n]) (fun lo=>Sum.inr (lo,b[n],true,())) _ _ (fun z hz=>p4 z (List.mem_reverse.1 hz) _ (Qx ..)) (List.pairwise_reverse.2 p1)]
    have:cy (fun z=>y v z b[n]) b.reverse b[n]=cy (fun z=>y v z b[n]) (b.take n).reverse b[n]:=by
     have hr:b.reverse=((b.drop (n+1)).reverse++[b[n]])++(b.take n).reverse:=by
      rw[<-List.reverse_cons,<-List.reverse_append,<-hb]
     rw[hr];refine K6 _ _ _ _ fun z hz=> ?_
     rw[Qz,List.mem_reverse,List.mem_singleton]at hz;rcases hz with hz|rfl
     ·exact Int.le_of_lt (p2 z hz)
     ·exact Int.le_refl _
    rw[this]
end
end
end Go.Proofs.YtjbfdglebjnelaaGreat
namespace Go.Proofs.YtjbfdglebjnelaaGreat
open Go.TQ
section
variable {aC : Nat} (hn : aC < 10) {t : aj} (ht : c5 t) {l : List al} (hl : pI l) (hlen : l.length <= 1000)
 include hn ht hl hlen
theorem agH(b:ab):oY aC t l b=some (km aC t l b):=by
 have hin:=lL l;have hsm:=lj (aC:=aC) ht hl;simp only[oY,aj.eta,Sf hl.aO hlen,yK hn hl,Qa,yI hsm hn (lh hin) (lh hin)];rfl
theorem aeQ(b:ab):nR aC t l b=some (jy aC t l b):=by
 have hin:=lL l;have hsm:=lj (aC:=aC) ht hl;simp only[nR,aj.eta,Sf hl.aO hlen,yK hn hl,Qa,xh hsm hn (lh hin)];rfl
theorem agO(b:ab):gG ⟨aC,⟨fP aC t l⟩,(bW l).map bE.mk⟩ b=some (km aC t l b):=by
 have hin:=lL l;have hsm:=lj (aC:=aC) ht hl;rw[M9 hl.len,Ap hsm hn (lh hin) (lh hin)];rfl
theorem afa(b:ab):eN ⟨aC,⟨fP aC t l⟩,(bW l).map bE.mk⟩ b=some (jy aC t l b):=by
 have hin:=lL l;have hsm:=lj (aC:=aC) ht hl;rw[Ln hl.len,y1 hsm hn (lh hin)];rfl
 def iO(aC:Nat)(t:aj)(l:List al)(p q:ab)(v:ByteArray):ab:=((ep l).find? (vB (km aC t l) p q v)).getD yw
 def vF(aC:Nat)(t:aj)(l:List al)(a:ab):ab:=((ep l).find? (vD (jy aC t l) a)).getD yw
theorem aeK(p q:ab)(v:ByteArray):qw aC t l p q v=some (iO aC t l p q v):=acs hl hlen (agH hn ht hl hlen) p q v
theorem aeL(a:ab):mm aC t l a=some (vF aC t l a):=acu hl hlen (aeQ hn ht hl hlen) a
theorem ae4(p q:ab)(v:ByteArray):nC aC t l p q v=some (iO aC t l p q v):=afh hl hlen (R3 hn ht hl) (agO hn ht hl hlen) p q v
theorem ae7(a:ab):kN aC t l a=some (vF aC t l a):=aft hl hlen (R3 hn ht hl) (afa hn ht hl hlen) a
end
end Go.Proofs.YtjbfdglebjnelaaGreat
namespace Go.Proofs.YtjbfdglebjnelaaGreat
open Go.TQ
theorem afk{bytes n:Nat}(h:bytes<=200)(hn:n<=1000000):bc bytes n=true:=
 bu ⟨QK (Nat.mul_le_mul hn h) (by decide),hn⟩
theorem N3{α ρ:Type}(l:List α)(hl:l.length<=1000000)(p:α->Bool){step:Int×Unit->Option ((Int×Unit)⊕ρ)}{fin:Option ρ}{f:Nat->α->Option ρ}
  (h1:∀(i:Nat) (x:α),i<l.length->l[i]?=some x->decide ((i:Int)<((l.length:Nat):Int))=true->idx l (i:Int)=some x->aB .i64 (i:Int) 1=((i+1:Nat):Int)->step ((i:Int),())=bif p x then Option.map Sum.inr (f i x)else some (.inl (((i+1:Nat):Int),())))
  (h2:(∀x∈l,p x=false)->decide (((l.length:Nat):Int)<((l.length:Nat):Int))=false->step (((l.length:Nat):Int),())=Option.map Sum.inr fin):
  aF step ((0:Int),())=match l.findIdx? p with|some i=>(l[i]?).bind (f i)|none=>fin:=by
 suffices key:∀(k i:Nat),i+k=l.length->(∀x∈l.take i,p x=false)->aF step ((i:Int),())=match(l.drop i).findIdx? p with|some j=>(l[i+j]?).bind (f (i+j))|none=>fin by
  have:=key l.length 0 (by omega) (by simp)
  rw[List.drop_zero]at this;simp only[Nat.zero_add]at this;exact this
 intro k
 induction k with
 |zero=>
  intro i hi hpre;obtain rfl:i=l.length:=by omega
  rw[List.take_length]at hpre;rw[jd,h2 hpre (Qh (Int.lt_irrefl _)),List.drop_length];cases fin<;>rfl
 |succ k ih=>
  intro i hi hpre;have hlt:i<l.length:=by omega
  have hx:l[i]?=some l[i]:=Qv hlt;have hs:=h1 i l[i] hlt hx (Qg (by omega)) (by rw[bA];exact hx) (bL (by omega) (by omega))
  rw[QM hlt,List.findIdx?_cons]
  cases hp:p l[i]with
  |true=>
   rw[hp]at hs;rw[jd,hs];simp only[Qk,Qt,Nat.add_zero,hx,Qa];cases f i l[i]<;>rfl
  |false=>
   rw[hp]at hs
   rw[bz hs,ih (i+1) (by omega) (fun x hx=>by
    rw[List.take_succ_eq_append_getElem hlt,Qz,List.mem_singleton]at hx;rcases hx with hx|rfl
    ·exact hpre x hx
    ·exact hp)]
   simp only[Qq,Qu]
   cases (l.drop (i+1)).findIdx? p with
   |none=>rfl
   |some j=>
    simp only[Qe];rw[show i+1+j=i+(j+1)by omega]
def Pl(l:List al)(e:al):Nat:=(l.findIdx? fun x=>decide (e.au<x.au)).getD l.length
 def yN(l:List al)(e:al):List al×Bool×Unit:=
 if aW e then
  match l.findIdx? fun x=>decide (x.au=e.au)with
  |some i=>if e.aI<=((l[i]?).getD e).aI then(l,false,())else(l.set i e,true,())
  |none=>(l.take (Pl l e)++[e]++l.drop (Pl l e),true,())
 else(l,false,())
section
variable {l : List al} (hl : ∀ x ∈ l, c5 x.aa) (hlen : l.length <= 1000)
 include hlen
 include hl
theorem ahx:iv l=some l:=by
 unfold iv
 suffices key:∀(k i:Nat),i+k=l.length->aF _ ((i:Int),l.take i,())=some l from key l.length 0 (by omega)
 intro k
 induction k with
 |zero=>
  intro i hi;obtain rfl:i=l.length:=by omega
  have hd:decide (((l.length:Nat):Int)<((l.length:Nat):Int))=false:=Qh (Int.lt_irrefl _);exact bJ (by simp only[hd,Ql,Qe,List.take_length])
 |succ k ih=>
  intro i hi;have hlt:i<l.length:=by omega
  have hd:decide ((i:Int)<((l.length:Nat):Int))=true:=Qg (by omega)
  have hw:aB .i64 (i:Int) 1=((i+1:Nat):Int):=bL (by omega) (by omega)
  have hx:idx l (i:Int)=some l[i]:=by rw[bA];exact Qv hlt
  have hc:pV l[i]=some l[i]:=by simp only[pV,aj.eta,tq (hl _ (Q0 hlt)),Qa]
  refine(bz ?_).trans (ih (i+1) (by omega))
  simp only[hd,hx,hw,Qk,Qa,aj.eta,al.eta,hc];rw[afk (by omega) (by simp;omega),List.take_succ_eq_append_getElem hlt]
  rfl
end
end Go.Proofs.YtjbfdglebjnelaaGreat
namespace Go.Proofs.YtjbfdglebjnelaaGreat
open Go.TQ
section
variable {l : List al} (hlen : l.length <= 1000)
 include hlen
theorem H0(e:al){a b:Nat}(ha:a<=b)(hb:b<=l.length):cD (0:Int) (a:Int) l.length=true/\bc 176 (List.length ((l.take (Int.toNat (a:Int))).drop (Int.toNat (0:Int))))=true/\
  bc 176 (List.length ((l.take (Int.toNat (a:Int))).drop (Int.toNat (0:Int)))+List.length [e])=true/\cD (b:Int) (l.length:Int) l.length=true/\
  bc 176 (List.length (((l.take (Int.toNat (a:Int))).drop (Int.toNat (0:Int)))++[e])+List.length ((l.take (Int.toNat (l.length:Int))).drop (Int.toNat (b:Int))))=true/\
  (((l.take (Int.toNat (a:Int))).drop (Int.toNat (0:Int)))++[e])++((l.take (Int.toNat (l.length:Int))).drop (Int.toNat (b:Int)))=l.take a++[e]++l.drop b:=by
 refine⟨by simp[cD];omega,iC (by omega) (by simp;omega),iC (by omega) (by simp;omega),by simp[cD];omega,iC (by omega) (by simp;omega),?_⟩
 simp only[QV,Int.toNat_zero,List.drop_zero,List.take_length]
end
theorem GC{α:Type}{p q:α->Bool}:∀{l:List α},(∀x∈l,p x=q x)->l.findIdx? p=l.findIdx? q
 |[],_=>rfl
 |x::l,h=>by rw[List.findIdx?_cons,List.findIdx?_cons,h x (by simp),GC fun y hy=>h y (by simp[hy])]
theorem aeJ{l:List al}(hl:∀x∈l,c5 x.aa)(hlen:l.length<=1000){e:al}(he:c5 e.aa):zG l e=some (yN l e):=by
 unfold zG;simp only[aj.eta,al.eta,jl he,Qa,aU];unfold yN
 cases aW e with
 |false=>rfl
 |true=>
  simp only[Qo,Ql,Qt];refine(N3 l (by omega) (fun x=>decide (x.au=e.au)) (f:=fun i x=>if e.aI<=x.aI then some (l,false,())else some (l.take i++[e]++l.drop (i+1),true,())) (fin:=some (l.take (Pl l e)++[e]++l.drop (Pl l e),true,())) (fun i x hi hx0 hd hx hw=> ?_) (fun hall hd=> ?_)).trans ?_
  ·simp only[hd,hx,hw,Qk,Qa]
   cases decide (x.au=e.au)with
   |false=>rfl
   |true=>
    simp only[Qk];obtain⟨f1,f2,f3,f4,f5,f6⟩:=H0 hlen e (show i<=i+1 by omega) (show i+1<=l.length by omega)
    simp only[f1,f2,f3,f4,f5,f6,Qk]
    by_cases hs:e.aI<=x.aI<;>simp[hs]
  ·simp only[hd,Ql];refine congrArg (Option.map Sum.inr) ?_
   have hcg:(l.findIdx? fun x=> !decide (x.au<e.au))=l.findIdx? fun x=>decide (e.au<x.au):=GC fun x hx=>by
    have:=hall x hx;have hne:x.au≠e.au:=of_decide_eq_false this
    by_cases h:x.au<e.au
    ·have h':¬e.au<x.au:=by omega
     simp[h,h']
    ·have h':e.au<x.au:=by omega
     simp[h,h']
   refine(N3 l (by omega) (fun x=> !decide (x.au<e.au)) (f:=fun i x=>some (l.take i++[e]++l.drop i,true,())) (fin:=some (l.take l.length++[e]++l.drop l.length,true,())) (fun i x hi hx0 hd hx hw=> ?_) (fun _ hd=> ?_)).trans ?_
   ·simp only[hd,hx,hw,Qk,Qa]
    cases decide (x.au<e.au)with
    |true=>rfl
    |false=>
     simp only[Ql,Qp,Qk];obtain⟨f1,f2,f3,f4,f5,f6⟩:=H0 hlen e (QI i) (show i<=l.length by omega)
     simp only[f1,f2,f3,f4,f5,f6,Qk]
   ·simp only[hd,Ql];obtain⟨f1,f2,f3,f4,f5,f6⟩:=H0 hlen e (QI l.length) (QI _);simp only[f1,f2,f3,f4,f5,f6,Qk]
   ·rw[hcg];unfold Pl
    cases h:l.findIdx? fun x=>decide (e.au<x.au)with
    |none=>rfl
    |some i=>
     have hi:=(List.findIdx?_eq_some_iff_getElem.1 h).1;simp only[Qv hi,Qa,Q3]
  ·cases h:l.findIdx? fun x=>decide (x.au=e.au)with
   |none=>rfl
   |some i=>
    have hi:=(List.findIdx?_eq_some_iff_getElem.1 h).1;simp only[Qv hi,Qa,Q3]
    by_cases hs:e.aI<=l[i].aI
    ·simp[hs]
    ·simp only[hs,Qu];rw[List.set_eq_take_append_cons_drop,Qr hi];simp
end Go.Proofs.YtjbfdglebjnelaaGreat
namespace Go.Proofs.YtjbfdglebjnelaaGreat
open Go.TQ
structure tL (m:ak):Prop where
 n0:0<=m.au
 n1:m.au<10
 aO:c5 m.aa
 len:m.aA.length<=100
 sm:∀e∈m.aA,c5 e.aa
 valid:∀e∈m.aA,aW e=true
theorem za{m:ak}{e:al}(h:e∈bd m):e∈m.aA\/(aG m.af=false/\e=iB m):=by
 unfold bd at h;split at h
 ·exact .inl h
 ·rename_i hz;rw[(CW _ _).mem_iff,Qz,List.mem_singleton]at h;rcases h with h|h
  ·exact .inl h
  ·exact .inr ⟨by simpa using hz,h⟩
theorem adF(m:ak):(bd m).length<=m.aA.length+1:=by
 unfold bd;split
 ·omega
 ·rw[(CW _ _).length_eq,QB,List.length_singleton];omega
theorem Fw(m:ak):(iB m).aa=m.aa:=qZ m
theorem tL.k8{m:ak}(h:tL m):pI (bd m)/\(bd m).length<=1000:=by
 have h1:=adF m;have h2:=h.len;refine⟨⟨by omega,fun e he=> ?_⟩,by omega⟩
 rcases za he with he|⟨_,rfl⟩
 ·exact h.sm e he
 ·rw[Fw];exact h.aO
theorem tL.aC{m:ak}(h:tL m):((m.au.toNat:Nat):Int)=m.au/\m.au.toNat<10:=by
 have:=h.n0;have:=h.n1;omega
def dD(b:ab):ab:=if 1000<b.an then⟨1000,b.Value⟩else b
theorem aik(b:ab):qv b=some (dD b):=adb b
def cU(p q b:ab):ab×ab:=
 if aG b=true then(p,q)else if aG p=true then(b,q)else if bs p b=true then(if bM p b=true then(b,if bM q b=true then bZ else q)else(b,p))
 else if(bs b p&& !bM b p&&(aG q||bs q b))=true then(p,b)else(p,q)
theorem K9(a b:ab):bM a b=bM b a:=decide_eq_decide.2 ⟨Eq.symm,Eq.symm⟩
theorem agV(p q b:ab):ya p q b=some ((cU p q b).1,(cU p q b).2,()):=by
 unfold ya cU;simp only[c6,jq,fV,Qa,aU];cases aG b<;>cases aG p<;>cases bs p b<;>cases bM p b<;>cases bM q b<;>cases bs b p<;>cases bM b p<;>cases aG q<;>cases bs q b<;>rfl
theorem aeV(p q b:ab):uy p q b=some ((cU p q b).1,(cU p q b).2,()):=by
 unfold uy cU;simp only[cJ,jj,fj,Qa,aU,K9 b p,K9 b q];cases aG b<;>cases aG p<;>cases bs p b<;>cases bM p b<;>cases bM q b<;>cases bs b p<;>cases aG q<;>cases bs q b<;>rfl
def CE(m:ak):ByteArray:=if m.aJ=2 then m.af.Value else eQ
 def dZ(m:ak):ab:=iO m.au.toNat m.aa (bd m) m.ao m.az (CE m)
def qe(m:ak)(p q:ab):Int:=
 if m.aJ=1/\m.aQ≠0 then(if eR m<kh m.af.Value m.aQ p q then 0 else kh m.af.Value m.aQ p q)else m.aQ
 def cW(m:ak):ak:=
 if m.aJ=3\/aG m.af=true then m else
  {m with ao:=(cU m.ao m.az (dD (dZ m))).1,az:=(cU m.ao m.az (dD (dZ m))).2,aQ:=qe m (cU m.ao m.az (dD (dZ m))).1 (cU m.ao m.az (dD (dZ m))).2}
theorem agA{m:ak}(h:tL m)(p q:ab)(v:ByteArray):qw m.au m.aa (bd m) p q v=some (iO m.au.toNat m.aa (bd m) p q v):=by
 have:=aeK h.aC.2 h.aO h.k8.1 h.k8.2 p q v
 rwa [h.aC.1]at this
theorem agD{m:ak}(h:tL m)(a:ab):mm m.au m.aa (bd m) a=some (vF m.au.toNat m.aa (bd m) a):=by
 have:=aeL h.aC.2 h.aO h.k8.1 h.k8.2 a
 rwa [h.aC.1]at this
theorem ZF{m:ak}(h:tL m):rA m=some (cW m):=by
 have hl:m.aA.length<=1000:=by have:=h.len;omega
 unfold rA cW;simp only[ak.eta,aj.eta,c6,Po hl,agA h,aik,agV,xU,VM,Qa,aU]
 by_cases h3:m.aJ=3
 ·rw[Qg h3,Qr (.inl h3)];rfl
 ·rw[Qh h3]
  cases hz:aG m.af with
  |true=>rw[Qr (.inr rfl)];rfl
  |false=>
   rw[Qs (by simp[h3])]
   simp only[Ql,Qa]
   by_cases h2:m.aJ=2
   ·have h1:¬m.aJ=1:=by omega
    simp only[Qg h2,Qh h1,Qk,Ql,Qa,qe,CE,dZ,Qr h2,h1,false_and,Qu];rfl
   ·simp only[Qh h2,Ql];have hv:ByteArray.mk #[]=CE m:=by simp only[CE,Qs h2];rfl
    rw[hv];have hn:iO m.au.toNat m.aa (bd m) m.ao m.az (CE m)=dZ m:=rfl;simp only[hn]
    by_cases h1:m.aJ=1
    ·have hh:∀p q:ab,(cQ {m with ao:=p,az:=q}).bb=eR m:=fun p q=>by unfold cQ;rw[Qr (show({m with ao:=p,az:=q}:ak).aJ=1 from h1)];rfl
     simp only[Qg h1,Qk,Qa]
     by_cases hL:m.aQ=0
     ·rw[Qg hL];unfold qe;rw[Qs (fun h=>h.2 hL)]
      rfl
     ·rw[Qh hL];unfold qe;rw[Qr ⟨h1,hL⟩];simp only[Qp,Qk];rw[show(cQ (ak.mk m.au m.aT m.aI m.aa m.aJ m.af (cU m.ao m.az (dD (dZ m))).1 (cU m.ao m.az (dD (dZ m))).2 m.av m.aQ m.bb m.bh m.aA)).bb=eR m from hh _ _]
      by_cases hlt:eR m<kh m.af.Value m.aQ (cU m.ao m.az (dD (dZ m))).1 (cU m.ao m.az (dD (dZ m))).2
      ·rw[Qg hlt,Qr hlt];rfl
      ·rw[Qh hlt,Qs hlt];rfl
    ·rw[Qh h1];unfold qe;rw[Qs (fun h=>h1 h.1)]
     rfl
 def fN(m:ak):ab:=vF m.au.toNat m.aa (bd m) m.av
def zX(m:ak)(b:ab):ak:=
 if bs m.af b=true then{m with av:=b,af:=b,aQ:=if bM m.af b=true then m.aQ else 0}else{m with av:=b}
def n2(m:ak)(b:ab):ak:=
 if m.aQ=0/\bM m.af b=true/\kh b.Value m.af.an m.ao m.az<=b.an then{m with aQ:=kh b.Value m.af.an m.ao m.az}else m
 def fZ(m:ak):ak:=
 if m.aJ≠1\/aG m.af=true\/aG (fN m)=true then m else n2 (zX m (fN m)) (fN m)
theorem PD(m:ak)(b:ab){α:Type}(j:ak->Option α):
  ((bif decide (m.aQ=(0:Int))then some (bM m.af b)else some false).bind fun x=>bif x then(bif decide (kh b.Value m.af.an m.ao m.az<=b.an)then j {m with aQ:=kh b.Value m.af.an m.ao m.az}else j m)else j m)=j (n2 m b):=by
 unfold n2
 by_cases hL:m.aQ=0
 ·rw[Qg hL]
  cases hc:bM m.af b with
  |true=>
   by_cases hle:kh b.Value m.af.an m.ao m.az<=b.an
   ·rw[Qr ⟨hL,rfl,hle⟩,Qg hle];rfl
   ·rw[Qs (fun h=>hle h.2.2),Qh hle];rfl
  |false=>
   rw[Qs (fun h=>by cases h.2.1)];rfl
 ·rw[Qh hL,Qs (fun h=>hL h.1)];rfl
theorem XX{m:ak}(h:tL m):pO m=some (fZ m):=by
 have hl:m.aA.length<=1000:=by have:=h.len;omega
 unfold pO fZ;simp only[ak.eta,aj.eta,c6,Po hl,agD h,VM,Qa,aU,fV,jq];have hb:vF m.au.toNat m.aa (bd m) m.av=fN m:=rfl;simp only[hb]
 by_cases h1:m.aJ=1
 ·rw[Qg h1]
  cases hz:aG m.af with
  |true=>rw[Qr (.inr (.inl rfl))];rfl
  |false=>
   cases hzb:aG (fN m)with
   |true=>rw[Qr (.inr (.inr rfl))];rfl
   |false=>
    rw[Qs (by simp[h1])]
    simp only[Qo,Ql,Qa];unfold zX
    cases hlt:bs m.af (fN m)with
    |true=>
     cases hcp:bM m.af (fN m)with
     |true=>simp only[Qk,Qo,Ql,Qt];exact PD {m with av:=fN m,af:=fN m} (fN m) some
     |false=>simp only[Qk,Qp,Qt,Qq,Qu];exact PD {m with av:=fN m,af:=fN m,aQ:=0} (fN m) some
    |false=>simp only[Ql,Qq,Qu];exact PD {m with av:=fN m} (fN m) some
 ·rw[Qh h1,Qr (.inl h1)];rfl
section
variable {aC : Nat} (hn : aC < 10) {t : aj} (ht : c5 t) {l : List al} (hl : pI l) (hlen : l.length <= 1000)
 include hn ht hl hlen
theorem Yh(v:ByteArray)(lo hi:Int):jo aC t l v lo hi=some (kR aC t l v lo hi):=by
 have hin:=lL l;have hsm:=lj (aC:=aC) ht hl;simp only[jo,aj.eta,Se hl.aO hlen,yK hn hl,Qa,yI hsm hn (lh hin) (lh hin)];rfl
theorem acI(v:ByteArray)(lo hi:Int):lu aC t l v lo hi=some (ra aC t l v lo hi):=by
 have hin:=lL l;have hsm:=lj (aC:=aC) ht hl;simp only[lu,aj.eta,Se hl.aO hlen,yK hn hl,Qa,xh hsm hn (lh hin)];rfl
theorem acF(p q:ab):oz aC t l p q=some (nK (kR aC t l) l p q (gf (kR aC t l) l p q)):=aeN hl hlen (Yh hn ht hl hlen) p q
theorem agF(v:ByteArray)(low bS:Int):nv aC t l v low bS=some ((DF (bo l v) (kR aC t l v) low bS).1,(DF (bo l v) (kR aC t l v) low bS).2,()):=acG hl hlen (Yh hn ht hl hlen) v low bS
theorem agE(v:ByteArray):oA aC t l v=some (vk (bo l v) (ra aC t l v)):=aeP hl hlen (acI hn ht hl hlen) v
end
 def fT(m:ak):ByteArray->Int->Int->Bool:=kR m.au.toNat m.aa (bd m)
 def EZ(m:ak):ByteArray->Int->Int->Bool:=ra m.au.toNat m.aa (bd m)
 def eX(m:ak):ByteArray×Int×Int×Bool×Unit:=nK (fT m) (bd m) m.ao m.az (gf (fT m) (bd m) m.ao m.az)
 def dX(m:ak):Int×Int:=DF (bo (bd m) m.af.Value) (fT m m.af.Value) m.aQ m.bb
 def lN(m:ak):Int×Int×Bool×Unit:=vk (bo (bd m) m.af.Value) (EZ m m.af.Value)
theorem aeO{m:ak}(h:tL m):oz m.au m.aa (bd m) m.ao m.az=some (eX m):=by
 have:=acF h.aC.2 h.aO h.k8.1 h.k8.2 m.ao m.az
 rwa [h.aC.1]at this
theorem ahP{m:ak}(h:tL m):nv m.au m.aa (bd m) m.af.Value m.aQ m.bb=some ((dX m).1,(dX m).2,()):=by
 have:=agF h.aC.2 h.aO h.k8.1 h.k8.2 m.af.Value m.aQ m.bb
 rwa [h.aC.1]at this
theorem ahO{m:ak}(h:tL m):oA m.au m.aa (bd m) m.af.Value=some (lN m):=by
 have:=agE h.aC.2 h.aO h.k8.1 h.k8.2 m.af.Value
 rwa [h.aC.1]at this
def IM(m:ak)(v:ByteArray)(lo hi:Int):ak:=
 {m with af:=if(!bM m.af ⟨hi,v⟩||bs m.af ⟨hi,v⟩)=true then⟨bC m.af.an hi,v⟩else m.af,ao:=if iY m.ao ⟨hi,v⟩=true then m.ao else⟨hi,v⟩,aJ:=2,aQ:=lo,bb:=hi,av:=⟨hi,v⟩,az:=bZ}
def yB(m:ak)(lo hi:Int):ak:=
 {m with af:=⟨bC m.af.an hi,m.af.Value⟩,ao:=⟨bC m.ao.an hi,m.ao.Value⟩,av:=⟨bC m.av.an hi,m.af.Value⟩,aQ:=lo,bb:=hi}
 def fK(m:ak):ak:=
 if m.aJ=1 then(if(eX m).2.2.2.1=true then IM m (eX m).1 (eX m).2.1 (eX m).2.2.1 else m)
 else if m.aJ=2 then yB m (dX m).1 (dX m).2 else m
theorem XY{m:ak}(h:tL m):pP m=some (fK m):=by
 have hl:m.aA.length<=1000:=by have:=h.len;omega
 unfold pP fK;simp only[ak.eta,aj.eta,c6,Po hl,aeO h,ahP h,Qa,aU,fV,jq,AK]
 by_cases h1:m.aJ=1
 ·rw[Qg h1,Qr h1]
  cases hk:(eX m).2.2.2.1 with
  |false=>simp only[Qk,Qp,Qq,Qu]
  |true=>
   simp only[Qk,Qo,Ql,Qt];unfold IM;cases bM m.af ⟨(eX m).2.2.1,(eX m).1⟩<;>cases bs m.af ⟨(eX m).2.2.1,(eX m).1⟩<;>cases iY m.ao ⟨(eX m).2.2.1,(eX m).1⟩<;>rfl
 ·rw[Qh h1,Qs h1]
  by_cases h2:m.aJ=2
  ·rw[Qg h2,Qr h2];rfl
  ·rw[Qh h2,Qs h2];rfl
def Jv(m:ak)(lo hi:Int):ak:={m with aJ:=3,aQ:=lo,bb:=hi,af:=⟨hi,m.af.Value⟩,ao:=bZ,az:=bZ,av:=bZ}
 def iN(m:ak):ak:=if m.aJ=2/\(lN m).2.2.1=true then Jv m (lN m).1 (lN m).2.1 else m
theorem afK{m:ak}(h:tL m):vN m=some (iN m):=by
 have hl:m.aA.length<=1000:=by have:=h.len;omega
 unfold vN iN;simp only[ak.eta,aj.eta,Po hl,ahO h,Qa]
 by_cases h2:m.aJ=2
 ·rw[Qg h2]
  cases hk:(lN m).2.2.1 with
  |false=>rw[Qs (fun h=>by cases h.2)];rfl
  |true=>rw[Qr ⟨h2,rfl⟩];rfl
 ·rw[Qh h2,Qs (fun h=>h2 h.1)];rfl
end Go.Proofs.YtjbfdglebjnelaaGreat
namespace Go.Proofs.YtjbfdglebjnelaaGreat
open Go.TQ
theorem C0{α β ρ:Type}(l:List α)(hl:l.length<=1000)(f:α->β){step:Int×List β×Unit->Option ((Int×List β×Unit)⊕ρ)}{fin:List β->Option ρ}
  (h1:∀(i:Nat) (e:α) (s:List β),s.length<=1000->e∈l->decide ((i:Int)<((l.length:Nat):Int))=true->idx l (i:Int)=some e->aB .i64 (i:Int) 1=((i+1:Nat):Int)->step ((i:Int),s,())=some (.inl (((i+1:Nat):Int),s++[f e],())))
  (h2:∀s,decide (((l.length:Nat):Int)<((l.length:Nat):Int))=false->step (((l.length:Nat):Int),s,())=Option.map Sum.inr (fin s)):aF step ((0:Int),[],())=fin (l.map f):=by
 suffices key:∀(k i:Nat) (s:List β),i+k=l.length->s.length=i->aF step ((i:Int),s,())=fin (s++(l.drop i).map f)by
  have:=key l.length 0 [] (by omega) rfl
  simpa using this
 intro k
 induction k with
 |zero=>
  intro i s hi hs;obtain rfl:i=l.length:=by omega
  have hd:decide (((l.length:Nat):Int)<((l.length:Nat):Int))=false:=Qh (Int.lt_irrefl _);have h:=h2 s hd;rw[List.drop_length,QO,List.append_nil]
  cases hf:fin s with
  |none=>rw[hf]at h;exact On h
  |some r=>rw[hf]at h;exact bJ h
 |succ k ih=>
  intro i s hi hs;have hlt:i<l.length:=by omega
  rw[bz (h1 i l[i] s (by omega) (Q0 hlt) (Qg (by omega)) (by rw[bA];exact Qv hlt) (bL (by omega) (by omega))),ih (i+1) (s++[f l[i]]) (by omega) (by simp;omega),
   QM hlt,QD,QL]
  rfl
theorem abF{α β ρ:Type}(l:List α)(hl:l.length<=1000)(f:α->β){step:Int×List β×Unit->Option ((Int×List β×Unit)⊕ρ)}{fin:List β->Option ρ}
  (h1:∀(i:Nat) (e:α) (s:List β),s.length=l.length->e∈l->i<l.length->decide ((i:Int)<((l.length:Nat):Int))=true->idx l (i:Int)=some e->aB .i64 (i:Int) 1=((i+1:Nat):Int)->step ((i:Int),s,())=some (.inl (((i+1:Nat):Int),s.set i (f e),())))
  (h2:∀s,decide (((l.length:Nat):Int)<((l.length:Nat):Int))=false->step (((l.length:Nat):Int),s,())=Option.map Sum.inr (fin s)) {s0:List β} (hs0:s0.length=l.length):aF step ((0:Int),s0,())=fin (l.map f):=by
 suffices key:∀(k i:Nat) (s:List β),i+k=l.length->s.length=l.length->aF step ((i:Int),s,())=fin (s.take i++(l.drop i).map f)by
  have:=key l.length 0 s0 (by omega) hs0
  simpa using this
 intro k
 induction k with
 |zero=>
  intro i s hi hs;obtain rfl:i=l.length:=by omega
  have hd:decide (((l.length:Nat):Int)<((l.length:Nat):Int))=false:=Qh (Int.lt_irrefl _);have h:=h2 s hd;rw[List.drop_length,QO,List.append_nil,<-hs,List.take_length];rw[<-hs]at h
  cases hf:fin s with
  |none=>rw[hf]at h;exact On h
  |some r=>rw[hf]at h;exact bJ h
 |succ k ih=>
  intro i s hi hs;have hlt:i<l.length:=by omega
  rw[bz (h1 i l[i] s hs (Q0 hlt) hlt (Qg (by omega)) (by rw[bA];exact Qv hlt) (bL (by omega) (by omega))),ih (i+1) (s.set i (f l[i])) (by omega) (by simpa using hs),
   QM hlt,QD]
  congr 1;rw[List.take_add_one,List.take_set_of_le (QI i),List.getElem?_set_self (by omega)]
  simp
def IB(z:ab):List ab->ab
 |[]=>z
 |x::l=>l.foldl (fun a y=>if bs a y=true then y else a) x
theorem OW(l:List ab)(hl:l.length<=1000000)(z:ab){step:Int×ab×Unit->Option ((Int×ab×Unit)⊕ab)}
  (h1:∀(i:Nat) (x s:ab),decide ((i:Int)<((l.length:Nat):Int))=true->idx l (i:Int)=some x->aB .i64 (i:Int) 1=((i+1:Nat):Int)->step ((i:Int),s,())=some (.inl (((i+1:Nat):Int),(if i=0 then x else if bs s x=true then x else s),())))
  (h2:∀s,decide (((l.length:Nat):Int)<((l.length:Nat):Int))=false->step (((l.length:Nat):Int),s,())=some (.inr s)):aF step ((0:Int),z,())=some (IB z l):=by
 have hd:decide (((l.length:Nat):Int)<((l.length:Nat):Int))=false:=Qh (Int.lt_irrefl _)
 have key:∀(k i:Nat) (s:ab),i+k=l.length->1<=i->aF step ((i:Int),s,())=some ((l.drop i).foldl (fun a y=>if bs a y=true then y else a) s):=by
  intro k
  induction k with
  |zero=>
   intro i s hi h1i;obtain rfl:i=l.length:=by omega
   rw[List.drop_length];exact bJ (h2 s hd)
  |succ k ih=>
   intro i s hi h1i;have hlt:i<l.length:=by omega
   rw[bz (h1 i l[i] s (Qg (by omega)) (by rw[bA];exact Qv hlt) (bL (by omega) (by omega))),ih (i+1) _ (by omega) (by omega),QM hlt,QU,Qs (by omega:¬i=0)]
 cases l with
 |nil=>exact bJ (h2 z hd)
 |cons x l=>
  have hx:=h1 0 x z (Qg (by simp)) (by rw[bA];rfl) (bL (by omega) (by omega))
  rw[Qr rfl]at hx;exact(bz hx).trans (key l.length 1 x (by simp;omega) (by omega))
theorem afw(l:List ab)(hl:l.length<=1000000):nS l=some (IB bZ l):=by
 unfold nS;refine OW l hl bZ (fun i x s hd hx hw=> ?_) (fun s hd=> ?_)
 ·simp only[hd,hx,hw,Qk,aU,Qa,jq]
  by_cases hi:i=0
  ·subst hi;rfl
  ·have:decide ((i:Int)=0)=false:=Qh (by omega)
   rw[this,Qs hi];cases bs s x<;>rfl
 ·simp only[hd,Ql,Qe]
theorem acP(l:List ab)(hl:l.length<=1000000):lX l=some (IB bZ l):=by
 unfold lX;refine OW l hl bZ (fun i x s hd hx hw=> ?_) (fun s hd=> ?_)
 ·simp only[hd,hx,hw,Qk,aU,Qa,jj]
  by_cases hi:i=0
  ·subst hi;rfl
  ·have:decide ((i:Int)=0)=false:=Qh (by omega)
   rw[this,Qs hi];cases bs s x<;>rfl
 ·simp only[hd,Ql,Qe]
def dE(m:ak):ByteArray:=
 if aG m.av=false then m.av.Value else if m.aJ≠1 then m.af.Value else if m.bh≠eQ then m.bh else(IB bZ (m.aA.map (·.af))).Value
theorem PF{m:ak}(h:tL m):mG m=some (dE m):=by
 have hl:m.aA.length<=1000:=by have:=h.len;omega
 unfold mG dE;simp only[c6,Qa]
 cases hz:aG m.av with
 |false=>rfl
 |true=>
  simp only[Qo,Ql,Bool.true_eq_false,Qu]
  by_cases h1:m.aJ=1
  ·rw[Qg h1,Qs (fun h=>h h1)]
   simp only[Qo,Ql]
   by_cases hp:m.bh=eQ
   ·have hp':decide (m.bh=ByteArray.mk #[])=true:=Qg hp;rw[hp',Qs (fun h=>h hp)]
    simp only[Qo,Ql]
    rw[C0 m.aA hl (·.af) (fin:=fun s=>Option.bind (nS s) fun r=>some r.Value) (fun i e s hs he hd hx hw=>by
     simp only[hd,hx,hw,Qk,Qa]
     rw[bu (by simp;omega),Qk]) (fun s hd=>by simp only[hd,Ql]),afw _ (by simp;omega)]
    rfl
   ·have hp':decide (m.bh=ByteArray.mk #[])=false:=Qh hp;rw[hp',Qr hp];rfl
  ·rw[Qh h1,Qr h1];rfl
theorem Fq{e:al}(h:c5 e.aa)(hv:aW e=true):kG e=some (dY e):=by
 simp only[kG,aj.eta,al.eta,jl h,Qa,hv,dY]
 by_cases h3:e.bD=3
 ·rw[Qg h3,Qr h3];rfl
 ·rw[Qh h3,Qs h3];rfl
theorem Vx{e:al}(h:c5 e.aa)(hv:aW e=true):jv e=some (dY e):=by
 rw[Xm (X6 h)];have:gu (EY e.aa) e=true:=hv;rw[this,Qr rfl]
def Cd(m:ak)(n:Int):Nat:=dB (fun e=>decide (n<dY e)) m.aA
 def im(m:ak)(n:Int):Bool:=um (fP m.au.toNat m.aa (bd m)) m.au.toNat (Cd m n)
theorem tL.RO{m:ak}(h:tL m):ur m.aA:=fun e he=>iD (h.valid e he)
theorem Tr{m:ak}(h:tL m)(n:Int):Cd m n<1024:=lh h.RO
theorem YV{m:ak}(h:tL m)(n:Int):rQ m n=some (im m n):=by
 have hl:m.aA.length<=1000:=by have:=h.len;omega
 unfold rQ
 rw[C0 m.aA hl (fun e=>decide (n<dY e)) (fin:=fun s=>Option.bind (kp m) fun r4=>Option.bind (iH m.au m.aa r4) fun r5=>Option.bind (fI m.aA s) fun r6=>Option.bind (nB r5 m.au r6) fun r7=>some r7)
  (fun i e s hs he hd hx hw=>by
   simp only[hd,hx,hw,Qk,Qa,aj.eta,al.eta,Fq (h.sm e he) (h.valid e he)]
   rw[bu (by simp;omega),Qk])
  (fun s hd=>by simp only[hd,Ql,ak.eta,aj.eta])]
 have hv:=yK h.aC.2 (t:=m.aa) h.k8.1;have hb:=NZ (lj (aC:=m.au.toNat) h.aO h.k8.1) (v:=m.au.toNat) (Tr h n);rw[h.aC.1]at hv hb;rw[Po hl,Qa,hv,Qa,zd m.aA hl _ (fun e he _=>h.RO e he),Qa,show dB (fun e=>decide (n<dY e)) m.aA=Cd m n from rfl,hb]
 rfl
 def lp(m:ak)(y8:Int)(e:al):Int:=
 if m.af.an<dY e/\dY e<y8/\im m (dY e)=false then dY e else y8
 def gp(m:ak):Int:=m.aA.foldl (lp m) 1000000
 def mC(m:ak):ByteArray:=if m.aJ=1 then dE m else m.af.Value
 def eO(m:ak):ak:=
 if m.aJ=3\/im m m.af.an=false then m
 else{m with aQ:=if mC m=m.af.Value then m.aQ else 0,af:=⟨bC m.af.an (dC (gp m) 1000),mC m⟩}
open Classical in
theorem WM{m:ak}(h:tL m){ρ:Type}{step:Int×Int×Unit->Option ((Int×Int×Unit)⊕ρ)}{fin:Int->Option ρ}
  (h1:∀(i:Nat) (e:al) (s:Int),e∈m.aA->decide ((i:Int)<((m.aA.length:Nat):Int))=true->idx m.aA (i:Int)=some e->aB .i64 (i:Int) 1=((i+1:Nat):Int)->step (s,(i:Int),())=some (.inl (lp m s e,((i+1:Nat):Int),())))
  (h2:∀s,decide (((m.aA.length:Nat):Int)<((m.aA.length:Nat):Int))=false->step (s,((m.aA.length:Nat):Int),())=Option.map Sum.inr (fin s)):aF step ((1000000:Int),(0:Int),())=fin (gp m):=by
 have hl:=h.len
 have key:=gO m.aA (by omega) (fun i s=>(s,i,())) (fun e s=>if e∈m.aA then some (.inl (lp m s e))else none) fin (step:=step) (fun i x s hd hx hw=>by
  have hm:x∈m.aA:=by rw[bA]at hx;exact List.mem_of_getElem? hx
  rw[h1 i x s hm hd hx hw,Qr hm]) (fun s hd=>h2 s hd) 1000000
 refine key.trans ?_;unfold gp
 suffices h3:∀(l:List al),(∀e∈l,e∈m.aA)->∀s,fb (fun e s=>if e∈m.aA then some (Sum.inl (β:=ρ) (lp m s e))else none) fin l s=fin (l.foldl (lp m) s)from h3 _ (fun e he=>he) _
 intro l
 induction l with
 |nil=>intro _ s;rfl
 |cons x l ih=>
  intro hx s;rw[fb,Qr (hx x Qx),QU];exact ih (fun e he=>hx e (Qy _ he)) _
theorem adv{m:ak}(h:tL m):uw m=some (eO m):=by
 unfold uw eO;simp only[ak.eta,aj.eta,YV h,PF h,Qa]
 by_cases h3:m.aJ=3
 ·rw[Qg h3,Qr (.inl h3)];rfl
 ·rw[Qh h3]
  cases ha:im m m.af.an with
  |false=>rw[Qr (.inr rfl)];rfl
  |true=>
   rw[Qs (by simp[h3])]
   simp only[Ql,Qo];refine(WM h (fin:=fun c=>some {m with aQ:=if mC m=m.af.Value then m.aQ else 0,af:=⟨bC m.af.an (dC c 1000),mC m⟩}) (fun i e s he hd hx hw=> ?_) (fun s hd=> ?_)).trans rfl
   ·simp only[hd,hx,hw,Qk,aU,Qa,aj.eta,al.eta,Fq (h.sm e he) (h.valid e he),YV h];unfold lp
    by_cases c1:m.af.an<dY e
    ·by_cases c2:dY e<s
     ·rw[Qg c1,Qg c2]
      cases c3:im m (dY e)with
      |true=>rw[Qs (by simp)];rfl
      |false=>rw[Qr ⟨c1,c2,rfl⟩];rfl
     ·rw[Qg c1,Qh c2,Qs (fun h=>c2 h.2.1)];rfl
    ·rw[Qh c1,Qs (fun h=>c1 h.1)];rfl
   ·simp only[hd,Ql,aU,Qa];unfold mC
    by_cases h1:m.aJ=1
    ·rw[Qg h1,Qr h1]
     by_cases hv:dE m=m.af.Value
     ·simp only[Qk,Qg hv,Qo,Ql,Qr hv]
     ·simp only[Qk,Qh hv,Qp,Qs hv]
    ·rw[Qh h1,Qs h1];simp only[Ql,decide_true,Qo,Qt]
end Go.Proofs.YtjbfdglebjnelaaGreat
namespace Go.Proofs.YtjbfdglebjnelaaGreat
open Go.TQ
def cZ(b:ab):Prop:=1<=b.an/\b.an<=1000/\1<=b.Value.size/\b.Value.size<=200
theorem cZ.valid{b:ab}(h:cZ b):cF b=true:=by
 obtain⟨h1,h2,h3,h4⟩:=h;simp only[cF,Qm,Qn,Qi];exact⟨⟨.inl ⟨h1,h2⟩,h3⟩,h4⟩
theorem cZ.finite{b:ab}(h:cZ b):finite b=true:=by
 unfold Go.Proofs.YtjbfdglebjnelaaGreat.finite;rw[h.valid,Qg h.2.1];rfl
theorem YE{b:ab}(h:cF b=true)(hc:b.an<=1000):cZ b:=by
 simp only[cF,Qm,Qn,Qi]at h;obtain⟨⟨h1,h2⟩,h3⟩:=h;exact⟨by omega,hc,h2,h3⟩
theorem cZ.nz{b:ab}(h:cZ b):aG b=false:=Om h.1
theorem cZ.ne{b:ab}(h:cZ b):b.Value≠eQ:=by
 intro e;have:=h.2.2.1;rw[e]at this;exact absurd this (by decide)
theorem wK{b:ab}:aG b=true↔b=bZ:=by
 obtain⟨c,v⟩:=b;simp[aG,bZ]
theorem bO:aG bZ=true:=wK.2 rfl
structure P1 (m:ak):Prop where
 aS:m.aJ=1
 aM:cZ m.af
 dt:m.ao=bZ\/cZ m.ao
 bU:m.az=bZ\/(cZ m.az/\cZ m.ao/\bs m.az m.ao=true/\bM m.az m.ao=false)
 dO:m.av=bZ\/(cZ m.av/\dL m.ao m.az m.av=true)
 up:bs m.af m.av=false
 bS:m.bb=0
 low:m.aQ=0\/(1<=m.aQ/\m.aQ<=eR m/\lQ m.ao m.az m.af.Value m.aQ=false)
structure P2 (m:ak):Prop where
 aS:m.aJ=2
 aM:cZ m.af
 dt:cZ m.ao/\m.ao.Value=m.af.Value
 bU:m.az=bZ
 dO:m.av=bZ\/(cZ m.av/\m.av.Value=m.af.Value)
 range:1<=m.aQ/\m.aQ<=m.bb/\m.bb<=m.ao.an
structure P3 (m:ak):Prop where
 aS:m.aJ=3
 aM:cZ m.af
 dt:m.ao=bZ
 bU:m.az=bZ
 dO:m.av=bZ
 range:1<=m.aQ/\m.aQ<=m.bb/\m.bb<=1000
structure P0 (m:ak):Prop where
 aS:m.aJ=1
 aM:m.af=bZ
 dt:m.ao=bZ
 bU:m.az=bZ
 dO:m.av=bZ
 low:m.aQ=0
 bS:m.bb=0
structure bn (m:ak):Prop where
 n0:0<=m.au
 n1:m.au<10
 bq:1<=m.aT/\m.aT<=1000000
 seq:0<=m.aI/\m.aI<=1000000
 aO:fu m.aa
 sU:m.bh.size<=200
 hv:∀e∈m.aA,aW e=true/\fu e.aa/\e.aT=m.aT/\e.au≠m.au
 gJ:m.aA.Pairwise (fun a b=>a.au<b.au)
 body:P0 m\/P1 m\/P2 m\/P3 m
theorem M7:∀(l:List al) (k:Nat),k<=10->(∀e∈l,(k:Int)<=e.au/\e.au<10)->l.Pairwise (fun a b=>a.au<b.au)->l.length+k<=10
 |[],k,hk,_,_=>by simpa using hk
 |x::l,k,hk,h,hp=>by
  rw[Q4]at hp;have hx:=h x Qx;have:=M7 l (k+1) (by omega) (fun e he=>⟨by have:=hp.1 e he;omega,(h e (Qy _ he)).2⟩) hp.2
  rw[QE];omega
theorem bn.len{m:ak}(h:bn m):m.aA.length<=10:=by
 have:=M7 m.aA 0 (by omega) (fun e he=>by have:=iD (h.hv e he).1;omega) h.gJ
 omega
theorem bn.ev{m:ak}(h:bn m):tL m:=
 ⟨h.n0,h.n1,h.aO.sm,by have:=h.len;omega,fun e he=>(h.hv e he).2.1.sm,fun e he=>(h.hv e he).1⟩
theorem OQ{m:ak}(h:P1 m):0<=eR m/\eR m<=m.af.an/\(eR m=0\/(cZ m.av/\m.av.Value=m.af.Value/\eR m=m.av.an)):=by
 unfold eR;split
 ·rename_i hc;simp only[Qm,Bool.not_eq_true',bM,Qi]at hc;rcases h.dO with e|⟨hf,_⟩
  ·rw[e,bO]at hc;cases hc.1
  ·have hup:=h.up;unfold bs at hup;split at hup
   ·rename_i e;exact⟨by have:=hf.1;omega,by omega,.inr ⟨hf,hc.2,rfl⟩⟩
   ·simp only[Qj]at hup;exact⟨by have:=hf.1;omega,by omega,.inr ⟨hf,hc.2,rfl⟩⟩
 ·exact⟨Int.le_refl _,by have:=h.aM.1;omega,.inl rfl⟩
theorem SP{m:ak}(h:bn m)(hz:aG m.af=false):aW (iB m)=true:=by
 have hseq:1<=(iB m).aI/\(iB m).aI<=1000000:=by
  have h1:(iB m).aI=bC m.aI 1:=by show bC (cQ m).aI 1=_;rw[Wq]
  have:=h.seq;rw[h1];unfold bC;split<;>omega
 have hnode:(iB m).au=m.au:=wV m;have hslot:(iB m).aT=m.aT:=CZ m
 have hhead:xN (iB m)=true:=by
  unfold xN;rw[hnode,hslot];simp only[Qm,Qi];exact⟨⟨⟨⟨⟨h.n0,h.n1⟩,h.bq.1⟩,h.bq.2⟩,hseq.1⟩,hseq.2⟩
 unfold aW;rw[Fw,Sa h.aO];unfold gu;rw[hhead];have hkind:(iB m).bD=m.aJ:=abI m;rw[hkind];rcases h.body with h0|h1|h2|h3
 ·rw[h0.aM,bO]at hz;cases hz
 ·rw[Qr h1.aS];have hh:=OQ h1;have e:iB m=⟨m.au,m.aT,bC (cQ m).aI 1,m.aa,m.aJ,m.af,m.ao,m.az,m.aQ,eR m⟩:=by unfold iB cQ;rw[Qr h1.aS]
  have hp:(aG m.ao||cF m.ao)=true:=by
   rcases h1.dt with e|hf
   ·rw[e,bO];rfl
   ·rw[hf.valid,Bool.or_true]
  have hq:(aG m.az||cF m.az)=true:=by
   rcases h1.bU with e|hf
   ·rw[e,bO];rfl
   ·rw[hf.1.valid,Bool.or_true]
  have hpo:Bg (iB m)=true:=by
   rw[e];unfold Bg;rcases h1.bU with e|⟨_,hf,hl,hc⟩
   ·simp only[e,bO,Bool.true_or]
   ·simp only[hf.nz,hl,hc,Qp,Bool.and_self,Bool.or_true]
  have hhp:(decide (eR m=0)||dL m.ao m.az ⟨eR m,m.af.Value⟩)=true:=by
   rcases hh.2.2 with e|⟨hf,hv,e⟩
   ·rw[Qg e];rfl
   ·rw[e,<-hv];rcases h1.dO with e2|⟨_,hp⟩
    ·have:=hf.nz;rw[e2,bO]at this;cases this
    ·rw[hp,Bool.or_true]
  have hlow:0<=m.aQ/\m.aQ<=eR m/\(decide (m.aQ=0)||(!ea m.ao ⟨m.aQ,m.af.Value⟩&& !ea m.az ⟨m.aQ,m.af.Value⟩))=true:=by
   rcases h1.low with e|⟨h5,h6,h7⟩
   ·rw[e];exact⟨Int.le_refl _,hh.1,rfl⟩
   ·refine⟨by omega,h6,?_⟩
    unfold lQ at h7;rw[Bool.or_eq_false_iff]at h7;rw[h7.1,h7.2];simp
  unfold gw;rw[hpo];rw[e];unfold at_
  simp only[h1.aM.finite,hp,hq,Qg hlow.1,Qg hlow.2.1,Qg hh.2.1,hhp,hlow.2.2,Bool.and_self,decide_true]
 ·rw[Qs (by rw[h2.aS];decide),Qr h2.aS]
  have e:iB m=⟨m.au,m.aT,bC (cQ m).aI 1,m.aa,m.aJ,m.af,m.ao,bZ,m.aQ,m.bb⟩:=by unfold iB cQ;rw[Qs (by rw[h2.aS];decide),Qr h2.aS]
  have hc:m.bb<=1000:=by have:=h2.range.2.2;have:=h2.dt.1.2.1;omega
  unfold tr rK;rw[e];simp only[h2.aM.finite,h2.dt.1.valid,bM,Qg h2.dt.2,bO,Qg h2.range.1,Qg h2.range.2.1,Qg h2.range.2.2,Qg hc,Bool.and_self,decide_true]
 ·rw[Qs (by rw[h3.aS];decide),Qs (by rw[h3.aS];decide),Qr h3.aS]
  have e:iB m=⟨m.au,m.aT,bC (cQ m).aI 1,m.aa,m.aJ,m.af,bZ,bZ,m.aQ,m.bb⟩:=by unfold iB cQ;rw[Qs (by rw[h3.aS];decide),Qs (by rw[h3.aS];decide)]
  unfold zz rK;rw[e];simp only[h3.aM.valid,bO,Qg h3.range.1,Qg h3.range.2.1,Qg h3.range.2.2,Bool.and_self,decide_true]
theorem bn.kS{m:ak}(h:bn m):∀e∈bd m,aW e=true:=by
 intro e he;rcases za he with he|⟨hz,rfl⟩
 ·exact(h.hv e he).1
 ·exact SP h hz
theorem bn.afb{m:ak}(h:bn m){e:al}(he:e∈bd m)(hn:e.au.toNat=m.au.toNat):aG m.af=false/\e=iB m:=by
 rcases za he with he|⟨hz,rfl⟩
 ·have h1:=(h.hv e he).2.2.2;have h2:=iD (h.hv e he).1;have:=h.n0;omega
 ·exact⟨hz,rfl⟩
end Go.Proofs.YtjbfdglebjnelaaGreat
namespace Go.Proofs.YtjbfdglebjnelaaGreat
open Go.TQ
theorem wR(a b:ab):bs a b=true↔a.an<b.an\/(a.an=b.an/\c9 a.Value b.Value=true):=by
 unfold bs;split
 ·rename_i e;rw[e];simp
 ·rename_i e;simp only[Qi];constructor
  ·exact .inl
  ·rintro(h|h)
   ·exact h
   ·exact absurd h.1 e
theorem lD{a b c:ab}(h:bs a b=true)(h':bs b c=true):bs a c=true:=zk.trans _ _ _ h h'
theorem abu(a:ab):bs a a=false:=zk.irrefl a
theorem Ih{a b:ab}(h:bs a b=false)(h':a≠b):bs b a=true:=by
 cases h1:bs b a with
 |true=>rfl
 |false=>exact absurd (zk.total a b h h1) h'
theorem iy{a b:ab}(h:bs a b=true):a.an<=b.an:=by
 rw[wR]at h;omega
theorem Mg{a b:ab}(h:bs a b=false):b.an<=a.an:=by
 rcases Int.lt_or_le a.an b.an with h1|h1
 ·rw[(wR a b).2 (.inl h1)]at h;cases h
 ·exact h1
theorem abr(v:ByteArray):c9 v v=false:=nb.irrefl v
theorem FJ{a b:ab}(hv:a.Value=b.Value):bs a b=decide (a.an<b.an):=by
 unfold bs;split
 ·rename_i e;rw[hv,abr,e];simp
 ·rfl
theorem IL{p x:ab}(h:iY p x=true):bs p x=false:=by
 obtain⟨_,h2,h3⟩:=(kx p x).1 h;rw[FJ h2,Qj];omega
theorem Tj{p x q:ab}(h:iY p x=true)(hq:bs p q=true):bs x q=true:=by
 by_cases e:x=p
 ·rw[e];exact hq
 ·exact lD (Ih (IL h) (fun h=>e h.symm)) hq
theorem iS{a b:ab}:bM a b=true↔a.Value=b.Value:=decide_eq_true_iff
theorem iL{a b:ab}:bM a b=false↔a.Value≠b.Value:=Qj
theorem BH(p q x:ab):dL p q x=true↔iY p x=true\/iY q x=true\/(aG q=false/\bs x q=true):=by
 unfold dL;simp only[Qn,Qm,Bool.not_eq_true'];exact⟨fun h=>by rcases h with(h|h)|h<;>simp[h],fun h=>by rcases h with h|h|h<;>simp[h]⟩
def rO(p q:ab):Prop:=(p=bZ\/cZ p)/\(q=bZ\/(cZ q/\cZ p/\bs q p=true/\bM q p=false))
theorem P1.gw{m:ak}(h:P1 m):rO m.ao m.az:=⟨h.dt,h.bU⟩
theorem MI{b:ab}(h:cZ b):b≠bZ:=fun e=>by have:=h.nz;rw[e,bO]at this;cases this
inductive uq (p q b:ab):ab->ab->Prop where
 |same:uq p q b p q
 |first (hp:p=bZ) (hq:q=bZ):uq p q b b bZ
 |up (hp:cZ p) (hl:bs p b=true) (hc:p.Value=b.Value):uq p q b b q
 |Dl (hp:cZ p) (hl:bs p b=true) (hc:p.Value≠b.Value):uq p q b b p
 |under (hp:cZ p) (hl:bs b p=true) (hc:b.Value≠p.Value) (hq:q=bZ\/bs q b=true):uq p q b p b
theorem afn{p q b:ab}(h:rO p q)(hb:b=bZ\/cZ b):uq p q b (cU p q b).1 (cU p q b).2:=by
 unfold cU;rcases hb with rfl|hb
 ·rw[Qr bO];exact .same
 rw[Qs (by rw[hb.nz];decide)]
 rcases h.1 with rfl|hp
 ·have hq:q=bZ:=by
   rcases h.2 with e|⟨_,e,_⟩
   ·exact e
   ·exact absurd rfl (MI e)
  rw[Qr bO,hq];exact .first rfl rfl
 rw[Qs (by rw[hp.nz];decide)]
 by_cases hl:bs p b=true
 ·rw[Qr hl]
  by_cases hc:bM p b=true
  ·rw[Qr hc]
   have hcq:bM q b=false:=by
    rw[iS]at hc;rw[iL];rcases h.2 with rfl|⟨_,_,_,e⟩
    ·exact fun e=>hb.ne e.symm
    ·rw[iL]at e;rw[<-hc];exact e
   rw[Qs (by rw[hcq];decide)]
   exact .up hp hl (iS.1 hc)
  ·rw[Qs hc];exact .Dl hp hl (iL.1 (by simpa using hc))
 ·rw[Qs hl];split
  ·rename_i hu;simp only[Qm,Qn,Bool.not_eq_true']at hu;refine .under hp hu.1.1 (iL.1 hu.1.2) ?_;rcases hu.2 with e|e
   ·exact .inl (wK.1 e)
   ·exact .inr e
  ·exact .same
theorem uq.ok{p q b p' q':ab}(h:rO p q)(hb:b=bZ\/cZ b)(hj:uq p q b p' q'):rO p' q':=by
 have hbf:∀{x:ab},bs x b=true\/cZ b\/(cZ x/\bs b x=true)->True:=fun _=>trivial
 cases hj with
 |same=>exact h
 |first hp hq=>exact⟨hb,.inl rfl⟩
 |up hp hl hc=>
  have hb':cZ b:=by
   rcases hb with rfl|hb
   ·have h1:=iy hl;have h2:=hp.1;have:(bZ:ab).an=0:=rfl;omega
   ·exact hb
  refine⟨.inr hb',?_⟩;rcases h.2 with e|⟨h1,h2,h3,h4⟩
  ·exact .inl e
  ·refine .inr ⟨h1,hb',lD h3 hl,?_⟩;rw[iL]at h4 ⊢;rw[<-hc];exact h4
 |Dl hp hl hc=>
  have hb':cZ b:=by
   rcases hb with rfl|hb
   ·have h1:=iy hl;have h2:=hp.1;have:(bZ:ab).an=0:=rfl;omega
   ·exact hb
  exact⟨.inr hb',.inr ⟨hp,hb',hl,iL.2 hc⟩⟩
 |under hp hl hc hq=>
  refine⟨.inr hp,?_⟩;rcases hb with e|hb
  ·exact .inl e
  ·exact .inr ⟨hb,hp,hl,iL.2 hc⟩
theorem uq.mono{p q b p' q':ab}(h:rO p q)(hj:uq p q b p' q'){x:ab}(hx:dL p q x=true):dL p' q' x=true:=by
 rw[BH]at hx ⊢
 have hqp:aG q=false->bs q p=true:=fun hz=>by
  rcases h.2 with e|⟨_,_,e,_⟩
  ·rw[e,bO]at hz;cases hz
  ·exact e
 have hcq:iY q x=true->aG q=false:=fun hc=>((kx q x).1 hc).1
 cases hj with
 |same=>exact hx
 |first hp hq=>
  subst hp hq;rcases hx with hx|hx|hx
  ·have:=((kx _ _).1 hx).1;rw[bO]at this;cases this
  ·have:=((kx _ _).1 hx).1;rw[bO]at this;cases this
  ·rw[bO]at hx;cases hx.1
 |up hp hl hc=>
  rcases hx with hx|hx|hx
  ·obtain⟨h1,h2,h3⟩:=(kx _ _).1 hx;refine .inl ((kx _ _).2 ⟨?_,hc.symm.trans h2,Int.le_trans h3 (iy hl)⟩);have:=hp.1;have:=iy hl;exact Om (by omega)
  ·exact .inr (.inl hx)
  ·exact .inr (.inr hx)
 |Dl hp hl hc=>
  rcases hx with hx|hx|hx
  ·exact .inr (.inl hx)
  ·exact .inr (.inr ⟨hp.nz,Tj hx (hqp (hcq hx))⟩)
  ·exact .inr (.inr ⟨hp.nz,lD hx.2 (hqp hx.1)⟩)
 |under hp hl hc hq=>
  have hbz:aG q=false->bs q b=true:=fun hz=>by
   rcases hq with e|e
   ·rw[e,bO]at hz;cases hz
   ·exact e
  have hbn:aG q=false->aG b=false:=fun hz=>by
   have h1:=iy (hbz hz);rcases h.2 with e|⟨e,_⟩
   ·rw[e,bO]at hz;cases hz
   ·have:=e.1;exact Om (by omega)
  rcases hx with hx|hx|hx
  ·exact .inl hx
  ·exact .inr (.inr ⟨hbn (hcq hx),Tj hx (hbz (hcq hx))⟩)
  ·exact .inr (.inr ⟨hbn hx.1,lD hx.2 (hbz hx.1)⟩)
theorem ab9{p:ab}{v:ByteArray}{n k:Int}(h:ea p ⟨n,v⟩=false)(hk:n<=k):ea p ⟨k,v⟩=false:=X1 hk h
theorem US{v:ByteArray}{n:Int}{x:ab}(hx:x=bZ\/cF x=true):n<=vw v n x/\ea x ⟨vw v n x,v⟩=false:=by
 unfold vw;split
 ·rename_i hc;rw[Qm]at hc;have ha:=hc.2;unfold ea at ha;rw[Qm,Qm]at ha;have hle:n<=x.an:=iy ha.2;split
  ·refine⟨by omega,?_⟩
   unfold ea;rw[Bool.and_eq_false_iff];right
   cases hl:bs ⟨x.an+1,v⟩ x with
   |false=>rfl
   |true=>have:=iy hl;simp only at this;omega
  ·rename_i hn;exact⟨hle,by simpa using hn⟩
 ·rename_i hc;refine⟨Int.le_refl _,?_⟩;rcases hx with rfl|hv
  ·unfold ea;rw[bO];rfl
  ·rw[hv,Bool.true_and]at hc;simpa using hc
theorem Yt{v:ByteArray}{n:Int}{p q:ab}(hp:p=bZ\/cF p=true)(hq:q=bZ\/cF q=true):n<=kh v n p q/\1<=kh v n p q/\lQ p q v (kh v n p q)=false:=by
 unfold kh;obtain⟨h1,h2⟩:=US (v:=v) (n:=bC n 1) hp;obtain⟨h3,h4⟩:=US (v:=v) (n:=vw v (bC n 1) p) hq;have hm:n<=bC n 1/\1<=bC n 1:=by unfold bC;split<;>omega
 refine⟨by omega,by omega,?_⟩
 unfold lQ;rw[h4,Bool.or_false];exact ab9 h2 h3
theorem M4{v:ByteArray}{n:Int}{x:ab}(h:ea x ⟨n,v⟩=false):vw v n x=n:=by
 unfold vw;rw[h,Bool.and_false];rfl
theorem abp{v:ByteArray}{n:Int}{p q:ab}(h1:1<=n)(h:lQ p q v n=false):kh v n p q=n:=by
 unfold lQ at h;rw[Bool.or_eq_false_iff]at h;have hm:bC n 1=n:=by unfold bC;split<;>omega
 unfold kh;rw[hm,M4 h.1,M4 h.2]
theorem rO.valid{p q:ab}(h:rO p q):(p=bZ\/cF p=true)/\(q=bZ\/cF q=true):=
 ⟨h.1.imp id cZ.valid,h.2.imp id fun h=>h.1.valid⟩
theorem Zf{e:al}(hv:aW e=true){x:ab}(hx:x∈said e)(hz:aG x=false):cF x=true:=by
 have hv':=hv;unfold aW gu at hv';unfold said at hx;rw[Qr hv]at hx;rw[Qm,Qm]at hv';have hb:=hv'.2
 by_cases h1:e.bD=1
 ·rw[Qr h1]at hb hx;unfold gw at hb;simp only[Qm,Qn]at hb;obtain⟨⟨⟨⟨⟨⟨⟨⟨hf,hp⟩,hq⟩,_⟩,_⟩,_⟩,_⟩,_⟩,_⟩:=hb;simp only[QA,QR,or_false]at hx;rcases hx with rfl|rfl|rfl
  ·unfold finite at hf;rw[Qm]at hf;exact hf.1
  ·rcases hp with hp|hp
   ·rw[hp]at hz;cases hz
   ·exact hp
  ·rcases hq with hq|hq
   ·rw[hq]at hz;cases hz
   ·exact hq
 ·rw[Qs h1]at hb hx
  have hinf:∀{b:ab},cF b=true->cF ⟨1000000,b.Value⟩=true:=by
   intro b hb;simp only[cF,Qm,Qn,Qi]at hb ⊢;exact⟨⟨.inr trivial,hb.1.2⟩,hb.2⟩
  by_cases h2:e.bD=2
  ·rw[Qr h2]at hb hx;unfold tr at hb;simp only[Qm]at hb;obtain⟨⟨⟨⟨⟨hf,hp⟩,hc⟩,_⟩,_⟩,_⟩:=hb;simp only[QA,QR,or_false]at hx;rcases hx with rfl|rfl
   ·exact hp
   ·unfold finite at hf;rw[Qm]at hf;exact hinf hf.1
  ·rw[Qs h2]at hb hx;simp only[QA,QR,or_false]at hx;subst hx
   by_cases h3:e.bD=3
   ·rw[Qr h3]at hb;unfold zz at hb;simp only[Qm]at hb;exact hinf hb.1.1.1
   ·rw[Qs h3]at hb;cases hb
theorem KI{e:al}(hv:aW e=true):1<=e.af.Value.size/\e.af.Value.size<=200:=by
 have hv':=hv;unfold aW gu at hv';rw[Qm,Qm]at hv';have hb:=hv'.2
 have go:∀{b:ab},cF b=true->1<=b.Value.size/\b.Value.size<=200:=by
  intro b hb;simp only[cF,Qm,Qn,Qi]at hb;exact⟨hb.1.2,hb.2⟩
 have gof:∀{b:ab},finite b=true->1<=b.Value.size/\b.Value.size<=200:=by
  intro b hb;unfold finite at hb;rw[Qm]at hb;exact go hb.1
 by_cases h1:e.bD=1
 ·rw[Qr h1]at hb;unfold gw at hb;simp only[Qm]at hb;exact gof hb.1.1.1.1.1.1.1.1
 ·rw[Qs h1]at hb
  by_cases h2:e.bD=2
  ·rw[Qr h2]at hb;unfold tr at hb;simp only[Qm]at hb;exact gof hb.1.1.1.1.1
  ·rw[Qs h2]at hb
   by_cases h3:e.bD=3
   ·rw[Qr h3]at hb;unfold zz at hb;simp only[Qm]at hb;exact go hb.1.1.1
   ·rw[Qs h3]at hb;cases hb
theorem af3{b:ab}(h:cF b=true):cZ (dD b):=by
 simp only[cF,Qm,Qn,Qi]at h;obtain⟨⟨h1,h2⟩,h3⟩:=h;unfold dD;split
 ·exact⟨(by decide:(1:Int)<=1000),(by decide:(1000:Int)<=1000),h2,h3⟩
 ·exact⟨by omega,by omega,h2,h3⟩
theorem Wn{α:Type}{l:List α}{p:α->Bool}{z:α}:(l.find? p).getD z=z\/((l.find? p).getD z∈l/\p ((l.find? p).getD z)=true):=by
 cases h:l.find? p with
 |none=>exact .inl rfl
 |some x=>exact .inr ⟨List.mem_of_find?_eq_some h,List.find?_some h⟩
theorem GD{m:ak}(h:bn m){x:ab}(hx:x∈ep (bd m)):cF x=true:=by
 obtain⟨e,he,h1,h2⟩:=((lF h.ev.k8.1.aO h.ev.k8.2).2.2.2 x).1 hx;exact Zf (h.kS e he) h1 h2
theorem SR{m:ak}(h:bn m):dZ m=bZ\/(cF (dZ m)=true/\(CE m=eQ\/(dZ m).Value=CE m)/\dL (qm m.ao) (qm m.az) (dZ m)=false/\km m.au.toNat m.aa (bd m) (dZ m)=true):=by
 unfold dZ iO;rcases Wn (l:=ep (bd m)) (p:=vB (km m.au.toNat m.aa (bd m)) m.ao m.az (CE m)) (z:=yw)with e|⟨h1,h2⟩
 ·exact .inl e
 ·right;unfold vB at h2;simp only[Qm,Qn,Bool.not_eq_true',Qi]at h2;exact⟨GD h h1,h2.1.1,h2.1.2,h2.2⟩
theorem xV{m:ak}(h:bn m):dD (dZ m)=bZ\/cZ (dD (dZ m)):=by
 rcases SR h with e|⟨h1,_⟩
 ·left;rw[e];decide
 ·exact .inr (af3 h1)
theorem Jj{m:ak}(h:bn m)(h1:rO m.ao m.az):uq m.ao m.az (dD (dZ m)) (cU m.ao m.az (dD (dZ m))).1 (cU m.ao m.az (dD (dZ m))).2:=afn h1 (xV h)
theorem P2.gw{m:ak}(h:P2 m):rO m.ao m.az:=⟨.inr h.dt.1,.inl h.bU⟩
theorem aeX{m:ak}(h:bn m)(h1:P1 m):P1 (cW m):=by
 unfold cW;rw[Qs (by rw[h1.aS,h1.aM.nz];decide)]
 have hj:=Jj h h1.gw;generalize (cU m.ao m.az (dD (dZ m))).1=p at hj;generalize (cU m.ao m.az (dD (dZ m))).2=q at hj;have hok:=hj.ok h1.gw (xV h);refine⟨h1.aS,h1.aM,hok.1,hok.2,?_,h1.up,h1.bS,?_⟩
 ·rcases h1.dO with e|⟨hf,hp⟩
  ·exact .inl e
  ·exact .inr ⟨hf,hj.mono h1.gw hp⟩
 ·show qe m p q=0\/(1<=qe m p q/\qe m p q<=eR m/\lQ p q m.af.Value (qe m p q)=false);unfold qe
  by_cases hL:m.aQ=0
  ·rw[Qs (fun h=>h.2 hL)];exact .inl hL
  ·rw[Qr ⟨h1.aS,hL⟩];split
   ·exact .inl rfl
   ·rename_i hlt;obtain⟨h2,h3,h4⟩:=Yt (v:=m.af.Value) (n:=m.aQ) hok.valid.1 hok.valid.2;exact .inr ⟨h3,by omega,h4⟩
theorem Yj{m:ak}(h:bn m)(h2:P2 m):P2 (cW m)/\m.ao.an<=(cW m).ao.an/\(cW m).az=bZ:=by
 unfold cW;rw[Qs (by rw[h2.aS,h2.aM.nz];decide)]
 have hv:dD (dZ m)=bZ\/(dD (dZ m)).Value=m.af.Value:=by
  rcases SR h with e|⟨h3,h4,_⟩
  ·left;rw[e];decide
  ·right;have hc:(dD (dZ m)).Value=(dZ m).Value:=by unfold dD;split<;>rfl
   have hvo:CE m=m.af.Value:=Qr h2.aS;rw[hvo]at h4;rw[hc];exact h4.resolve_left h2.aM.ne
 have hj:=Jj h h2.gw;have hlow:∀p q,qe m p q=m.aQ:=fun p q=>Qs (fun h=>by have:=h.1;rw[h2.aS]at this;cases this)
 simp only[hlow];have hok:=hj.ok h2.gw (xV h);generalize (cU m.ao m.az (dD (dZ m))).1=p at hj hok;generalize (cU m.ao m.az (dD (dZ m))).2=q at hj hok;generalize hb:dD (dZ m)=b at hj hv
 have key:cZ p/\p.Value=m.af.Value/\m.ao.an<=p.an/\q=bZ:=by
  cases hj with
  |same=>exact⟨h2.dt.1,h2.dt.2,Int.le_refl _,h2.bU⟩
  |first hp hq=>exact absurd hp (MI h2.dt.1)
  |up hp hl hc=>exact⟨hok.1.resolve_left (fun e=>by have:=iy hl;rw[e]at this;have h9:=h2.dt.1.1;have:(bZ:ab).an=0:=rfl;omega),hc.symm.trans h2.dt.2,iy hl,h2.bU⟩
  |Dl hp hl hc=>
   exfalso;rcases hv with e|e
   ·have:=iy hl;rw[e]at this;have h9:=h2.dt.1.1;have:(bZ:ab).an=0:=rfl;omega
   ·exact hc (h2.dt.2.trans e.symm)
  |under hp hl hc hq=>
   rcases hv with e|e
   ·exact⟨h2.dt.1,h2.dt.2,Int.le_refl _,e⟩
   ·exact absurd (e.trans h2.dt.2.symm) hc
 exact⟨⟨h2.aS,h2.aM,⟨key.1,key.2.1⟩,key.2.2.2,h2.dO,⟨h2.range.1,h2.range.2.1,Int.le_trans h2.range.2.2 key.2.2.1⟩⟩,key.2.2.1,key.2.2.2⟩
theorem SH{m:ak}(h:bn m):bn (cW m):=by
 have hid:m.aJ=3\/aG m.af=true->cW m=m:=fun hc=>Qr hc
 have mk:(P0 (cW m)\/P1 (cW m)\/P2 (cW m)\/P3 (cW m))->bn (cW m):=by
  intro hb;unfold cW at hb ⊢;split at hb
  ·rename_i hc;rw[Qr hc];exact h
  ·rename_i hc;rw[Qs hc];exact⟨h.n0,h.n1,h.bq,h.seq,h.aO,h.sU,h.hv,h.gJ,hb⟩
 rcases h.body with h0|h1|h2|h3
 ·rw[hid (.inr (by rw[h0.aM];exact bO))];exact h
 ·exact mk (.inr (.inl (aeX h h1)))
 ·exact mk (.inr (.inr (.inl (Yj h h2).1)))
 ·rw[hid (.inl h3.aS)];exact h
end Go.Proofs.YtjbfdglebjnelaaGreat
namespace Go.Proofs.YtjbfdglebjnelaaGreat
open Go.TQ
end Go.Proofs.YtjbfdglebjnelaaGreat
namespace Go.Proofs.YtjbfdglebjnelaaGreat
open Go.TQ
theorem tn(q:Int->Bool):∀(r:List Int) (lo:Int),cy q r lo<=lo
 |[],lo=>Int.le_refl _
 |e::r,lo=>by
  rw[cy];split
  ·exact tn q r lo
  ·split
   ·exact Int.le_trans (tn q r e) (by omega)
   ·exact Int.le_refl _
theorem B2(q:Int->Bool):∀(r:List Int) (lo:Int),cy q r lo=lo\/q (cy q r lo)=true/\cy q r lo∈r
 |[],lo=> .inl rfl
 |e::r,lo=>by
  rw[cy];split
  ·exact(B2 q r lo).imp id fun h=>⟨h.1,by simp[h.2]⟩
  ·split
   ·rename_i hq;rcases B2 q r e with h|h
    ·exact .inr ⟨by rw[h];exact hq,by rw[h];simp⟩
    ·exact .inr ⟨h.1,by simp[h.2]⟩
   ·exact .inl rfl
theorem B3(q:Int->Bool)(r:List Int)(lo:Int)(h:∀x∈r,1<=x)(h1:1<=lo):1<=cy q r lo:=by
 rcases B2 q r lo with e|⟨_,e⟩
 ·omega
 ·exact h _ e
section
variable {aC : Nat} {t : aj} {l : List al} (p q : ab)
end
end Go.Proofs.YtjbfdglebjnelaaGreat
namespace Go.Proofs.YtjbfdglebjnelaaGreat
open Go.TQ
theorem aeo{m:ak}(h:bn m){p:al->Bool}(hb:(dB p (bW (bd m))).testBit m.au.toNat=true):aG m.af=false/\p (iB m)=true:=by
 rw[vS,List.any_eq_true]at hb;obtain⟨e,he,hp⟩:=hb;rw[Qm,Qi]at hp;obtain⟨h1,h2⟩:=h.afb ((List.mem_filter.1 he).1) hp.2;rw[<-h2];exact⟨h1,hp.1⟩
theorem WG{m:ak}(h:bn m){b:ab}(hc:jy m.au.toNat m.aa (bd m) b=true):aG m.af=false/\de (iB m) b=true:=by
 have hsm:=lj (aC:=m.au.toNat) h.aO.sm h.ev.k8.1;have hg:=A6 hsm (lh (p:=(de · b)) (lL (bd m)));exact aeo h (hg.inside _ hc).1
theorem XJ{m:ak}(h1:m.aJ=1){b:ab}(ha:de (iB m) b=true):aG b=false/\dL m.ao m.az b=true:=by
 have e:iB m=⟨m.au,m.aT,bC (cQ m).aI 1,m.aa,m.aJ,m.af,m.ao,m.az,m.aQ,eR m⟩:=by unfold iB cQ;rw[Qr h1]
 rw[e]at ha;unfold de at ha;rw[Qm,Qr h1]at ha;simpa using ha
theorem aby{m:ak}(h:bn m)(h1:P1 m):fN m=bZ\/(cZ (fN m)/\bs m.av (fN m)=true/\dL m.ao m.az (fN m)=true):=by
 unfold fN vF;rcases Wn (l:=ep (bd m)) (p:=vD (jy m.au.toNat m.aa (bd m)) m.av) (z:=yw)with e|⟨h2,h3⟩
 ·exact .inl e
 ·right;unfold vD at h3;simp only[Qm,Qi]at h3;exact⟨YE (GD h h2) h3.1.2,h3.1.1,(XJ h1.aS (WG h h3.2).2).2⟩
theorem afm{p q b:ab}{v:ByteArray}{n:Int}(hok:rO p q)(hb:dL p q b=true)(hv:b.Value≠v)(ha:lQ p q v n=false):b.an<=n:=by
 unfold lQ at ha;rw[Bool.or_eq_false_iff]at ha
 have key:∀x:ab,aG x=false->x.Value≠v->ea x ⟨n,v⟩=false->x.an<=n:=by
  intro x hz hx h;unfold ea at h;rw[hz,(iL (a:=x) (b:=⟨n,v⟩)).2 hx,Qp,Bool.and_self,Bool.true_and]at h;exact Mg h
 have hqp:aG q=false->cZ q/\cZ p/\bs q p=true/\q.Value≠p.Value:=fun hz=>by
  rcases hok.2 with e|⟨e1,e2,e3,e4⟩
  ·rw[e,bO]at hz;cases hz
  ·exact⟨e1,e2,e3,iL.1 e4⟩
 rw[BH]at hb;rcases hb with hb|hb|⟨hz,hl⟩
 ·obtain⟨h1,h2,h3⟩:=(kx _ _).1 hb;have:=key p h1 (by rw[h2];exact hv) ha.1
  omega
 ·obtain⟨h1,h2,h3⟩:=(kx _ _).1 hb;have:=key q h1 (by rw[h2];exact hv) ha.2
  omega
 ·obtain⟨e1,e2,e3,e4⟩:=hqp hz;have h5:=iy hl
  by_cases hqv:q.Value=v
  ·have:=key p e2.nz (by rw[<-hqv];exact fun e=>e4 e.symm) ha.1
   have:=iy e3;omega
  ·have:=key q hz hqv ha.2;omega
theorem ah3{m:ak}(h1:P1 m){b:ab}(hb:cZ b)(hl:bs m.av b=true)(hp:dL m.ao m.az b=true):P1 (zX m b)/\(zX m b).ao=m.ao/\(zX m b).az=m.az/\(zX m b).av=b/\m.af.an<=(zX m b).af.an:=by
 unfold zX;have hh:=OQ h1;split
 ·rename_i hlt
  have hhigh:∀L:Int,eR {m with av:=b,af:=b,aQ:=L}=b.an:=by
   intro L;unfold eR;rw[Qr];rw[hb.nz,iS.2 rfl];rfl
  refine⟨⟨h1.aS,hb,h1.dt,h1.bU,.inr ⟨hb,hp⟩,abu b,h1.bS,?_⟩,rfl,rfl,rfl,iy hlt⟩;show(if bM m.af b=true then m.aQ else 0)=0\/(1<=(if bM m.af b=true then m.aQ else 0)/\(if bM m.af b=true then m.aQ else 0)<=eR {m with av:=b,af:=b,aQ:=if bM m.af b=true then m.aQ else 0}/\lQ m.ao m.az b.Value (if bM m.af b=true then m.aQ else 0)=false)
  rw[hhigh];split
  ·rename_i hc;rw[iS]at hc;rcases h1.low with e|⟨h2,h3,h4⟩
   ·exact .inl e
   ·refine .inr ⟨h2,?_,by rw[<-hc];exact h4⟩
    have:=iy hlt;omega
  ·exact .inl rfl
 ·rename_i hlt;have hlt:bs m.af b=false:=by simpa using hlt
  refine⟨⟨h1.aS,h1.aM,h1.dt,h1.bU,.inr ⟨hb,hp⟩,hlt,h1.bS,?_⟩,rfl,rfl,rfl,Int.le_refl _⟩;rcases h1.low with e|⟨h2,h3,h4⟩
  ·exact .inl e
  ·refine .inr ⟨h2,?_,h4⟩;show m.aQ<=eR {m with av:=b}
   have hv:b.Value=m.af.Value:=by
    refine Classical.byContradiction fun hv=> ?_
    have h5:=afm h1.gw hp hv h4;have h6:=iy hl;rcases hh.2.2 with e|⟨e1,e2,e3⟩
    ·omega
    ·
     have e4:bs b m.av=false:=zk.asymm hl;have e5:=hl;rw[wR]at e5;have hbc:b.an=m.av.an:=by omega
     have hlow:m.aQ=m.av.an:=by omega
     have e6:bs ⟨m.aQ,m.af.Value⟩ b=true:=by
      have:(⟨m.aQ,m.af.Value⟩:ab)=m.av:=by rw[hlow,<-e2]
      rw[this];exact hl
     unfold lQ at h4;rw[Bool.or_eq_false_iff]at h4
     have key:∀x:ab,aG x=false->x.Value≠m.af.Value->ea x ⟨m.aQ,m.af.Value⟩=false->bs ⟨m.aQ,m.af.Value⟩ x=false:=by
      intro x hz hx h;unfold ea at h;rw[hz,(iL (a:=x) (b:=⟨m.aQ,m.af.Value⟩)).2 hx,Qp,Bool.and_self,Bool.true_and]at h;exact h
     rw[BH]at hp;rcases hp with hp|hp|⟨hz,hq⟩
     ·obtain⟨g1,g2,g3⟩:=(kx _ _).1 hp;have g4:=key _ g1 (by rw[g2];exact hv) h4.1
      have g5:bs ⟨m.aQ,m.af.Value⟩ m.ao=true:=by
       by_cases e:b=m.ao
       ·rw[<-e];exact e6
       ·exact lD e6 (Ih (IL hp) (fun e'=>e e'.symm))
      rw[g5]at g4;cases g4
     ·obtain⟨g1,g2,g3⟩:=(kx _ _).1 hp;have g4:=key _ g1 (by rw[g2];exact hv) h4.2
      have g5:bs ⟨m.aQ,m.af.Value⟩ m.az=true:=by
       by_cases e:b=m.az
       ·rw[<-e];exact e6
       ·exact lD e6 (Ih (IL hp) (fun e'=>e e'.symm))
      rw[g5]at g4;cases g4
     ·rcases h1.bU with e|⟨f1,f2,f3,f4⟩
      ·rw[e,bO]at hz;cases hz
      ·by_cases hqv:m.az.Value=m.af.Value
       ·have g4:=key _ f2.nz (by rw[<-hqv];exact fun e=>(iL.1 f4) e.symm) h4.1
        rw[lD e6 (lD hq f3)]at g4;cases g4
       ·have g4:=key _ hz hqv h4.2;rw[lD e6 hq]at g4;cases g4
   have hhigh:eR {m with av:=b}=b.an:=by
    unfold eR;rw[Qr];show(!aG b&&bM b m.af)=true;rw[hb.nz,iS.2 hv];rfl
   rw[hhigh];rcases hh.2.2 with e|⟨e1,e2,e3⟩
   ·omega
   ·have:=iy hl;omega
theorem aeq{m:ak}(h1:P1 m){b:ab}(hb:cZ b)(hc:m.av=b):P1 (n2 m b):=by
 unfold n2;split
 ·rename_i hv;obtain⟨hL,hcp,hle⟩:=hv;rw[iS]at hcp;refine⟨h1.aS,h1.aM,h1.dt,h1.bU,h1.dO,h1.up,h1.bS,?_⟩;obtain⟨h2,h3,h4⟩:=Yt (v:=b.Value) (n:=m.af.an) h1.gw.valid.1 h1.gw.valid.2;refine .inr ⟨h3,?_,by show lQ m.ao m.az m.af.Value _=false;rw[hcp];exact h4⟩
  show kh b.Value m.af.an m.ao m.az<=eR {m with aQ:=kh b.Value m.af.an m.ao m.az}
  have hhigh:eR {m with aQ:=kh b.Value m.af.an m.ao m.az}=b.an:=by
   unfold eR;rw[Qr]
   ·show m.av.an=_;rw[hc]
   ·show(!aG m.av&&bM m.av m.af)=true;rw[hc,hb.nz,iS.2 hcp.symm];rfl
  rw[hhigh];exact hle
 ·exact h1
theorem Y5(m:ak)(b:ab):(n2 m b).ao=m.ao/\(n2 m b).az=m.az/\(n2 m b).av=m.av/\(n2 m b).af=m.af:=by
 unfold n2;split<;>exact⟨rfl,rfl,rfl,rfl⟩
theorem sW{m:ak}(h:m.aJ≠1\/aG m.af=true\/aG (fN m)=true):fZ m=m:=Qr h
theorem CS{m m':ak}(h:bn m)(he:m'.au=m.au/\m'.aT=m.aT/\m'.aI=m.aI/\m'.aa=m.aa/\m'.bh=m.bh/\m'.aA=m.aA)(hb:P0 m'\/P1 m'\/P2 m'\/P3 m'):bn m':=by
 obtain⟨e1,e2,e3,e4,e5,e6⟩:=he;exact⟨by rw[e1];exact h.n0,by rw[e1];exact h.n1,by rw[e2];exact h.bq,by rw[e3];exact h.seq,by rw[e4];exact h.aO,by rw[e5];exact h.sU,by rw[e6,e1,e2];exact h.hv,by rw[e6];exact h.gJ,hb⟩
structure gD (m m':ak):Prop where
 aC:m'.au=m.au
 bq:m'.aT=m.aT
 seq:m'.aI=m.aI
 aO:m'.aa=m.aa
 sU:m'.bh=m.bh
 heard:m'.aA=m.aA
theorem gD.refl(m:ak):gD m m:=⟨rfl,rfl,rfl,rfl,rfl,rfl⟩
theorem gD.all{m m':ak}(h:gD m m'):m'.au=m.au/\m'.aT=m.aT/\m'.aI=m.aI/\m'.aa=m.aa/\m'.bh=m.bh/\m'.aA=m.aA:=⟨h.aC,h.bq,h.seq,h.aO,h.sU,h.heard⟩
theorem wQ(m:ak):gD m (cW m):=by unfold cW;split<;>exact⟨rfl,rfl,rfl,rfl,rfl,rfl⟩
theorem afy(m:ak)(b:ab):gD m (zX m b):=by unfold zX;split<;>exact⟨rfl,rfl,rfl,rfl,rfl,rfl⟩
theorem aaG(m:ak)(b:ab):gD m (n2 m b):=by unfold n2;split<;>exact⟨rfl,rfl,rfl,rfl,rfl,rfl⟩
theorem sX(m:ak):gD m (fZ m):=by
 unfold fZ;split
 ·exact .refl m
 ·have h1:=aaG (zX m (fN m)) (fN m);have h2:=afy m (fN m);exact⟨h1.aC.trans h2.aC,h1.bq.trans h2.bq,h1.seq.trans h2.seq,h1.aO.trans h2.aO,h1.sU.trans h2.sU,h1.heard.trans h2.heard⟩
theorem sZ(m:ak):gD m (fK m):=by
 unfold fK IM yB;split
 ·split<;>exact⟨rfl,rfl,rfl,rfl,rfl,rfl⟩
 ·split<;>exact⟨rfl,rfl,rfl,rfl,rfl,rfl⟩
theorem sY(m:ak):gD m (iN m):=by unfold iN Jv;split<;>exact⟨rfl,rfl,rfl,rfl,rfl,rfl⟩
theorem zM(m:ak):gD m (eO m):=by unfold eO;split<;>exact⟨rfl,rfl,rfl,rfl,rfl,rfl⟩
theorem Rm{m:ak}(h:bn m)(h1:P1 m):P1 (fZ m)/\(fZ m=m\/((fZ m).ao=m.ao/\(fZ m).az=m.az/\bs m.av (fZ m).av=true/\m.af.an<=(fZ m).af.an)):=by
 unfold fZ;split
 ·exact⟨h1,.inl rfl⟩
 ·rename_i hc;rcases aby h h1 with e|⟨hf,hl,hp⟩
  ·exact absurd (.inr (.inr (by rw[e];exact bO))) hc
  ·obtain⟨g1,g2,g3,g4,g5⟩:=ah3 h1 hf hl hp;obtain⟨v1,v2,v3,v4⟩:=Y5 (zX m (fN m)) (fN m);exact⟨aeq g1 hf g4,.inr ⟨v1.trans g2,v2.trans g3,by rw[v3,g4];exact hl,by rw[v4];exact g5⟩⟩
theorem SE{m:ak}(h:bn m):bn (fZ m):=by
 rcases h.body with h0|h1|h2|h3
 ·rw[sW (.inr (.inl (by rw[h0.aM];exact bO)))];exact h
 ·exact CS h (sX m).all (.inr (.inl (Rm h h1).1))
 ·rw[sW (.inl (by rw[h2.aS];decide))];exact h
 ·rw[sW (.inl (by rw[h3.aS];decide))];exact h
theorem y7{m:ak}(h:bn m)(v:ByteArray):∀x∈bo (bd m) v,1<=x/\x<=1000:=C2 h.ev.k8.1 h.ev.k8.2 v
theorem ack{m:ak}(h:bn m):∀v∈fJ (bd m),1<=v.size/\v.size<=200:=by
 intro v hv;obtain⟨e,he,h1,h2⟩:=((qN h.ev.k8.1.aO h.ev.k8.2).2.2.2 v).1 hv;rw[h2];exact KI h1
theorem aal{m:ak}(h:bn m){x:ByteArray->Int->Int->Bool}{p q:ab}:(gf x (bd m) p q).1=false\/(cZ (gf x (bd m) p q).2/\(gf x (bd m) p q).2.Value∈fJ (bd m)/\(gf x (bd m) p q).2.an∈bo (bd m) (gf x (bd m) p q).2.Value/\
  lQ p q (gf x (bd m) p q).2.Value (gf x (bd m) p q).2.an=false/\x (gf x (bd m) p q).2.Value (gf x (bd m) p q).2.an (gf x (bd m) p q).2.an=true):=by
 let G:Bool×ab->Prop:=fun s=>s.1=false\/(cZ s.2/\s.2.Value∈fJ (bd m)/\s.2.an∈bo (bd m) s.2.Value/\lQ p q s.2.Value s.2.an=false/\x s.2.Value s.2.an s.2.an=true)
 have inner:∀(v:ByteArray),v∈fJ (bd m)->∀(b:List Int),(∀n∈b,n∈bo (bd m) v)->∀s,G s->G (b.foldl (ft x p q v) s):=by
  intro v hv b
  induction b with
  |nil=>intro _ s hs;exact hs
  |cons n b ih=>
   intro hb s hs;rw[QU];refine ih (fun k hk=>hb k (Qy _ hk)) _ ?_
   unfold ft;split
   ·rename_i hc;simp only[Qm,Bool.not_eq_true']at hc;have hn:=hb n Qx;have h1:=y7 h v n hn;have h2:=ack h v hv;exact .inr ⟨⟨h1.1,h1.2,h2.1,h2.2⟩,hv,hn,hc.1.2,hc.2⟩
   ·exact hs
 have outer:∀(vs:List ByteArray),(∀v∈vs,v∈fJ (bd m))->∀s,G s->G (vs.foldl (fun s v=>(bo (bd m) v).foldl (ft x p q v) s) s):=by
  intro vs
  induction vs with
  |nil=>intro _ s hs;exact hs
  |cons v vs ih=>
   intro hv s hs;rw[QU];exact ih (fun u hu=>hv u (Qy _ hu)) _ (inner v (hv v Qx) _ (fun n hn=>hn) s hs)
 exact outer _ (fun v hv=>hv) (false,⟨0,eQ⟩) (.inl rfl)
structure aiw (m:ak) (v:ByteArray) (lo hi:Int):Prop where
 fin:cZ ⟨hi,v⟩
 lo1:1<=lo
 le:lo<=hi
 val:v∈fJ (bd m)
 top:fT m v hi hi=true
 all:fT m v lo hi=true
theorem OX{m:ak}(h:bn m)(hk:(eX m).2.2.2.1=true):aiw m (eX m).1 (eX m).2.1 (eX m).2.2.1:=by
 rcases aal (x:=fT m) (p:=m.ao) (q:=m.az) h with e|⟨h1,h2,h3,h4,h5⟩
 ·unfold eX nK at hk;rw[e]at hk;cases hk
 ·have hb:(gf (fT m) (bd m) m.ao m.az).1=true:=by
   unfold eX nK at hk;split at hk
   ·assumption
   ·cases hk
  have e:eX m=((gf (fT m) (bd m) m.ao m.az).2.Value,cy (fun n=> !lQ m.ao m.az (gf (fT m) (bd m) m.ao m.az).2.Value n&&fT m (gf (fT m) (bd m) m.ao m.az).2.Value n (gf (fT m) (bd m) m.ao m.az).2.an) (bo (bd m) (gf (fT m) (bd m) m.ao m.az).2.Value).reverse (gf (fT m) (bd m) m.ao m.az).2.an,(gf (fT m) (bd m) m.ao m.az).2.an,true,()):=by
   unfold eX nK;rw[Qr hb]
  rw[e];refine⟨h1,B3 _ _ _ (fun x hx=>(y7 h _ x (List.mem_reverse.1 hx)).1) h1.1,tn _ _ _,h2,h5,?_⟩
  simp only;rcases B2 (fun n=> !lQ m.ao m.az (gf (fT m) (bd m) m.ao m.az).2.Value n&&fT m (gf (fT m) (bd m) m.ao m.az).2.Value n (gf (fT m) (bd m) m.ao m.az).2.an) (bo (bd m) (gf (fT m) (bd m) m.ao m.az).2.Value).reverse (gf (fT m) (bd m) m.ao m.az).2.an with e|⟨e,_⟩
  ·rw[e];exact h5
  ·rw[Qm]at e;exact e.2
theorem WH{m:ak}(hb0:m.af=bZ\/cZ m.af)(hp0:m.ao=bZ\/cZ m.ao){v:ByteArray}{lo hi:Int}(hf:cZ ⟨hi,v⟩)(hlo:1<=lo)(hle:lo<=hi):P2 (IM m v lo hi):=by
 unfold IM
 have hmax:cZ ⟨bC m.af.an hi,v⟩:=by
  rcases hb0 with e|h2
  ·have:bC m.af.an hi=hi:=by
    have h3:=hf.1;simp only at h3;have h4:m.af.an=0:=by rw[e];rfl
    unfold bC;split<;>omega
   rw[this];exact hf
  ·have:bC m.af.an hi=m.af.an\/bC m.af.an hi=hi:=by unfold bC;split<;>simp
   rcases this with e|e<;>rw[e]
   ·exact⟨h2.1,h2.2.1,hf.2.2⟩
   ·exact hf
 have hbv:∀b:ab,b=(if(!bM m.af ⟨hi,v⟩||bs m.af ⟨hi,v⟩)=true then⟨bC m.af.an hi,v⟩else m.af)->cZ b/\b.Value=v:=by
  intro b hb;split at hb
  ·rw[hb];exact⟨hmax,rfl⟩
  ·rename_i hc;rw[hb];simp only[Qn,Bool.not_eq_true',not_or,Bool.not_eq_false]at hc;refine⟨hb0.resolve_left (fun e=> ?_),iS.1 hc.1⟩
   have:=iS.1 hc.1;rw[e]at this;exact hf.ne this.symm
 obtain⟨b1,b2⟩:=hbv _ rfl
 have hpv:∀p:ab,p=(if iY m.ao ⟨hi,v⟩=true then m.ao else⟨hi,v⟩)->cZ p/\p.Value=v/\hi<=p.an:=by
  intro p hp;split at hp
  ·rename_i hc;rw[hp];obtain⟨g1,g2,g3⟩:=(kx _ _).1 hc;refine⟨?_,g2,g3⟩;rcases hp0 with e|e
   ·rw[e,bO]at g1;cases g1
   ·exact e
  ·rw[hp];exact⟨hf,rfl,Int.le_refl _⟩
 obtain⟨p1,p2,p3⟩:=hpv _ rfl;exact⟨rfl,b1,⟨p1,p2.trans b2.symm⟩,rfl,.inr ⟨hf,b2.symm⟩,⟨hlo,hle,p3⟩⟩
theorem Wp{m:ak}(h:bn m)(h2:P2 m):1<=(dX m).1/\(dX m).1<=(dX m).2/\(dX m).2<=1000/\(((dX m).2=m.bb/\(dX m).1<=m.aQ)\/m.bb<(dX m).2):=by
 have hr:=h2.range;have hH:m.bb<=1000:=by have:=h2.dt.1.2.1;omega
 have hb:∀x∈(bo (bd m) m.af.Value).reverse,1<=x:=fun x hx=>(y7 h _ x (List.mem_reverse.1 hx)).1
 unfold dX DF;split
 ·refine⟨B3 _ _ _ hb hr.1,?_,hH,.inl ⟨rfl,tn _ _ _⟩⟩;exact Int.le_trans (tn _ _ _) hr.2.1
 ·rename_i n hn;have hnb:=y7 h _ n (List.mem_reverse.1 (List.mem_of_find?_eq_some hn));have hnp:=List.find?_some hn;simp only[Qm,Qi]at hnp;have h5:1<=cy (fun x=>fT m m.af.Value x n) (bo (bd m) m.af.Value).reverse n:=B3 _ _ _ hb hnb.1
  have h6:=tn (fun x=>fT m m.af.Value x n) (bo (bd m) m.af.Value).reverse n
  simp only;refine⟨B3 _ _ _ hb ?_,?_,hnb.2,.inr hnp.1⟩
  ·split
   ·exact h5
   ·exact hr.1
  ·refine Int.le_trans (tn _ _ _) ?_;split
   ·exact h6
   ·omega
theorem Z3{m:ak}(h2:P2 m){lo hi:Int}(hlo:1<=lo)(hle:lo<=hi)(hhi:hi<=1000):P2 (yB m lo hi):=by
 unfold yB;have hb:=h2.aM;have hp:=h2.dt;have e1:∀c:Int,bC c hi=c\/bC c hi=hi:=fun c=>by unfold bC;split<;>simp
 have e2:∀c:Int,hi<=bC c hi:=fun c=>by unfold bC;split<;>omega
 have mx:∀c:Int,c<=1000->cZ ⟨bC c hi,m.af.Value⟩:=by
  intro c hc;refine⟨by have:=e2 c;simp only;omega,?_,hb.2.2.1,hb.2.2.2⟩
  rcases e1 c with e|e<;>simp only[e]<;>omega
 refine⟨h2.aS,mx _ hb.2.1,⟨?_,?_⟩,h2.bU,.inr ⟨mx _ ?_,rfl⟩,⟨hlo,hle,e2 _⟩⟩
 ·show cZ ⟨bC m.ao.an hi,m.ao.Value⟩;rw[hp.2];exact mx _ hp.1.2.1
 ·exact hp.2
 ·rcases h2.dO with e|e
  ·rw[e];decide
  ·exact e.1.2.1
theorem SN{m:ak}(h:bn m):bn (fK m):=by
 refine CS h (sZ m).all ?_;unfold fK;rcases h.body with h0|h1|h2|h3
 ·rw[Qr h0.aS];split
  ·rename_i hk;have hf:=OX h hk;exact .inr (.inr (.inl (WH (.inl h0.aM) (.inl h0.dt) hf.fin hf.lo1 hf.le)))
  ·exact .inl h0
 ·rw[Qr h1.aS];split
  ·rename_i hk;have hf:=OX h hk;exact .inr (.inr (.inl (WH (.inr h1.aM) h1.dt hf.fin hf.lo1 hf.le)))
  ·exact .inr (.inl h1)
 ·rw[Qs (by rw[h2.aS];decide),Qr h2.aS]
  have:=Wp h h2;exact .inr (.inr (.inl (Z3 h2 this.1 this.2.1 this.2.2.1)))
 ·rw[Qs (by rw[h3.aS];decide),Qs (by rw[h3.aS];decide)]
  exact .inr (.inr (.inr h3))
theorem aha{m:ak}(h:bn m)(hk:(lN m).2.2.1=true):1<=(lN m).1/\(lN m).1<=(lN m).2.1/\(lN m).2.1<=1000/\EZ m m.af.Value (lN m).1 (lN m).2.1=true:=by
 unfold lN vk at hk ⊢;split at hk
 ·rename_i n hn;have hnb:=y7 h _ n (List.mem_reverse.1 (List.mem_of_find?_eq_some hn));have hs:=List.find?_some hn;simp only;refine⟨B3 _ _ _ (fun x hx=>(y7 h _ x (List.mem_reverse.1 hx)).1) hnb.1,tn _ _ _,hnb.2,?_⟩
  rcases B2 (fun x=>EZ m m.af.Value x n) (bo (bd m) m.af.Value).reverse n with e|⟨e,_⟩
  ·rw[e];exact hs
  ·exact e
 ·cases hk
theorem Yl{m:ak}(h:bn m)(h2:P2 m)(hk:(lN m).2.2.1=true):P3 (Jv m (lN m).1 (lN m).2.1):=by
 obtain⟨g1,g2,g3,_⟩:=aha h hk;unfold Jv;exact⟨rfl,⟨by simp only;omega,g3,h2.aM.2.2.1,h2.aM.2.2.2⟩,rfl,rfl,rfl,⟨g1,g2,g3⟩⟩
theorem SL{m:ak}(h:bn m):bn (iN m):=by
 refine CS h (sY m).all ?_;unfold iN;split
 ·rename_i hc;rcases h.body with h0|h1|h2|h3
  ·have:=h0.aS;have:=hc.1;omega
  ·have:=h1.aS;have:=hc.1;omega
  ·exact .inr (.inr (.inr (Yl h h2 hc.2)))
  ·have:=h3.aS;have:=hc.1;omega
 ·exact h.body
theorem ZU{z:ab}:∀{l:List ab},l≠[]->IB z l∈l
 |[],h=>absurd rfl h
 |x::l,_=>by
  show l.foldl (fun a y=>if bs a y=true then y else a) x∈x::l
  suffices key:∀(l:List ab) (a:ab),l.foldl (fun a y=>if bs a y=true then y else a) a=a\/l.foldl (fun a y=>if bs a y=true then y else a) a∈l by
   rcases key l x with e|e
   ·rw[e];exact Qx
   ·exact Qy _ e
  intro l
  induction l with
  |nil=>intro a;exact .inl rfl
  |cons y l ih=>
   intro a;rw[QU];rcases ih (if bs a y=true then y else a)with e|e
   ·rw[e];split
    ·exact .inr Qx
    ·exact .inl rfl
   ·exact .inr (Qy _ e)
theorem aez{t:aj}(h:fu t){s:Nat}(hs:∀k,k<10->s.testBit k=true):ku s t=true:=by
 have hn:∀x:Int,0<=x->x<10->kV s x=true:=by
  intro x h0 h1;unfold kV ez;rw[Qg h0,Qg h1,hs _ (by omega)]
  rfl
 have hc:t.ba.countP (kV s)=t.ba.length:=List.countP_eq_length.2 fun x hx=>hn x (h.nodes x hx).1 (h.nodes x hx).2
 have hi:vV s t.aN=t.aN.length:=by
  rcases h.inner with e|⟨x,h0,h1,e⟩
  ·rw[e];rfl
  ·rw[e]
   have:ku s ⟨1,[x],[]⟩=true:=by
    rw[Jb];simp[List.countP_cons,hn x h0 h1,vV]
   simp[vV,this]
 rw[Jb,hc,hi,Qi];have:=h.th.2;omega
theorem aat{m:ak}(h:bn m){n:Int}(ha:im m n=true):∃e∈m.aA,n<dY e:=by
 refine Classical.byContradiction fun hno=> ?_
 have hz:Cd m n=0:=by
  refine Bk fun k=> ?_
  unfold Cd;rw[vS,Nat.zero_testBit,List.any_eq_false];intro e he;have:¬n<dY e:=fun hlt=>hno ⟨e,he,hlt⟩
  simp[this]
 unfold im um at ha;rw[hz,Qm]at ha
 have hown:ll (fP m.au.toNat m.aa (bd m)) m.au.toNat=m.aa:=by
  unfold ll;rw[Hb h.ev.aC.2 m.aa (bd m) h.ev.aC.2,Qr rfl];rfl
 rw[hown,aez h.aO (fun k hk=>by rw[AX (by omega)];simp[hk])]at ha
 cases ha.2
theorem X5{m:ak}(h:bn m)(h1:m.aJ=1)(hc:m.av=bZ\/cZ m.av)(hh:m.aA≠[]\/m.bh≠eQ\/m.av≠bZ):1<=(dE m).size/\(dE m).size<=200:=by
 unfold dE;split
 ·rename_i hz;rcases hc with e|e
  ·rw[e,bO]at hz;cases hz
  ·exact e.2.2
 ·rename_i hz;have hz:aG m.av=true:=by simpa using hz
  rw[Qs (fun h=>h h1)]
  split
  ·rename_i hp;refine⟨?_,h.sU⟩;rcases Nat.eq_zero_or_pos m.bh.size with e|e
   ·exfalso;apply hp;have:m.bh.data=#[]:=Array.eq_empty_of_size_eq_zero e
    cases hm:m.bh with
    |mk d=>rw[hm]at this;simp only at this;rw[this];rfl
   ·exact e
  ·rename_i hp
   have hne:m.aA≠[]:=by
    rcases hh with e|e|e
    ·exact e
    ·exact absurd e hp
    ·exact absurd (wK.1 hz) e
   have hm:=ZU (z:=bZ) (l:=m.aA.map (·.af)) (by simpa using hne)
   obtain⟨e,he,heq⟩:=QP.1 hm;rw[<-heq];exact KI (h.hv e he).1
theorem abO{e:al}(hv:aW e=true):1<=dY e/\(dY e<=1000\/dY e=1000000):=by
 unfold dY;split
 ·exact⟨by decide,.inr rfl⟩
 ·rename_i h3;have hv':=hv;unfold aW gu at hv';rw[Qm,Qm]at hv';have hb:=hv'.2
  have gof:∀{b:ab},finite b=true->1<=b.an/\b.an<=1000:=by
   intro b hb;unfold finite at hb;rw[Qm,Qi]at hb;have:=(YE hb.1 hb.2);exact⟨this.1,this.2.1⟩
  by_cases h1:e.bD=1
  ·rw[Qr h1]at hb;unfold gw at hb;simp only[Qm]at hb;have:=gof hb.1.1.1.1.1.1.1.1;exact⟨this.1,.inl this.2⟩
  ·rw[Qs h1]at hb
   by_cases h2:e.bD=2
   ·rw[Qr h2]at hb;unfold tr at hb;simp only[Qm]at hb;have:=gof hb.1.1.1.1.1;exact⟨this.1,.inl this.2⟩
   ·rw[Qs h2,Qs h3]at hb;cases hb
theorem abX(m:ak):gp m=1000000\/(m.af.an<gp m/\gp m<1000000/\im m (gp m)=false/\∃e∈m.aA,gp m=dY e):=by
 unfold gp
 suffices key:∀(l:List al),(∀e∈l,e∈m.aA)->∀s,(s=1000000\/(m.af.an<s/\s<1000000/\im m s=false/\∃e∈m.aA,s=dY e))->
   (l.foldl (lp m) s=1000000\/(m.af.an<l.foldl (lp m) s/\l.foldl (lp m) s<1000000/\im m (l.foldl (lp m) s)=false/\∃e∈m.aA,l.foldl (lp m) s=dY e))from key _ (fun e he=>he) _ (.inl rfl)
 intro l
 induction l with
 |nil=>intro _ s hs;exact hs
 |cons x l ih=>
  intro hm s hs;rw[QU];refine ih (fun e he=>hm e (Qy _ he)) _ ?_
  unfold lp;split
  ·rename_i hc;exact .inr ⟨hc.1,by rcases hs with e|e<;>omega,hc.2.2,x,hm x Qx,rfl⟩
  ·exact hs
theorem IP{m:ak}(h:bn m)(hb:0<=m.af.an/\m.af.an<=1000):m.af.an<=bC m.af.an (dC (gp m) 1000)/\bC m.af.an (dC (gp m) 1000)<=1000/\1<=bC m.af.an (dC (gp m) 1000)/\
  (bC m.af.an (dC (gp m) 1000)=m.af.an->m.af.an=1000)/\bC m.af.an (dC (gp m) 1000)=dC (gp m) 1000:=by
 have hmin:dC (gp m) 1000<=1000/\1<=dC (gp m) 1000/\(m.af.an<dC (gp m) 1000\/dC (gp m) 1000=1000):=by
  rcases abX m with e|⟨g1,g2,_,x,hx,g4⟩
  ·rw[e];exact⟨by decide,by decide,.inr (by decide)⟩
  ·have hc:=abO (h.hv x hx).1;rw[<-g4]at hc;have:gp m<=1000:=by omega
   have e:dC (gp m) 1000=gp m:=by unfold dC;split<;>omega
   rw[e];omega
 unfold bC;split<;>omega
theorem Rn{m:ak}(h:bn m)(h1:P0 m\/P1 m)(ha:im m m.af.an=true):P1 (eO m):=by
 have hph:m.aJ=1:=by rcases h1 with h|h<;>exact h.aS
 have hbc:0<=m.af.an/\m.af.an<=1000:=by
  rcases h1 with h|h
  ·rw[h.aM];decide
  ·have:=h.aM;exact⟨by have:=this.1;omega,this.2.1⟩
 obtain⟨c1,c2,c3,_⟩:=IP h hbc;obtain⟨e0,he0,_⟩:=aat h ha
 have hconf:m.av=bZ\/cZ m.av:=by
  rcases h1 with h|h
  ·exact .inl h.dO
  ·exact h.dO.imp id (·.1)
 have hv:=X5 h hph hconf (.inl (List.ne_nil_of_mem he0));unfold eO;rw[Qs (by rw[hph,ha];decide)]
 have hnv:mC m=dE m:=Qr hph;rw[hnv];generalize hn:bC m.af.an (dC (gp m) 1000)=n at c1 c2 c3 ⊢
 have hpo:rO m.ao m.az:=by
  rcases h1 with h|h
  ·exact⟨.inl h.dt,.inl h.bU⟩
  ·exact h.gw
 refine⟨hph,⟨c3,c2,hv.1,hv.2⟩,hpo.1,hpo.2,?_,?_,?_,?_⟩
 ·rcases h1 with h|h
  ·exact .inl h.dO
  ·exact h.dO
 ·show bs ⟨n,dE m⟩ m.av=false;rcases hconf with e|e
  ·rw[e]
   cases hl:bs ⟨n,dE m⟩ bZ with
   |false=>rfl
   |true=>have:=iy hl;have h0:(bZ:ab).an=0:=rfl;simp only at this;omega
  ·have hvc:dE m=m.av.Value:=by unfold dE;rw[Qr e.nz]
   rw[FJ (show(⟨n,dE m⟩:ab).Value=m.av.Value from hvc),Qj]
   rcases h1 with h|h
   ·exact absurd h.dO (MI e)
   ·have:=Mg h.up;simp only;omega
 ·rcases h1 with h|h<;>exact h.bS
 ·show(if dE m=m.af.Value then m.aQ else 0)=0\/(1<=(if dE m=m.af.Value then m.aQ else 0)/\_<=_/\lQ m.ao m.az (dE m) (if dE m=m.af.Value then m.aQ else 0)=false)
  split
  ·rename_i hve;rcases h1 with h|h
   ·exact .inl h.low
   ·rcases h.low with e|⟨g1,g2,g3⟩
    ·exact .inl e
    ·refine .inr ⟨g1,?_,by rw[hve];exact g3⟩
     have:eR {m with aQ:=m.aQ,af:=⟨n,dE m⟩}=eR m:=by
      unfold eR bM;simp only[hve]
     show m.aQ<=eR {m with aQ:=m.aQ,af:=⟨n,dE m⟩}
     rw[this];exact g2
  ·exact .inl rfl
theorem Yk{m:ak}(h:bn m)(h2:P2 m):P2 (eO m):=by
 unfold eO;split
 ·exact h2
 ·obtain⟨c1,c2,c3,_⟩:=IP h ⟨by have:=h2.aM.1;omega,h2.aM.2.1⟩
  have hnv:mC m=m.af.Value:=Qs (by rw[h2.aS];decide)
  rw[hnv,Qr rfl];exact⟨h2.aS,⟨c3,c2,h2.aM.2.2⟩,h2.dt,h2.bU,h2.dO,h2.range⟩
theorem SJ{m:ak}(h:bn m):bn (eO m):=by
 have hid:m.aJ=3\/im m m.af.an=false->eO m=m:=fun hc=>Qr hc
 cases ha:im m m.af.an with
 |false=>rw[hid (.inr ha)];exact h
 |true=>
  refine CS h (zM m).all ?_;rcases h.body with h0|h1|h2|h3
  ·exact .inr (.inl (Rn h (.inl h0) ha))
  ·exact .inr (.inl (Rn h (.inr h1) ha))
  ·exact .inr (.inr (.inl (Yk h h2)))
  ·rw[hid (.inl h3.aS)];exact .inr (.inr (.inr h3))
end Go.Proofs.YtjbfdglebjnelaaGreat
namespace Go.Proofs.YtjbfdglebjnelaaGreat
open Go.TQ
theorem lexLt{a a' b b' B:Nat}(hb:b<B)(h:a<a'):a*B+b<a'*B+b':=by
 have h1:(a+1)*B<=a'*B:=Nat.mul_le_mul_right B h;rw[Nat.add_mul]at h1;omega
theorem zt{a a' b b' B:Nat}(h:a=a')(hb:b<b'):a*B+b<a'*B+b':=by rw[h];omega
theorem FI{a b A B:Nat}(ha:a<A)(hb:b<B):a*B+b<A*B:=by
 have h1:(a+1)*B<=A*B:=Nat.mul_le_mul_right B ha;rw[Nat.add_mul]at h1;omega
theorem cZ.sm{b:ab}(h:cZ b):Sm b:=⟨by have:=h.1;omega,h.2.1,h.2.2.2⟩
theorem abl:Sm bZ:=⟨by decide,by decide,by decide⟩
theorem qO{b:ab}(h:b=bZ\/cZ b):Sm b:=by
 rcases h with rfl|h
 ·exact abl
 ·exact h.sm
theorem RU{b:ab}(h:cZ b):ng bZ<ng b:=ta abl h.sm ((wR _ _).2 (.inl h.1))
 def t1(m:ak):Nat:=2*m.af.an.toNat+(if m.af.Value=mC m then 1 else 0)
 def pq(m:ak):Nat:=ng m.ao*WB+ng m.az
 def r1(m:ak):Nat:=(pq m*WB+ng m.av)*2002+t1 m
def K1:Nat:=(WB*WB)*WB*2002
 def r2(m:ak):Nat:=(((m.bb.toNat*1001+(1000 - m.aQ).toNat)*WB+ng m.ao)*WB+ng m.av)*1001+m.af.an.toNat
def K2:Nat:=((1001*1001)*WB*WB)*1001
 def jx(m:ak):Nat:=if m.aJ=1 then r1 m else if m.aJ=2 then K1+r2 m else K1+K2
def zp(m:ak):Prop:=(m.ao=bZ\/cZ m.ao)/\(m.az=bZ\/cZ m.az)/\(m.av=bZ\/cZ m.av)/\(m.af=bZ\/cZ m.af)
theorem P0.ok{m:ak}(h:P0 m):zp m:=⟨.inl h.dt,.inl h.bU,.inl h.dO,.inl h.aM⟩
theorem P1.ok{m:ak}(h:P1 m):zp m:=⟨h.dt,h.bU.imp id (·.1),h.dO.imp id (·.1),.inr h.aM⟩
theorem P2.ok{m:ak}(h:P2 m):zp m:=⟨.inr h.dt.1,.inl h.bU,h.dO.imp id (·.1),.inr h.aM⟩
theorem Y9{m:ak}(h:zp m):t1 m<2002:=by
 have:m.af.an<=1000:=by
  rcases h.2.2.2 with e|e
  ·rw[e];decide
  ·exact e.2.1
 unfold t1;split<;>omega
theorem ahR{m:ak}(h:zp m):pq m<WB*WB:=FI (ow (qO h.1)) (ow (qO h.2.1))
theorem Zx{m:ak}(h:zp m):r1 m<K1:=FI (FI (ahR h) (ow (qO h.2.2.1))) (Y9 h)
theorem P2.bS{m:ak}(h:P2 m):m.bb<=1000:=by have:=h.range.2.2;have:=h.dt.1.2.1;omega
theorem ad1{m:ak}(h:P2 m):r2 m<K2:=by
 have h1:=h.range;have h2:=h.bS;refine FI (FI (FI (FI (A:=1001) ?_ ?_) (ow h.dt.1.sm)) (ow (qO h.ok.2.2.1))) ?_
 ·omega
 ·omega
 ·have:=h.aM.2.1;omega
theorem xk{m:ak}(h:m.aJ=1):jx m=r1 m:=Qr h
theorem xj{m:ak}(h:m.aJ=2):jx m=K1+r2 m:=by unfold jx;rw[Qs (by omega),Qr h]
theorem aaU{m:ak}(h:m.aJ=3):jx m=K1+K2:=by unfold jx;rw[Qs (by omega),Qs (by omega)]
theorem Yc{m:ak}(h:bn m):jx m<=K1+K2:=by
 rcases h.body with h0|h1|h2|h3
 ·rw[xk h0.aS];have:=Zx h0.ok;omega
 ·rw[xk h1.aS];have:=Zx h1.ok;omega
 ·rw[xj h2.aS];have:=ad1 h2;omega
 ·rw[aaU h3.aS];exact QI _
theorem uq.up_{p q b p' q':ab}(h:rO p q)(hb:b=bZ\/cZ b)(hj:uq p q b p' q'):(p'=p/\q'=q)\/ng p*WB+ng q<ng p'*WB+ng q':=by
 have hok:=hj.ok h hb;have hp:=qO h.1;have hq:Sm q:=qO (h.2.imp id (·.1))
 cases hj with
 |same=>exact .inl ⟨rfl,rfl⟩
 |first h1 h2=>
  subst h1 h2;rcases hb with e|e
  ·exact .inl ⟨e,rfl⟩
  ·exact .inr (lexLt (ow hq) (RU e))
 |up h1 hl hc=>exact .inr (lexLt (ow hq) (ta hp (qO hb) hl))
 |Dl h1 hl hc=>exact .inr (lexLt (ow hq) (ta hp (qO hb) hl))
 |under h1 hl hc hq'=>
  rcases hq' with e|e
  ·subst e;rcases hb with e2|e2
   ·exact .inl ⟨rfl,e2⟩
   ·exact .inr (zt rfl (RU e2))
  ·exact .inr (zt rfl (ta hq (qO hb) e))
theorem yS{m m':ak}(he:gD m m')(h1:m'.aJ=m.aJ)(h2:m'.af=m.af)(h3:m'.ao=m.ao)(h4:m'.az=m.az)(h5:m'.av=m.av)(h6:m'.aQ=m.aQ)(h7:m'.bb=m.bb):m'=m:=by
 obtain⟨e1,e2,e3,e4,e5,e6⟩:=he;cases m;cases m';simp only at*;subst e1 e2 e3 e4 e5 e6 h1 h2 h3 h4 h5 h6 h7;rfl
theorem UW{m m':ak}(he:gD m m')(h:zl m m'=true):m'=m:=by
 unfold zl at h;simp only[Qm,Qi,Sj]at h;obtain⟨⟨⟨⟨⟨⟨h1,h2⟩,h3⟩,h4⟩,h5⟩,h6⟩,h7⟩:=h;exact yS he h1.symm h2.symm h3.symm h4.symm h5.symm h6.symm h7.symm
theorem tU(m:ak):zl m m=true:=by
 unfold zl;simp only[decide_true,Sj.2 rfl,Bool.and_self]
theorem ahQ{m m':ak}(h:zp m)(hlt:pq m<pq m'):r1 m<r1 m':=lexLt (Y9 h) (lexLt (ow (qO h.2.2.1)) hlt)
theorem ajj{m m':ak}(h:zp m)(hpq:pq m=pq m')(hlt:ng m.av<ng m'.av):r1 m<r1 m':=lexLt (Y9 h) (zt hpq hlt)
theorem aji{m m':ak}(hpq:pq m=pq m')(hc:m.av=m'.av)(hlt:t1 m<t1 m'):r1 m<r1 m':=zt (by rw[hpq,hc]) hlt
theorem N4{m:ak}(h1:P1 m):qe m m.ao m.az=m.aQ:=by
 unfold qe;split
 ·rename_i hc;rcases h1.low with e|⟨g1,g2,g3⟩
  ·exact absurd e hc.2
  ·rw[abp g1 g3,Qs (by omega)]
 ·rfl
theorem ai3{m:ak}(h:bn m):cW m=m\/jx m<jx (cW m):=by
 have hid:m.aJ=3\/aG m.af=true->cW m=m:=fun hc=>Qr hc
 rcases h.body with h0|h1|h2|h3
 ·exact .inl (hid (.inr (by rw[h0.aM];exact bO)))
 ·have hj:=(Jj h h1.gw).up_ h1.gw (xV h);have he:cW m={m with ao:=(cU m.ao m.az (dD (dZ m))).1,az:=(cU m.ao m.az (dD (dZ m))).2,aQ:=qe m (cU m.ao m.az (dD (dZ m))).1 (cU m.ao m.az (dD (dZ m))).2}:=Qs (by rw[h1.aS,h1.aM.nz];decide)
  rcases hj with⟨e1,e2⟩|hlt
  ·left;rw[he,e1,e2,N4 h1]
  ·right;rw[xk h1.aS,xk (by rw[he];exact h1.aS)]
   exact ahQ h1.ok (by rw[he];exact hlt)
 ·have hj:=(Jj h h2.gw).up_ h2.gw (xV h);have hk:=Yj h h2;have he:cW m={m with ao:=(cU m.ao m.az (dD (dZ m))).1,az:=(cU m.ao m.az (dD (dZ m))).2,aQ:=qe m (cU m.ao m.az (dD (dZ m))).1 (cU m.ao m.az (dD (dZ m))).2}:=Qs (by rw[h2.aS,h2.aM.nz];decide)
  have hlow:∀p q,qe m p q=m.aQ:=fun p q=>Qs (fun h=>by have:=h.1;rw[h2.aS]at this;cases this)
  rcases hj with⟨e1,e2⟩|hlt
  ·left;rw[he,e1,e2,hlow]
  ·right;rw[xj h2.aS,xj (by rw[he];exact h2.aS)]
   have e2:(cU m.ao m.az (dD (dZ m))).2=m.az:=by
    have h3:=hk.2.2;rw[he]at h3;exact h3.trans h2.bU.symm
   have hp:ng m.ao<ng (cW m).ao:=by
    rw[he];simp only;rw[e2]at hlt;refine Nat.lt_of_not_le fun hle=> ?_
    have:=Nat.mul_le_mul_right WB hle;omega
   have e3:(cW m).bb=m.bb/\(cW m).aQ=m.aQ/\(cW m).av=m.av/\(cW m).af=m.af:=by rw[he];exact⟨rfl,hlow _ _,rfl,rfl⟩
   have:r2 m<r2 (cW m):=by
    unfold r2;rw[e3.1,e3.2.1,e3.2.2.1,e3.2.2.2];exact lexLt (by have:=h2.aM.2.1;omega) (lexLt (ow (qO h2.ok.2.2.1)) (zt rfl hp))
   omega
 ·exact .inl (hid (.inl h3.aS))
theorem ai2{m:ak}(h:bn m):fZ m=m\/jx m<jx (fZ m):=by
 rcases h.body with h0|h1|h2|h3
 ·exact .inl (sW (.inr (.inl (by rw[h0.aM];exact bO))))
 ·obtain⟨g1,g2⟩:=Rm h h1;rcases g2 with e|⟨e1,e2,e3,_⟩
  ·exact .inl e
  ·right;rw[xk h1.aS,xk g1.aS];exact ajj h1.ok (by unfold pq;rw[e1,e2]) (ta (qO h1.ok.2.2.1) (qO g1.ok.2.2.1) e3)
 ·exact .inl (sW (.inl (by rw[h2.aS];decide)))
 ·exact .inl (sW (.inl (by rw[h3.aS];decide)))
theorem Oi(a b:Int):(bC a b=a/\b<=a)\/(bC a b=b/\a<b):=by unfold bC;split<;>omega
theorem ni{a b:ab}(h1:a.an=b.an)(h2:a.Value=b.Value):a=b:=by cases a;cases b;simp only at h1 h2;rw[h1,h2]
theorem ai6{m:ak}(h:bn m):fK m=m\/jx m<jx (fK m):=by
 have hC:m.aJ=1->zp m->fK m=m\/jx m<jx (fK m):=by
  intro hp hok
  by_cases hk:(eX m).2.2.2.1=true
  ·right;have e:fK m=IM m (eX m).1 (eX m).2.1 (eX m).2.2.1:=by unfold fK;rw[Qr hp,Qr hk]
   rw[xk hp,xj (by rw[e];rfl)]
   have:=Zx hok;omega
  ·left;unfold fK;rw[Qr hp,Qs hk]
 rcases h.body with h0|h1|h2|h3
 ·exact hC h0.aS h0.ok
 ·exact hC h1.aS h1.ok
 ·have e:fK m=yB m (dX m).1 (dX m).2:=by unfold fK;rw[Qs (by rw[h2.aS];decide),Qr h2.aS]
  obtain⟨g1,g2,g3,g4⟩:=Wp h h2;have h2':=Z3 h2 g1 g2 g3;rw[e]
  have hr:m.bb.toNat<=1000/\(1000 - m.aQ).toNat<1001/\m.af.an.toNat<1001:=by
   have:=h2.bS;have:=h2.range;have:=h2.aM.2.1;omega
  have hcB:m.av=(yB m (dX m).1 (dX m).2).av\/ng m.av<ng (yB m (dX m).1 (dX m).2).av:=by
   rcases h2.dO with e|⟨hf,hv⟩
   ·right;rw[e]
    exact RU (h2'.dO.resolve_left (fun e=>by
     have h1:=h2'.range;have h3:(yB m (dX m).1 (dX m).2).av.an=bC m.av.an (dX m).2:=rfl;rw[e]at h3;have h4:=Oi m.av.an (dX m).2;have h5:(bZ:ab).an=0:=rfl
     omega)).1
   ·rcases Oi m.av.an (dX m).2 with⟨e1,_⟩|⟨e1,e2⟩
    ·exact .inl (ni e1.symm hv)
    ·right;refine ta hf.sm (qO h2'.ok.2.2.1) ((wR _ _).2 (.inl ?_));show m.av.an<bC m.av.an (dX m).2;omega
  have hpB:m.ao=(yB m (dX m).1 (dX m).2).ao\/ng m.ao<ng (yB m (dX m).1 (dX m).2).ao:=by
   rcases Oi m.ao.an (dX m).2 with⟨e1,_⟩|⟨e1,e2⟩
   ·exact .inl (ni e1.symm rfl)
   ·right;refine ta h2.dt.1.sm h2'.dt.1.sm ((wR _ _).2 (.inl ?_));show m.ao.an<bC m.ao.an (dX m).2;omega
  have hbB:m.af=(yB m (dX m).1 (dX m).2).af\/m.af.an<(yB m (dX m).1 (dX m).2).af.an:=by
   rcases Oi m.af.an (dX m).2 with⟨e1,_⟩|⟨e1,e2⟩
   ·exact .inl (ni e1.symm rfl)
   ·right;show m.af.an<bC m.af.an (dX m).2;omega
  rw[xj h2.aS,xj h2'.aS];have hPs:=ow h2.dt.1.sm;have hCs:=ow (qO h2.ok.2.2.1);have hHi:(yB m (dX m).1 (dX m).2).bb=(dX m).2:=rfl;have hLo:(yB m (dX m).1 (dX m).2).aQ=(dX m).1:=rfl;have fin:r2 m<r2 (yB m (dX m).1 (dX m).2)->K1+r2 m<K1+r2 (yB m (dX m).1 (dX m).2):=fun h=>by omega
  have hrng:=h2.range;rcases g4 with⟨e1,e2⟩|e1
  ·rcases Int.lt_or_eq_of_le e2 with e3|e3
   ·
    refine .inr (fin (lexLt hr.2.2 (lexLt hCs (lexLt hPs (zt ?_ ?_)))))
    ·rw[hHi,e1]
    ·rw[hLo];omega
   ·rcases hpB with hp|hp
    ·rcases hcB with hc|hc
     ·rcases hbB with hb|hb
      ·left;exact yS ⟨rfl,rfl,rfl,rfl,rfl,rfl⟩ rfl hb.symm hp.symm rfl hc.symm e3 e1
      ·refine .inr (fin (zt ?_ (by have:=h2.aM.1;omega)))
       rw[hHi,hLo,<-hp,<-hc,e1,e3]
     ·refine .inr (fin (lexLt hr.2.2 (zt ?_ hc)));rw[hHi,hLo,<-hp,e1,e3]
    ·refine .inr (fin (lexLt hr.2.2 (lexLt hCs (zt ?_ hp))));rw[hHi,hLo,e1,e3]
  ·refine .inr (fin (lexLt hr.2.2 (lexLt hCs (lexLt hPs (lexLt hr.2.1 ?_)))));rw[hHi];omega
 ·left;unfold fK;rw[Qs (by rw[h3.aS];decide),Qs (by rw[h3.aS];decide)]
theorem ai5{m:ak}(h:bn m):iN m=m\/jx m<jx (iN m):=by
 by_cases hc:m.aJ=2/\(lN m).2.2.1=true
 ·right;have e:iN m=Jv m (lN m).1 (lN m).2.1:=Qr hc;rw[xj hc.1,aaU (by rw[e];rfl)]
  rcases h.body with h0|h1|h2|h3
  ·have:=h0.aS;have:=hc.1;omega
  ·have:=h1.aS;have:=hc.1;omega
  ·have:=ad1 h2;omega
  ·have:=h3.aS;have:=hc.1;omega
 ·exact .inl (Qs hc)
theorem ai4{m:ak}(h:bn m):eO m=m\/jx m<jx (eO m):=by
 have hid:m.aJ=3\/im m m.af.an=false->eO m=m:=fun hc=>Qr hc
 cases ha:im m m.af.an with
 |false=>exact .inl (hid (.inr ha))
 |true=>
  have hC:m.aJ=1->zp m->0<=m.af.an/\m.af.an<=1000->eO m=m\/jx m<jx (eO m):=by
   intro hp hok hb;obtain⟨c1,c2,c3,c4,_⟩:=IP h hb;have e:eO m={m with aQ:=if mC m=m.af.Value then m.aQ else 0,af:=⟨bC m.af.an (dC (gp m) 1000),mC m⟩}:=Qs (by rw[hp,ha];decide)
   have hnv:mC (eO m)=mC m:=by
    unfold mC dE;rw[e];simp only[hp,Qt,not_true_eq_false,Qu,ne_eq]
   by_cases hs:bC m.af.an (dC (gp m) 1000)=m.af.an/\mC m=m.af.Value
   ·left;rw[e];refine yS ⟨rfl,rfl,rfl,rfl,rfl,rfl⟩ rfl (ni hs.1 hs.2) rfl rfl rfl ?_ rfl;exact Qr hs.2
   ·right;rw[xk hp,xk (by rw[e];exact hp)]
    refine aji (by rw[e];rfl) (by rw[e]) ?_
    unfold t1;rw[hnv];have hb':(eO m).af=⟨bC m.af.an (dC (gp m) 1000),mC m⟩:=by rw[e]
    rw[hb',Qr rfl];simp only
    by_cases hv:mC m=m.af.Value
    ·rw[Qr hv.symm];have:bC m.af.an (dC (gp m) 1000)≠m.af.an:=fun e=>hs ⟨e,hv⟩
     omega
    ·rw[Qs (fun e=>hv e.symm)]
     omega
  rcases h.body with h0|h1|h2|h3
  ·exact hC h0.aS h0.ok (by rw[h0.aM];decide)
  ·exact hC h1.aS h1.ok ⟨by have:=h1.aM.1;omega,h1.aM.2.1⟩
  ·obtain⟨c1,c2,c3,c4,_⟩:=IP h ⟨by have:=h2.aM.1;omega,h2.aM.2.1⟩
   have hnv:mC m=m.af.Value:=Qs (by rw[h2.aS];decide)
   have e:eO m={m with af:=⟨bC m.af.an (dC (gp m) 1000),m.af.Value⟩}:=by
    unfold eO;rw[Qs (by rw[h2.aS,ha];decide),hnv,Qr rfl]
   rw[e]
   by_cases hs:bC m.af.an (dC (gp m) 1000)=m.af.an
   ·left;exact yS ⟨rfl,rfl,rfl,rfl,rfl,rfl⟩ rfl (ni hs rfl) rfl rfl rfl rfl rfl
   ·right;rw[xj h2.aS,xj (show({m with af:=⟨bC m.af.an (dC (gp m) 1000),m.af.Value⟩}:ak).aJ=2 from h2.aS)]
    have:r2 m<r2 {m with af:=⟨bC m.af.an (dC (gp m) 1000),m.af.Value⟩}:=by
     refine zt rfl ?_;have:=h2.aM.1;show m.af.an.toNat<(bC m.af.an (dC (gp m) 1000)).toNat;omega
    omega
  ·exact .inl (hid (.inl h3.aS))
end Go.Proofs.YtjbfdglebjnelaaGreat
namespace Go.Proofs.YtjbfdglebjnelaaGreat
open Go.TQ
def ait(p:al->Bool):Prop:=∀e s,p {e with aI:=s}=p e
structure Alike (l l':List al):Prop where
 view:∀aC,aC<10->∀t,fP aC t l=fP aC t l'
 X4:∀p,ait p->dB p (bW l)=dB p (bW l')
 bal:ep l=ep l'
 val:fJ l=fJ l'
 iZ:∀v,bo l v=bo l' v
section
variable {l l' : List al} (h : Alike l l')
 include h
theorem Alike.acc{aC:Nat}(hn:aC<10)(t:aj):km aC t l=km aC t l':=by
 funext b
 unfold km;rw[h.view aC hn t,h.X4 _ (fun e s=>rfl),h.X4 _ (fun e s=>rfl)]
theorem Alike.dO{aC:Nat}(hn:aC<10)(t:aj):jy aC t l=jy aC t l':=by
 funext b
 unfold jy;rw[h.view aC hn t,h.X4 _ (fun e s=>rfl)]
theorem Alike.ready{aC:Nat}(hn:aC<10)(t:aj):kR aC t l=kR aC t l':=by
 funext v lo hi
 unfold kR;rw[h.view aC hn t,h.X4 _ (fun e s=>rfl),h.X4 _ (fun e s=>rfl)]
theorem Alike.sure{aC:Nat}(hn:aC<10)(t:aj):ra aC t l=ra aC t l':=by
 funext v lo hi
 unfold ra;rw[h.view aC hn t,h.X4 _ (fun e s=>rfl)]
theorem Alike.next{aC:Nat}(hn:aC<10)(t:aj)(p q:ab)(v:ByteArray):iO aC t l p q v=iO aC t l' p q v:=by
 unfold iO;rw[h.bal,h.acc hn t]
theorem Alike.bS{aC:Nat}(hn:aC<10)(t:aj)(a:ab):vF aC t l a=vF aC t l' a:=by
 unfold vF;rw[h.bal,h.dO hn t]
theorem Alike.y8(x:ByteArray->Int->Int->Bool)(p q:ab):gf x l p q=gf x l' p q:=by
 unfold gf;rw[h.val];congr 1
 funext s v
 rw[h.iZ]
theorem Alike.first(x:ByteArray->Int->Int->Bool)(p q:ab)(s:Bool×ab):nK x l p q s=nK x l' p q s:=by
 unfold nK;rw[h.iZ]
end
theorem Pp{l l':List al}(hl:pI l)(hn:l.length<=1000)(hl':pI l')(hn':l'.length<=1000)
  (h1:∀x,(∃e∈l,x∈said e/\aG x=false)↔∃e∈l',x∈said e/\aG x=false) (h2:∀x,(∃e∈l,aW e=true/\x=e.af.Value)↔∃e∈l',aW e=true/\x=e.af.Value)
  (h3:∀v x,x∈ends v l↔x∈ends v l'):ep l=ep l'/\fJ l=fJ l'/\∀v,bo l v=bo l' v:=by
 obtain⟨_,a2,_,a4⟩:=lF hl.aO hn;obtain⟨_,b2,_,b4⟩:=lF hl'.aO hn';obtain⟨_,c2,_,c4⟩:=qN hl.aO hn;obtain⟨_,d2,_,d4⟩:=qN hl'.aO hn';refine⟨zk.flip.unique a2 b2 fun x=> ?_,nb.unique c2 d2 fun x=> ?_,fun v=> ?_⟩
 ·rw[a4,b4];exact h1 x
 ·rw[c4,d4];exact h2 x
 ·obtain⟨_,e2,_,e4⟩:=il hl.aO hn v;obtain⟨_,f2,_,f4⟩:=il hl'.aO hn' v;refine Bf.unique (e2.imp fun h=>Qg h) (f2.imp fun h=>Qg h) fun x=> ?_
  rw[e4,f4];exact h3 v x
theorem aas{l l':List al}(hl:pI l)(hn:l.length<=1000)(ha:zI l)(h:l.Perm l'):Alike l l':=by
 have hl':pI l':=⟨by rw[<-h.length_eq];exact hl.len,fun e he=>hl.aO e (h.mem_iff.2 he)⟩
 have hm:∀(P:al->Prop),(∃e∈l,P e)↔∃e∈l',P e:=fun P=>⟨fun⟨e,he,hp⟩=>⟨e,h.mem_iff.1 he,hp⟩,fun⟨e,he,hp⟩=>⟨e,h.mem_iff.2 he,hp⟩⟩
 obtain⟨a,b,c⟩:=Pp hl hn hl' (by rw[<-h.length_eq];exact hn) (fun x=>hm _) (fun x=>hm _) (fun v x=>by rw[yR,yR];exact hm _)
 exact⟨fun aC hn t=>Y6 hn t ha h,fun p _=>aaE (XC h) p,a,b,c⟩
theorem ab5{l:List al}(hl:pI l)(hn:l.length<=1000)(f:al->al)(hf:∀e∈l,f e={e with aI:=(f e).aI}/\aW (f e)=aW e):Alike l (l.map f):=by
 have e1:∀e∈l,(f e).au=e.au/\(f e).aa=e.aa/\(f e).af=e.af/\(f e).bD=e.bD/\(f e).ao=e.ao/\(f e).az=e.az/\(f e).aQ=e.aQ/\(f e).bb=e.bb:=fun e he=>by
  have:=(hf e he).1;rw[this];exact⟨rfl,rfl,rfl,rfl,rfl,rfl,rfl,rfl⟩
 have hl':pI (l.map f):=⟨by rw[QC];exact hl.len,fun e he=>by
  obtain⟨x,hx,rfl⟩:=QP.1 he
  rw[(e1 x hx).2.1];exact hl.aO x hx⟩
 have hm:∀(P:al->Prop),(∀e∈l,P e↔P (f e))->((∃e∈l,P e)↔∃e∈l.map f,P e):=fun P hP=>⟨fun⟨e,he,hp⟩=>⟨f e,QP.2 ⟨e,he,rfl⟩,(hP e he).1 hp⟩,fun⟨e,he,hp⟩=>by
  obtain⟨x,hx,rfl⟩:=QP.1 he
  exact⟨x,hx,(hP x hx).2 hp⟩⟩
 have hsaid:∀e∈l,said (f e)=said e:=fun e he=>by
  obtain⟨g1,g2,g3,g4,g5,g6,g7,g8⟩:=e1 e he;unfold said at_
  rw[(hf e he).2,g4,g3,g5,g6]
 have hbnd:∀v,∀e∈l,gY v (f e)=gY v e:=fun v e he=>by
  obtain⟨g1,g2,g3,g4,g5,g6,g7,g8⟩:=e1 e he;unfold gY;simp only[(hf e he).2,g4,g3,g7,g8]
 obtain⟨a,b,c⟩:=Pp hl hn hl' (by rw[QC];exact hn) (fun x=>hm _ fun e he=>by rw[hsaid e he]) (fun x=>hm _ fun e he=>by rw[(hf e he).2,(e1 e he).2.2.1])
  (fun v x=>by rw[yR,yR];exact hm _ fun e he=>by rw[hbnd v e he,(e1 e he).2.2.2.2.2.2.1,(e1 e he).2.2.2.2.2.2.2])
 refine⟨fun aC hn t=> ?_,fun p hp=> ?_,a,b,c⟩
 ·unfold fP;generalize (List.replicate 10 fU).set aC ⟨true,t⟩=ms
  suffices key:∀(k:List al) (ms:List aR),(∀e∈k,e∈l)->k.foldl dv ms=(k.map f).foldl dv ms from key l ms fun e he=>he
  intro k
  induction k with
  |nil=>intro ms _;rfl
  |cons x k ih=>
   intro ms hk;have hx:=hk x Qx
   have:dv ms (f x)=dv ms x:=by
    unfold dv;rw[(hf x hx).2,(e1 x hx).1,(e1 x hx).2.1]
   rw[QD,QU,QU,this];exact ih _ fun e he=>hk e (Qy _ he)
 ·unfold bW
  suffices key:∀(k:List al),(∀e∈k,e∈l)->dB p (k.filter aW)=dB p ((k.map f).filter aW)from key l fun e he=>he
  intro k
  induction k with
  |nil=>intro _;rfl
  |cons x k ih=>
   intro hk;have hx:=hk x Qx
   have hpx:p (f x)=p x:=by
    rw[(hf x hx).1];exact hp x _
   rw[QD,List.filter_cons,List.filter_cons,(hf x hx).2];split
   ·rw[dB,dB,hpx,(e1 x hx).1,ih fun e he=>hk e (Qy _ he)]
   ·exact ih fun e he=>hk e (Qy _ he)
structure gi (m:ak):Prop where
 zero:aG m.af=true->m.aI=0
 pos:aG m.af=false->1<=m.aI
def H8(m:ak):al:=⟨m.au,m.aT,m.aI,m.aa,m.aJ,m.af,m.ao,m.az,m.aQ,if m.aJ=1 then eR m else m.bb⟩
theorem zO(m:ak):eB m=some (H8 m):=by
 unfold eB H8 eR;simp only[aU,aj.eta,cJ,fj,Qa]
 by_cases h1:m.aJ=1
 ·rw[Qg h1,Qr h1];cases aG m.av<;>cases bM m.av m.af<;>rfl
 ·rw[Qh h1,Qs h1];rfl
theorem Ej{m:ak}(h:bn m):H8 m=cQ m:=by
 unfold H8 cQ;rcases h.body with h0|h1|h2|h3
 ·rw[Qr h0.aS,Qr h0.aS]
 ·rw[Qr h1.aS,Qr h1.aS]
 ·rw[Qs (by rw[h2.aS];decide),Qs (by rw[h2.aS];decide),Qr h2.aS,h2.bU]
 ·rw[Qs (by rw[h3.aS];decide),Qs (by rw[h3.aS];decide),Qs (by rw[h3.aS];decide),h3.bU,h3.dt]
theorem Yn{m:ak}(hs:gi m)(hz:aG m.af=false):iB m=cQ m:=by
 unfold iB
 have:bC (cQ m).aI 1=(cQ m).aI:=by
  have:=hs.pos hz;rw[Wq];unfold bC;split<;>omega
 rw[this]
def ua(m:ak):List al:=if aG m.af=true then m.aA else m.aA++[H8 m]
theorem abV{l:List al}(hl:l.length<=1000):eH l=some l:=by
 unfold eH;have h1:bc 176 (List.length ([]:List al)+List.length l)=true:=bu (by simp;omega)
 rw[h1]
 cases l with
 |nil=>simp
 |cons x l=>rfl
theorem H6{m:ak}(h:m.aA.length<=100):dj ⟨m⟩=some (ua m,⟨m⟩):=by
 unfold dj ua;simp only[ak.eta,aj.eta,al.eta,aH.eta,cJ,zO,Qa,abV (show m.aA.length<=1000 by omega)]
 cases aG m.af with
 |true=>rfl
 |false=>
  simp only[Ql,Qq,Qu];rw[bu (by simp;omega)]
  rfl
theorem bn.apart{m:ak}(h:bn m):zI (bd m):=by
 have hs:∀a∈m.aA,∀b∈m.aA,a.au=b.au->a=b:=by
  have:=h.gJ;revert this;generalize m.aA=l;intro hp
  induction l with
  |nil=>intro a ha;cases ha
  |cons x l ih=>
   rw[Q4]at hp;intro a ha b hb e;rcases QA.1 ha with ha'|ha'<;>rcases QA.1 hb with hb'|hb'
   ·rw[ha',hb']
   ·have:=hp.1 b hb';rw[ha']at e;omega
   ·have:=hp.1 a ha';rw[hb']at e;omega
   ·exact ih hp.2 a ha' b hb' e
 intro a ha b hb e;rcases za ha with ha|⟨_,rfl⟩<;>rcases za hb with hb|⟨_,rfl⟩
 ·exact hs a ha b hb e
 ·exact absurd (e.trans (wV m)) (h.hv a ha).2.2.2
 ·exact absurd (e.symm.trans (wV m)) (h.hv b hb).2.2.2
 ·rfl
theorem SO{m:ak}(h:bn m)(hs:gi m):(bd m).Perm (ua m):=by
 unfold bd ua;split
 ·exact .refl _
 ·rename_i hz;rw[Ej h,<-Yn hs (by simpa using hz)]
  exact CW _ _
theorem lC{m:ak}(h:bn m)(hs:gi m):Alike (bd m) (ua m):=aas h.ev.k8.1 h.ev.k8.2 h.apart (SO h hs)
theorem qQ{m:ak}(h:bn m)(hs:gi m):pI (ua m)/\(ua m).length<=1000:=by
 have hp:=SO h hs;have:=h.ev.k8;exact⟨⟨by rw[<-hp.length_eq];exact this.1.len,fun e he=>this.1.aO e (hp.mem_iff.2 he)⟩,by rw[<-hp.length_eq];exact this.2⟩
section
variable {m : ak} (h : bn m) (hs : gi m)
 include h hs
theorem agL(p q:ab)(v:ByteArray):nC m.au m.aa (ua m) p q v=some (iO m.au.toNat m.aa (bd m) p q v):=by
 have:=ae4 h.ev.aC.2 h.ev.aO (qQ h hs).1 (qQ h hs).2 p q v
 rwa [h.ev.aC.1,<-(lC h hs).next h.ev.aC.2]at this
theorem agN(a:ab):kN m.au m.aa (ua m) a=some (vF m.au.toNat m.aa (bd m) a):=by
 have:=ae7 h.ev.aC.2 h.ev.aO (qQ h hs).1 (qQ h hs).2 a
 rwa [h.ev.aC.1,<-(lC h hs).bS h.ev.aC.2]at this
theorem ae9:qH m.au m.aa (ua m) m.ao m.az=some (eX m):=by
 have hl:=qQ h hs;have:=ahu (Vf h.ev.aC.2 h.ev.aO hl.1) hl.1 hl.2 (look_eq h.ev.aC.2 h.ev.aO hl.1) m.ao m.az;rw[h.ev.aC.1,<-(lC h hs).ready h.ev.aC.2,<-(lC h hs).y8,<-(lC h hs).first]at this
 exact this
theorem ahU:pn m.au m.aa (ua m) m.af.Value m.aQ m.bb=some ((dX m).1,(dX m).2,()):=by
 have hl:=qQ h hs;have:=agh (Vf h.ev.aC.2 h.ev.aO hl.1) hl.1 hl.2 (look_eq h.ev.aC.2 h.ev.aO hl.1) m.af.Value m.aQ m.bb;rw[h.ev.aC.1,<-(lC h hs).ready h.ev.aC.2,<-(lC h hs).iZ]at this;exact this
theorem ahT:qI m.au m.aa (ua m) m.af.Value=some (lN m):=by
 have hl:=qQ h hs;have:=ahv (aew h.ev.aC.2 h.ev.aO hl.1) hl.1 hl.2 (look_eq h.ev.aC.2 h.ev.aO hl.1) m.af.Value;rw[h.ev.aC.1,<-(lC h hs).sure h.ev.aC.2,<-(lC h hs).iZ]at this;exact this
end
theorem Sy(v:ByteArray)(n:Int)(p q:ab):nY v n p q=some (kh v n p q):=by
 unfold nY kh;generalize bC n 1=k
 have hst:∀(i:Nat) (x:ab) (k:Int),i<2->[p,q][i]?=some x->
   (fun(v1:Int×Int×Unit)=>
    bif (decide (v1.2.1<((List.length [p,q]:Nat):Int)))then
    aY (fun(v2:Int×Unit)=>some (Sum.inl (v2.1,(aB .i64 v1.2.1 (1:Int)),()))) fun j3=>
    Option.bind (idx [p,q] v1.2.1) fun x4=>
    Option.bind (gm x4) fun r5=>
    Option.bind (bif (!r5)then some true else Option.bind (dV x4 (ab.mk v1.1 v)) fun r6=>some (!r6)) fun b7=>
    bif b7 then j3 (v1.1,())
    else Option.bind (dV x4 (ab.mk x4.an v)) fun r8=>
     bif r8 then j3 ((aB .i64 x4.an (1:Int)),())else j3 (x4.an,())
    else(Option.map Sum.inr (some v1.1):Option ((Int×Int×Unit)⊕Int))) (k,(i:Int),())=some (Sum.inl (vw v k x,((i+1:Nat):Int),())):=by
  intro i x k hi hx;have hd:decide ((i:Int)<((List.length [p,q]:Nat):Int))=true:=Qg (by simp;omega)
  have hw:aB .i64 (i:Int) 1=((i+1:Nat):Int):=bL (by omega) (by omega)
  have hx':idx [p,q] (i:Int)=some x:=by rw[bA];exact hx
  simp only[hd,hw,hx',Qk,aU,Qa,tJ,su];unfold vw
  cases hv:cF x with
  |false=>simp
  |true=>
   have hc:aB .i64 x.an 1=x.an+1:=by
    have:1<=x.an/\x.an<=1000000:=by
     simp only[cF,Qm,Qn,Qi]at hv;omega
    exact bL (by omega) (by omega)
   cases h1:ea x ⟨k,v⟩with
   |false=>simp
   |true=>cases h2:ea x ⟨x.an,v⟩<;>simp[hc]
 refine(bz (hst 0 p k (by omega) rfl)).trans ((bz (hst 1 q _ (by omega) rfl)).trans (bJ ?_))
 rfl
theorem ac3(b:ab):(⟨dC b.an 1000,b.Value⟩:ab)=dD b:=by
 unfold dC dD;split<;>rfl
section
variable {m : ak} (h : bn m) (hs : gi m)
 include h
theorem ZG(hz:aG (dZ m)=true):cW m=m:=by
 have hid:m.aJ=3\/aG m.af=true->cW m=m:=fun hc=>Qr hc
 have hj:cU m.ao m.az (dD (dZ m))=(m.ao,m.az):=by
  have:dD (dZ m)=bZ:=by rw[wK.1 hz];decide
  rw[this];exact Qr bO
 have he:¬(m.aJ=3\/aG m.af=true)->qe m m.ao m.az=m.aQ->cW m=m:=by
  intro hc hl;unfold cW;rw[Qs hc,hj];simp only;rw[hl]
 rcases h.body with h0|h1|h2|h3
 ·exact hid (.inr (by rw[h0.aM];exact bO))
 ·exact he (by rw[h1.aS,h1.aM.nz];decide) (N4 h1)
 ·exact he (by rw[h2.aS,h2.aM.nz];decide) (Qs (fun h=>by have:=h.1;rw[h2.aS]at this;cases this))
 ·exact hid (.inl h3.aS)
 include hs
theorem ZE:kf ⟨m⟩=some ((),⟨cW m⟩):=by
 have hl:m.aA.length<=100:=by have:=h.len;omega
 unfold kf;simp only[ak.eta,aj.eta,aH.eta,cJ,H6 hl,agL h hs,aeV,Sy,zO,Qa,aU,ac3]
 by_cases h3:m.aJ=3\/aG m.af=true
 ·have e:cW m=m:=Qr h3;rw[e];rcases h3 with h3|h3
  ·rw[Qg h3];cases aG m.af<;>rfl
  ·rw[h3];rfl
 ·have hz:aG m.af=false:=by
   cases hz:aG m.af with
   |true=>exact absurd (.inr hz) h3
   |false=>rfl
  have h3':¬m.aJ=3:=fun e=>h3 (.inl e)
  rw[hz,Qh h3'];simp only[Ql,Qa]
  have hmain:∀v:ByteArray,v=CE m->(bif aG (iO m.au.toNat m.aa (bd m) m.ao m.az v)then some ((),(⟨m⟩:aH))else
    Option.bind (bif decide (m.aJ=1)then some (!decide (m.aQ=0))else some false) fun b9=>
    bif b9 then
     bif decide ((H8 ⟨m.au,m.aT,m.aI,m.aa,m.aJ,m.af,(cU m.ao m.az (dD (iO m.au.toNat m.aa (bd m) m.ao m.az v))).1,(cU m.ao m.az (dD (iO m.au.toNat m.aa (bd m) m.ao m.az v))).2,m.av,kh m.af.Value m.aQ (cU m.ao m.az (dD (iO m.au.toNat m.aa (bd m) m.ao m.az v))).1 (cU m.ao m.az (dD (iO m.au.toNat m.aa (bd m) m.ao m.az v))).2,m.bb,m.bh,m.aA⟩).bb<kh m.af.Value m.aQ (cU m.ao m.az (dD (iO m.au.toNat m.aa (bd m) m.ao m.az v))).1 (cU m.ao m.az (dD (iO m.au.toNat m.aa (bd m) m.ao m.az v))).2)then
      some ((),(⟨⟨m.au,m.aT,m.aI,m.aa,m.aJ,m.af,(cU m.ao m.az (dD (iO m.au.toNat m.aa (bd m) m.ao m.az v))).1,(cU m.ao m.az (dD (iO m.au.toNat m.aa (bd m) m.ao m.az v))).2,m.av,0,m.bb,m.bh,m.aA⟩⟩:aH))
     else some ((),(⟨⟨m.au,m.aT,m.aI,m.aa,m.aJ,m.af,(cU m.ao m.az (dD (iO m.au.toNat m.aa (bd m) m.ao m.az v))).1,(cU m.ao m.az (dD (iO m.au.toNat m.aa (bd m) m.ao m.az v))).2,m.av,kh m.af.Value m.aQ (cU m.ao m.az (dD (iO m.au.toNat m.aa (bd m) m.ao m.az v))).1 (cU m.ao m.az (dD (iO m.au.toNat m.aa (bd m) m.ao m.az v))).2,m.bb,m.bh,m.aA⟩⟩:aH))
    else some ((),(⟨⟨m.au,m.aT,m.aI,m.aa,m.aJ,m.af,(cU m.ao m.az (dD (iO m.au.toNat m.aa (bd m) m.ao m.az v))).1,(cU m.ao m.az (dD (iO m.au.toNat m.aa (bd m) m.ao m.az v))).2,m.av,m.aQ,m.bb,m.bh,m.aA⟩⟩:aH)))=some ((),(⟨cW m⟩:aH)):=by
   intro v hv;subst hv;rw[show iO m.au.toNat m.aa (bd m) m.ao m.az (CE m)=dZ m from rfl]
   cases hzn:aG (dZ m)with
   |true=>rw[ZG h hzn];rfl
   |false=>
    simp only[Ql];have e:cW m={m with ao:=(cU m.ao m.az (dD (dZ m))).1,az:=(cU m.ao m.az (dD (dZ m))).2,aQ:=qe m (cU m.ao m.az (dD (dZ m))).1 (cU m.ao m.az (dD (dZ m))).2}:=Qs h3
    rw[e];unfold qe
    by_cases hc:m.aJ=1/\m.aQ≠0
    ·rw[Qg hc.1,Qh hc.2,Qr hc];simp only[Qk,Qa,Qp];have hh:∀(p q:ab) (L:Int),(H8 {m with ao:=p,az:=q,aQ:=L}).bb=eR m:=fun p q L=>by unfold H8;exact Qr hc.1
     rw[hh];split
     ·rename_i hlt;rw[Qg hlt];rfl
     ·rename_i hlt;rw[Qh hlt];rfl
    ·rw[Qs hc]
     by_cases h1:m.aJ=1
     ·rw[Qg h1,Qg (show m.aQ=0 from Classical.byContradiction fun hn=>hc ⟨h1,hn⟩)];rfl
     ·rw[Qh h1];rfl
  by_cases h2:m.aJ=2
  ·rw[Qg h2];exact hmain _ (Qr h2).symm
  ·rw[Qh h2];exact hmain _ (Qs h2).symm
end
theorem aaO(m:ak)(b:ab):j0 ⟨m⟩ b=some ((),⟨{m with aQ:=bif bM m.af b then m.aQ else 0,af:=b}⟩):=by
 unfold j0;simp only[ak.eta,aj.eta,aH.eta,fj,Qa,aU];cases bM m.af b<;>rfl
theorem L8(m:ak)(b:ab){α:Type}(j:ak->Option α):
  (bif decide (m.aQ=(0:Int))then(bif bM m.af b then(bif decide (kh b.Value m.af.an m.ao m.az<=b.an)then j {m with aQ:=kh b.Value m.af.an m.ao m.az}else j m)else j m)else(bif false then(bif decide (kh b.Value m.af.an m.ao m.az<=b.an)then j {m with aQ:=kh b.Value m.af.an m.ao m.az}else j m)else j m))=j (n2 m b):=by
 unfold n2
 by_cases hL:m.aQ=0
 ·rw[Qg hL]
  cases hc:bM m.af b with
  |true=>
   by_cases hle:kh b.Value m.af.an m.ao m.az<=b.an
   ·rw[Qr ⟨hL,rfl,hle⟩,Qg hle];rfl
   ·rw[Qs (fun h=>hle h.2.2),Qh hle];rfl
  |false=>
   rw[Qs (fun h=>by cases h.2.1)];rfl
 ·rw[Qh hL,Qs (fun h=>hL h.1)];rfl
section
variable {m : ak} (h : bn m) (hs : gi m)
 include h hs
theorem agn:mr ⟨m⟩=some ((),⟨fZ m⟩):=by
 have hl:m.aA.length<=100:=by have:=h.len;omega
 unfold mr;simp only[ak.eta,aj.eta,aH.eta,cJ,H6 hl,agN h hs,Sy,aaO,fj,jj,Qa,aU];have hb:vF m.au.toNat m.aa (bd m) m.av=fN m:=rfl;simp only[hb];unfold fZ
 cases hz:aG m.af with
 |true=>rw[Qr (.inr (.inl rfl))];rfl
 |false=>
  by_cases h1:m.aJ=1
  ·rw[Qg h1]
   cases hzb:aG (fN m)with
   |true=>rw[Qr (.inr (.inr rfl))];rfl
   |false=>
    rw[Qs (by simp[h1])]
    simp only[Qo,Ql,Qa];unfold zX
    cases hlt:bs m.af (fN m)with
    |true=>
     simp only[Qk,Qt]
     cases hcp:bM m.af (fN m)with
     |true=>exact L8 {m with av:=fN m,af:=fN m} (fN m) (fun x=>some ((),(⟨x⟩:aH)))
     |false=>exact L8 {m with av:=fN m,af:=fN m,aQ:=0} (fN m) (fun x=>some ((),(⟨x⟩:aH)))
    |false=>
     simp only[Ql,Qq,Qu];exact L8 {m with av:=fN m} (fN m) (fun x=>some ((),(⟨x⟩:aH)))
  ·rw[Qh h1,Qr (.inl h1)];rfl
theorem abR:kI ⟨m⟩=some ((),⟨fK m⟩):=by
 have hl:m.aA.length<=100:=by have:=h.len;omega
 unfold kI;simp only[ak.eta,aj.eta,aH.eta,H6 hl,ae9 h hs,ahU h hs,fj,jj,Qa,aU];unfold fK
 by_cases h1:m.aJ=1
 ·rw[Qg h1,Qr h1];simp only[Qk]
  cases hk:(eX m).2.2.2.1 with
  |false=>rfl
  |true=>
   have hf:=OX h hk
   have hcov:iY m.ao ⟨(eX m).2.2.1,(eX m).1⟩= !(bs m.ao ⟨(eX m).2.2.1,(eX m).1⟩|| !bM m.ao ⟨(eX m).2.2.1,(eX m).1⟩):=by
    cases hc:bM m.ao ⟨(eX m).2.2.1,(eX m).1⟩with
    |false=>unfold iY;rw[hc];simp
    |true=>
     have hv:=iS.1 hc
     have hnz:aG m.ao=false:=by
      cases hz:aG m.ao with
      |false=>rfl
      |true=>rw[wK.1 hz]at hv;exact absurd hv.symm hf.fin.ne
     unfold iY;rw[hc,hnz,FJ hv,Qo,Bool.or_false,Qp,Bool.and_self,Bool.true_and];rw[QW];simp only[Qi,Bool.not_eq_true',Qj];omega
   simp only[Qo,Ql,Qt];unfold IM;rw[hcov];cases bM m.af ⟨(eX m).2.2.1,(eX m).1⟩<;>cases bs m.af ⟨(eX m).2.2.1,(eX m).1⟩<;>cases bs m.ao ⟨(eX m).2.2.1,(eX m).1⟩<;>cases bM m.ao ⟨(eX m).2.2.1,(eX m).1⟩<;>rfl
 ·rw[Qh h1,Qs h1]
  by_cases h2:m.aJ=2
  ·rw[Qg h2,Qr h2];rcases h.body with k|k|k|k
   ·exact absurd k.aS h1
   ·exact absurd k.aS h1
   ·unfold yB;rw[k.dt.2];rfl
   ·have:=k.aS;omega
  ·rw[Qh h2,Qs h2];rfl
theorem adk:kZ ⟨m⟩=some ((),⟨iN m⟩):=by
 have hl:m.aA.length<=100:=by have:=h.len;omega
 unfold kZ iN;simp only[ak.eta,aj.eta,aH.eta,H6 hl,ahT h hs,Qa]
 by_cases h2:m.aJ=2
 ·rw[Qg h2]
  cases hk:(lN m).2.2.1 with
  |false=>rw[Qs (fun h=>by cases h.2)];rfl
  |true=>rw[Qr ⟨h2,rfl⟩];rfl
 ·rw[Qh h2,Qs (fun h=>h2 h.1)];rfl
end
theorem Vp{m:ak}(h:tL m):gQ ⟨m⟩=some (dE m):=by
 have hl:m.aA.length<=1000:=by have:=h.len;omega
 unfold gQ dE;simp only[cJ,Qa]
 cases hz:aG m.av with
 |false=>rfl
 |true=>
  simp only[Qo,Ql,Bool.true_eq_false,Qu]
  by_cases h1:m.aJ=1
  ·rw[Qg h1,Qs (fun h=>h h1)]
   simp only[Qo,Ql]
   by_cases hp:m.bh=eQ
   ·have hp':decide (m.bh=ByteArray.mk #[])=true:=Qg hp;rw[hp',Qs (fun h=>h hp)]
    simp only[Qo,Ql]
    rw[C0 m.aA hl (·.af) (fin:=fun s=>Option.bind (lX s) fun r=>some r.Value) (fun i e s hs he hd hx hw=>by
     simp only[hd,hx,hw,Qk,Qa]
     rw[bu (by simp;omega),Qk]) (fun s hd=>by simp only[hd,Ql]),acP _ (by simp;omega)]
    rfl
   ·have hp':decide (m.bh=ByteArray.mk #[])=false:=Qh hp;rw[hp',Qr hp];rfl
  ·rw[Qh h1,Qr h1];rfl
theorem ae2(l:List al)(hlen:l.length<=1000)(p:al->Bool)(hp:∀e∈l,p e=true->0<=e.au/\e.au<10):pj l (l.map p)=some ((dB p l:Nat):Int):=by
 unfold pj
 suffices key:∀(k i s:Nat),i+k=l.length->s<1024->aF _ ((s:Int),(i:Int),())=some ((s|||dB p (l.drop i):Nat):Int)by
  have:=key l.length 0 0 (by omega) (by omega)
  rw[Nat.zero_or,List.drop_zero]at this;exact this
 intro k
 induction k with
 |zero=>
  intro i s hi hs;obtain rfl:i=l.length:=by omega
  have hd:decide (((l.length:Nat):Int)<((l.length:Nat):Int))=false:=Qh (Int.lt_irrefl _);rw[bJ (r:=(s:Int)) (by simp only[hd,Ql,Qe]),List.drop_length,dB]
  simp
 |succ k ih=>
  intro i s hi hs;have hlt:i<l.length:=by omega
  have hd:decide ((i:Int)<((l.length:Nat):Int))=true:=Qg (by omega)
  have hd2:decide ((i:Int)<(((l.map p).length:Nat):Int))=true:=Qg (by rw[QC];omega)
  have hw:aB .i64 (i:Int) 1=((i+1:Nat):Int):=bL (by omega) (by omega)
  have hx:idx l (i:Int)=some l[i]:=by rw[bA];exact Qv hlt
  have hx2:idx (l.map p) (i:Int)=some (p l[i]):=by rw[bA,QT,Qv hlt];rfl
  rw[QM hlt,dB]
  cases hpe:p l[i]with
  |false=>
   rw[bz (s':=((s:Int),((i+1:Nat):Int),())) (by simp only[hd,hd2,hx,hx2,hw,hpe,Qk,Ql,aU,Qa]),ih (i+1) s (by omega) hs]
   simp
  |true=>
   obtain⟨h0,h1⟩:=hp _ (Q0 hlt) hpe;have hn0:¬l[i].au<0:=by omega
   have d1:decide ((0:Int)<=l[i].au)=true:=Qg h0;have d2:decide (l[i].au<(10:Int))=true:=Qg (by omega)
   rw[bz (s':=(((s|||2 ^ l[i].au.toNat:Nat):Int),((i+1:Nat):Int),())) (by
    simp only[hd,hd2,hx,hx2,hw,hpe,Qk,aU,Qa,d1,d2,hn0,Qu]
    rw[qc hs h0 h1]),ih (i+1) _ (by omega) (CM hs h1)]
   simp[Nat.or_assoc]
theorem acR{m:ak}(h:tL m)(n:Int):lK ⟨m⟩ n=some ((Cd m n:Nat):Int):=by
 have hl:m.aA.length<=1000:=by have:=h.len;omega
 unfold lK;have d1:decide (((m.aA.length:Nat):Int)=((m.aA.length:Nat):Int))=true:=Qg rfl;have d2:decide (0<=((m.aA.length:Nat):Int))=true:=Qg (Int.natCast_nonneg _);have d3:bc 1 m.aA.length=true:=bu (by omega)
 simp only[d1,d2,d3,QV,Bool.and_self,Qk]
 rw[abF m.aA hl (fun e=>decide (n<dY e)) (fin:=fun s=>Option.bind (pj m.aA s) fun r=>some r)
  (fun i e s hsl he hi hd hx hw=>by
   have h1:idx s (i:Int)=some s[i]:=by rw[bA];exact Qv (by omega)
   have h2:s[i]?=some s[i]:=Qv (by omega)
   simp only[hd,hx,hw,h1,h2,Qk,Qa,aj.eta,al.eta,Vx (h.sm e he) (h.valid e he),QV])
  (fun s hd=>by simp only[hd,Ql]) (by simp),ae2 m.aA hl _ (fun e he _=>h.RO e he)]
 rfl
section
variable {m : ak} (h : bn m) (hs : gi m)
 include h hs
theorem S8(n:Int):ir n ⟨fP m.au.toNat m.aa (ua m)⟩ ⟨m⟩=some (im m n):=by
 unfold ir;simp only[ak.eta,aj.eta,aH.eta,acR h.ev,Qa];have hb:=Tu (lj (aC:=m.au.toNat) h.ev.aO (qQ h hs).1) (v:=m.au.toNat) (Tr h.ev n);rw[h.ev.aC.1]at hb;rw[hb,Qa];unfold im;rw[(lC h hs).view _ h.ev.aC.2]
theorem ac9:kY ⟨m⟩=some ((),⟨eO m⟩):=by
 have hl:m.aA.length<=100:=by have:=h.len;omega
 have hv:=YW h.ev.aC.2 h.ev.aO (qQ h hs).1;rw[h.ev.aC.1]at hv;unfold kY eO;simp only[ak.eta,aj.eta,aH.eta,cJ,H6 hl,hv,S8 h hs,Vp h.ev,aaO,Qa,aU]
 by_cases h3:m.aJ=3
 ·rw[Qg h3,Qr (.inl h3)];rfl
 ·rw[Qh h3]
  cases ha:im m m.af.an with
  |false=>rw[Qr (.inr rfl)];rfl
  |true=>
   rw[Qs (by simp[h3])]
   simp only[Ql,Qo]
   have hbc:0<=m.af.an/\m.af.an<=1000:=by
    rcases h.body with k|k|k|k
    ·rw[k.aM];decide
    ·exact⟨by have:=k.aM.1;omega,k.aM.2.1⟩
    ·exact⟨by have:=k.aM.1;omega,k.aM.2.1⟩
    ·exact absurd k.aS h3
   have hz1:aG m.af=true->m.aJ=1:=by
    intro hz;rcases h.body with k|k|k|k
    ·exact k.aS
    ·exact k.aS
    ·rw[k.aM.nz]at hz;cases hz
    ·exact absurd k.aS h3
   refine(WM h.ev (fin:=fun c=>some ((),(⟨{m with aQ:=bif bM m.af ⟨dC c 1000,mC m⟩then m.aQ else 0,af:=⟨dC c 1000,mC m⟩}⟩:aH))) (fun i e s he hd hx hw=> ?_) (fun s hd=> ?_)).trans ?_
   ·simp only[hd,hx,hw,Qk,aU,Qa,aj.eta,al.eta,Vx (h.ev.sm e he) (h.ev.valid e he),S8 h hs];unfold lp
    by_cases c1:m.af.an<dY e
    ·by_cases c2:dY e<s
     ·rw[Qg c1,Qg c2]
      cases c3:im m (dY e)with
      |true=>rw[Qs (by simp)];rfl
      |false=>rw[Qr ⟨c1,c2,rfl⟩];rfl
     ·rw[Qg c1,Qh c2,Qs (fun h=>c2 h.2.1)];rfl
    ·rw[Qh c1,Qs (fun h=>c1 h.1)];rfl
   ·simp only[hd,Ql,aU,Qa];unfold mC
    by_cases h1:m.aJ=1
    ·rw[Qg h1,Qr h1];cases aG m.af<;>rfl
    ·rw[Qh h1,Qs h1]
     cases hz:aG m.af with
     |true=>exact absurd (hz1 hz) h1
     |false=>rfl
   ·have hm:=(IP h hbc).2.2.2.2;rw[hm]
    have hcp:(bif bM m.af ⟨dC (gp m) 1000,mC m⟩then m.aQ else 0)=(if mC m=m.af.Value then m.aQ else 0):=by
     by_cases e:mC m=m.af.Value
     ·rw[Qr e,(iS (a:=m.af) (b:=⟨dC (gp m) 1000,mC m⟩)).2 e.symm];rfl
     ·rw[Qs e,(iL (a:=m.af) (b:=⟨dC (gp m) 1000,mC m⟩)).2 (fun hc=>e hc.symm)];rfl
    rw[hcp]
end
end Go.Proofs.YtjbfdglebjnelaaGreat
namespace Go.Proofs.YtjbfdglebjnelaaGreat
open Go.TQ
theorem WZ{m:ak}(h:bn m)(s:Int):bd {m with aI:=s}=(bd m).map (fun e=>if e.au=m.au then{e with aI:=bC s 1}else e):=by
 have hf:∀e∈m.aA,(if e.au=m.au then{e with aI:=bC s 1}else e)=e:=fun e he=>Qs (h.hv e he).2.2.2
 have hmap:m.aA.map (fun e=>if e.au=m.au then{e with aI:=bC s 1}else e)=m.aA:=by
  rw[List.map_congr_left hf];simp
 have hown:iB {m with aI:=s}={iB m with aI:=bC s 1}:=by
  unfold iB cQ eR;split
  ·rfl
  ·split<;>rfl
 unfold bd;split
 ·exact hmap.symm
 ·rw[hown];have hn:(iB m).au=m.au:=wV m
  suffices key:∀l:List al,(∀e∈l,(if e.au=m.au then{e with aI:=bC s 1}else e)=e)->xM {iB m with aI:=bC s 1} l=(xM (iB m) l).map (fun e=>if e.au=m.au then{e with aI:=bC s 1}else e)from key _ hf
  intro l
  induction l with
  |nil=>
   intro _;simp only[xM,QD,QO,hn,Qt]
  |cons x l ih=>
   intro hx;unfold xM;simp only;split
   ·rw[QD,QD,hn,Qr rfl,hx x Qx,List.map_congr_left (fun e he=>hx e (Qy _ he))]
    simp
   ·rw[QD,hx x Qx,ih fun e he=>hx e (Qy _ he)]
theorem RM{m:ak}(h:bn m){s:Int}(hs:0<=s/\s<=1000000):bn {m with aI:=s}:=by
 refine⟨h.n0,h.n1,h.bq,hs,h.aO,h.sU,h.hv,h.gJ,?_⟩;rcases h.body with k|k|k|k
 ·exact .inl ⟨k.aS,k.aM,k.dt,k.bU,k.dO,k.low,k.bS⟩
 ·exact .inr (.inl ⟨k.aS,k.aM,k.dt,k.bU,k.dO,k.up,k.bS,k.low⟩)
 ·exact .inr (.inr (.inl ⟨k.aS,k.aM,k.dt,k.bU,k.dO,k.range⟩))
 ·exact .inr (.inr (.inr ⟨k.aS,k.aM,k.dt,k.bU,k.dO,k.range⟩))
theorem oT{m:ak}(h:bn m){s:Int}(hs:0<=s/\s<=1000000):Alike (bd m) (bd {m with aI:=s}):=by
 rw[WZ h s];refine ab5 h.ev.k8.1 h.ev.k8.2 _ fun e he=> ?_
 split
 ·rename_i hn;refine⟨rfl,?_⟩;rw[h.kS e he];have hv:=h.kS e he
  have hm:{e with aI:=bC s 1}∈bd {m with aI:=s}:=by
   rw[WZ h s];exact QP.2 ⟨e,he,Qr hn⟩
  exact(RM h hs).kS _ hm
 ·exact⟨rfl,rfl⟩
theorem afx(m:ak)(s:Int)(b:ab):zX {m with aI:=s} b={zX m b with aI:=s}:=by
 unfold zX
 by_cases h:bs m.af b=true
 ·simp only[Qr h]
 ·simp only[Qs h]
theorem aaF(m:ak)(s:Int)(b:ab):n2 {m with aI:=s} b={n2 m b with aI:=s}:=by
 unfold n2
 by_cases h:m.aQ=0/\bM m.af b=true/\kh b.Value m.af.an m.ao m.az<=b.an
 ·simp only[Qr h]
 ·simp only[Qs h]
section
variable {m : ak} (h : bn m) {s : Int} (hs : 0 <= s /\ s <= 1000000)
 include h hs
theorem afe:dZ {m with aI:=s}=dZ m:=((oT h hs).next h.ev.aC.2 m.aa _ _ _).symm
theorem afu:fN {m with aI:=s}=fN m:=((oT h hs).bS h.ev.aC.2 m.aa _).symm
theorem Sr:fT {m with aI:=s}=fT m:=((oT h hs).ready h.ev.aC.2 m.aa).symm
theorem aco:EZ {m with aI:=s}=EZ m:=((oT h hs).sure h.ev.aC.2 m.aa).symm
theorem afH:eX {m with aI:=s}=eX m:=by
 unfold eX;rw[Sr h hs];simp only;rw[<-(oT h hs).y8,<-(oT h hs).first]
theorem afM:dX {m with aI:=s}=dX m:=by
 unfold dX;rw[Sr h hs];simp only;rw[<-(oT h hs).iZ]
theorem afL:lN {m with aI:=s}=lN m:=by
 unfold lN;rw[aco h hs];simp only;rw[<-(oT h hs).iZ]
theorem Tq(n:Int):im {m with aI:=s} n=im m n:=by
 unfold im;simp only;rw[<-(oT h hs).view _ h.ev.aC.2];rfl
theorem af2:gp {m with aI:=s}=gp m:=by
 unfold gp;simp only;congr 1
 funext b e
 unfold lp;simp only[Tq h hs]
theorem SF:cW {m with aI:=s}={cW m with aI:=s}:=by
 unfold cW;simp only[afe h hs];split<;>rfl
theorem SD:fZ {m with aI:=s}={fZ m with aI:=s}:=by
 unfold fZ;simp only[afu h hs];split
 ·rfl
 ·rw[afx,aaF]
theorem SM:fK {m with aI:=s}={fK m with aI:=s}:=by
 unfold fK;simp only[afH h hs,afM h hs];split
 ·split<;>rfl
 ·split<;>rfl
theorem SK:iN {m with aI:=s}={iN m with aI:=s}:=by
 unfold iN;simp only[afL h hs];split<;>rfl
theorem SI:eO {m with aI:=s}={eO m with aI:=s}:=by
 unfold eO;simp only[Tq h hs,af2 h hs];split<;>rfl
end
open Classical in
 def cv(m:ak):ak:=
 if cW m=m then(if fZ m=m then(if fK m=m then(if iN m=m then eO m else iN m)else fK m)else fZ m)else cW m
structure I1 (m:ak):Prop where
 p:cW m=m
 s:fZ m=m
 c:fK m=m
 f:iN m=m
 k:eO m=m
theorem acp{m:ak}(h:cv m=m):I1 m:=by
 unfold cv at h;split at h
 ·split at h
  ·split at h
   ·split at h
    ·exact⟨by assumption,by assumption,by assumption,by assumption,h⟩
    ·contradiction
   ·contradiction
  ·contradiction
 ·contradiction
theorem ada{m:ak}(h:I1 m):cv m=m:=by
 unfold cv;rw[Qr h.p,Qr h.s,Qr h.c,Qr h.f,h.k]
theorem E0{m:ak}{Q:ak->Prop}(h1:Q (cW m))(h2:Q (fZ m))(h3:Q (fK m))(h4:Q (iN m))(h5:Q (eO m)):Q (cv m):=by
 unfold cv;split
 ·split
  ·split
   ·split
    ·exact h5
    ·exact h4
   ·exact h3
  ·exact h2
 ·exact h1
theorem zJ{m:ak}(h:bn m):bn (cv m):=E0 (SH h) (SE h) (SN h) (SL h) (SJ h)
theorem zK(m:ak):gD m (cv m):=E0 (wQ m) (sX m) (sZ m) (sY m) (zM m)
theorem UR{m:ak}(h:bn m):cv m=m\/jx m<jx (cv m):=E0 (Q:=fun x=>x=m\/jx m<jx x) (ai3 h) (ai2 h) (ai6 h) (ai5 h) (ai4 h)
theorem ajl(m:ak):(cW m).af=m.af:=by unfold cW;split<;>rfl
theorem Ll{m:ak}(h:bn m)(hz:aG m.af=false):aG (cv m).af=false:=by
 have hb:P1 m\/P2 m\/P3 m:=h.body.resolve_left fun k=>by rw[k.aM,bO]at hz;cases hz
 refine E0 (Q:=fun x=>aG x.af=false) (by rw[ajl];exact hz) ?_ ?_ ?_ ?_
 ·rcases hb with k|k|k
  ·exact(Rm h k).1.aM.nz
  ·rw[sW (.inl (by rw[k.aS];decide))];exact hz
  ·rw[sW (.inl (by rw[k.aS];decide))];exact hz
 ·unfold fK;rcases hb with k|k|k
  ·rw[Qr k.aS];split
   ·rename_i hk;have hf:=OX h hk;exact(WH (.inr k.aM) k.dt hf.fin hf.lo1 hf.le).aM.nz
   ·exact hz
  ·rw[Qs (by rw[k.aS];decide),Qr k.aS]
   obtain⟨g1,g2,g3,_⟩:=Wp h k;exact(Z3 k g1 g2 g3).aM.nz
  ·rw[Qs (by rw[k.aS];decide),Qs (by rw[k.aS];decide)];exact hz
 ·unfold iN;split
  ·rename_i hc;rcases hb with k|k|k
   ·have:=k.aS;have:=hc.1;omega
   ·exact(Yl h k hc.2).aM.nz
   ·have:=k.aS;have:=hc.1;omega
  ·exact hz
 ·cases ha:im m m.af.an with
  |false=>
   have:eO m=m:=Qr (.inr ha);rw[this];exact hz
  |true=>
   rcases hb with k|k|k
   ·exact(Rn h (.inr k) ha).aM.nz
   ·exact(Yk h k).aM.nz
   ·have:eO m=m:=Qr (.inl k.aS);rw[this];exact hz
def c7(m:ak):ak:=if aG m.af=false then{m with aI:=bC m.aI 1}else m
theorem Yp{m:ak}(h:bn m):0<=bC m.aI 1/\bC m.aI 1<=1000000:=by
 have:=h.seq;unfold bC;split<;>omega
theorem FB{m:ak}(h:bn m):bn (c7 m):=by
 unfold c7;split
 ·exact RM h (Yp h)
 ·exact h
theorem Jm{m:ak}(h:aG m.af=true->m.aI=0):gi (c7 m):=by
 unfold c7;split
 ·rename_i hz;exact⟨fun e=>(by rw[show({m with aI:=bC m.aI 1}:ak).af=m.af from rfl,hz]at e;cases e),fun _=>by show 1<=bC m.aI 1;unfold bC;split<;>omega⟩
 ·rename_i hz;exact⟨h,fun e=>absurd e hz⟩
theorem afJ{m:ak}(h:bn m)(hf:I1 m){s:Int}(hs:0<=s/\s<=1000000):I1 {m with aI:=s}:=
 ⟨by rw[SF h hs,hf.p],by rw[SD h hs,hf.s],by rw[SM h hs,hf.c],by rw[SK h hs,hf.f],by rw[SI h hs,hf.k]⟩
theorem acY{m:ak}(h:bn m)(hf:I1 m):I1 (c7 m):=by
 unfold c7;split
 ·exact afJ h hf (Yp h)
 ·exact hf
theorem aff{m:ak}(hs:gi m):c7 m=m:=by
 unfold c7;split
 ·rename_i hz;have:=hs.pos hz;have e:bC m.aI 1=m.aI:=by unfold bC;split<;>omega
  rw[e]
 ·rfl
theorem acz(m:ak):jx (c7 m)=jx m:=by
 unfold c7;split<;>rfl
theorem VA{m:ak}(h:0<=m.aI):dp ⟨m⟩=some ((),⟨c7 m⟩):=by
 unfold dp c7;simp only[ak.eta,aj.eta,aH.eta,cJ,Qa]
 cases hz:aG m.af with
 |true=>rfl
 |false=>
  simp only[Qp,Qk,Qa,Qt]
  by_cases hs:m.aI=0
  ·have e:bC m.aI 1=1:=by unfold bC;split<;>omega
   rw[Qg hs,e];rfl
  ·have e:bC m.aI 1=m.aI:=by unfold bC;split<;>omega
   rw[Qh hs,e];rfl
theorem vd{m m':ak}(he:gD m m'):
  (decide (m'.aJ=m.aJ)&&(decide (m'.aQ=m.aQ)&&(decide (m'.bb=m.bb)&&(decide (m'.af.an=m.af.an)&&(decide (m'.af.Value=m.af.Value)&&(decide (m'.ao.an=m.ao.an)&&(decide (m'.ao.Value=m.ao.Value)&&(decide (m'.az.an=m.az.an)&&(decide (m'.az.Value=m.az.Value)&&(decide (m'.av.an=m.av.an)&&(decide (m'.av.Value=m.av.Value)&&true)))))))))))=true↔m'=m:=by
 simp only[Qm,Qi];constructor
 ·rintro⟨h1,h2,h3,h4,h5,h6,h7,h8,h9,h10,h11,_⟩;exact yS he h1 (ni h4 h5) (ni h6 h7) (ni h8 h9) (ni h10 h11) h2 h3
 ·rintro rfl;simp
open Classical in
theorem agp{m:ak}(h:bn m)(hs:gi m):mu ⟨m⟩=some (if cv m=m then(false,⟨m⟩)else(true,⟨c7 (cv m)⟩)):=by
 have hnum:∀{x:ak},bn x->dp ⟨x⟩=some ((),⟨c7 x⟩):=fun hx=>VA hx.seq.1
 unfold mu;simp only[ak.eta,aj.eta,aH.eta,fC,Qa,ZE h hs]
 by_cases hP:cW m=m
 ·simp only[(vd (wQ m)).2 hP,Bool.xor_true,Qo,Ql,show xor true true=false from rfl]
  rw[hP,agn h hs];simp only[Qa]
  by_cases hS:fZ m=m
  ·simp only[(vd (sX m)).2 hS,Ql,show xor true true=false from rfl]
   rw[hS,abR h hs];simp only[Qa]
   by_cases hC:fK m=m
   ·simp only[(vd (sZ m)).2 hC,Ql,show xor true true=false from rfl]
    rw[hC,adk h hs];simp only[Qa]
    by_cases hF:iN m=m
    ·simp only[(vd (sY m)).2 hF,Ql,show xor true true=false from rfl]
     rw[hF,ac9 h hs];simp only[Qa];have e:cv m=eO m:=by unfold cv;rw[Qr hP,Qr hS,Qr hC,Qr hF]
     rw[e]
     by_cases hK:eO m=m
     ·simp only[(vd (zM m)).2 hK,Ql,show xor true true=false from rfl]
      rw[Qr hK,hK]
     ·have hb:=mt (vd (zM m)).1 hK;rw[QX]at hb;simp only[hb,Qk,show xor true false=true from rfl]
      rw[hnum (SJ h),Qs hK];rfl
    ·have e:cv m=iN m:=by unfold cv;rw[Qr hP,Qr hS,Qr hC,Qs hF]
     have hb:=mt (vd (sY m)).1 hF;rw[QX]at hb;simp only[hb,Qk,show xor true false=true from rfl]
     rw[hnum (SL h),e,Qs hF];rfl
   ·have e:cv m=fK m:=by unfold cv;rw[Qr hP,Qr hS,Qs hC]
    have hb:=mt (vd (sZ m)).1 hC;rw[QX]at hb;simp only[hb,Qk,show xor true false=true from rfl]
    rw[hnum (SN h),e,Qs hC];rfl
  ·have e:cv m=fZ m:=by unfold cv;rw[Qr hP,Qs hS]
   have hb:=mt (vd (sX m)).1 hS;rw[QX]at hb;simp only[hb,Qk,show xor true false=true from rfl]
   rw[hnum (SE h),e,Qs hS];rfl
 ·have e:cv m=cW m:=by unfold cv;rw[Qs hP]
  have hb:=mt (vd (wQ m)).1 hP;rw[QX]at hb;simp only[hb,Qk,show xor true false=true from rfl]
  rw[hnum (SH h),e,Qs hP];rfl
structure MX (R:ak->Prop) (m m':ak):Prop where
 inv:bn m'
 seq:gi m'
 env:m'.au=m.au/\m'.aT=m.aT/\m'.aa=m.aa/\m'.bh=m.bh/\m'.aA=m.aA
 num:m'.aI=m.aI\/(m.aI=0/\m'.aI=1)
 nz:aG m.af=false->aG m'.af=false
 rel:R m'
 fix:I1 m'
theorem ab6{R:ak->Prop}(hR1:∀m,bn m->R m->R (cv m))(hR2:∀m,R m->R (c7 m)){m:ak}(h:bn m)(hs:aG m.af=true->m.aI=0)(hr:R m):Yd (iJ ⟨m⟩) fun q=>∃m',q=((),⟨m'⟩)/\MX R m m':=by
 unfold iJ;simp only[ak.eta,aj.eta,aH.eta,VA h.seq.1,Qa]
 have num1:∀{x:ak},bn x->(c7 x).aI=x.aI\/(x.aI=0/\(c7 x).aI=1):=fun{x} hx=>by
  have:=hx.seq;unfold c7;split
  ·show bC x.aI 1=x.aI\/(x.aI=0/\bC x.aI 1=1);unfold bC;split<;>omega
  ·exact .inl rfl
 have env1:∀x:ak,(c7 x).au=x.au/\(c7 x).aT=x.aT/\(c7 x).aa=x.aa/\(c7 x).bh=x.bh/\(c7 x).aA=x.aA/\(c7 x).af=x.af:=fun x=>by
  unfold c7;split<;>exact⟨rfl,rfl,rfl,rfl,rfl,rfl⟩
 refine Yd.down (fun s=>∃x,s=((⟨x⟩:aH),())/\bn x/\gi x/\R x/\(x.au=m.au/\x.aT=m.aT/\x.aa=m.aa/\x.bh=m.bh/\x.aA=m.aA)/\(x.aI=m.aI\/(m.aI=0/\x.aI=1))/\(aG m.af=false->aG x.af=false)) (fun s=>K1+K2 - jx s.1.ai) ?_ ⟨c7 m,rfl,FB h,Jm hs,hR2 _ hr,⟨(env1 m).1,(env1 m).2.1,(env1 m).2.2.1,(env1 m).2.2.2.1,(env1 m).2.2.2.2.1⟩,num1 h,fun hz=>by rw[(env1 m).2.2.2.2.2];exact hz⟩
 rintro s ⟨x,rfl,hx,hsx,hrx,hex,hnx,hzx⟩;simp only[agp hx hsx,Qa]
 by_cases hst:cv x=x
 ·rw[Qr hst];exact .some ⟨x,rfl,⟨hx,hsx,hex,hnx,hzx,hrx,acp hst⟩⟩
 ·rw[Qs hst];have hi:=zJ hx;have hv:=zK x;have hup:=(UR hx).resolve_left hst;refine .some ⟨⟨c7 (cv x),rfl,FB hi,Jm ?_,hR2 _ (hR1 _ hx hrx),?_,?_,?_⟩,?_⟩
  ·intro hz;rw[hv.seq];refine hsx.zero ?_
   cases hzz:aG x.af with
   |true=>rfl
   |false=>rw[Ll hx hzz]at hz;cases hz
  ·obtain⟨e1,e2,e3,e4,e5,_⟩:=env1 (cv x);exact⟨e1.trans (hv.aC.trans hex.1),e2.trans (hv.bq.trans hex.2.1),e3.trans (hv.aO.trans hex.2.2.1),e4.trans (hv.sU.trans hex.2.2.2.1),e5.trans (hv.heard.trans hex.2.2.2.2)⟩
  ·have h1:=num1 hi;rw[hv.seq]at h1;rcases h1 with e|⟨e1,e2⟩
   ·rw[e];exact hnx
   ·right;rcases hnx with e3|⟨_,e3⟩
    ·exact⟨by rw[<-e3];exact e1,e2⟩
    ·omega
  ·intro hz;rw[(env1 (cv x)).2.2.2.2.2];exact Ll hx (hzx hz)
  ·have h1:=Yc hi;show K1+K2 - jx (c7 (cv x))<K1+K2 - jx x;rw[acz];omega
end Go.Proofs.YtjbfdglebjnelaaGreat
namespace Go.Proofs.YtjbfdglebjnelaaGreat
open Go.TQ
theorem aar{α:Type}{s t:List α}(hl:s.length=t.length)(hn:s.length<=1000000){step:Int×Unit->Option ((Int×Unit)⊕Bool)}
  (h1:∀(i:Nat) (h:i<s.length) (h':i<t.length),decide ((i:Int)<((s.length:Nat):Int))=true->idx s (i:Int)=some s[i]->idx t (i:Int)=some t[i]->aB .i64 (i:Int) 1=((i+1:Nat):Int)->∃b:Bool,step ((i:Int),())=some (bif b then .inl (((i+1:Nat):Int),())else .inr false)/\(b=true↔s[i]=t[i]))
  (h2:decide (((s.length:Nat):Int)<((s.length:Nat):Int))=false->step (((s.length:Nat):Int),())=some (.inr true)):∃b,aF step (0,())=some b/\(b=true↔s=t):=by
 suffices key:∀(k i:Nat),i+k=s.length->∃b,aF step ((i:Int),())=some b/\(b=true↔s.drop i=t.drop i)from by simpa using key s.length 0 (by omega)
 intro k
 induction k with
 |zero=>
  intro i hi;obtain rfl:i=s.length:=by omega
  refine⟨true,bJ (h2 (Qh (Int.lt_irrefl _))),?_⟩;rw[List.drop_eq_nil_of_le (by omega),List.drop_eq_nil_of_le (by omega)]
  simp
 |succ k ih=>
  intro i hi;have hi':i<s.length:=by omega
  have hi'':i<t.length:=by omega
  obtain⟨b,h3,h4⟩:=h1 i hi' hi'' (Qg (by omega)) (by rw[bA];exact Qv hi') (by rw[bA];exact Qv hi'') (bL (by omega) (by omega))
  rw[QM hi',QM hi'',List.cons.injEq]
  cases b with
  |false=>
   refine⟨false,bJ h3,?_⟩;simp only[Qq,false_iff]at h4 ⊢;exact fun h=>h4 h.1
  |true=>
   obtain⟨b,h5,h6⟩:=ih (i+1) (by omega)
   refine⟨b,(bz h3).trans h5,?_⟩;rw[h6];exact⟨fun h=>⟨h4.1 rfl,h⟩,fun h=>h.2⟩
theorem VP{α:Type}{s t:List α}(h:s.length≠t.length):(false=true↔s=t):=by
 simp only[Qq,false_iff];exact fun h1=>h (by rw[h1])
 def aef(a0:List Int)(a1:List Int):Option Bool:=
 bif (!decide (((List.length a0:Nat):Int)=((List.length a1:Nat):Int)))then
 some false
 else
 aF (fun(v1:Int×Unit)=>
 bif (decide (v1.1<((List.length a0:Nat):Int)))then
 Option.bind (idx a0 v1.1) fun x2=>
 Option.bind (idx a1 v1.1) fun x3=>
 bif (!decide (x2=x3))then
 Option.map Sum.inr (some false)
 else
 some (Sum.inl ((aB .i64 v1.1 (1:Int)),()))
 else
 Option.map Sum.inr (some true)) ((0:Int),())
theorem ad9(s t:List Int)(h:s.length<=1000000):∃b,aef s t=some b/\(b=true↔s=t):=by
 unfold aef
 by_cases hl:s.length=t.length
 ·rw[Qg (by omega:((s.length:Nat):Int)=((t.length:Nat):Int)),Qo,Ql]
  refine aar hl h (fun i hi hi' hd hx hy hw=> ?_) (fun hd=> ?_)
  ·refine⟨decide (s[i]=t[i]),?_,by simp⟩
   simp only[hd,hx,hy,hw,Qk,Qa];cases decide (s[i]=t[i])<;>rfl
  ·simp only[hd,Ql];rfl
 ·rw[Qh (by omega:¬((s.length:Nat):Int)=((t.length:Nat):Int)),Qp,Qk]
  exact⟨false,rfl,VP hl⟩
theorem agW(s t:List Int)(h:s.length<=1000000):∃b,Ck s t=some b/\(b=true↔s=t):=ad9 s t h
theorem ah0(s t:List Int)(h:s.length<=1000000):∃b,pF s t=some b/\(b=true↔s=t):=ad9 s t h
theorem Sb(a b:aj):a=b↔a.aL=b.aL/\a.ba=b.ba/\a.aN=b.aN:=by
 cases a;cases b;simp
theorem aht{n:Nat}:∀{a b:aj},SizeOf.sizeOf a<n->c5 a->∃r,Cg n (a,b,())=some r/\(r=true↔a=b):=by
 induction n with
 |zero=>intro a b h;omega
 |succ n ih=>
  intro a b hs hm;show∃r,yo (Cg n) a b=some r/\(r=true↔a=b);have hl:=hm.len;have hns:=hm.nodes;obtain⟨r,h1,h2⟩:=agW a.ba b.ba hns;rw[Sb];unfold yo
  by_cases ht:a.aL=b.aL
  ·rw[Qg ht];simp only[Qo,Ql,h1,Qa]
   cases r with
   |false=>
    simp only[Qp,Qk,Qa];refine⟨false,rfl,?_⟩;simp only[Qq,false_iff]at h2 ⊢;exact fun h=>h2 h.2.1
   |true=>
    simp only[Qo,Ql,Qa]
    by_cases hi:a.aN.length=b.aN.length
    ·rw[Qg (by omega:((a.aN.length:Nat):Int)=((b.aN.length:Nat):Int)),Qo,Ql]
     have key:∀step:Int×Unit->Option ((Int×Unit)⊕Bool),(∃r,aF step (0,())=some r/\(r=true↔a.aN=b.aN))->∃r,aF step (0,())=some r/\(r=true↔a.aL=b.aL/\a.ba=b.ba/\a.aN=b.aN):=by
      rintro step ⟨r,h3,h4⟩;exact⟨r,h3,by rw[h4];exact⟨fun h=>⟨ht,h2.1 rfl,h⟩,fun h=>h.2.2⟩⟩
     refine key _ (aar hi hl (fun i hi hi' hd hx hy hw=> ?_) (fun hd=> ?_))
     ·have hu:=Q0 hi;obtain⟨r,h3,h4⟩:=ih (a:=a.aN[i]) (b:=b.aN[i]) (by have:=pC hu;omega) (hm.inner _ hu)
      refine⟨r,?_,h4⟩;simp only[hd,hx,hy,hw,Qk,Qa,aj.eta,h3];cases r<;>rfl
     ·simp only[hd,Ql];rfl
    ·rw[Qh (by omega:¬((a.aN.length:Nat):Int)=((b.aN.length:Nat):Int)),Qp,Qk]
     refine⟨false,rfl,?_⟩;simp only[Qq,false_iff];exact fun h=>hi (by rw[h.2.2])
  ·rw[Qh ht];refine⟨false,rfl,?_⟩;simp only[Qq,false_iff];exact fun h=>ht h.1
theorem Z4{a b:aj}(h:c5 a):∃r,qA a b=some r/\(r=true↔a=b):=aht (by omega) h
theorem aiv{n:Nat}:∀{a b:aj},SizeOf.sizeOf a<n->c5 a->∃r,wD n (a,b,())=some r/\(r=true↔a=b):=by
 induction n with
 |zero=>intro a b h;omega
 |succ n ih=>
  intro a b hs hm;show∃r,rG (wD n) a b=some r/\(r=true↔a=b);have hl:=hm.len;have hns:=hm.nodes;obtain⟨r,h1,h2⟩:=ah0 a.ba b.ba hns;rw[Sb];unfold rG
  by_cases ht:a.aL=b.aL
  ·rw[Qg ht];simp only[Qk,h1,Qa]
   cases r with
   |false=>
    simp only[Ql,Qa];refine⟨false,rfl,?_⟩;simp only[Qq,false_iff]at h2 ⊢;exact fun h=>h2 h.2.1
   |true=>
    simp only[Qk,Qa]
    have key:∀o:Option Bool,(∃r,o=some r/\(r=true↔a.aN=b.aN))->∃r,(Option.bind (Option.bind o fun r3=>some r3) fun b4=>some b4)=some r/\(r=true↔a.aL=b.aL/\a.ba=b.ba/\a.aN=b.aN):=by
     rintro o ⟨r,rfl,h4⟩;exact⟨r,rfl,by rw[h4];exact⟨fun h=>⟨ht,h2.1 rfl,h⟩,fun h=>h.2.2⟩⟩
    refine key _ ?_;unfold dx
    by_cases hi:a.aN.length=b.aN.length
    ·rw[Qg (by omega:((a.aN.length:Nat):Int)=((b.aN.length:Nat):Int)),Qo,Ql]
     refine aar hi hl (fun i hi hi' hd hx hy hw=> ?_) (fun hd=> ?_)
     ·have hu:=Q0 hi;obtain⟨r,h3,h4⟩:=ih (a:=a.aN[i]) (b:=b.aN[i]) (by have:=pC hu;omega) (hm.inner _ hu)
      refine⟨r,?_,h4⟩;simp only[hd,hx,hy,hw,Qk,Qa,aj.eta,h3];cases r<;>rfl
     ·simp only[hd,Ql];rfl
    ·rw[Qh (by omega:¬((a.aN.length:Nat):Int)=((b.aN.length:Nat):Int)),Qp,Qk]
     exact⟨false,rfl,VP hi⟩
  ·rw[Qh ht];refine⟨false,rfl,?_⟩;simp only[Qq,false_iff];exact fun h=>ht h.1
theorem eqT{a b:aj}(h:c5 a):∃r,rp a b=some r/\(r=true↔a=b):=aiv (by omega) h
theorem YF(a b:Int)(s t:ByteArray):kQ false a b s t=(decide (a=b)&&decide (s=t)):=by
 simp
theorem Pj(a b:ab):a=b↔a.an=b.an/\a.Value=b.Value:=by
 cases a;cases b;simp
theorem YG(a b:al):a=b↔a.au=b.au/\a.aT=b.aT/\a.aI=b.aI/\a.aa=b.aa/\a.bD=b.bD/\a.af=b.af/\a.ao=b.ao/\a.az=b.az/\a.aQ=b.aQ/\a.bb=b.bb:=by
 cases a;cases b;simp
theorem YN(a b:Bool):(bif a then some b else some false)=some (a&&b):=by cases a<;>rfl
theorem ajq{a b:al}(h:c5 a.aa):∃r,yb a b=some r/\(r=true↔a=b):=by
 obtain⟨r,h1,h2⟩:=Z4 (a:=a.aa) (b:=b.aa) h;have hc:∀x:Bool,(bif x then some r else some false)=some (x&&r):=fun x=>by cases x<;>rfl
 refine⟨_,by simp only[yb,aj.eta,h1,Qa,YN,hc,YF];rfl,?_⟩
 rw[YG];simp only[Qm,Qi,h2,Pj];constructor
 ·rintro⟨⟨⟨⟨⟨⟨⟨⟨⟨h1,h2⟩,h3⟩,h4⟩,h5⟩,h6⟩,h7⟩,h8⟩,h9⟩,h10⟩;exact⟨h1,h2,h3,h4,h5,h6,h7,h8,h9,h10⟩
 ·rintro⟨h1,h2,h3,h4,h5,h6,h7,h8,h9,h10⟩;exact⟨⟨⟨⟨⟨⟨⟨⟨⟨h1,h2⟩,h3⟩,h4⟩,h5⟩,h6⟩,h7⟩,h8⟩,h9⟩,h10⟩
end Go.Proofs.YtjbfdglebjnelaaGreat
namespace Go.Proofs.YtjbfdglebjnelaaGreat
open Go.TQ
theorem OR{m:ak}(h:bn m){ρ:Type}{step:Int×Unit->Option ((Int×Unit)⊕ρ)}{fin:Option ρ}
  (h1:∀(i:Nat) (e:al),e∈m.aA->decide ((i:Int)<((m.aA.length:Nat):Int))=true->idx m.aA (i:Int)=some e->aB .i64 (i:Int) 1=((i+1:Nat):Int)->
   (i=0\/(decide ((0:Int)<(i:Int))=true/\∃x,idx m.aA (da .i64 (i:Int) 1)=some x/\decide (e.au<=x.au)=false))->step ((i:Int),())=some (.inl (((i+1:Nat):Int),())))
  (h2:decide (((m.aA.length:Nat):Int)<((m.aA.length:Nat):Int))=false->step (((m.aA.length:Nat):Int),())=Option.map Sum.inr fin):aF step (0,())=fin:=by
 have hl:=h.len;refine aaS m.aA.length (by omega) (fun i hi hd hw=> ?_) h2
 have hx:idx m.aA (i:Int)=some m.aA[i]:=by rw[bA];exact Qv hi
 refine h1 i m.aA[i] (Q0 hi) hd hx hw ?_
 cases i with
 |zero=>exact .inl rfl
 |succ i=>
  refine .inr ⟨Qg (by omega),m.aA[i],?_,?_⟩
  ·have:da .i64 ((i+1:Nat):Int) 1=(i:Int):=by rw[pK (by omega) (by omega)];omega
   rw[this,bA];exact Qv (by omega)
  ·have:=List.pairwise_iff_getElem.1 h.gJ i (i+1) (by omega) hi (by omega)
   exact Qh (by omega)
theorem afv{m:ak}(h:bn m):sK m=some true:=by
 unfold sK;refine OR h (fun i e he hd hx hw hi=> ?_) (fun hd=>by simp only[hd,Ql])
 obtain⟨g1,g2,g3,g4⟩:=h.hv e he;simp only[hd,hx,hw,Qk,Qa,aU,aj.eta,al.eta,wB g2.sm,g1,Qo,Ql,Qg g3,Qh g4];rcases hi with rfl|⟨hi,x,hx2,hn⟩
 ·rfl
 ·rw[hi,hx2];simp only[Qk,Qa,hn,Ql]
theorem Jk{m:ak}(h:bn m)(hs:gi m)(hz:aG m.af=false):aW (cQ m)=true:=by
 rw[<-Yn hs hz];exact SP h hz
theorem afg:kQ false bZ.an (0:Int) bZ.Value (ByteArray.mk #[])=true:=by decide
theorem Jz{m:ak}(h:bn m)(hs:gi m):kJ m=some true:=by
 have d1:decide (m.au<0)=false:=Qh (by have:=h.n0;omega)
 have d2:decide ((10:Int)<=m.au)=false:=Qh (by have:=h.n1;omega)
 have d3:decide (m.aT<1)=false:=Qh (by have:=h.bq;omega)
 have d4:decide ((1000000:Int)<m.aT)=false:=Qh (by have:=h.bq;omega)
 have d5:decide (m.aI<0)=false:=Qh (by have:=h.seq;omega)
 have d6:decide ((1000000:Int)<m.aI)=false:=Qh (by have:=h.seq;omega)
 have d7:decide ((200:Int)<((m.bh.size:Nat):Int))=false:=Qh (by have:=h.sU;omega)
 have hm:c5 (cQ m).aa:=by rw[qZ];exact h.aO.sm
 unfold kJ;simp only[d1,d2,d3,d4,d5,d6,d7,Ql,Qa,aj.eta,ak.eta,al.eta,eK h.aO,decide_true,Qo,afv h,cJ,zO,Ej h,wB hm]
 cases hz:aG m.af with
 |true=>
  have h0:P0 m:=by
   rcases h.body with k|k|k|k
   ·exact k
   ·rw[k.aM.nz]at hz;cases hz
   ·rw[k.aM.nz]at hz;cases hz
   ·rw[k.aM.nz]at hz;cases hz
  unfold yi;simp only[h0.aS,hs.zero hz,h0.dt,h0.bU,h0.dO,h0.low,h0.bS,afg,decide_true,Qk,Qa]
 |false=>
  have hv:=Jk h hs hz;simp only[hv,Ql,Qk]
  have hconf:oa m=some true:=by
   unfold oa;simp only[cJ,tJ,qJ,fj,Qa]
   have fin:∀(hf:cZ m.av) (hp:(dL m.ao m.az m.av||(!decide (m.aJ=1)&&bM m.av m.af))=true),_:=fun hf hp=>(show(bif aG m.av then some true else
     (bif !cF m.av then some true else some (decide (1000<m.av.an))).bind fun b3=>bif b3 then some false else
     (bif dL m.ao m.az m.av then some true else(bif !decide (m.aJ=1)then some (bM m.av m.af)else some false).bind fun b6=>some b6).bind fun b7=>some b7)=some true by
    rw[hf.nz,hf.valid,Qh (show¬1000<m.av.an by have:=hf.2.1;omega)]
    revert hp
    cases dL m.ao m.az m.av<;>cases decide (m.aJ=1)<;>cases bM m.av m.af<;>simp)
   have nob:m.av=bZ->(bif aG m.av then some true else
     (bif !cF m.av then some true else some (decide (1000<m.av.an))).bind fun b3=>bif b3 then some false else
     (bif dL m.ao m.az m.av then some true else(bif !decide (m.aJ=1)then some (bM m.av m.af)else some false).bind fun b6=>some b6).bind fun b7=>some b7)=some true:=fun e=>by rw[e,bO];rfl
   rcases h.body with k|k|k|k
   ·exact nob k.dO
   ·rcases k.dO with e|⟨hf,hp⟩
    ·exact nob e
    ·exact fin hf (by rw[hp];rfl)
   ·rcases k.dO with e|⟨hf,hp⟩
    ·exact nob e
    ·exact fin hf (by rw[iS.2 hp,Qh (show¬m.aJ=1 by have:=k.aS;omega)];simp)
   ·exact nob k.dO
  rw[hconf];simp only[Qa,Qk];rcases h.body with k|k|k|k
  ·rw[k.aM,bO]at hz;cases hz
  ·simp only[k.aS,k.bS,decide_true,Qo,Ql,Qa,Qp,Qk,show decide ((1:Int)=3)=false from rfl]
  ·simp only[k.aS,k.bU,bO,show decide ((2:Int)=1)=false from rfl,show decide ((2:Int)=3)=false from rfl,Qo,Ql,Qa,Qp,Qk]
  ·simp only[k.aS,k.bU,k.dt,bO,show decide ((3:Int)=1)=false from rfl,decide_true,Qo,Ql,Qa,Qp,Qk]
theorem uj{m:ak}(h:bn m)(hs:gi m):gL m=some true:=by
 have d1:decide (m.au<0)=false:=Qh (by have:=h.n0;omega)
 have d2:decide ((9:Int)<m.au)=false:=Qh (by have:=h.n1;omega)
 have d3:decide (m.aT<1)=false:=Qh (by have:=h.bq;omega)
 have d4:decide ((1000000:Int)<m.aT)=false:=Qh (by have:=h.bq;omega)
 have d5:decide (m.aI<0)=false:=Qh (by have:=h.seq;omega)
 have d6:decide ((1000000:Int)<m.aI)=false:=Qh (by have:=h.seq;omega)
 have d7:decide ((200:Int)<((m.bh.size:Nat):Int))=false:=Qh (by have:=h.sU;omega)
 have hm:c5 (cQ m).aa:=by rw[qZ];exact h.aO.sm
 unfold gL;simp only[d1,d2,d3,d4,d5,d6,d7,Ql,Qa,aj.eta,fB h.aO,decide_true,Qo];refine OR h (fun i e he hd hx hw hi=> ?_) (fun hd=> ?_)
 ·obtain⟨g1,g2,g3,g4⟩:=h.hv e he;simp only[hd,hx,hw,Qk,Qa,aU,aj.eta,al.eta,jl g2.sm,g1,Qo,Ql,Qg g3,Qh g4];rcases hi with rfl|⟨hi,x,hx2,hn⟩
  ·rfl
  ·rw[hi,hx2];simp only[Qk,Qa,hn,Ql]
 ·simp only[hd,Ql];congr 1;simp only[c6,Ci,sq,fV,Qa,aj.eta,ak.eta,al.eta,xU,jl hm]
  cases hz:aG m.af with
  |true=>
   have h0:P0 m:=by
    rcases h.body with k|k|k|k
    ·exact k
    ·rw[k.aM.nz]at hz;cases hz
    ·rw[k.aM.nz]at hz;cases hz
    ·rw[k.aM.nz]at hz;cases hz
   simp only[h0.aS,hs.zero hz,h0.dt,h0.bU,h0.dO,h0.low,h0.bS,bO,decide_true,Qk,Qa]
  |false=>
   have hv:=Jk h hs hz;simp only[hv,Ql,Qo];rcases h.body with k|k|k|k
   ·rw[k.aM,bO]at hz;cases hz
   ·simp only[k.aS,k.bS,decide_true,Qo,Ql,Qa,Qp,Qk,show decide ((1:Int)=3)=false from rfl,show decide ((1:Int)=2)=false from rfl]
    rcases k.dO with e|⟨hf,hp⟩
    ·rw[e,bO];rfl
    ·rw[hf.nz,hf.valid,Qh (show¬1000<m.av.an by have:=hf.2.1;omega),hp];rfl
   ·simp only[k.aS,k.bU,bO,show decide ((2:Int)=1)=false from rfl,show decide ((2:Int)=3)=false from rfl,decide_true,Qo,Ql,Qa,Qp,Qk]
    rcases k.dO with e|⟨hf,hp⟩
    ·rw[e,bO];rfl
    ·rw[hf.nz,hf.valid,Qh (show¬1000<m.av.an by have:=hf.2.1;omega),iS.2 hp];rfl
   ·simp only[k.aS,k.bU,k.dt,k.dO,bO,show decide ((3:Int)=1)=false from rfl,show decide ((3:Int)=2)=false from rfl,decide_true,Qo,Ql,Qa,Qp,Qk]
end Go.Proofs.YtjbfdglebjnelaaGreat
namespace Go.Proofs.YtjbfdglebjnelaaGreat
open Go.TQ
theorem FC(x:ak):(c7 x).au=x.au/\(c7 x).aT=x.aT/\(c7 x).aa=x.aa/\(c7 x).bh=x.bh/\(c7 x).aA=x.aA/\(c7 x).af=x.af:=by
 unfold c7;split<;>exact⟨rfl,rfl,rfl,rfl,rfl,rfl⟩
theorem acX{x:ak}(hx:bn x):(c7 x).aI=x.aI\/(x.aI=0/\(c7 x).aI=1):=by
 have:=hx.seq;unfold c7;split
 ·show bC x.aI 1=x.aI\/(x.aI=0/\bC x.aI 1=1);unfold bC;split<;>omega
 ·exact .inl rfl
theorem yQ{m m':ak}(he:gD m m')(h:¬m'=m):zl m m'=false:=by
 cases hs:zl m m' with
 |false=>rfl
 |true=>exact absurd (UW he hs) h
theorem ab7{R:ak->Prop}(hR1:∀m,bn m->R m->R (cv m))(hR2:∀m,R m->R (c7 m)){m:ak}(h:bn m)(hs:gi m)(hr:R m):Yd (sG m) (MX R m):=by
 unfold sG;simp only[ak.eta,aj.eta,uj h hs,Qa,Qo,Ql];refine Yd.down (fun s=>bn s.1/\R s.1/\gD m s.1/\(aG m.af=false->aG s.1.af=false)) (fun s=>K1+K2 - jx s.1) ?_ ⟨h,hr,gD.refl m,id⟩
 rintro⟨x,z,_⟩ ⟨hx,hrx,hex,hzx⟩;simp only at hx hrx hex hzx;simp only[ak.eta,aU,ZF hx.ev,Qa,agx]
 have hgo:∀{y:ak},y=cv x->¬y=x->(bn y/\R y/\gD m y/\(aG m.af=false->aG y.af=false))/\K1+K2 - jx y<K1+K2 - jx x:=by
  rintro y rfl hne;have hv:=zK x;have hup:=(UR hx).resolve_left hne;have h1:=Yc (zJ hx);exact⟨⟨zJ hx,hR1 _ hx hrx,⟨hv.aC.trans hex.aC,hv.bq.trans hex.bq,hv.seq.trans hex.seq,hv.aO.trans hex.aO,hv.sU.trans hex.sU,hv.heard.trans hex.heard⟩,fun hz=>Ll hx (hzx hz)⟩,by omega⟩
 by_cases hP:cW x=x
 ·simp only[hP,tU,Qk,XX hx.ev,Qa]
  by_cases hS:fZ x=x
  ·simp only[hS,tU,Qk,XY hx.ev,Qa]
   by_cases hC:fK x=x
   ·simp only[hC,tU,Qk,afK hx.ev,Qa]
    by_cases hF:iN x=x
    ·simp only[hF,tU,Qk,adv hx.ev,Qa];have e:cv x=eO x:=by unfold cv;rw[Qr hP,Qr hS,Qr hC,Qr hF]
     by_cases hK:eO x=x
     ·simp only[hK,tU,Qk,c6,Qa]
      have hnum:(bif !aG x.af then Option.map Sum.inr (some (⟨x.au,x.aT,bC x.aI (1:Int),x.aa,x.aJ,x.af,x.ao,x.az,x.av,x.aQ,x.bb,x.bh,x.aA⟩:ak))else Option.map (Sum.inr (α:=ak×ak×Unit)) (some x))=some (Sum.inr (c7 x)):=by
       unfold c7;cases aG x.af<;>rfl
      rw[hnum];obtain⟨e1,e2,e3,e4,e5,e6⟩:=FC x;refine .some ⟨FB hx,Jm fun hz=> ?_,⟨e1.trans hex.aC,e2.trans hex.bq,e3.trans hex.aO,e4.trans hex.sU,e5.trans hex.heard⟩,?_,fun hz=>by rw[e6];exact hzx hz,hR2 _ hrx,acY hx ⟨hP,hS,hC,hF,hK⟩⟩
      ·rw[hex.seq];refine hs.zero ?_
       cases hzz:aG m.af with
       |true=>rfl
       |false=>rw[hzx hzz]at hz;cases hz
      ·have:=acX hx;rw[hex.seq]at this;exact this
     ·simp only[yQ (zM x) hK,Ql];exact .some (hgo e.symm hK)
    ·simp only[yQ (sY x) hF,Ql];have e:cv x=iN x:=by unfold cv;rw[Qr hP,Qr hS,Qr hC,Qs hF]
     exact .some (hgo e.symm hF)
   ·simp only[yQ (sZ x) hC,Ql];have e:cv x=fK x:=by unfold cv;rw[Qr hP,Qr hS,Qs hC]
    exact .some (hgo e.symm hC)
  ·simp only[yQ (sX x) hS,Ql];have e:cv x=fZ x:=by unfold cv;rw[Qr hP,Qs hS]
   exact .some (hgo e.symm hS)
 ·simp only[yQ (wQ x) hP,Ql];have e:cv x=cW x:=by unfold cv;rw[Qs hP]
  exact .some (hgo e.symm hP)
open Classical in
 def rh(m m2:ak):ak:=if aG m.af=false/\{cQ m with aI:=0}≠{cQ m2 with aI:=0}then{m2 with aI:=dC (m2.aI+1) 1000000}else m2
theorem MT(m m2:ak):∃s,rh m m2={m2 with aI:=s}/\(s=m2.aI\/s=dC (m2.aI+1) 1000000):=by
 unfold rh;split
 ·exact⟨_,rfl,.inr rfl⟩
 ·exact⟨m2.aI,rfl,.inl rfl⟩
theorem X0{m m2:ak}(h:bn m2):∃s,rh m m2={m2 with aI:=s}/\m2.aI<=s/\0<=s/\s<=1000000:=by
 obtain⟨s,h1,h2⟩:=MT m m2;have:=h.seq;refine⟨s,h1,?_⟩;rcases h2 with rfl|rfl
 ·omega
 ·unfold dC;split<;>omega
theorem adx{m m2:ak}(h:bn m2):bn (rh m m2):=by
 obtain⟨s,h1,h2⟩:=X0 (m:=m) h;rw[h1];exact RM h h2.2
theorem af4{m m2:ak}(h:bn m2)(hs:gi m2)(hnz:aG m.af=false->aG m2.af=false):gi (rh m m2):=by
 unfold rh;split
 ·rename_i hc;have:=hs.pos (hnz hc.1);refine⟨fun hz=> ?_,fun _=> ?_⟩
  ·rw[show({m2 with aI:=dC (m2.aI+1) 1000000}:ak).af=m2.af from rfl,hnz hc.1]at hz
   cases hz
  ·show 1<=dC (m2.aI+1) 1000000;unfold dC;split<;>omega
 ·exact hs
def Pw(R:ak->Prop)(m m1:ak)(q:ak×Int×Unit):Prop:=∃m2,q=(rh m m2,(0:Int),())/\MX R (c7 m1) m2
theorem af7{R:ak->Prop}{m1 m2:ak}(h1:bn m1)(h:MX R m1 m2):MX R (c7 m1) m2:=by
 obtain⟨e1,e2,e3,e4,e5,e6⟩:=FC m1;refine⟨h.inv,h.seq,?_,?_,fun hz=>h.nz (by rw[e6]at hz;exact hz),h.rel,h.fix⟩
 ·obtain⟨a1,a2,a3,a4,a5⟩:=h.env;exact⟨a1.trans e1.symm,a2.trans e2.symm,a3.trans e3.symm,a4.trans e4.symm,a5.trans e5.symm⟩
 ·have hn:=h.num;have hq:=h1.seq
  cases hz:aG m1.af with
  |true=>
   have:c7 m1=m1:=Qs (by rw[hz];decide)
   rw[this];exact hn
  |false=>
   have h3:=h.seq.pos (h.nz hz);have:(c7 m1).aI=bC m1.aI 1:=by unfold c7;rw[Qr hz]
   rw[this];left;unfold bC;split<;>omega
theorem afN{m:ak}(h:bn m):c5 ({cQ m with aI:=0}:al).aa:=by rw[show({cQ m with aI:=0}:al).aa=(cQ m).aa from rfl,qZ];exact h.aO.sm
theorem AZ{R:ak->Prop}(hR1:∀m,bn m->R m->R (cv m))(hR2:∀m,R m->R (c7 m)){m m1:ak}(h:bn m)(h1:bn m1)(hz1:aG m1.af=true->m1.aI=0)(hnz:aG m.af=false->aG m1.af=false)(hr:R m1):
  Yd (gE m (c7 m1)) fun q=>∃m2,q=rh m m2/\MX R (c7 m1) m2:=by
 unfold gE;simp only[ak.eta,aj.eta];refine Yd.bind (ab7 hR1 hR2 (FB h1) (Jm hz1) (hR2 _ hr)) fun m2 ha=> ?_
 have hq:=ha.inv.seq;obtain⟨r,g1,g2⟩:=ajq (a:={cQ m with aI:=0}) (b:={cQ m2 with aI:=0}) (afN h)
 have hadd:aB .i64 m2.aI 1=m2.aI+1:=bL (by omega) (by omega)
 simp only[c6,Qa,xU,aU,g1,hadd]
 cases hz2:aG m2.af with
 |true=>
  have hz:aG m.af=true:=by
   cases hc:aG m.af with
   |true=>rfl
   |false=>rw[ha.nz (by rw[(FC m1).2.2.2.2.2];exact hnz hc)]at hz2;cases hz2
  refine .some ⟨m2,?_,ha⟩;unfold rh;rw[Qs (by rw[hz];rintro⟨e,_⟩;cases e)]
 |false=>
  refine Yd.of_eq (x:=rh m m2) ?_ ⟨m2,rfl,ha⟩;unfold rh
  cases hz:aG m.af with
  |true=>rw[Qs (by rintro⟨e,_⟩;cases e)];rfl
  |false=>
   cases r with
   |true=>rw[Qs (fun e=>e.2 (g2.1 rfl))];rfl
   |false=>rw[Qr ⟨rfl,fun e=>by have:=g2.2 e;cases this⟩];rfl
theorem agw(a b:al)(h:c5 a.aa)(hn:a.au=b.au)(hs:a.aT=b.aT):∃r,qF a b=some r/\(r=true↔{a with aI:=0}={b with aI:=0}):=by
 obtain⟨r,h1,h2⟩:=eqT (a:=a.aa) (b:=b.aa) h;refine⟨r&&decide (a.bD=b.bD)&&decide (a.af=b.af)&&decide (a.ao=b.ao)&&decide (a.az=b.az)&&decide (a.aQ=b.aQ)&&decide (a.bb=b.bb),?_,?_⟩
 ·unfold qF;simp only[aj.eta,h1,Qa,YN,YF,<-Bool.decide_and,<-Pj,Qa]
 ·rw[YG];simp only[Qm,Qi,hn,hs,h2,true_and];simp only[and_assoc]
theorem WE{m:ak}(h:bn m):nU m=some m:=by
 unfold nU;simp only[aj.eta,tq h.aO.sm,Qa];rw[ahx (fun e he=>(h.hv e he).2.1.sm) (by have:=h.len;omega)]
 rfl
theorem Sw{l:List al}{e:al}(hv:aW e=true):
  (∃x∈l,x.au=e.au/\e.aI<=x.aI/\yN l e=(l,false,()))\/
  (∃a b,((∃x,l=a++x::b/\x.au=e.au/\x.aI<e.aI)\/(l=a++b/\(∀x∈l,x.au≠e.au)/\(∀x∈a,¬e.au<x.au)/\(∀x,b.head?=some x->e.au<x.au)))/\yN l e=(a++e::b,true,())):=by
 unfold yN;rw[Qr hv]
 cases hf:l.findIdx? (fun x=>decide (x.au=e.au))with
 |some i=>
  obtain⟨hi,h2,_⟩:=List.findIdx?_eq_some_iff_getElem.1 hf;have hx:l[i]?=some l[i]:=Qv hi;have h2:=of_decide_eq_true h2;simp only[hx,Q3]
  by_cases hle:e.aI<=l[i].aI
  ·left;rw[Qr hle];exact⟨l[i],Q0 hi,h2,hle,rfl⟩
  ·right;rw[Qs hle];refine⟨l.take i,l.drop (i+1),.inl ⟨l[i],?_,h2,by omega⟩,?_⟩
   ·rw[List.getElem_cons_drop];exact(List.take_append_drop i l).symm
   ·rw[List.set_eq_take_append_cons_drop,Qr hi]
 |none=>
  right
  have hne:∀x∈l,x.au≠e.au:=fun x hx he=>by
   have:=List.findIdx?_eq_none_iff.1 hf x hx;rw[he]at this;simp at this
  refine⟨l.take (Pl l e),l.drop (Pl l e),.inr ⟨(List.take_append_drop _ l).symm,hne,?_,?_⟩,by rw[QL];rfl⟩
  ·intro x hx hlt;obtain⟨j,hj,rfl⟩:=List.getElem_of_mem hx;rw[List.getElem_take]at hlt;rw[List.length_take]at hj;unfold Pl at hj
   cases hg:l.findIdx? (fun x=>decide (e.au<x.au))with
   |none=>
    have:=List.findIdx?_eq_none_iff.1 hg _ (Q0 (show j<l.length by omega))
    simp[hlt]at this
   |some k=>
    obtain⟨_,_,h3⟩:=List.findIdx?_eq_some_iff_getElem.1 hg;rw[hg,Q3]at hj;have:=h3 j (by omega)
    simp[hlt]at this
  ·intro x hx;rw[List.head?_drop]at hx;unfold Pl at hx
   cases hg:l.findIdx? (fun x=>decide (e.au<x.au))with
   |none=>rw[hg,Option.getD_none,List.getElem?_eq_none (QI _)]at hx;cases hx
   |some k=>
    obtain⟨hk,h2,_⟩:=List.findIdx?_eq_some_iff_getElem.1 hg;rw[hg,Q3,Qv hk]at hx;obtain rfl:=Option.some.inj hx;exact of_decide_eq_true h2
theorem aeT{l:List al}{e:al}{y:al}(hy:y∈(yN l e).1):y=e\/y∈l:=by
 by_cases hv:aW e=true
 ·rcases Sw (l:=l) hv with⟨x,_,_,_,h⟩|⟨a,b,h1,h⟩
  ·rw[h]at hy;exact .inr hy
  ·rw[h]at hy;rcases Qz.1 hy with hy|hy
   ·rcases h1 with⟨x,rfl,_⟩|⟨rfl,_⟩
    ·exact .inr (List.mem_append_left _ hy)
    ·exact .inr (List.mem_append_left _ hy)
   ·rcases QA.1 hy with hy|hy
    ·exact .inl hy
    ·rcases h1 with⟨x,rfl,_⟩|⟨rfl,_⟩
     ·exact .inr (List.mem_append_right _ (Qy _ hy))
     ·exact .inr (List.mem_append_right _ hy)
 ·unfold yN at hy;rw[Qs hv]at hy;exact .inr hy
theorem ZC{l:List al}{e:al}(hl:l.Pairwise (fun a b=>a.au<b.au)):(yN l e).1.Pairwise (fun a b=>a.au<b.au):=by
 by_cases hv:aW e=true
 ·rcases Sw (l:=l) hv with⟨x,_,_,_,h⟩|⟨a,b,h1,h⟩
  ·rw[h];exact hl
  ·rw[h];show(a++e::b).Pairwise _;rcases h1 with⟨x,rfl,hn,_⟩|⟨rfl,hne,ha,hb⟩
   ·rw[List.pairwise_append,Q4]at hl ⊢;obtain⟨g1,⟨g2,g3⟩,g4⟩:=hl;refine⟨g1,⟨fun y hy=> ?_,g3⟩,fun y hy z hz=> ?_⟩
    ·rw[<-hn];exact g2 y hy
    ·rcases QA.1 hz with rfl|hz
     ·rw[<-hn];exact g4 y hy x Qx
     ·exact g4 y hy z (Qy _ hz)
   ·rw[List.pairwise_append]at hl;rw[List.pairwise_append,Q4];obtain⟨g1,g3,g4⟩:=hl
    have hbe:∀y∈b,e.au<y.au:=by
     intro y hy
     cases b with
     |nil=>cases hy
     |cons z b=>
      have:=hb z rfl;rcases QA.1 hy with rfl|hy
      ·exact this
      ·have:=(Q4.1 g3).1 y hy;omega
    refine⟨g1,⟨hbe,g3⟩,fun y hy z hz=> ?_⟩
    rcases QA.1 hz with rfl|hz
    ·have h2:=ha y hy;have h3:=hne y (List.mem_append_left _ hy);omega
    ·exact g4 y hy z hz
 ·unfold yN;rw[Qs hv];exact hl
structure EP (m:ak) (e:al):Prop where
 valid:aW e=true
 aO:fu e.aa
 bq:e.aT=m.aT
 aC:e.au≠m.au
 def FW(m:ak)(e:al):ak:={m with aA:=(yN m.aA e).1}
theorem Wg{m:ak}(h:bn m){e:al}(he:EP m e):bn (FW m e):=by
 refine⟨h.n0,h.n1,h.bq,h.seq,h.aO,h.sU,fun y hy=> ?_,ZC h.gJ,?_⟩
 ·rcases aeT hy with rfl|hy
  ·exact⟨he.valid,he.aO,he.bq,he.aC⟩
  ·exact h.hv y hy
 ·rcases h.body with k|k|k|k
  ·exact .inl ⟨k.aS,k.aM,k.dt,k.bU,k.dO,k.low,k.bS⟩
  ·exact .inr (.inl ⟨k.aS,k.aM,k.dt,k.bU,k.dO,k.up,k.bS,k.low⟩)
  ·exact .inr (.inr (.inl ⟨k.aS,k.aM,k.dt,k.bU,k.dO,k.range⟩))
  ·exact .inr (.inr (.inr ⟨k.aS,k.aM,k.dt,k.bU,k.dO,k.range⟩))
def F2(m:ak)(t:aj):ak:={m with aa:=t}
theorem Wv{m:ak}(h:bn m){t:aj}(ht:fu t):bn (F2 m t):=by
 refine⟨h.n0,h.n1,h.bq,h.seq,ht,h.sU,h.hv,h.gJ,?_⟩;rcases h.body with k|k|k|k
 ·exact .inl ⟨k.aS,k.aM,k.dt,k.bU,k.dO,k.low,k.bS⟩
 ·exact .inr (.inl ⟨k.aS,k.aM,k.dt,k.bU,k.dO,k.up,k.bS,k.low⟩)
 ·exact .inr (.inr (.inl ⟨k.aS,k.aM,k.dt,k.bU,k.dO,k.range⟩))
 ·exact .inr (.inr (.inr ⟨k.aS,k.aM,k.dt,k.bU,k.dO,k.range⟩))
def eu(m:ak)(v:ByteArray):ak:=if aG m.af=true then{m with bh:=v,af:=⟨1,dE {m with bh:=v}⟩}else{m with bh:=v}
theorem aey{v:ByteArray}(h:1<=v.size):v≠eQ:=by
 rintro rfl;exact absurd h (by decide)
theorem UJ{m:ak}(h:P0 m){v:ByteArray}(hv:1<=v.size):dE {m with bh:=v}=v:=by
 unfold dE;rw[Qs (by rw[show({m with bh:=v}:ak).av=m.av from rfl,h.dO,bO];decide),Qs (by rw[show({m with bh:=v}:ak).aJ=m.aJ from rfl,h.aS];decide),Qr (aey hv)]
theorem Fv{m:ak}(h:bn m){v:ByteArray}(hv:1<=v.size/\v.size<=200):bn (eu m v):=by
 unfold eu;rcases h.body with k|k|k|k
 ·rw[Qr (by rw[k.aM];exact bO),UJ k hv.1]
  refine⟨h.n0,h.n1,h.bq,h.seq,h.aO,hv.2,h.hv,h.gJ,.inr (.inl ⟨k.aS,⟨by show(1:Int)<=1;omega,by show(1:Int)<=1000;omega,hv.1,hv.2⟩,.inl k.dt,.inl k.bU,.inl k.dO,?_,k.bS,.inl k.low⟩)⟩
  show bs _ m.av=false;rw[k.dO]
  cases hl:bs (⟨1,v⟩:ab) bZ with
  |false=>rfl
  |true=>have:=iy hl;exact absurd (show(1:Int)<=0 from this) (by decide)
 ·rw[Qs (by rw[k.aM.nz];decide)]
  exact⟨h.n0,h.n1,h.bq,h.seq,h.aO,hv.2,h.hv,h.gJ,.inr (.inl ⟨k.aS,k.aM,k.dt,k.bU,k.dO,k.up,k.bS,k.low⟩)⟩
 ·rw[Qs (by rw[k.aM.nz];decide)]
  exact⟨h.n0,h.n1,h.bq,h.seq,h.aO,hv.2,h.hv,h.gJ,.inr (.inr (.inl ⟨k.aS,k.aM,k.dt,k.bU,k.dO,k.range⟩))⟩
 ·rw[Qs (by rw[k.aM.nz];decide)]
  exact⟨h.n0,h.n1,h.bq,h.seq,h.aO,hv.2,h.hv,h.gJ,.inr (.inr (.inr ⟨k.aS,k.aM,k.dt,k.bU,k.dO,k.range⟩))⟩
def n3(m:ak):ak:={m with aQ:=if dE m=m.af.Value then m.aQ else 0,af:=⟨m.af.an+1,dE m⟩}
theorem acm{m:ak}(h:bn m)(h3:m.aJ≠3)(hv:dE m≠eQ):1<=(dE m).size/\(dE m).size<=200:=by
 have h1:m.aJ=1->(m.av=bZ\/cZ m.av)->1<=(dE m).size/\(dE m).size<=200:=fun hp hc=>by
  refine X5 h hp hc ?_;refine Classical.byContradiction fun hn=>hv ?_
  simp only[not_or,Classical.not_not]at hn;obtain⟨a1,a2,a3⟩:=hn;unfold dE;rw[Qs (by rw[a3,bO];decide),Qs (by rw[hp];decide),Qs (by rw[a2];exact fun e=>e rfl),a1]
  rfl
 rcases h.body with k|k|k|k
 ·exact h1 k.aS (.inl k.dO)
 ·exact h1 k.aS (k.dO.imp_right And.left)
 ·unfold dE;rcases k.dO with e|⟨hf,_⟩
  ·rw[Qs (by rw[e,bO];decide),Qr (by rw[k.aS];decide)]
   exact k.aM.2.2
  ·rw[Qr hf.nz];exact hf.2.2
 ·exact absurd k.aS h3
theorem ahC{m:ak}(k:P2 m):dE m=m.af.Value:=by
 unfold dE;rcases k.dO with e|⟨hf,he⟩
 ·rw[Qs (by rw[e,bO];decide),Qr (by rw[k.aS];decide)]
 ·rw[Qr hf.nz,he]
theorem UP{m:ak}(h:bn m)(h3:m.aJ≠3)(hv:dE m≠eQ)(hc:m.af.an<1000):bn (n3 m):=by
 have hsz:=acm h h3 hv;refine⟨h.n0,h.n1,h.bq,h.seq,h.aO,h.sU,h.hv,h.gJ,?_⟩;have hfin:0<=m.af.an->cZ (n3 m).af:=fun h0=>⟨by show 1<=m.af.an+1;omega,by show m.af.an+1<=1000;omega,hsz⟩
 rcases h.body with k|k|k|k
 ·have h0:m.af.an=0:=by rw[k.aM];rfl
  refine .inr (.inl ⟨k.aS,hfin (by omega),.inl k.dt,.inl k.bU,.inl k.dO,?_,k.bS,.inl ?_⟩)
  ·show bs (⟨m.af.an+1,dE m⟩:ab) m.av=false;rw[k.dO]
   cases hl:bs (⟨m.af.an+1,dE m⟩:ab) bZ with
   |false=>rfl
   |true=>have:=iy hl;exact absurd (show m.af.an+1<=0 from this) (by omega)
  ·show(if dE m=m.af.Value then m.aQ else 0)=0
   rw[k.low,ite_self]
 ·have hb:=k.aM;have h0:0<=m.af.an:=by have:=hb.1;omega
  refine .inr (.inl ⟨k.aS,hfin h0,k.dt,k.bU,k.dO,?_,k.bS,?_⟩)
  ·show bs (⟨m.af.an+1,dE m⟩:ab) m.av=false
   cases hl:bs (⟨m.af.an+1,dE m⟩:ab) m.av with
   |false=>rfl
   |true=>
    have h1:=iy hl;have h2:=Mg k.up;exact absurd (show m.af.an+1<=m.av.an from h1) (by omega)
  ·show(if dE m=m.af.Value then m.aQ else 0)=0\/_
   by_cases he:dE m=m.af.Value
   ·have hlow:(n3 m).aQ=m.aQ:=by show(if dE m=m.af.Value then m.aQ else 0)=m.aQ;rw[Qr he]
    have hhigh:eR (n3 m)=eR m:=by
     show(if(!aG m.av&&bM m.av ⟨m.af.an+1,dE m⟩)=true then m.av.an else 0)=eR m
     rw[he];rfl
    rw[Qr he,hlow,hhigh];rcases k.low with e|⟨g1,g2,g3⟩
    ·exact .inl e
    ·refine .inr ⟨g1,g2,?_⟩;show lQ m.ao m.az (dE m) m.aQ=false;rw[he];exact g3
   ·rw[Qs he];exact .inl rfl
 ·have hb:=k.aM;have h0:0<=m.af.an:=by have:=hb.1;omega
  have hv2:=ahC k;have hval:(n3 m).af.Value=m.af.Value:=hv2;have hlow:(n3 m).aQ=m.aQ:=by show(if dE m=m.af.Value then m.aQ else 0)=m.aQ;rw[Qr hv2]
  refine .inr (.inr (.inl ⟨k.aS,hfin h0,?_,k.bU,?_,?_⟩))
  ·rw[hval];exact k.dt
  ·rw[hval];exact k.dO
  ·rw[hlow];exact k.range
 ·exact absurd k.aS h3
end Go.Proofs.YtjbfdglebjnelaaGreat
namespace Go.Proofs.YtjbfdglebjnelaaGreat
open Go.TQ
def ahB:aj:=⟨0,[],[]⟩
def Up:ak:=⟨0,0,0,ahB,0,bZ,bZ,bZ,bZ,0,0,eQ,[]⟩
theorem VB{m m1:ak}(hs:gi m)(hb:aG m1.af=aG m.af)(hq:m1.aI=m.aI):c7 m1=m1:=by
 refine aff ⟨fun hz=> ?_,fun hz=> ?_⟩
 ·rw[hq];exact hs.zero (by rw[<-hb];exact hz)
 ·rw[hq];exact hs.pos (by rw[<-hb];exact hz)
theorem l9{m:ak}{v:ByteArray}:(aG m.af=false->aG (eu m v).af=false)/\(eu m v).aI=m.aI:=by
 unfold eu;split
 ·rename_i hz;refine⟨fun e=> ?_,rfl⟩
  rw[hz]at e;cases e
 ·exact⟨fun e=>e,rfl⟩
theorem acO{m:ak}(h:bn m){v:ByteArray}(hv:1<=v.size/\v.size<=200):aG (eu m v).af=false:=by
 rcases h.body with k|k|k|k
 ·unfold eu;rw[Qr (by rw[k.aM];exact bO),UJ k hv.1]
  exact cZ.nz ⟨by show(1:Int)<=1;omega,by show(1:Int)<=1000;omega,hv.1,hv.2⟩
 ·exact l9.1 k.aM.nz
 ·exact l9.1 k.aM.nz
 ·exact l9.1 k.aM.nz
theorem I7{m:ak}(h:bn m):aG (n3 m).af=false:=by
 have:0<=m.af.an:=by
  rcases h.body with k|k|k|k
  ·rw[k.aM];decide
  ·have:=k.aM.1;omega
  ·have:=k.aM.1;omega
  ·have:=k.aM.1;omega
 cases hz:aG (n3 m).af with
 |false=>rfl
 |true=>
  have:=wK.1 hz;have h2:m.af.an+1=0:=congrArg ab.an this;omega
section
variable {R : ak -> Prop} (hR1 : ∀ m, bn m -> R m -> R (cv m)) (hR2 : ∀ m, R m -> R (c7 m)) {m : ak} (h : bn m) (hs : gi m)
 include hR1 hR2 h hs
theorem acC{v:ByteArray}(hv:1<=v.size/\v.size<=200)(hr:R (eu m v)):Yd (mj m v) (Pw R m (eu m v)):=by
 have d1:decide (((ByteArray.size v:Nat):Int)<(1:Int))=false:=Qh (by omega)
 have d2:decide ((200:Int)<((ByteArray.size v:Nat):Int))=false:=Qh (by omega)
 have hi:=Fv h hv;have hval:mG {m with bh:=v}=some (dE {m with bh:=v}):=PF (m:={m with bh:=v}) ⟨h.ev.n0,h.ev.n1,h.ev.aO,h.ev.len,h.ev.sm,h.ev.valid⟩
 unfold mj;simp only[ak.eta,aj.eta,uj h hs,Qa,Qo,Ql,d1,d2,c6,aU]
 have key:Yd ((gE m (c7 (eu m v))).bind fun r5=>some (r5,(0:Int),())) (Pw R m (eu m v)):=
  Yd.bind (AZ hR1 hR2 h hi (fun hz=>by rw[l9.2];exact hs.zero (by cases hc:aG m.af with|true=>rfl|false=>rw[l9.1 hc]at hz;cases hz)) l9.1 hr) fun q hq=>by
   obtain⟨m2,rfl,ha⟩:=hq;exact .some ⟨m2,rfl,ha⟩
 cases hz:aG m.af with
 |true=>
  have hsq:=hs.zero hz
  have he:c7 (eu m v)=⟨m.au,m.aT,1,m.aa,m.aJ,⟨1,dE {m with bh:=v}⟩,m.ao,m.az,m.av,m.aQ,m.bb,v,m.aA⟩:=by
   unfold c7;rw[Qr (acO h hv),l9.2,hsq];unfold eu;rw[Qr hz];rfl
  rw[he]at key;simp only[Qk];rw[show(⟨m.au,m.aT,m.aI,m.aa,m.aJ,m.af,m.ao,m.az,m.av,m.aQ,m.bb,v,m.aA⟩:ak)={m with bh:=v}from rfl,hval]
  exact key
 |false=>
  have he:c7 (eu m v)=⟨m.au,m.aT,m.aI,m.aa,m.aJ,m.af,m.ao,m.az,m.av,m.aQ,m.bb,v,m.aA⟩:=by
   rw[VB hs (by rw[l9.1 hz,hz]) l9.2]
   unfold eu;rw[Qs (by rw[hz];decide)]
  rw[he]at key;exact key
theorem acB{e:al}(he:EP m e)(hr:R (FW m e)):Yd (kF m e) fun q=>(Pw R m (FW m e) q/\(yN m.aA e).2.1=true)\/(q=(Up,(9:Int),())/\(yN m.aA e).2.1=false):=by
 have hi:=Wg h he;have hlen:=h.len;have hput:=aeJ (l:=m.aA) (fun x hx=>(h.hv x hx).2.1.sm) (by omega) (e:=e) he.aO.sm
 have hid:c7 (FW m e)=FW m e:=VB hs rfl rfl;unfold kF;simp only[ak.eta,aj.eta,al.eta,uj h hs,Qa,Qo,Ql,jl he.aO.sm,he.valid,Qh he.aC,Qg he.bq,hput]
 cases hp:(yN m.aA e).2.1 with
 |false=>exact .some (.inr ⟨rfl,rfl⟩)
 |true=>
  have:=AZ hR1 hR2 h hi hs.zero (fun e=>e) hr
  rw[hid]at this;refine Yd.bind this fun q hq=> ?_
  obtain⟨m2,rfl,ha⟩:=hq;exact .some (.inl ⟨⟨m2,rfl,by rw[hid];exact ha⟩,rfl⟩)
theorem acA(hr:R (n3 m)):Yd (oW m) fun q=>(Pw R m (n3 m) q/\m.aJ≠3/\dE m≠eQ/\m.af.an<1000)\/(q=(Up,(62:Int),())/\(m.aJ=3\/dE m=eQ))\/(q=(Up,(3:Int),())/\1000<=m.af.an):=by
 unfold oW;simp only[ak.eta,aj.eta,uj h hs,Qa,Qo,Ql,PF h.ev,aU]
 by_cases h3:m.aJ=3
 ·rw[Qg h3];exact .some (.inr (.inl ⟨rfl,.inl h3⟩))
 ·rw[Qh h3]
  by_cases hv:dE m=ByteArray.mk #[]
  ·rw[Qg hv];exact .some (.inr (.inl ⟨rfl,.inr hv⟩))
  ·rw[Qh hv]
   by_cases hc:(1000:Int)<=m.af.an
   ·rw[Qg hc];exact .some (.inr (.inr ⟨rfl,hc⟩))
   ·rw[Qh hc];have hi:=UP h h3 hv (by omega)
    have hb0:0<=m.af.an:=by
     rcases h.body with k|k|k|k
     ·rw[k.aM];decide
     ·have:=k.aM.1;omega
     ·have:=k.aM.1;omega
     ·have:=k.aM.1;omega
    have hadd:aB .i64 m.af.an 1=m.af.an+1:=bL (by omega) (by omega)
    have key:Yd ((gE m (c7 (n3 m))).bind fun r5=>some (r5,(0:Int),())) (Pw R m (n3 m)):=
     Yd.bind (AZ hR1 hR2 h hi (fun hz=>by rw[I7 h]at hz;cases hz) (fun _=>I7 h) hr) fun q hq=>by
      obtain⟨m2,rfl,ha⟩:=hq;exact .some ⟨m2,rfl,ha⟩
    have he:c7 (n3 m)=⟨m.au,m.aT,bC m.aI 1,m.aa,m.aJ,⟨m.af.an+1,dE m⟩,m.ao,m.az,m.av,(if dE m=m.af.Value then m.aQ else 0),m.bb,m.bh,m.aA⟩:=by
     unfold c7;rw[Qr (I7 h)];rfl
    rw[he]at key;simp only[hadd,Ql,Qk]
    by_cases hev:dE m=m.af.Value
    ·simp only[Qg hev,Qo,Ql];rw[Qr hev]at key;exact key.mono fun q hq=> .inl ⟨hq,h3,hv,by omega⟩
    ·simp only[Qh hev,Qp,Qk];rw[Qs hev]at key;exact key.mono fun q hq=> .inl ⟨hq,h3,hv,by omega⟩
theorem acH{t:aj}(ht:fu t)(hr:R (F2 m t)):Yd (oX m t) (Pw R m (F2 m t)):=by
 have hi:=Wv h ht;have hid:c7 (F2 m t)=F2 m t:=VB hs rfl rfl;unfold oX;simp only[ak.eta,aj.eta,uj h hs,Qa,Qo,Ql,fB ht,decide_true];have:=AZ hR1 hR2 h hi hs.zero (fun e=>e) hr
 rw[hid]at this;refine Yd.bind this fun q hq=> ?_
 obtain⟨m2,rfl,ha⟩:=hq;exact .some ⟨m2,rfl,by rw[hid];exact ha⟩
end
def Dn(aC bq:Int)(t:aj):ak:=⟨aC,bq,0,t,1,bZ,bZ,bZ,bZ,0,0,eQ,[]⟩
theorem ajg{aC bq:Int}{t:aj}(h0:0<=aC)(h1:aC<10)(h2:1<=bq)(h3:bq<=1000000)(ht:fu t):zF aC bq t=some (Dn aC bq t,(0:Int),()):=by
 unfold zF;simp only[aj.eta,Qh (show¬aC<0 by omega),Qh (show¬(9:Int)<aC by omega),Qh (show¬bq<1 by omega),Qh (show¬(1000000:Int)<bq by omega),Ql,Qa,fB ht,decide_true,Qo]
 rfl
theorem ajk{aC bq:Int}{t:aj}(h0:0<=aC)(h1:aC<10)(h2:1<=bq)(h3:bq<=1000000)(ht:fu t):vR aC bq t=some (Dn aC bq t,(0:Int),()):=by
 unfold vR;simp only[aj.eta,Qh (show¬aC<0 by omega),Qh (show¬(10:Int)<=aC by omega),Qh (show¬bq<1 by omega),Qh (show¬(1000000:Int)<bq by omega),Ql,Qa,eK ht,decide_true,Qo,tq ht.sm]
 rfl
theorem Yr{aC bq:Int}{t:aj}(h0:0<=aC)(h1:aC<10)(h2:1<=bq)(h3:bq<=1000000)(ht:fu t):bn (Dn aC bq t)/\gi (Dn aC bq t):=
 ⟨⟨h0,h1,⟨h2,h3⟩,⟨by show(0:Int)<=0;omega,by show(0:Int)<=1000000;omega⟩,ht,(by show eQ.size<=200;decide),(fun e he=>absurd he QR),List.Pairwise.nil,.inl ⟨rfl,rfl,rfl,rfl,rfl,rfl,rfl⟩⟩,⟨fun _=>rfl,fun hz=>absurd (show aG bZ=false from hz) (by rw[bO];decide)⟩⟩
section
variable {R : ak -> Prop} (hR1 : ∀ m, bn m -> R m -> R (cv m)) (hR2 : ∀ m, R m -> R (c7 m)) {m : ak} (h : bn m) (hs : gi m)
 include hR1 hR2 h hs
theorem adu{m1:ak}(h1:bn m1)(hz1:aG m1.af=true->m1.aI=0)(hnz:aG m.af=false->aG m1.af=false)(hn:m1.au=m.au)(hsl:m1.aT=m.aT)(hr:R m1):
  Yd (Option.bind (iJ ⟨m1⟩) fun p4=>
   aY (fun(v5:aH×Unit)=>some (v5.1.ai,(0:Int),())) fun j6=>
   aY (fun(v7:Bool×Unit)=>
   bif v7.1 then
   j6 ((aH.mk (ak.mk p4.2.ai.au p4.2.ai.aT (dC (aB .i64 p4.2.ai.aI (1:Int)) (1000000:Int)) p4.2.ai.aa p4.2.ai.aJ p4.2.ai.af p4.2.ai.ao p4.2.ai.az p4.2.ai.av p4.2.ai.aQ p4.2.ai.bb p4.2.ai.bh p4.2.ai.aA)),())
   else
   j6 (p4.2,())) fun j8=>
   Option.bind (bx m.af) fun r9=>
   bif (!r9)then
   Option.bind (eB m) fun r10=>
   Option.bind (eB p4.2.ai) fun r11=>
   Option.bind (qF r10 r11) fun r12=>
   j8 ((!r12),())
   else
   j8 (false,())) (Pw R m m1):=by
 refine Yd.bind (ab6 hR1 hR2 h1 hz1 hr) fun q hq=> ?_
 obtain⟨m2,rfl,ha⟩:=hq;have hq:=ha.inv.seq;have hadd:aB .i64 m2.aI 1=m2.aI+1:=bL (by omega) (by omega)
 obtain⟨r,g1,g2⟩:=agw (cQ m) (cQ m2) (by rw[qZ];exact h.aO.sm) (by rw[wV,wV,ha.env.1,hn]) (by rw[CZ,CZ,ha.env.2.1,hsl])
 simp only[aU,cJ,Qa,zO,Ej h,Ej ha.inv,hadd,g1];have hb:=af7 h1 ha;refine Yd.of_eq (x:=(rh m m2,(0:Int),())) ?_ ⟨m2,rfl,hb⟩;unfold rh
 cases hz:aG m.af with
 |true=>rw[Qs (by rintro⟨e,_⟩;cases e)];rfl
 |false=>
  cases r with
  |true=>rw[Qs (fun e=>e.2 (g2.1 rfl))];rfl
  |false=>rw[Qr ⟨rfl,fun e=>by have:=g2.2 e;cases this⟩];rfl
theorem acS{v:ByteArray}(hv:1<=v.size/\v.size<=200)(hr:R (eu m v)):Yd (mV m v) (Pw R m (eu m v)):=by
 have d1:decide (((ByteArray.size v:Nat):Int)<(1:Int))=false:=Qh (by omega)
 have d2:decide ((200:Int)<((ByteArray.size v:Nat):Int))=false:=Qh (by omega)
 have hi:=Fv h hv;have hval:gQ ⟨{m with bh:=v}⟩=some (dE {m with bh:=v}):=Vp (m:={m with bh:=v}) ⟨h.ev.n0,h.ev.n1,h.ev.aO,h.ev.len,h.ev.sm,h.ev.valid⟩
 have hdo:ob ⟨m⟩ v=some ((0:Int),⟨eu m v⟩):=by
  unfold ob eu;simp only[ak.eta,aH.eta,d1,d2,Ql,Qa,cJ,aU]
  cases hz:aG m.af with
  |true=>
   simp only[Qk,Qt,aj.eta];rw[show(⟨m.au,m.aT,m.aI,m.aa,m.aJ,m.af,m.ao,m.az,m.av,m.aQ,m.bb,v,m.aA⟩:ak)={m with bh:=v}from rfl,hval]
   rfl
  |false=>simp only[Ql,Qq,Qu,aj.eta]
 unfold mV qG;simp only[ak.eta,aj.eta,al.eta,aH.eta,Jz h hs,WE h,hdo,Qa,Qo,Ql,decide_true];refine Yd.bind (adu hR1 hR2 h hs hi (fun hz=>by rw[l9.2];exact hs.zero (by cases hc:aG m.af with|true=>rfl|false=>rw[l9.1 hc]at hz;cases hz)) l9.1 (by unfold eu;split<;>rfl) (by unfold eu;split<;>rfl) hr) fun q hq=> ?_
 obtain⟨m2,rfl,ha⟩:=hq;exact .some ⟨m2,rfl,ha⟩
end
theorem acT{m:ak}(h:bn m)(hs:gi m):∃e,pT m=some (e,!aG m.af,())/\(aG m.af=false->e=cQ m):=by
 unfold pT;simp only[ak.eta,aj.eta,al.eta,cJ,Jz h hs,WE h,zO,Ej h,Qa]
 cases aG m.af with
 |true=>exact⟨_,rfl,fun e=>by cases e⟩
 |false=>exact⟨_,rfl,fun _=>rfl⟩
theorem Vw{m:ak}(h:bn m)(hs:gi m):mW m=some (bif decide (m.aJ=3)then m.af.Value else eQ,decide (m.aJ=3),()):=by
 unfold mW;simp only[ak.eta,aj.eta,Jz h hs,Qa];cases decide (m.aJ=3)<;>rfl
end Go.Proofs.YtjbfdglebjnelaaGreat
namespace Go.Proofs.YtjbfdglebjnelaaGreat
open Go.TQ
def gT(n:Nat)(k:Int)(i s:Nat):Bool:=s.testBit i&&decide (k<=(((uB n).countP (kV s):Nat):Int))
def bT(n:Nat)(k:Int)(i s:Nat):Bool:= !decide (k<=(((uB n).countP (kV (yO s i)):Nat):Int))
structure vM (n:Nat) (k:Int) (m:ak):Prop where
 n10:n<=10
 k1:1<=k
 kn:k<=n
 aO:m.aa=flat n k
 heard:∀e∈m.aA,e.aa=flat n k
theorem vM.all{n:Nat}{k:Int}{m:ak}(hf:vM n k m){e:al}(he:e∈bd m):e.aa=flat n k:=by
 rcases za he with he|⟨_,rfl⟩
 ·exact hf.heard e he
 ·rw[Fw];exact hf.aO
section
variable {n : Nat} {k : Int} {m : ak} (h : bn m) (hf : vM n k m)
 include h
theorem yH:bW (bd m)=bd m:=NV h.kS
 include hf
theorem UU{j:Nat}(hj:j<10)(hs:j=m.au.toNat\/∃e∈bd m,e.au.toNat=j):mQ (fP m.au.toNat m.aa (bd m)) j=true/\ll (fP m.au.toNat m.aa (bd m)) j=flat n k:=
 aaH h.ev.aC.2 (fun _=>flat n k) hf.aO.symm (fun e he=>by rw[yH h]at he;exact hf.all he) hj (by rw[yH h];exact hs)
theorem ZV{s:Nat}(hs:∀j,s.testBit j=true->∃e∈bd m,e.au.toNat=j):(gq (fP m.au.toNat m.aa (bd m)) s).testBit m.au.toNat=gT n k m.au.toNat s:=by
 have hs10:∀j,s.testBit j=true->j<10:=fun j hj=>by
  obtain⟨e,he,rfl⟩:=hs j hj;have:=iD (h.kS e he);omega
 have hg:=A6 (lj (aC:=m.au.toNat) h.aO.sm h.ev.k8.1) (Ek hs10);have hi:=UU h hf h.ev.aC.2 (.inl rfl);unfold gT;rw[QW,Qm,Qi];constructor
 ·intro hb;have h1:=hg.inside _ hb;refine⟨h1.1,?_⟩;have h3:=h1.2.2;rw[hi.2,Lq]at h3;have h3:=of_decide_eq_true h3;have h2:=aac (s':=s) (fun j hj=>(hg.inside j hj).1) (uB n)
  omega
 ·rintro⟨hb,hc⟩;refine hg.max s (fun j hj=> ?_) _ hb
  obtain⟨g1,g2⟩:=UU h hf (hs10 j hj) (.inr (hs j hj));exact⟨hj,g1,by rw[g2,Lq];exact Qg hc⟩
theorem ady(s:Nat):um (fP m.au.toNat m.aa (bd m)) m.au.toNat s=bT n k m.au.toNat s:=by
 obtain⟨g1,g2⟩:=UU h hf h.ev.aC.2 (.inl rfl);unfold um bT;rw[g1,g2,Lq,Bool.true_and]
end
theorem I4{p:al->Bool}{l:List al}{j:Nat}(hb:(dB p l).testBit j=true):∃e∈l,e.au.toNat=j:=by
 rw[vS,List.any_eq_true]at hb;obtain⟨e,he,hp⟩:=hb;rw[Qm,Qi]at hp;exact⟨e,he,hp.2⟩
theorem UH{p q:al->Bool}{l:List al}{j:Nat}(hb:(dB p l|||dB q l).testBit j=true):∃e∈l,e.au.toNat=j:=by
 rw[Nat.testBit_or,Qn]at hb;rcases hb with hb|hb
 ·exact I4 hb
 ·exact I4 hb
def W0(n:Nat)(k:Int)(i:Nat)(l:List al)(b:ab):Bool:=bT n k i (dB (de · b) l)||gT n k i (dB (fun e=>oC e b||de e b) l|||dB (de · b) l)
def O8(n:Nat)(k:Int)(i:Nat)(l:List al)(b:ab):Bool:=gT n k i (dB (de · b) l)
def sR(n:Nat)(k:Int)(i:Nat)(l:List al)(v:ByteArray)(lo hi:Int):Bool:=bT n k i (dB (fh · v lo hi) l)||gT n k i (dB (fun e=>rI e v lo hi||fh e v lo hi) l|||dB (fh · v lo hi) l)
def M1(n:Nat)(k:Int)(i:Nat)(l:List al)(v:ByteArray)(lo hi:Int):Bool:=gT n k i (dB (fh · v lo hi) l)
def adW(e:al):List ab:=if e.bD=1 then[e.af,e.ao,e.az]else if e.bD=2 then[e.ao,at_ e 1000000]else[at_ e 1000000]
def tw(l:List al):List ab:=((l.flatMap adW).filter fun b=> !aG b).foldl (fun l x=>dR (fun x y=>bs y x) x l) []
def PE(l:List al):List ByteArray:=(l.map (·.af.Value)).foldl (fun l x=>dR c9 x l) []
def UB(v:ByteArray)(e:al):List Int:=if e.af.Value=v/\e.aQ≠0 then[e.aQ,e.bb]else[]
def se(l:List al)(v:ByteArray):List Int:=(l.flatMap (UB v)).foldl (fun l x=>dR (fun a b=>decide (a<b)) x l) []
section
variable {l : List al} (hv : ∀ e ∈ l, aW e = true) (hsm : ∀ e ∈ l, c5 e.aa) (hlen : l.length <= 1000)
 include hv hsm hlen
theorem Tn:ep l=tw l:=by
 obtain⟨_,h2,_,h4⟩:=lF hsm hlen;obtain⟨h5,h6⟩:=BZ zk.flip ((l.flatMap adW).filter fun b=> !aG b) [] .nil
 refine zk.flip.unique h2 h5 fun x=> ?_
 unfold tw;rw[h4,h6];simp only[List.mem_filter,QQ,QR,or_false,Bool.not_eq_true'];constructor
 ·rintro⟨e,he,hx,hz⟩;refine⟨⟨e,he,?_⟩,hz⟩;unfold said at hx;rw[hv e he]at hx;exact hx
 ·rintro⟨⟨e,he,hx⟩,hz⟩;refine⟨e,he,?_,hz⟩;unfold said;rw[hv e he];exact hx
theorem acj:fJ l=PE l:=by
 obtain⟨_,h2,_,h4⟩:=qN hsm hlen;obtain⟨h5,h6⟩:=BZ nb (l.map (·.af.Value)) [] .nil;refine nb.unique h2 h5 fun x=> ?_
 unfold PE;rw[h4,h6];simp only[QP,QR,or_false];constructor
 ·rintro⟨e,he,_,rfl⟩;exact⟨e,he,rfl⟩
 ·rintro⟨e,he,rfl⟩;exact⟨e,he,hv e he,rfl⟩
theorem MU:bo l=se l:=by
 funext v
 obtain⟨_,h2,_,h4⟩:=il hsm hlen v;obtain⟨h5,h6⟩:=BZ Bf (l.flatMap (UB v)) [] .nil;refine Bf.unique (h2.imp fun hab=>Qg hab) h5 fun x=> ?_
 unfold se;rw[h4,h6,yR];simp only[QQ,QR,or_false];constructor
 ·rintro⟨e,he,hb,hx⟩;refine⟨e,he,?_⟩;simp only[gY,Qm,Qi,Bool.not_eq_true',Qj]at hb;unfold UB;rw[Qr ⟨hb.1.2,hb.2⟩];simpa using hx
 ·rintro⟨e,he,hx⟩;unfold UB at hx;split at hx
  ·rename_i hc;refine⟨e,he,?_,by simpa using hx⟩
   simp only[gY,Qm,Qi,Bool.not_eq_true',Qj];exact⟨⟨hv e he,hc.1⟩,hc.2⟩
  ·cases hx
end
section
variable {n : Nat} {k : Int} {m : ak} (h : bn m) (hf : vM n k m)
 include h hf
theorem ain:km m.au.toNat m.aa (bd m)=W0 n k m.au.toNat (bd m):=by
 funext b
 unfold km lE W0;rw[yH h,ady h hf,ZV h hf fun j hj=>UH hj]
theorem ahg:jy m.au.toNat m.aa (bd m)=O8 n k m.au.toNat (bd m):=by
 funext b
 unfold jy O8;rw[yH h,ZV h hf fun j hj=>I4 hj]
theorem Yb:fT m=sR n k m.au.toNat (bd m):=by
 funext v lo hi
 unfold fT kR lE sR;rw[yH h,ady h hf,ZV h hf fun j hj=>UH hj]
theorem ago:EZ m=M1 n k m.au.toNat (bd m):=by
 funext v lo hi
 unfold EZ ra M1;rw[yH h,ZV h hf fun j hj=>I4 hj]
end
def ab1(x:ByteArray->Int->Int->Bool)(p q:ab)(v:ByteArray)(s:Bool×ab)(n:Int):Bool×ab:=
 if bs s.2 ⟨n,v⟩&& !lQ p q v n&&x v n n then(true,⟨n,v⟩)else s
def UE(x:ByteArray->Int->Int->Bool)(l:List al)(p q:ab):Bool×ab:=
 (PE l).foldl (fun s v=>(se l v).foldl (ab1 x p q v) s) (false,⟨0,eQ⟩)
def O1(x:ByteArray->Int->Int->Bool)(l:List al)(p q:ab)(s:Bool×ab):ByteArray×Int×Int×Bool×Unit:=
 if s.1 then(s.2.Value,cy (fun n=> !lQ p q s.2.Value n&&x s.2.Value n s.2.an) (se l s.2.Value).reverse s.2.an,s.2.an,true,())else(eQ,0,0,false,())
def ade(b:List Int)(ready:Int->Int->Bool)(low bS:Int):Int×Int:=
 match b.reverse.find? (fun n=>decide (bS<n)&&ready n n)with
 |none=>(cy (fun x=>ready x bS) b.reverse low,bS)
 |some n=>
  let bottom:=cy (fun x=>ready x n) b.reverse n
  (cy (fun x=>ready x n) b.reverse (if bS<bottom - 1\/bottom<low then bottom else low),n)
def aa9(nx:ab)(m:ak):ak:=
 if m.aJ=3\/aG m.af=true then m else
  {m with ao:=(cU m.ao m.az (dD nx)).1,az:=(cU m.ao m.az (dD nx)).2,aQ:=qe m (cU m.ao m.az (dD nx)).1 (cU m.ao m.az (dD nx)).2}
def aa8(hg:ab)(m:ak):ak:=if m.aJ≠1\/aG m.af=true\/aG hg=true then m else n2 (zX m hg) hg
def abb(fs:ByteArray×Int×Int×Bool×Unit)(ex:Int×Int)(m:ak):ak:=
 if m.aJ=1 then(if fs.2.2.2.1=true then IM m fs.1 fs.2.1 fs.2.2.1 else m)
 else if m.aJ=2 then yB m ex.1 ex.2 else m
def aba(fn:Int×Int×Bool×Unit)(m:ak):ak:=if m.aJ=2/\fn.2.2.1=true then Jv m fn.1 fn.2.1 else m
def adw(ah:Int->Bool)(m:ak):Int:=m.aA.foldl (fun y8 e=>if m.af.an<dY e/\dY e<y8/\ah (dY e)=false then dY e else y8) 1000000
def ad4(m:ak):ByteArray:=if m.aJ=1 then dE m else m.af.Value
def Vt(ah:Int->Bool)(m:ak):ak:=
 if m.aJ=3\/ah m.af.an=false then m
 else{m with aQ:=if ad4 m=m.af.Value then m.aQ else 0,af:=⟨bC m.af.an (dC (adw ah m) 1000),ad4 m⟩}
def Pq(n:Nat)(k:Int)(m:ak)(c:Int):Bool:=bT n k m.au.toNat (Cd m c)
def Ji(m p r:ak):ak:=bif zl m p then r else p
def stepT(n:Nat)(k:Int)(m:ak):ak:=
 Ji m (aa9 (((tw (bd m)).find? (vB (W0 n k m.au.toNat (bd m)) m.ao m.az (CE m))).getD yw) m)<|
 Ji m (aa8 (((tw (bd m)).find? (vD (O8 n k m.au.toNat (bd m)) m.av)).getD yw) m)<|
 Ji m (abb (O1 (sR n k m.au.toNat (bd m)) (bd m) m.ao m.az (UE (sR n k m.au.toNat (bd m)) (bd m) m.ao m.az)) (ade (se (bd m) m.af.Value) (sR n k m.au.toNat (bd m) m.af.Value) m.aQ m.bb) m)<|
 Ji m (aba (vk (se (bd m) m.af.Value) (M1 n k m.au.toNat (bd m) m.af.Value)) m)<|
 Vt (Pq n k m) m
open Classical in
theorem Jh{m m' r:ak}(he:gD m m'):Ji m m' r=if m'=m then r else m':=by
 unfold Ji
 by_cases h:m'=m
 ·rw[Qr h,h,tU];rfl
 ·rw[Qs h,yQ he h];rfl
section
variable {n : Nat} {k : Int} {m : ak} (h : bn m) (hf : vM n k m)
 include h hf
theorem ahX:dZ m=((tw (bd m)).find? (vB (W0 n k m.au.toNat (bd m)) m.ao m.az (CE m))).getD yw:=by
 unfold dZ iO;rw[ain h hf,Tn h.kS h.ev.k8.1.aO h.ev.k8.2]
theorem ah2:fN m=((tw (bd m)).find? (vD (O8 n k m.au.toNat (bd m)) m.av)).getD yw:=by
 unfold fN vF;rw[ahg h hf,Tn h.kS h.ev.k8.1.aO h.ev.k8.2]
theorem aid:eX m=O1 (sR n k m.au.toNat (bd m)) (bd m) m.ao m.az (UE (sR n k m.au.toNat (bd m)) (bd m) m.ao m.az):=by
 unfold eX nK gf O1 UE;rw[Yb h hf,MU h.kS h.ev.k8.1.aO h.ev.k8.2,acj h.kS h.ev.k8.1.aO h.ev.k8.2];rfl
theorem aii:dX m=ade (se (bd m) m.af.Value) (sR n k m.au.toNat (bd m) m.af.Value) m.aQ m.bb:=by
 unfold dX;rw[Yb h hf,MU h.kS h.ev.k8.1.aO h.ev.k8.2];rfl
theorem aih:lN m=vk (se (bd m) m.af.Value) (M1 n k m.au.toNat (bd m) m.af.Value):=by
 unfold lN;rw[ago h hf,MU h.kS h.ev.k8.1.aO h.ev.k8.2]
theorem YU:im m=Pq n k m:=by
 funext c
 exact ady h hf _
theorem aeY:eO m=Vt (Pq n k m) m:=by
 have e:gp m=adw (Pq n k m) m:=by
  unfold gp adw lp;rw[YU h hf]
 unfold eO Vt;rw[YU h hf,e];rfl
theorem agq:cv m=stepT n k m:=by
 have eP:aa9 (((tw (bd m)).find? (vB (W0 n k m.au.toNat (bd m)) m.ao m.az (CE m))).getD yw) m=cW m:=by rw[<-ahX h hf];rfl
 have eS:aa8 (((tw (bd m)).find? (vD (O8 n k m.au.toNat (bd m)) m.av)).getD yw) m=fZ m:=by rw[<-ah2 h hf];rfl
 have eC:abb (O1 (sR n k m.au.toNat (bd m)) (bd m) m.ao m.az (UE (sR n k m.au.toNat (bd m)) (bd m) m.ao m.az)) (ade (se (bd m) m.af.Value) (sR n k m.au.toNat (bd m) m.af.Value) m.aQ m.bb) m=fK m:=by rw[<-aid h hf,<-aii h hf];rfl
 have eF:aba (vk (se (bd m) m.af.Value) (M1 n k m.au.toNat (bd m) m.af.Value)) m=iN m:=by rw[<-aih h hf];rfl
 unfold cv stepT;rw[eP,eS,eC,eF,<-aeY h hf,Jh (wQ m),Jh (sX m),Jh (sZ m),Jh (sY m)]
end
 def xJ:Nat->ak->ak
 |0,m=>m
 |j+1,m=>xJ j (cv m)
theorem MA:∀(j:Nat) (m:ak),xJ (j+1) m=cv (xJ j m)
 |0,_=>rfl
 |j+1,m=>MA j (cv m)
theorem RJ{m:ak}(h:bn m):∀j,bn (xJ j m)
 |0=>h
 |j+1=>by rw[MA];exact zJ (RJ h j)
theorem MB{m:ak}(h:cv m=m):∀j,xJ j m=m
 |0=>rfl
 |j+1=>by rw[xJ,h];exact MB h j
theorem RL:∀(i j:Nat) (m:ak),xJ (i+j) m=xJ j (xJ i m)
 |0,j,m=>by rw[Nat.zero_add];rfl
 |i+1,j,m=>by rw[show i+1+j=(i+j)+1 by omega,xJ,RL i j];rfl
theorem afo{m:ak}{i j:Nat}(hi:cv (xJ i m)=xJ i m)(hj:cv (xJ j m)=xJ j m):xJ i m=xJ j m:=by
 rcases Nat.le_total i j with hl|hl
 ·have:=RL i (j - i) m;rw[MB hi]at this;rw[<-this,show i+(j - i)=j by omega]
 ·have:=RL j (i - j) m;rw[MB hj]at this;rw[<-this,show j+(i - j)=i by omega]
theorem Hj{m m':ak}(he:gD m m')(s:Int):({m' with aI:=s}:ak)={m with aI:=s}↔m'=m:=by
 constructor
 ·intro h;have e1:m'.aJ=m.aJ:=(congrArg ak.aJ h:_);have e2:m'.af=m.af:=(congrArg ak.af h:_);have e3:m'.ao=m.ao:=(congrArg ak.ao h:_);have e4:m'.az=m.az:=(congrArg ak.az h:_);have e5:m'.av=m.av:=(congrArg ak.av h:_);have e6:m'.aQ=m.aQ:=(congrArg ak.aQ h:_);have e7:m'.bb=m.bb:=(congrArg ak.bb h:_);exact yS he e1 e2 e3 e4 e5 e6 e7
 ·rintro rfl;rfl
open Classical in
theorem Sc{m:ak}(h:bn m){s:Int}(hs:0<=s/\s<=1000000):cv {m with aI:=s}={cv m with aI:=s}:=by
 unfold cv;rw[SF h hs,SD h hs,SM h hs,SK h hs,SI h hs];simp only[Hj (wQ m),Hj (sX m),Hj (sZ m),Hj (sY m)]
 by_cases hP:cW m=m
 ·by_cases hS:fZ m=m
  ·by_cases hC:fK m=m
   ·by_cases hF:iN m=m
    ·simp only[Qr hP,Qr hS,Qr hC,Qr hF]
    ·simp only[Qr hP,Qr hS,Qr hC,Qs hF]
   ·simp only[Qr hP,Qr hS,Qs hC]
  ·simp only[Qr hP,Qs hS]
 ·simp only[Qs hP]
def Reach(m x:ak):Prop:=∃j s,(0<=s/\s<=1000000)/\x={xJ j m with aI:=s}
theorem aeB{m:ak}(h:bn m):∀x,bn x->Reach m x->Reach m (cv x):=by
 rintro x _ ⟨j,s,hs,rfl⟩;exact⟨j+1,s,hs,by rw[Sc (RJ h j) hs,MA]⟩
theorem aeA{m:ak}:∀x,Reach m x->Reach m (c7 x):=by
 rintro x ⟨j,s,hs,rfl⟩;unfold c7;split
 ·exact⟨j,bC s 1,by unfold bC;split<;>omega,rfl⟩
 ·exact⟨j,s,hs,rfl⟩
theorem aeC{m:ak}(h:bn m):Reach m m:=⟨0,m.aI,h.seq,rfl⟩
def runT(n:Nat)(k:Int):Nat->ak->Option ak
 |0,_=>none
 |f+1,m=>if zl m (stepT n k m)=true then some m else runT n k f (stepT n k m)
theorem vM.step{n:Nat}{k:Int}{m m':ak}(hf:vM n k m)(he:gD m m'):vM n k m':=⟨hf.n10,hf.k1,hf.kn,by rw[he.aO];exact hf.aO,by rw[he.heard];exact hf.heard⟩
theorem aaR{n:Nat}{k:Int}:∀{f:Nat} {m z:ak},bn m->vM n k m->runT n k f m=some z->∃j,xJ j m=z/\cv z=z
 |0,m,z,_,_,e=>by cases e
 |f+1,m,z,h,hf,e=>by
  rw[runT,<-agq h hf]at e;split at e
  ·rename_i hs;obtain rfl:=Option.some.inj e;exact⟨0,rfl,UW (zK m) hs⟩
  ·obtain⟨j,h1,h2⟩:=aaR (zJ h) (hf.step (zK m)) e;exact⟨j+1,h1,h2⟩
theorem aim{n:Nat}{k:Int}{f:Nat}{m1 z m m2:ak}(h:bn m1)(hf:vM n k m1)(hz:runT n k f m1=some z)(ha:MX (Reach m1) m m2):m2={z with aI:=m2.aI}:=by
 obtain⟨j,s,hs,e⟩:=ha.rel;obtain⟨i,h1,h2⟩:=aaR h hf hz;have h3:=ada ha.fix;rw[e,Sc (RJ h j) hs]at h3;have h4:=(Hj (zK (xJ j m1)) s).1 h3;rw[<-h1]at h2;have h5:=afo h2 h4;rw[e,<-h5,h1]
structure aen (n:Nat) (k:Int) (m:ak):Prop where
 inv:bn m
 seq:gi m
 flat:vM n k m
 nz:aG m.af=false
 bq:m.aT=1
theorem aen.env{n:Nat}{k:Int}{m:ak}(h:aen n k m):aW (cQ m)=true/\(cQ m).aa=Go.Proofs.YtjbfdglebjnelaaGreat.flat n k/\(cQ m).aT=1:=⟨Jk h.inv h.seq h.nz,by rw[qZ];exact h.flat.aO,by rw[CZ];exact h.bq⟩
end Go.Proofs.YtjbfdglebjnelaaGreat
namespace Go.Proofs.YtjbfdglebjnelaaGreat
open Go.TQ
section
variable {n : Nat} {k : Int}
end
end Go.Proofs.YtjbfdglebjnelaaGreat
namespace Go.Proofs.YtjbfdglebjnelaaGreat
open Go.TQ
section
variable {n : Nat} {k : Int} (hn : n <= 10) (hk1 : 1 <= k) (hkn : k <= n) {i : Int} (hi0 : 0 <= i) (hi9 : i < 10) {v : ByteArray} (hv : 1 <= v.size /\ v.size <= 200)
 include hn hk1 hkn hi0 hi9
 include hv
end
end Go.Proofs.YtjbfdglebjnelaaGreat
end
noncomputable section
namespace Go.Proofs.YtjbfdglebjnelaaGreat
open Go.TQ
def vu(m m1:ak):Prop:=
 (∃v,(1<=v.size/\v.size<=200)/\m1=eu m v)\/(∃e,EP m e/\m1=FW m e)\/(m.aJ≠3/\dE m≠eQ/\m.af.an<1000/\m1=n3 m)\/(∃t,fu t/\m1=F2 m t)
structure aix (m m1:ak):Prop where
 inv:bn m1
 aC:m1.au=m.au
 bq:m1.aT=m.aT
 seq:m1.aI=m.aI
 nz:aG m.af=false->aG m1.af=false
theorem adA{m m1:ak}(h:bn m)(hb:vu m m1):aix m m1:=by
 rcases hb with⟨v,hv,rfl⟩|⟨e,he,rfl⟩|⟨h3,hv,hc,rfl⟩|⟨t,ht,rfl⟩
 ·exact⟨Fv h hv,by unfold eu;split<;>rfl,by unfold eu;split<;>rfl,l9.2,l9.1⟩
 ·exact⟨Wg h he,rfl,rfl,rfl,fun e=>e⟩
 ·exact⟨UP h h3 hv hc,rfl,rfl,rfl,fun _=>I7 h⟩
 ·exact⟨Wv h ht,rfl,rfl,rfl,fun e=>e⟩
structure OkM (m:ak):Prop where
 inv:bn m
 seq:gi m
 fix:I1 m
 aC:m.au=0
 bq:m.aT=1
theorem aeI{m:ak}(h:bn m)(hs:gi m){e:al}(ht:c5 e.aa)(hbad:aW e=false\/e.au=m.au\/e.aT≠m.aT):kF m e=some (Up,(61:Int),()):=by
 unfold kF;simp only[ak.eta,aj.eta,al.eta,uj h hs,Qa,Qo,Ql,jl ht]
 cases hv:aW e with
 |false=>rfl
 |true=>
  by_cases hn:e.au=m.au
  ·rw[Qg hn];rfl
  ·have hsl:e.aT≠m.aT:=(hbad.resolve_left (by rw[hv];decide)).resolve_left hn
   rw[Qh hn,Qh hsl];rfl
theorem aaJ{v:ByteArray}(h:Le v):1<=v.size/\v.size<=200:=by
 have:=h.size;omega
end Go.Proofs.YtjbfdglebjnelaaGreat
namespace Go.Proofs.YtjbfdglebjnelaaGreat
open Go.TQ
abbrev Lp{σ ρ:Type}(I:σ->Prop)(p:ρ->Prop):σ⊕ρ->Prop
 | .inl s=>I s
 | .inr r=>p r
theorem Yd.Ju{σ ρ:Type}{step:σ->Option (σ⊕ρ)}{p:ρ->Prop}(inv:σ->Prop)(μ:σ->Nat)(h:∀s,inv s->Yd (step s) (Lp (fun s'=>inv s'/\μ s'<μ s) p)){s:σ}(hs:inv s):Yd (aF step s) p:=
 Yd.down inv μ (fun s hi=>(h s hi).mono fun y hy=>by cases y<;>exact hy) hs
theorem Yd.list{α σ τ ρ:Type}{p:ρ->Prop}{step:τ->Option (τ⊕ρ)}(l:List α)(hl:l.length<=1000000)(mk:Int->σ->τ)(inv:Nat->σ->Prop)
  (h1:∀(i:Nat) (x:α) (s:σ),inv i s->l.drop i=x::l.drop (i+1)->x∈l->i<l.length->decide ((i:Int)<((l.length:Nat):Int))=true->idx l (i:Int)=some x->aB .i64 (i:Int) 1=((i+1:Nat):Int)->Yd (step (mk (i:Int) s)) (Lp (fun t=>∃s',t=mk ((i+1:Nat):Int) s'/\inv (i+1) s') p))
  (h2:∀s,inv l.length s->decide (((l.length:Nat):Int)<((l.length:Nat):Int))=false->Yd (step (mk ((l.length:Nat):Int) s)) (Lp (fun _=>False) p))
  {s:σ} (h0:inv 0 s):Yd (aF step (mk 0 s)) p:=by
 suffices key:∀(k i:Nat) (s:σ),i+k=l.length->inv i s->Yd (aF step (mk (i:Int) s)) p from key l.length 0 s (by omega) h0
 intro k
 induction k with
 |zero=>
  intro i s hi hs;obtain rfl:i=l.length:=by omega
  refine Yd.loop ((h2 s hs (Qh (Int.lt_irrefl _))).mono fun y hy=> ?_)
  cases y with
  |inl t=>exact hy.elim
  |inr r=>exact hy
 |succ k ih=>
  intro i s hi hs;have hi':i<l.length:=by omega
  refine Yd.loop ((h1 i l[i] s hs (QM hi') (Q0 hi') hi' (Qg (by omega)) (by rw[bA];exact Qv hi') (bL (by omega) (by omega))).mono fun y hy=> ?_)
  cases y with
  |inl t=>
   obtain⟨s',rfl,hs'⟩:=hy;exact ih (i+1) s' (by omega) hs'
  |inr r=>exact hy
def mg(x:ByteArray):Prop:=1<=x.size/\x.size<=200
instance (x:ByteArray):Decidable (mg x):=by unfold mg;infer_instance
def abK:∀(x:ByteArray) (l:List ByteArray),Decidable (x∈l)
 |_,[]=>isFalse QR
 |x,y::l=>if h:x=y then isTrue (by rw[h];exact Qx)else match abK x l with
  |isTrue h2=>isTrue (Qy _ h2)
  |isFalse h2=>isFalse fun e=>(QA.1 e).elim h h2
instance (x:ByteArray) (l:List ByteArray):Decidable (x∈l):=abK x l
structure VL (l:List ByteArray):Prop where
 C9:∀x∈l,mg x
 asc:l.Pairwise (fun a b=>c9 a b=true)
 len:l.length<=40
theorem VL.nil:VL []:=⟨fun x h=>absurd h QR,List.Pairwise.nil,by simp⟩
theorem VL.CO{l:List ByteArray}(h:VL l):l.length<=1000000:=QK h.len (by omega)
def Ba(a b:ByteArray):Int:=if a=b then 0 else if c9 a b=true then -1 else 1
theorem Fs(a b:ByteArray):iq a b=some (Ba a b):=by
 unfold iq Ba
 by_cases h:a=b
 ·rw[Qg h,Qr h];rfl
 ·rw[Qh h,Qs h];simp only[Ql,Int.ofNat_inj,Int.ofNat_lt]
  by_cases h1:a.size=b.size
  ·have e:c9 a b=jI a b:=by unfold c9;rw[Qr h1]
   have h2:¬a.size<b.size:=by omega
   rw[e,Qg h1,Qh h2];simp only[Ql,Qk,Qa];cases jI a b<;>rfl
  ·have e:c9 a b=decide (a.size<b.size):=by unfold c9;rw[Qs h1]
   rw[e,Qh h1]
   by_cases h2:a.size<b.size
   ·rw[Qg h2];rfl
   ·rw[Qh h2];rfl
theorem IQ{a b:ByteArray}:decide (Ba a b<0)=c9 a b:=by
 unfold Ba
 by_cases h:a=b
 ·subst h;rw[Qr rfl,nb.irrefl];rfl
 ·rw[Qs h];cases c9 a b<;>rfl
theorem abT{a b:ByteArray}:decide (0<Ba a b)=c9 b a:=by
 unfold Ba
 by_cases h:a=b
 ·subst h;rw[Qr rfl,nb.irrefl];rfl
 ·rw[Qs h]
  cases h1:c9 a b with
  |true=>rw[nb.asymm h1];rfl
  |false=>
   cases h2:c9 b a with
   |true=>rfl
   |false=>exact absurd (nb.total _ _ h1 h2) h
theorem aad{a b:ByteArray}:decide (0<=Ba a b)= !c9 a b:=by
 rw[<-IQ (a:=a) (b:=b)]
 by_cases h:Ba a b<0
 ·rw[Qg h,Qh (by omega)];rfl
 ·rw[Qh h,Qg (by omega)];rfl
theorem Vj(x:ByteArray):rR x=some (decide (mg x)):=by
 unfold rR;have h1:decide ((1:Int)<=((x.size:Nat):Int))=decide (1<=x.size):=by rw[decide_eq_decide];omega
 have h2:decide (((x.size:Nat):Int)<=(200:Int))=decide (x.size<=200):=by rw[decide_eq_decide];omega
 rw[h1,h2]
 have e:decide (mg x)=(decide (1<=x.size)&&decide (x.size<=200)):=by
  unfold mg;exact Bool.decide_and _ _
 rw[e];cases decide (1<=x.size)<;>rfl
theorem Vl(l:List ByteArray)(hl:l.length<=1000000)(x:ByteArray):lJ l x=some (decide (x∈l)):=by
 unfold lJ
 have h:Yd (aF (fun(v1:Int×Unit)=>
   bif (decide (v1.1<((List.length l:Nat):Int)))then
   Option.bind (idx l v1.1) fun x2=>
   bif (decide (x=x2))then
   Option.map Sum.inr (some true)
   else
   some (Sum.inl ((aB .i64 v1.1 (1:Int)),()))
   else
   Option.map Sum.inr (some false)) ((0:Int),())) (fun b=>b=decide (x∈l)):=by
  refine Yd.list l hl (fun i (_:Unit)=>(i,())) (fun i _=>x∉l.take i) ?_ ?_ (s:=()) (by simp)
  ·intro i y s hs hd hy hi hdec hx hadd;simp only;rw[hdec,Qk,hx,Qa,hadd]
   by_cases hxy:x=y
   ·rw[Qg hxy,Qk];exact .some (by subst hxy;exact(Qg hy).symm)
   ·rw[Qh hxy,Ql];refine .some ⟨(),rfl,?_⟩
    have hi2:l[i]?=some y:=by
     rw[bA]at hx;exact hx
    rw[List.take_add_one,hi2];simp only[Option.toList_some,Qz,List.mem_singleton];exact fun h=>h.elim hs hxy
  ·intro s hs hdec;simp only;rw[hdec,Ql];rw[List.take_length]at hs;exact .some (Qh hs).symm
 obtain⟨b,h1,rfl⟩:=h;exact h1
theorem Wa{α:Type}[DecidableEq α]{lt:α->α->Bool}(x:α):∀(l:List α),x∉l->(dR lt x l).length=l.length+1
 |[],_=>rfl
 |y::l,h=>by
  have h1:y≠x:=fun e=>h (by rw[e];exact Qx)
  rw[dR]
  by_cases h2:lt y x=true
  ·rw[Qr h2,QE,Wa x l (fun e=>h (Qy _ e)),QE]
  ·rw[Qs h2,Qs h1];rfl
def H2(l:List ByteArray)(x:ByteArray):List ByteArray:=if x∈l\/40<=l.length then l else dR c9 x l
theorem Zs{l:List ByteArray}(h:VL l)(x:ByteArray):pG l x=some (H2 l x):=by
 have hl:=h.len;unfold pG H2;rw[Vl l h.CO,Qa]
 by_cases hx:x∈l
 ·rw[Qg hx,Qr (.inl hx)];rfl
 rw[Qh hx];simp only[Ql,Qa]
 by_cases h40:40<=l.length
 ·rw[Qg (by omega:(40:Int)<=((l.length:Nat):Int)),Qr (.inr h40)];rfl
 rw[Qh (by omega:¬(40:Int)<=((l.length:Nat):Int)),Qs (fun e=>e.elim hx h40)]
 simp only[Ql,aU];have hk:∀n,n<=100->bc 16 n=true:=fun n hn=>bu ⟨by omega,by omega⟩
 have:=Yd.list (p:=fun r=>r=dR c9 x l) (step:=fun(v3:Bool×Int×(List ByteArray)×Unit)=>
   bif (decide (v3.2.1<((List.length l:Nat):Int)))then
   Option.bind (idx l v3.2.1) fun x4=>
   Option.bind (bif (!v3.1)then
   Option.bind (iq x x4) fun r7=>
   some (decide (r7<(0:Int)))
   else some false) fun b8=>
   bif b8 then
   bif bc 16 (List.length v3.2.2.1+List.length [x])then
   bif bc 16 (List.length (v3.2.2.1++[x])+List.length [x4])then
   some (Sum.inl (true,(aB .i64 v3.2.1 (1:Int)),((v3.2.2.1++[x])++[x4]),()))
   else none
   else none
   else
   bif bc 16 (List.length v3.2.2.1+List.length [x4])then
   some (Sum.inl (v3.1,(aB .i64 v3.2.1 (1:Int)),(v3.2.2.1++[x4]),()))
   else none
   else
   Option.map Sum.inr (
   bif (!v3.1)then
   bif bc 16 (List.length v3.2.2.1+List.length [x])then
   some (v3.2.2.1++[x])
   else none
   else
   some v3.2.2.1)) l h.CO (fun i (s:Bool×List ByteArray)=>(s.1,i,s.2,()))
   (fun i s=>s.2.length<=2*i/\(s.1=false->s.2++dR c9 x (l.drop i)=dR c9 x l)/\(s.1=true->s.2++l.drop i=dR c9 x l)) ?_ ?_ (s:=(false,[])) ⟨by simp,fun _=>by simp,fun e=>by cases e⟩
 ·obtain⟨r,h1,rfl⟩:=this;exact h1
 ·rintro i y ⟨d,out⟩ ⟨hs1,hs2,hs3⟩ hd hy hi hdec hx' hadd;simp only at hs1 hs2 hs3;simp only;rw[hdec,Qk,hx',Qa,hadd,Fs,Qa,IQ];have hne:y≠x:=fun e=>hx (by rw[<-e];exact hy)
  have k1:bc 16 (out.length+[x].length)=true:=hk _ (by simp only[List.length_singleton];omega)
  have k2:bc 16 ((out++[x]).length+[y].length)=true:=hk _ (by simp only[QB,List.length_singleton];omega)
  have k3:bc 16 (out.length+[y].length)=true:=hk _ (by simp only[List.length_singleton];omega)
  rw[k1,k2,k3]
  cases d with
  |true=>
   simp only[Qo,Ql,Qa,Qk];refine .some ⟨(true,out++[y]),rfl,by simp only[QB,List.length_singleton];omega,fun e=>(by cases e),fun _=> ?_⟩
   rw[<-hs3 rfl,hd,QL];rfl
  |false=>
   have hs2:=hs2 rfl;rw[hd,dR]at hs2;simp only[Qp,Qk,Qa]
   cases hxy:c9 x y with
   |true=>
    simp only[Qk];rw[Qs (by rw[nb.asymm hxy];simp),Qs hne]at hs2
    refine .some ⟨(true,(out++[x])++[y]),rfl,by simp only[QB,List.length_singleton];omega,fun e=>(by cases e),fun _=> ?_⟩
    rw[<-hs2,QL,QL];rfl
   |false=>
    simp only[Ql]
    have hyx:c9 y x=true:=by
     cases hh:c9 y x with
     |true=>rfl
     |false=>exact absurd (nb.total _ _ hh hxy) hne
    rw[Qr hyx]at hs2;refine .some ⟨(false,out++[y]),rfl,by simp only[QB,List.length_singleton];omega,fun _=> ?_,fun e=>by cases e⟩
    rw[<-hs2,QL];rfl
 ·rintro⟨d,out⟩ ⟨hs1,hs2,hs3⟩ hdec;simp only at hs1 hs2 hs3;simp only;have k1:bc 16 (out.length+[x].length)=true:=hk _ (by simp only[List.length_singleton];omega)
  rw[hdec,Ql,k1]
  cases d with
  |true=>
   have:=hs3 rfl;rw[List.drop_length,List.append_nil]at this;exact .some this
  |false=>
   have:=hs2 rfl;rw[List.drop_length]at this;exact .some this
theorem Jg{l:List ByteArray}(h:VL l){x:ByteArray}(hx:mg x):VL (H2 l x)/\(∀y∈l,y∈H2 l x)/\(∀y∈H2 l x,y=x\/y∈l)/\(x∉l->l.length<40->(H2 l x).length=l.length+1):=by
 unfold H2
 by_cases h1:x∈l\/40<=l.length
 ·rw[Qr h1];refine⟨h,fun _ hy=>hy,fun _ hy=> .inr hy,fun h2 h3=> ?_⟩
  rcases h1 with h1|h1
  ·exact absurd h1 h2
  ·omega
 ·rw[Qs h1];have hm:=FH (lt:=c9) x l;have hlen:=wv (lt:=c9) x l;have h2:¬40<=l.length:=fun e=>h1 (.inr e)
  refine⟨⟨fun y hy=> ?_,nb.dR x h.asc,by omega⟩,fun y hy=>(hm y).2 (.inr hy),fun y hy=>(hm y).1 hy,fun h3 _=>Wa x l h3⟩
  rcases(hm y).1 hy with rfl|hy
  ·exact hx
  ·exact h.C9 y hy
theorem HY{l:List ByteArray}(h:VL l):kU l=some true:=by
 unfold kU;refine Yd.eq_true (Yd.list l h.CO (fun i (_:Unit)=>(i,())) (fun _ _=>True) ?_ ?_ (s:=()) trivial)
 ·intro i y s hs hd hy hi hdec hx hadd;simp only;rw[hdec,Qk,hx,Qa,Vj,Qa,Qg (h.C9 y hy),hadd];simp only[Qo,Ql]
  by_cases h0:i=0
  ·subst h0;rw[Qh (by omega:¬(0:Int)<((0:Nat):Int))]
   exact .some ⟨(),rfl,trivial⟩
  ·rw[Qg (by omega:(0:Int)<(i:Int))]
   simp only[Qk];have hsub:da .i64 (i:Int) 1=((i - 1:Nat):Int):=by rw[pK (by omega) (by have:=h.len;omega)];omega
   have hi1:i - 1<l.length:=by omega
   rw[hsub,bA,Qv hi1,Qa,Fs,Qa,aad]
   have hyi:y=l[i]:=by
    rw[bA,Qv hi]at hx;exact(Option.some.inj hx).symm
   have hlt:c9 l[i - 1] y=true:=by
    rw[hyi];exact List.pairwise_iff_getElem.1 h.asc (i - 1) i hi1 hi (by omega)
   rw[hlt];exact .some ⟨(),rfl,trivial⟩
 ·intro s hs hdec;simp only;rw[hdec,Ql,Qg (by have:=h.len;omega:((l.length:Nat):Int)<=(40:Int))]
  exact .some rfl
theorem aaY{s t:List ByteArray}(h:s.length<=1000000):∃b,tH s t=some b/\(b=true↔s=t):=by
 unfold tH
 by_cases hl:s.length=t.length
 ·rw[Qg (by omega:((s.length:Nat):Int)=((t.length:Nat):Int)),Qo,Ql]
  refine aar hl h (fun i hi hi' hd hx hy hw=> ?_) (fun hd=> ?_)
  ·simp only;rw[hd,Qk,hx,hy,Qa,Qa,hw]
   by_cases he:s[i]=t[i]
   ·rw[Qg he];exact⟨true,rfl,by simp[he]⟩
   ·rw[Qh he];exact⟨false,rfl,by simp[he]⟩
  ·simp only;rw[hd,Ql];rfl
 ·rw[Qh (by omega:¬((s.length:Nat):Int)=((t.length:Nat):Int))]
  exact⟨false,rfl,VP hl⟩
theorem NY{a b:List ByteArray}{n:Nat}(hn:a.length+b.length<=n)(h:n<=100000):Yd (mH a b) fun r=>r.length<=n/\∀x∈r,x∈a\/x∈b:=by
 unfold mH;simp only[aU];refine Yd.Ju (fun(v:Int×Int×List ByteArray×Unit)=>∃i k:Nat,v.1=i/\v.2.1=k/\i<=a.length/\k<=b.length/\v.2.2.1.length<=i+k/\∀x∈v.2.2.1,x∈a\/x∈b) (fun v=>a.length+b.length - (v.1.toNat+v.2.1.toNat)) ?_ ⟨0,0,rfl,rfl,by omega,by omega,by simp,fun x hx=>absurd hx QR⟩
 rintro⟨i',k',out,u⟩ ⟨i,k,e1,e2,hi,hk,hlen,hmem⟩;simp only at e1 e2 hlen hmem;subst e1 e2;have kk:∀x:ByteArray,bc 16 (out.length+[x].length)=true:=fun x=>bu ⟨by simp only[List.length_singleton];omega,by simp only[List.length_singleton];omega⟩
 have hi1:aB .i64 (i:Int) 1=((i+1:Nat):Int):=bL (by omega) (by omega)
 have hk1:aB .i64 (k:Int) 1=((k+1:Nat):Int):=bL (by omega) (by omega)
 have ga:i<a.length->∃x∈a,idx a (i:Int)=some x:=fun h=>⟨a[i],Q0 h,by rw[bA];exact Qv h⟩
 have gb:k<b.length->∃x∈b,idx b (k:Int)=some x:=fun h=>⟨b[k],Q0 h,by rw[bA];exact Qv h⟩
 have fin1:∀(x:ByteArray) (j1 j2:Nat),(x∈a\/x∈b)->j1<=a.length->j2<=b.length->i+k<j1+j2->Yd (bif bc 16 (out.length+[x].length)then some (Sum.inl (((j1:Nat):Int),((j2:Nat):Int),(out++[x]),()))else(none:Option ((Int×Int×List ByteArray×Unit)⊕List ByteArray)))
   (Lp (fun s'=>(∃i k:Nat,s'.1=i/\s'.2.1=k/\i<=a.length/\k<=b.length/\s'.2.2.1.length<=i+k/\∀x∈s'.2.2.1,x∈a\/x∈b)/\a.length+b.length - (s'.1.toNat+s'.2.1.toNat)<a.length+b.length - ((i:Int).toNat+(k:Int).toNat)) (fun r=>r.length<=n/\∀x∈r,x∈a\/x∈b)):=by
  intro x j1 j2 hx h1 h2 h3;rw[kk x,Qk];refine .some ⟨⟨j1,j2,rfl,rfl,h1,h2,?_,?_⟩,?_⟩
  ·simp only[QB,List.length_singleton];omega
  ·intro y hy;rcases Qz.1 hy with hy|hy
   ·exact hmem y hy
   ·rw[List.mem_singleton.1 hy];exact hx
  ·simp only[QV];omega
 simp only
 by_cases c1:i<a.length
 ·obtain⟨x,hx,ex⟩:=ga c1;rw[Qg (by omega:(i:Int)<((a.length:Nat):Int))]
  simp only[Qk,Qa]
  by_cases c2:k=b.length
  ·rw[Qg (by omega:(k:Int)=((b.length:Nat):Int)),ex,hi1]
   simp only[Qk,Qa];exact fin1 x (i+1) k (.inl hx) (by omega) hk (by omega)
  ·obtain⟨y,hy,ey⟩:=gb (by omega)
   rw[Qh (by omega:¬(k:Int)=((b.length:Nat):Int)),ex,ey,Qh (by omega:¬(i:Int)=((a.length:Nat):Int))]
   simp only[Ql,Qa,Fs,IQ,abT,hi1,hk1]
   cases c9 x y with
   |true=>exact fin1 x (i+1) k (.inl hx) (by omega) hk (by omega)
   |false=>
    cases c9 y x with
    |true=>exact fin1 y i (k+1) (.inr hy) hi (by omega) (by omega)
    |false=>exact fin1 x (i+1) (k+1) (.inl hx) (by omega) (by omega) (by omega)
 ·rw[Qh (by omega:¬(i:Int)<((a.length:Nat):Int))]
  simp only[Ql]
  by_cases c2:k<b.length
  ·obtain⟨y,hy,ey⟩:=gb c2;rw[Qg (by omega:(k:Int)<((b.length:Nat):Int)),Qh (by omega:¬(k:Int)=((b.length:Nat):Int)),ey,Qg (by omega:(i:Int)=((a.length:Nat):Int))]
   simp only[Ql,Qk,Qa,hk1];exact fin1 y i (k+1) (.inr hy) hi (by omega) (by omega)
  ·rw[Qh (by omega:¬(k:Int)<((b.length:Nat):Int))]
   simp only[Ql,Qa];exact .some ⟨by omega,hmem⟩
theorem Zw{l:List ByteArray}(h:l.length<=1000000):Yd (pQ l) fun r=>r.2.1=true->mg r.1:=by
 unfold pQ;simp only[aU];refine Yd.list l h (fun i (s:ByteArray×Bool)=>(s.1,s.2,i,())) (fun _ s=>s.2=true->mg s.1) ?_ ?_ (s:=(_,false)) (fun e=>by cases e)
 ·rintro i y ⟨y8,found⟩ hs hd hy hi hdec hx hadd;simp only at hs;simp only;rw[hdec,Qk,hx,Qa,Vj,Qa,hadd]
  by_cases hv:mg y
  ·rw[Qg hv];simp only[Qk]
   cases found with
   |false=>
    simp only[Qp,Qk,Qa];exact .some ⟨(y,true),rfl,fun _=>hv⟩
   |true=>
    simp only[Qo,Ql,Qa,Fs]
    cases decide (0<Ba y y8)with
    |true=>exact .some ⟨(y,true),rfl,fun _=>hv⟩
    |false=>exact .some ⟨(y8,true),rfl,hs⟩
  ·rw[Qh hv];simp only[Ql,Qa];exact .some ⟨(y8,found),rfl,hs⟩
 ·rintro⟨y8,found⟩ hs hdec;simp only;rw[hdec,Ql];exact .some hs
end Go.Proofs.YtjbfdglebjnelaaGreat
namespace Go.Proofs.YtjbfdglebjnelaaGreat
open Go.TQ
theorem adO{rec:(aj×Int×Unit)->Option (gM×Bool×Unit)}{t:aj}{x:Int}(hm:c5 t)(hr:∀u∈t.aN,Yd (rec (u,x,())) fun _=>True):Yd (qL rec t x) fun _=>True:=by
 unfold qL;simp only[aj.eta];refine Yd.list t.ba hm.nodes (fun i (s:gM)=>(i,s,())) (fun _ _=>True) ?_ ?_ trivial
 ·intro i y s hs hd hy hi hdec hx hadd;simp only;rw[hdec,Qk,hx,Qa,hadd]
  cases decide (y=x)with
  |true=>exact .some trivial
  |false=>exact .some ⟨s,rfl,trivial⟩
 ·intro s hs hdec;simp only;rw[hdec,Ql];refine Yd.map (Yd.list t.aN hm.len (fun i (s:gM)=>(i,s,())) (fun _ _=>True) ?_ ?_ trivial)
  ·intro i y s hs hd hy hi hdec hx hadd;simp only;rw[hdec,Qk,hx,Qa,hadd];refine Yd.bind (hr y hy) fun q _=> ?_
   cases q.2.1 with
   |true=>exact .some trivial
   |false=>exact .some ⟨s,rfl,trivial⟩
  ·intro s hs hdec;simp only;rw[hdec,Ql];exact .some trivial
theorem adJ{x:Int}{n:Nat}:∀{t:aj},SizeOf.sizeOf t<n->c5 t->Yd (zg n (t,x,())) fun _=>True:=by
 induction n with
 |zero=>intro t h;omega
 |succ n ih=>
  intro t hz hm;show Yd (qL (zg n) t x) fun _=>True
  exact adO hm fun u hu=>ih (t:=u) (by have:=pC hu;omega) (hm.inner u hu)
theorem aeD{t:aj}(hm:c5 t)(x:Int):Yd (zi t x) fun _=>True:=adJ (by omega) hm
structure PB (t:aj) (v bq round:Int):Prop where
 aO:fu t
 v0:0<=v
 v1:v<10
 s0:0<=bq
 s1:bq<=1000000
 r1:1<=round
 r2:round<=1000
theorem Zu(a b c d:Int):∃r,tI a b c d=some r:=⟨_,rfl⟩
section
variable {t : aj} {v bq round : Int}
theorem aa0(h:PB t v bq round):rV t v bq round=some 0:=by
 have e1:=h.v0;have e2:=h.v1;have e3:=h.s0;have e4:=h.s1;have e5:=h.r1;have e6:=h.r2;unfold rV;simp only[aj.eta,fB h.aO,Qa];rw[Qh (by omega:¬v<0),Qh (by omega:¬(10:Int)<=v),Qh (by omega:¬bq<0),Qh (by omega:¬(1000000:Int)<bq),Qh (by omega:¬round<1),Qh (by omega:¬(1000:Int)<round)]
 rfl
theorem agB(h:PB t v bq round)(k:Int):Yd (pR t v bq round k) fun _=>True:=by
 unfold pR;simp only[aj.eta,aa0 h,Qa,aU];have h1:∀b:Bool,Yd (bif b then(some true:Option Bool)else some (decide (k<0))) fun _=>True:=fun b=>by cases b<;>exact .some trivial
 refine Yd.bind (h1 _) fun b1 _=> ?_
 have h2:∀b:Bool,Yd (bif b then(some true:Option Bool)else some (decide ((10:Int)<=k))) fun _=>True:=fun b=>by cases b<;>exact .some trivial
 refine Yd.bind (h2 _) fun b2 _=> ?_
 cases b2 with
 |true=>exact .some trivial
 |false=>
  simp only[Ql];refine Yd.bind (aeD h.aO.sm k) fun q _=> ?_
  obtain⟨hsh,eh⟩:=Zu 1 bq round k;rw[eh];simp only[Qa]
  cases decide (k=v)with
  |true=>exact .some trivial
  |false=>
   cases q.2.1<;>exact .some trivial
theorem Yg(h:PB t v bq round):Yd (qz t v bq round) fun q=>0<=q.1/\q.1<10/\q.2.1=0:=by
 unfold qz;simp only[aj.eta,aa0 h,Qa,aU];simp only[decide_true,Qo,Ql];refine Yd.Ju (fun(s:Int×Int×Unit)=>0<=s.1/\s.1<10/\0<=s.2.1/\s.2.1<=10) (fun s=>(10 - s.2.1).toNat) ?_ ⟨h.v0,h.v1,Int.le_refl _,by show(0:Int)<=10;omega⟩
 rintro⟨b,k,u⟩ ⟨h1,h2,h3,h4⟩;simp only at h1 h2 h3 h4;simp only
 by_cases hk:k<10
 ·rw[Qg hk];have hadd:aB .i64 k 1=k+1:=bL (by omega) (by omega)
  simp only[Qk];rw[hadd]
  have fin:∀x:Int,0<=x->x<10->Yd (some (Sum.inl (x,k+1,())):Option ((Int×Int×Unit)⊕(Int×Int×Unit))) (Lp (fun s'=>(0<=s'.1/\s'.1<10/\0<=s'.2.1/\s'.2.1<=10)/\(10 - s'.2.1).toNat<(10 - k).toNat) (fun r=>0<=r.1/\r.1<10/\r.2.1=0)):=
   fun x g1 g2=> .some ⟨⟨g1,g2,by show 0<=k+1;omega,by show k+1<=10;omega⟩,by show(10 - (k+1)).toNat<(10 - k).toNat;omega⟩
  refine Yd.bind (agB h k) fun r _=> ?_
  cases r with
  |false=>exact fin b h1 h2
  |true=>
   obtain⟨hsh,eh⟩:=Zu 2 bq round k;obtain⟨hsb,eb⟩:=Zu 2 bq round b;rw[eh,eb];simp only[Qo,Ql,Qa];refine Yd.bind (p:=fun _=>True) ?_ fun b9 _=> ?_
   ·refine Yd.cond (fun _=> .some trivial) fun _=> ?_
    exact Yd.bind (p:=fun _=>True) (Yd.cond (fun _=> .some trivial) fun _=> .some trivial) fun _ _=> .some trivial
   ·cases b9 with
    |true=>exact fin k h3 hk
    |false=>exact fin b h1 h2
 ·rw[Qh hk];exact .some ⟨h1,h2,rfl⟩
theorem acE(h:PB t v bq round):Yd (sI t v bq round) fun q=>∃s:Nat,q.1=s/\s<1024:=by
 have e5:=h.r1;have e6:=h.r2;unfold sI;simp only[aj.eta,aU];refine Yd.bind (Yg h) fun q ⟨_,_,hq⟩=> ?_
 rw[hq];simp only[decide_true,Qo,Ql];refine Yd.Ju (fun(s:Int×Int×Unit)=>(∃n:Nat,s.1=n/\n<1024)/\1<=s.2.1/\s.2.1<=round+1) (fun s=>(round+1 - s.2.1).toNat) ?_ ⟨⟨0,rfl,by omega⟩,Int.le_refl _,by show(1:Int)<=round+1;omega⟩
 rintro⟨b,k,u⟩ ⟨⟨n,h1,h2⟩,h3,h4⟩;simp only at h1 h3 h4;subst h1;simp only
 by_cases hk:k<=round
 ·rw[Qg hk];have hadd:aB .i64 k 1=k+1:=bL (by omega) (by omega)
  simp only[Qk];rw[hadd];refine Yd.bind (Yg ⟨h.aO,h.v0,h.v1,h.s0,h.s1,h3,by omega⟩) fun q ⟨g1,g2,_⟩=> ?_
  rw[qB,Qa]
  have fin:∀x:Nat,x<1024->Yd (some (Sum.inl ((x:Int),k+1,())):Option ((Int×Int×Unit)⊕(Int×Int×Unit))) (Lp (fun s'=>((∃n:Nat,s'.1=n/\n<1024)/\1<=s'.2.1/\s'.2.1<=round+1)/\(round+1 - s'.2.1).toNat<(round+1 - k).toNat) (fun r=>∃s:Nat,r.1=s/\s<1024)):=
   fun x g=> .some ⟨⟨⟨x,rfl,g⟩,by show 1<=k+1;omega,by show k+1<=round+1;omega⟩,by show(round+1 - (k+1)).toNat<(round+1 - k).toNat;omega⟩
  cases xO n q.1 with
  |true=>exact fin n h2
  |false=>
   simp only[Qp,Qk];rw[Qs (by omega),qc h2 g1 g2]
   exact fin _ (CM h2 g2)
 ·rw[Qh hk];exact .some ⟨n,rfl,h2⟩
end
end Go.Proofs.YtjbfdglebjnelaaGreat
namespace Go.Proofs.YtjbfdglebjnelaaGreat
open Go.TQ
structure DN (m:ay):Prop where
 n0:0<=m.au
 n1:m.au<10
 seq:1<=m.aI
 aO:fu m.aa
 fp:VL m.cu
 kC:VL m.bj
structure ix (n:ax):Prop where
 ask:PB n.aa n.au n.aT n.Round
 own:n.nO.size<=200
 fp:VL n.cu
 kC:VL n.bj
 sD:VL n.bR
 sub:∀x∈n.bR,x∈n.bj
 heard:∀m∈n.aA,DN m/\m.au≠n.au
 gJ:n.aA.Pairwise (fun a b=>a.au<b.au)
theorem abm:∀(l:List ay) (k:Nat),k<=10->(∀e∈l,(k:Int)<=e.au/\e.au<10)->l.Pairwise (fun a b=>a.au<b.au)->l.length+k<=10
 |[],k,hk,_,_=>by simp;omega
 |e::l,k,hk,h,hp=>by
  rw[Q4]at hp;have h1:=h e Qx;have h2:=abm l (k+1) (by omega) (fun x hx=>⟨by have:=hp.1 x hx;omega,(h x (Qy _ hx)).2⟩) hp.2
  rw[QE];omega
theorem ix.len{n:ax}(h:ix n):n.aA.length<=10:=by
 have:=abm n.aA 0 (by omega) (fun e he=>⟨by have:=(h.heard e he).1.n0;omega,(h.heard e he).1.n1⟩) h.gJ
 omega
theorem agu{n:ax}(h:ix n):∀m∈n.aA++[(⟨n.au,n.aI,n.aa,n.cu,n.bj⟩:ay)],0<=m.au/\m.au<10/\VL m.cu/\VL m.bj:=by
 intro m hm;rcases Qz.1 hm with hm|hm
 ·have:=(h.heard m hm).1;exact⟨this.n0,this.n1,this.fp,this.kC⟩
 ·rw[List.mem_singleton.1 hm];exact⟨h.ask.v0,h.ask.v1,h.fp,h.kC⟩
theorem Yx{α:Type}{l:List α}{i:Nat}{x:α}(h:idx l (i:Int)=some x):l[Int.toNat (i:Int)]?=some x:=by
 rw[bA]at h;exact h
theorem aaX{n:ax}(h:ix n)(x:ByteArray):Yd (rS n x) fun q=>∃a b:Nat,q.1=a/\q.2.1=b/\a<1024/\b<1024:=by
 have hlen:=h.len;have hall:=agu h;unfold rS DO;simp only[aj.eta,Qa,aU];rw[bu (by simp;omega),Qk,bu (by simp;omega),Qk]
 simp only[List.nil_append];have hl2:(n.aA++[(⟨n.au,n.aI,n.aa,n.cu,n.bj⟩:ay)]).length<=1000000:=by simp;omega
 refine Yd.list (n.aA++[(⟨n.au,n.aI,n.aa,n.cu,n.bj⟩:ay)]) hl2 (fun i (s:Int×Int)=>(s.1,s.2,i,())) (fun _ s=>∃a b:Nat,s.1=a/\s.2=b/\a<1024/\b<1024) ?_ ?_ (s:=(0,0)) ⟨0,0,rfl,rfl,by omega,by omega⟩
 ·rintro i y ⟨s1,s2⟩ ⟨a,b,e1,e2,ha,hb⟩ hd hy hi hdec hx hadd;simp only at e1 e2;subst e1 e2;obtain⟨g0,g1,gv,ga⟩:=hall y hy;simp only;rw[hdec,Qk,hx,Qa,Yx hx,Qa,hadd,Vl _ gv.CO,Qa]
  have fin:∀c:Nat,c<1024->Yd (Option.bind (lJ y.bj x) fun r9=>
    bif r9 then
     if y.au<0 then none else
     some (Sum.inl ((c:Int),(oJ .i64 (b:Int) (bV .i64 (1:Int) y.au)),((i+1:Nat):Int),()))
    else
     some (Sum.inl ((c:Int),(b:Int),((i+1:Nat):Int),())):Option ((Int×Int×Int×Unit)⊕(Int×Int×Unit))) (Lp (fun t=>∃s':Int×Int,t=(s'.1,s'.2,((i+1:Nat):Int),())/\(∃a b:Nat,s'.1=a/\s'.2=b/\a<1024/\b<1024)) (fun r=>∃a b:Nat,r.1=a/\r.2.1=b/\a<1024/\b<1024)):=by
   intro c hc;rw[Vl _ ga.CO,Qa]
   cases decide (x∈y.bj)with
   |false=>exact .some ⟨((c:Int),(b:Int)),rfl,c,b,rfl,rfl,hc,hb⟩
   |true=>
    rw[Qk,Qs (by omega),qc hb g0 g1]
    exact .some ⟨((c:Int),_),rfl,c,_,rfl,rfl,hc,CM hb g1⟩
  cases decide (x∈y.cu)with
  |false=>exact fin a ha
  |true=>
   rw[Qk,Qs (by omega),qc ha g0 g1]
   exact fin _ (CM ha g1)
 ·rintro⟨s1,s2⟩ ⟨a,b,e1,e2,ha,hb⟩ hdec;simp only at e1 e2;simp only;rw[hdec,Ql];exact .some ⟨a,b,e1,e2,ha,hb⟩
theorem WL:Yd (rW []) fun _=>True:=by
 unfold rW;refine Yd.list ([]:List gz) (by simp) (fun i (_:Unit)=>(i,())) (fun _ _=>True) (fun i x s _ _ hx=>absurd hx QR) (fun s _ hdec=> ?_) (s:=()) trivial
 simp only;rw[hdec,Ql];exact .some trivial
def aax(m:eG):Prop:=0<=m.au/\m.au<10/\c5 m.aa/\m.cu=[]/\m.bj=[]
theorem aeU{m:eG}(h:aax m):Yd (vQ m) fun _=>True:=by
 obtain⟨h0,h1,ht,hv,ha⟩:=h;unfold vQ;simp only[aj.eta];refine Yd.bind (p:=fun _=>True) (Yd.cond (fun _=> .some trivial) fun _=> .some trivial) fun b1 _=> ?_
 refine Yd.bind (p:=fun _=>True) (Yd.cond (fun _=> .some trivial) fun _=> .some trivial) fun b2 _=> ?_
 refine Yd.bind (p:=fun _=>True) (Yd.cond (fun _=>by rw[Lj ht];exact .some trivial) fun _=> .some trivial) fun b4 _=> ?_
 rw[hv,ha];refine Yd.bind (p:=fun _=>True) (Yd.cond (fun _=>Yd.bind WL fun _ _=> .some trivial) fun _=> .some trivial) fun b6 _=> ?_
 exact Yd.bind (p:=fun _=>True) (Yd.cond (fun _=>Yd.bind WL fun _ _=> .some trivial) fun _=> .some trivial) fun b8 _=> .some trivial
def Gs:aj:=⟨0,[],[]⟩
theorem VE:c5 Gs:= .mk _ (by simp[Gs]) (by simp[Gs]) (fun u hu=>by cases hu)
structure xX (l:List aR):Prop where
 len:l.length=10
 sm:∀m∈l,c5 m.aa
theorem xX.set{l:List aR}(h:xX l)(k:Nat){m:aR}(hm:c5 m.aa):xX (l.set k m):=
 ⟨by rw[QY];exact h.len,fun x hx=>(List.mem_or_eq_of_mem_set hx).elim (h.sm x) fun e=>by rw[e];exact hm⟩
theorem xX.get{l:List aR}(h:xX l){v:Int}(h0:0<=v)(h1:v<10):∃x,idx l v=some x/\l[v.toNat]?=some x:=by
 have hl:=h.len;have hv:v.toNat<l.length:=by omega
 exact⟨l[v.toNat],by rw[ON _ h0];exact Qv hv,Qv hv⟩
theorem xX.sc{l:List aR}(h:xX l):yC ⟨l⟩:=⟨by show l.length<=1000000;rw[h.len];omega,h.sm⟩
theorem agk{v:Int}{t:aj}(hv0:0<=v)(hv1:v<10)(ht:c5 t){l:List eG}(hl:l.length<=1000000)(hm:∀m∈l,aax m):Yd (yf v t l) yC:=by
 unfold yf
 have h1:(decide ((10:Int)=(10:Int))&&decide (0<=(10:Int))&&bc 64 (Int.toNat (10:Int)))=true:=by
  rw[bu (by decide)];rfl
 rw[h1,Qk];simp only[aj.eta,aU]
 have h0:xX (List.replicate (Int.toNat (10:Int)) (aR.mk false (aj.mk (0:Int) ([]:List Int) ([]:List aj)))):=
  ⟨by rw[List.length_replicate];rfl,fun m hm=>by rw[(List.mem_replicate.1 hm).2];exact VE⟩
 refine Yd.list l hl (fun i (s:List aR)=>(i,aZ.mk [],s,())) (fun _ s=>xX s) ?_ ?_ h0
 ·intro i y s hs hd hy hi hdec hx hadd;have hmy:=hm y hy;simp only;rw[hdec,Qk,hx,Qa,hadd];simp only[eG.eta];refine Yd.bind (aeU hmy) fun r _=> ?_
  cases r with
  |false=>exact .some ⟨s,rfl,hs⟩
  |true=>
   obtain⟨x,g1,g2⟩:=hs.get hmy.1 hmy.2.1;rw[Qk,g1,Qa,g2,Qa];exact .some ⟨_,rfl,hs.set _ hmy.2.2.1⟩
 ·intro s hs hdec;simp only;rw[hdec,Ql,Qg hv0,Qg hv1];simp only[Qk,Qa];obtain⟨x,g1,g2⟩:=hs.get hv0 hv1;have hs2:=hs.set v.toNat (m:=⟨false,⟨0,[],[]⟩⟩) VE;obtain⟨x2,k1,k2⟩:=hs2.get hv0 hv1;rw[g1,g2,Lj ht];simp only[Qa]
  cases decide (EY t=0)with
  |false=>exact .some hs2.sc
  |true=>
   simp only[Qk];rw[k1,k2];exact .some (hs2.set _ ht).sc
theorem Ye{n:ax}(h:ix n):Yd (tG n) yC:=by
 have hlen:=h.len;unfold tG;simp only[aj.eta];refine Yd.list n.aA (by omega) (fun i (s:List eG)=>(i,s,())) (fun i s=>s.length<=i/\∀m∈s,aax m) ?_ ?_ (s:=[]) ⟨by simp,fun m hm=>absurd hm QR⟩
 ·intro i y s ⟨hs1,hs2⟩ hd hy hi hdec hx hadd;have hmy:=(h.heard y hy).1;simp only;rw[hdec,Qk,hx,Qa,hadd,bu ⟨by simp only[List.length_singleton];omega,by simp only[List.length_singleton];omega⟩,Qk]
  refine .some ⟨_,rfl,by simp only[QB,List.length_singleton];omega,fun m hm=> ?_⟩
  rcases Qz.1 hm with hm|hm
  ·exact hs2 m hm
  ·rw[List.mem_singleton.1 hm];exact⟨hmy.n0,hmy.n1,hmy.aO.sm,rfl,rfl⟩
 ·intro s ⟨hs1,hs2⟩ hdec;simp only;rw[hdec,Ql];exact Yd.map (Yd.bind (agk h.ask.v0 h.ask.v1 h.ask.aO.sm (by omega) hs2) fun c hc=> .some hc)
theorem VD{n:ax}(h:ix n):n.au=((n.au.toNat:Nat):Int)/\n.au.toNat<10:=by
 have h0:=h.ask.v0;have h1:=h.ask.v1;omega
theorem ajh{n:ax}(h:ix n)(x:ByteArray):Yd (zH n x) fun b=>b=true->x∉n.bj/\n.bj.length<40:=by
 obtain⟨hn,hn10⟩:=VD h;unfold zH;simp only[aj.eta,ax.eta,aU];refine Yd.bind (aaX h x) fun q ⟨a,b,e1,e2,ha,hb⟩=> ?_
 rw[e1,e2,Vl _ h.kC.CO,Qa]
 by_cases hx:x∈n.bj
 ·rw[Qg hx];exact .some fun e=>by cases e
 ·rw[Qh hx];simp only[Qp,Qk]
  by_cases hl:n.bj.length<40
  ·rw[Qg (by omega:((n.bj.length:Nat):Int)<40),Qk]
   refine Yd.bind (Ye h) fun c hc=> ?_
   rw[hn,yI hc hn10 ha hb];exact .some fun _=>⟨hx,hl⟩
  ·rw[Qh (by omega:¬((n.bj.length:Nat):Int)<40)]
   exact .some fun e=>by cases e
theorem agC{n:ax}(h:ix n):Yd (vP n) fun r=>r.length<=1000/\∀x∈r,mg x:=by
 have hlen:=h.len;have l1:=h.fp.len;have l2:=h.kC.len;unfold vP;refine Yd.bind (NY (n:=80) (by omega) (by omega)) fun r1 ⟨k1,k2⟩=> ?_
 refine Yd.list n.aA (by omega) (fun i (s:List ByteArray)=>(s,i,())) (fun i s=>s.length<=80+80*i/\∀x∈s,mg x) ?_ ?_ ⟨by omega,fun x hx=>(k2 x hx).elim (h.fp.C9 x) (h.kC.C9 x)⟩
 ·intro i y s ⟨hs1,hs2⟩ hd hy hi hdec hx hadd;have hmy:=(h.heard y hy).1;have l3:=hmy.fp.len;have l4:=hmy.kC.len;simp only;rw[hdec,Qk,hx,Qa,hadd];refine Yd.bind (NY (n:=80) (by omega) (by omega)) fun r4 ⟨g1,g2⟩=> ?_
  refine Yd.bind (NY (n:=80+80*(i+1)) (by omega) (by omega)) fun r5 ⟨g3,g4⟩=> ?_
  exact .some ⟨r5,rfl,g3,fun x hx=>(g4 x hx).elim (hs2 x) fun hx=>(g2 x hx).elim (hmy.fp.C9 x) (hmy.kC.C9 x)⟩
 ·intro s ⟨hs1,hs2⟩ hdec;simp only;rw[hdec,Ql];exact .some ⟨by omega,hs2⟩
theorem ix.Zd{n:ax}(h:ix n){v:List ByteArray}(hv:VL v):ix {n with cu:=v}:=⟨h.ask,h.own,hv,h.kC,h.sD,h.sub,h.heard,h.gJ⟩
theorem ix.ajc{n:ax}(h:ix n){a:List ByteArray}(ha:VL a)(hs:∀y∈n.bj,y∈a):ix {n with bj:=a}:=⟨h.ask,h.own,h.fp,ha,h.sD,fun x hx=>hs x (h.sub x hx),h.heard,h.gJ⟩
theorem ix.ajb{n:ax}(h:ix n){c:List ByteArray}(hc:VL c)(hs:∀y∈c,y∈n.bj):ix {n with bR:=c}:=⟨h.ask,h.own,h.fp,h.kC,hc,hs,h.heard,h.gJ⟩
structure vL (n r:ax):Prop where
 ok:ix r
 aC:r.au=n.au
 bq:r.aT=n.aT
 round:r.Round=n.Round
 seq:r.aI=n.aI
 aO:r.aa=n.aa
 own:r.nO=n.nO
 heard:r.aA=n.aA
theorem vL.refl{n:ax}(h:ix n):vL n n:=⟨h,rfl,rfl,rfl,rfl,rfl,rfl,rfl⟩
theorem vL.Zd{n r:ax}(h:vL n r){v:List ByteArray}(hv:VL v):vL n {r with cu:=v}:=⟨h.ok.Zd hv,h.aC,h.bq,h.round,h.seq,h.aO,h.own,h.heard⟩
theorem aeM{n:ax}(h:ix n):Yd (ux n) (vL n):=by
 unfold ux;simp only[aj.eta,ax.eta,aU];refine Yd.bind (acE h.ask) fun q ⟨s,e1,hs⟩=> ?_
 rw[e1,Ss hs,Qa];have hl:=FE s;refine Yd.list (oK s) (by omega) (fun i (r:ax)=>(i,r,())) (fun _ r=>vL n r) ?_ ?_ (.refl h)
 ·intro i y r hr hd hy hi hdec hx hadd;simp only;rw[hdec,Qk,hx,Qa,hadd];have hlen:=hr.ok.len
  by_cases hyn:y=r.au
  ·rw[Qg hyn,Qk]
   by_cases hown:r.nO=ByteArray.mk #[]
   ·rw[Qg hown];exact .some ⟨r,rfl,hr⟩
   ·rw[Qh hown];simp only[Qp,Qk]
    have hv:mg r.nO:=by
     refine⟨?_,hr.ok.own⟩;rcases Nat.eq_zero_or_pos r.nO.size with h0|h0
     ·exact absurd (ByteArray.ext (Array.eq_empty_of_size_eq_zero h0)) hown
     ·exact h0
    rw[Zs hr.ok.fp,Qa];exact .some ⟨_,rfl,hr.Zd (Jg hr.ok.fp hv).1⟩
  ·rw[Qh hyn,Ql];refine Yd.list r.aA (by omega) (fun i (r:ax)=>(i,r,())) (fun _ r=>vL n r) ?_ ?_ hr
   ·intro j m r2 hr2 hd2 hm hj hdec2 hx2 hadd2;simp only;rw[hdec2,Qk,hx2,Qa,hadd2];have hmy:=(hr.ok.heard m hm).1;have l3:=hmy.fp.len;have l4:=hmy.kC.len
    cases decide (m.au=y)with
    |false=>exact .some ⟨r2,rfl,hr2⟩
    |true=>
     simp only[Qo,Ql];refine Yd.bind (NY (n:=80) (by omega) (by omega)) fun u ⟨g1,g2⟩=> ?_
     refine Yd.list u (by omega) (fun i (r:ax)=>(i,r,())) (fun _ r=>vL n r) ?_ ?_ hr2
     ·intro k x r3 hr3 hd3 hxu hk hdec3 hx3 hadd3;simp only;rw[hdec3,Qk,hx3,Qa,hadd3,Zs hr3.ok.fp,Qa];have hv:mg x:=(g2 x hxu).elim (hmy.fp.C9 x) (hmy.kC.C9 x);exact .some ⟨_,rfl,hr3.Zd (Jg hr3.ok.fp hv).1⟩
     ·intro r3 hr3 hdec3;simp only;rw[hdec3,Ql];exact .some ⟨r3,rfl,hr3⟩
   ·intro r2 hr2 hdec2;simp only;rw[hdec2,Ql];exact .some ⟨r2,rfl,hr2⟩
 ·intro r hr hdec;simp only;rw[hdec,Ql];exact .some hr
structure aaw (b n r:ax):Prop where
 ok:ix r
 aC:r.au=n.au
 bq:r.aT=n.aT
 round:r.Round=n.Round
 aO:r.aa=n.aa
 seq:r.aI=n.aI\/r.aI=b.aI+1
theorem Fp{b n:ax}(hb:c5 b.aa/\b.cu.length<=1000000/\b.bj.length<=1000000)(hs:0<=b.aI/\b.aI<=1000000)(h:ix n):Yd (jr b n) (aaw b n):=by
 unfold jr;simp only[aj.eta,ax.eta];refine Yd.join (fun v=>vL n v.1) (fun v hv=> ?_) (fun j' hj=> ?_)
 ·refine Yd.Ju (fun(s:Bool×ax×Unit)=>vL n s.2.1) (fun s=>(if s.1=true then 1 else 0)+2*(40 - s.2.1.bj.length)) ?_ hv
  rintro⟨again,r,u⟩ hr;simp only at hr;simp only
  cases again with
  |true=>
   rw[Qk];refine Yd.bind (agC hr.ok) fun l ⟨hl,hvals⟩=> ?_
   refine Yd.list l (by omega) (fun i (s:ax)=>(false,i,s,())) (fun _ s=>s=r) ?_ ?_ rfl
   ·rintro i x s rfl hd hx' hi hdec hx hadd;simp only;rw[hdec,Qk,hx,Qa,hadd];refine Yd.bind (ajh hr.ok x) fun c hc=> ?_
    cases c with
    |false=>exact .some ⟨s,rfl,rfl⟩
    |true=>
     obtain⟨hc1,hc2⟩:=hc rfl;obtain⟨p1,p2,p3,p4⟩:=Jg hr.ok.kC (hvals x hx');rw[Qk,Zs hr.ok.kC,Qa];refine .some ⟨⟨hr.ok.ajc p1 p2,hr.aC,hr.bq,hr.round,hr.seq,hr.aO,hr.own,hr.heard⟩,?_⟩;have:=p4 hc1 hc2;show(if true=true then 1 else 0)+2*(40 - (H2 s.bj x).length)<(if true=true then 1 else 0)+2*(40 - s.bj.length)
     rw[this];omega
   ·rintro s rfl hdec;simp only;rw[hdec,Ql];refine .some ⟨hr,?_⟩;show(if false=true then 1 else 0)+2*(40 - s.bj.length)<(if true=true then 1 else 0)+2*(40 - s.bj.length)
    simp
  |false=>
   rw[Ql];refine Yd.map ?_;have hl:=hr.ok.kC.len;refine Yd.list r.bj (by omega) (fun i (s:ax)=>(i,s,())) (fun _ s=>vL n s/\s.bj=r.bj) ?_ ?_ ⟨hr,rfl⟩
   ·rintro i x s ⟨hs',hsa⟩ hd hx' hi hdec hx hadd;obtain⟨hn,hn10⟩:=VD hs'.ok;simp only[aU];rw[hdec,Qk,hx,Qa,hadd];refine Yd.bind (aaX hs'.ok x) fun q ⟨a,c,e1,e2,ha,hc⟩=> ?_
    refine Yd.bind (Ye hs'.ok) fun cf hcf=> ?_
    have hfc:=xh hcf hn10 hc;rw[<-hn]at hfc;rw[e2,hfc,Qa]
    cases (gq cf.bl c).testBit s.au.toNat with
    |false=>exact .some ⟨s,rfl,hs',hsa⟩
    |true=>
     rw[Qk,Zs hs'.ok.sD,Qa];obtain⟨p1,p2,p3,p4⟩:=Jg hs'.ok.sD (hr.ok.kC.C9 x hx');refine .some ⟨_,rfl,⟨hs'.ok.ajb p1 (fun y hy=> ?_),hs'.aC,hs'.bq,hs'.round,hs'.seq,hs'.aO,hs'.own,hs'.heard⟩,hsa⟩
     rcases p3 y hy with rfl|hy
     ·rw[hsa];exact hx'
     ·exact hs'.ok.sub y hy
   ·rintro s ⟨hs',hsa⟩ hdec;simp only[aU];rw[hdec,Ql];obtain⟨b1,f1,_⟩:=aaY (s:=b.cu) (t:=s.cu) hb.2.1;obtain⟨b2,f2,_⟩:=aaY (s:=b.bj) (t:=s.bj) hb.2.2;obtain⟨b3,f3,_⟩:=Z4 (a:=b.aa) (b:=s.aa) hb.1;rw[f1,f2,f3];simp only[Qa];refine Yd.map (Yd.bind (p:=fun _=>True) (Yd.cond (fun _=> .some trivial) fun _=> .some trivial) fun c1 _=> ?_)
    refine Yd.bind (p:=fun _=>True) (Yd.cond (fun _=> .some trivial) fun _=> .some trivial) fun c2 _=> ?_
    cases c2 with
    |false=>exact .some ⟨hs'.ok,hs'.aC,hs'.bq,hs'.round,hs'.aO,.inl hs'.seq⟩
    |true=>
     have hadd:aB .i64 b.aI 1=b.aI+1:=bL (by omega) (by omega)
     rw[Qk,hadd];exact .some ⟨⟨hs'.ok.ask,hs'.ok.own,hs'.ok.fp,hs'.ok.kC,hs'.ok.sD,hs'.ok.sub,hs'.ok.heard,hs'.ok.gJ⟩,hs'.aC,hs'.bq,hs'.round,hs'.aO,.inr rfl⟩
 ·cases decide (((List.length n.bR:Nat):Int)=(0:Int))with
  |true=>
   rw[Qk];refine Yd.bind (aeM h) fun r hr=> ?_
   exact hj (r,()) hr
  |false=>exact hj (n,()) (.refl h)
end Go.Proofs.YtjbfdglebjnelaaGreat
namespace Go.Proofs.YtjbfdglebjnelaaGreat
open Go.TQ
theorem Yf{m:ay}(h:DN m):rU m=some true:=by
 have e1:=h.n0;have e2:=h.n1;have e3:=h.seq;unfold rU;simp only[aj.eta,fB h.aO,HY h.fp,HY h.kC];rw[Qg e1,Qg e2,Qg e3];rfl
theorem Jf{n:ax}(h:ix n)(hs:1<=n.aI/\n.aI<=1000000):mI n=some true:=by
 have hlen:=h.len;have e1:=h.ask.v0;have e2:=h.ask.v1;have e3:=h.ask.s0;have e4:=h.ask.s1;have e5:=h.ask.r1;have e6:=h.ask.r2;have e7:=h.own;unfold mI;simp only[aj.eta,fB h.ask.aO,HY h.fp,HY h.kC,HY h.sD];rw[Qh (by omega:¬n.au<0),Qh (by omega:¬(10:Int)<=n.au),Qh (by omega:¬n.aT<0),Qh (by omega:¬(1000000:Int)<n.aT),Qh (by omega:¬n.Round<1),Qh (by omega:¬(1000:Int)<n.Round),Qh (by omega:¬n.aI<1),Qh (by omega:¬(1000000:Int)<n.aI),Qh (by omega:¬(200:Int)<((n.nO.size:Nat):Int))]
 simp only[Ql,Qa,decide_true,Qo];refine Yd.eq_true ?_;refine Yd.list n.bR h.sD.CO (fun i (_:Unit)=>(i,())) (fun _ _=>True) ?_ ?_ (s:=()) trivial
 ·intro i x s _ hd hx' hi hdec hx hadd;simp only;rw[hdec,Qk,hx,Qa,hadd,Vl _ h.kC.CO,Qg (h.sub x hx')];exact .some ⟨(),rfl,trivial⟩
 ·intro s _ hdec;simp only;rw[hdec,Ql];refine Yd.map ?_;refine Yd.list n.aA (by omega) (fun i (_:Unit)=>(i,())) (fun _ _=>True) ?_ ?_ (s:=()) trivial
  ·intro i m s _ hd hm hi hdec hx hadd;obtain⟨hm1,hm2⟩:=h.heard m hm;simp only[aU];rw[hdec,Qk,hx,Qa,hadd];simp only[ay.eta];rw[Yf hm1,Qa,Qh hm2];simp only[Qo,Ql]
   by_cases h0:i=0
   ·subst h0;rw[Qh (by omega:¬(0:Int)<((0:Nat):Int))]
    exact .some ⟨(),rfl,trivial⟩
   ·rw[Qg (by omega:(0:Int)<(i:Int))]
    simp only[Qk];have hsub:da .i64 (i:Int) 1=((i - 1:Nat):Int):=by rw[pK (by omega) (by omega)];omega
    have hi1:i - 1<n.aA.length:=by omega
    rw[hsub,bA,Qv hi1,Qa]
    have hyi:m=n.aA[i]:=by
     rw[bA,Qv hi]at hx;exact(Option.some.inj hx).symm
    have hlt:n.aA[i - 1].au<m.au:=by
     rw[hyi];exact List.pairwise_iff_getElem.1 h.gJ (i - 1) i hi1 hi (by omega)
    rw[Qh (by omega:¬m.au<=n.aA[i - 1].au)]
    exact .some ⟨(),rfl,trivial⟩
  ·intro s _ hdec;simp only;rw[hdec,Ql];exact .some rfl
theorem ix.UF{n:ax}(h:ix n):c5 n.aa/\n.cu.length<=1000000/\n.bj.length<=1000000:=⟨h.ask.aO.sm,h.fp.CO,h.kC.CO⟩
def Y3:ax:=⟨0,0,0,0,⟨0,[],[]⟩,⟨#[]⟩,[],[],[],[]⟩
theorem ahN{n:ax}{m:ay}(h:ix n)(hs:1<=n.aI/\n.aI<=1000000)(hm:DN m)(hne:m.au≠n.au):Yd (ye n m) fun q=>(q.2.1=0/\aaw n n q.1)\/q.2.1=9:=by
 have hlen:=h.len;unfold ye;simp only[aj.eta,ax.eta,ay.eta,Jf h hs,Yf hm,Qa,Qo,Ql];rw[Qh hne];simp only[Ql,aU];have kk:∀(a:List ay) (x:ay),a.length<=100->bc 120 (a.length+[x].length)=true:=fun a x ha=>bu ⟨by simp only[List.length_singleton];omega,by simp only[List.length_singleton];omega⟩
 have setl:∀l:List ay,(∀y∈l,DN y/\y.au≠n.au)->l.Pairwise (fun a b=>a.au<b.au)->Yd (Option.bind (jr n {n with aA:=l}) fun r14=>some (r14,(0:Int),())) fun q=>(q.2.1=0/\aaw n n q.1)\/q.2.1=9:=by
  intro l h1 h2;refine Yd.bind (Fp h.UF (by omega) (n:={n with aA:=l}) ⟨h.ask,h.own,h.fp,h.kC,h.sD,h.sub,h1,h2⟩) fun r hr=> .some (.inl ⟨rfl,hr.ok,hr.aC,hr.bq,hr.round,hr.aO,hr.seq⟩)
 refine Yd.list n.aA (by omega) (fun i (s:Bool×List ay)=>(s.1,i,Y3,{n with aA:=[]},s.2,()))
  (fun i s=>s.2.length<=2*i/\(∀y∈s.2,DN y/\y.au≠n.au)/\s.2.Pairwise (fun a b=>a.au<b.au)/\(∀y∈s.2,∀z∈n.aA.drop i,y.au<z.au)/\(s.1=false->∀y∈s.2,y.au<m.au)) ?_ ?_ (s:=(false,[]))
  ⟨by simp,fun y hy=>absurd hy QR,List.Pairwise.nil,fun y hy=>absurd hy QR,fun _ y hy=>absurd hy QR⟩
 ·rintro i x ⟨d,acc⟩ ⟨a1,a2,a3,a4,a5⟩ hd hx' hi hdec hx hadd;simp only at a1 a2 a3 a4 a5;have hxx:=h.heard x hx'
  have hsort:∀z∈n.aA.drop (i+1),x.au<z.au:=by
   have:=h.gJ.sublist (List.drop_sublist i n.aA);rw[hd,Q4]at this;exact this.1
  have a4x:∀y∈acc,y.au<x.au:=fun y hy=>a4 y hy x (by rw[hd];exact Qx)
  have a4r:∀y∈acc,∀z∈n.aA.drop (i+1),y.au<z.au:=fun y hy z hz=>a4 y hy z (by rw[hd];exact Qy _ hz)
  simp only;rw[hdec,Qk,hx,Qa,hadd];have k1:=kk acc m (by omega)
  have k2:=kk acc x (by omega)
  have k3:=kk (acc++[m]) x (by simp only[QB,List.length_singleton];omega)
  by_cases hn:x.au=m.au
  ·rw[Qg hn,Qk]
   cases decide (m.aI<=x.aI)with
   |true=>exact .some (.inr rfl)
   |false=>exact .some ⟨(d,acc),rfl,by show acc.length<=2*(i+1);omega,a2,a3,a4r,a5⟩
  ·rw[Qh hn,Ql,k1,k2,k3]
   have plain:(d=false->x.au<m.au)->Yd (some (Sum.inl (d,((i+1:Nat):Int),Y3,{n with aA:=([]:List ay)},(acc++[x]),())):Option ((Bool×Int×ax×ax×(List ay)×Unit)⊕(ax×Int×Unit))) (Lp (fun t=>∃s':Bool×List ay,t=(s'.1,((i+1:Nat):Int),Y3,{n with aA:=[]},s'.2,())/\(s'.2.length<=2*(i+1)/\(∀y∈s'.2,DN y/\y.au≠n.au)/\s'.2.Pairwise (fun a b=>a.au<b.au)/\(∀y∈s'.2,∀z∈n.aA.drop (i+1),y.au<z.au)/\(s'.1=false->∀y∈s'.2,y.au<m.au))) (fun r=>(r.2.1=0/\aaw n n r.1)\/r.2.1=9)):=by
    intro hdm;refine .some ⟨(d,acc++[x]),rfl,by simp only[QB,List.length_singleton];omega,fun y hy=> ?_,?_,fun y hy z hz=> ?_,fun e y hy=> ?_⟩
    ·rcases Qz.1 hy with hy|hy
     ·exact a2 y hy
     ·rw[List.mem_singleton.1 hy];exact hxx
    ·rw[List.pairwise_append];exact⟨a3,List.pairwise_singleton _ _,fun y hy z hz=>by rw[List.mem_singleton.1 hz];exact a4x y hy⟩
    ·rcases Qz.1 hy with hy|hy
     ·exact a4r y hy z hz
     ·rw[List.mem_singleton.1 hy];exact hsort z hz
    ·rcases Qz.1 hy with hy|hy
     ·exact a5 e y hy
     ·rw[List.mem_singleton.1 hy];exact hdm e
   by_cases hlt:m.au<x.au
   ·rw[Qg hlt]
    cases d with
    |true=>exact plain fun e=>by cases e
    |false=>
     have a5:=a5 rfl;simp only[Qp,Qk,Qa];refine .some ⟨(true,(acc++[m])++[x]),rfl,by simp only[QB,List.length_singleton];omega,fun y hy=> ?_,?_,fun y hy z hz=> ?_,fun e=>by cases e⟩
     ·rcases Qz.1 hy with hy|hy
      ·rcases Qz.1 hy with hy|hy
       ·exact a2 y hy
       ·rw[List.mem_singleton.1 hy];exact⟨hm,hne⟩
      ·rw[List.mem_singleton.1 hy];exact hxx
     ·rw[List.pairwise_append,List.pairwise_append];refine⟨⟨a3,List.pairwise_singleton _ _,fun y hy z hz=>by rw[List.mem_singleton.1 hz];exact a5 y hy⟩,List.pairwise_singleton _ _,fun y hy z hz=> ?_⟩
      rw[List.mem_singleton.1 hz];rcases Qz.1 hy with hy|hy
      ·exact a4x y hy
      ·rw[List.mem_singleton.1 hy];exact hlt
     ·rcases Qz.1 hy with hy|hy
      ·rcases Qz.1 hy with hy|hy
       ·exact a4r y hy z hz
       ·rw[List.mem_singleton.1 hy];exact Int.lt_trans hlt (hsort z hz)
      ·rw[List.mem_singleton.1 hy];exact hsort z hz
   ·rw[Qh hlt];exact plain fun _=>by omega
 ·rintro⟨d,acc⟩ ⟨a1,a2,a3,a4,a5⟩ hdec;simp only at a1 a2 a3 a4 a5;simp only;rw[hdec,Ql];refine Yd.map ?_;have k1:=kk acc m (by omega)
  rw[k1]
  cases d with
  |true=>exact setl acc a2 a3
  |false=>
   simp only[Qp,Qk];refine setl (acc++[m]) (fun y hy=> ?_) ?_
   ·rcases Qz.1 hy with hy|hy
    ·exact a2 y hy
    ·rw[List.mem_singleton.1 hy];exact⟨hm,hne⟩
   ·rw[List.pairwise_append];exact⟨a3,List.pairwise_singleton _ _,fun y hy z hz=>by rw[List.mem_singleton.1 hz];exact a5 rfl y hy⟩
theorem agz{n:ax}(h:ix n)(hs:1<=n.aI/\n.aI<=1000000):Yd (yd n) fun q=>(q.2.1=0/\ix q.1/\q.1.au=n.au/\q.1.aT=n.aT/\q.1.aa=n.aa/\(q.1.aI=n.aI\/q.1.aI=n.aI+1))\/q.2.1=3:=by
 unfold yd;simp only[aj.eta,ax.eta,Jf h hs,Qa,Qo,Ql];have e5:=h.ask.r1;have e6:=h.ask.r2
 by_cases hr:n.Round=1000
 ·rw[Qg hr];exact .some (.inr rfl)
 ·have hadd:aB .i64 n.Round 1=n.Round+1:=bL (by omega) (by omega)
  rw[Qh hr,Ql,hadd];refine Yd.bind (Fp h.UF (by omega) (n:={n with Round:=n.Round+1}) ⟨⟨h.ask.aO,h.ask.v0,h.ask.v1,h.ask.s0,h.ask.s1,by show 1<=n.Round+1;omega,by show n.Round+1<=1000;omega⟩,h.own,h.fp,h.kC,h.sD,h.sub,h.heard,h.gJ⟩) fun r hr=> .some (.inl ⟨rfl,hr.ok,hr.aC,hr.bq,hr.aO,hr.seq⟩)
theorem agG{n:ax}(h:ix n)(hs:1<=n.aI/\n.aI<=1000000){t:aj}(ht:fu t):Yd (sH n t) fun q=>q.2.1=0/\ix q.1/\q.1.au=n.au/\q.1.aT=n.aT/\q.1.aa=t/\(q.1.aI=n.aI\/q.1.aI=n.aI+1):=by
 unfold sH;simp only[aj.eta,ax.eta,Jf h hs,fB ht,Qa,Qo,Ql,decide_true];obtain⟨b,f,hb⟩:=Z4 (a:=n.aa) (b:=t) h.ask.aO.sm;rw[f,Qa]
 cases b with
 |true=>exact .some ⟨rfl,h,rfl,rfl,hb.1 rfl,.inl rfl⟩
 |false=>
  refine Yd.bind (Fp h.UF (by omega) (n:={n with aa:=t}) ⟨⟨ht,h.ask.v0,h.ask.v1,h.ask.s0,h.ask.s1,h.ask.r1,h.ask.r2⟩,h.own,h.fp,h.kC,h.sD,h.sub,h.heard,h.gJ⟩) fun r hr=> .some ⟨rfl,hr.ok,hr.aC,hr.bq,hr.aO,hr.seq⟩
theorem aeH{t:aj}{v bq:Int}{own:ByteArray}(ht:fu t)(h0:0<=v)(h1:v<10)(h2:0<=bq)(h3:bq<=1000000)(ho:own.size<=200):Yd (vO v bq t own) fun q=>q.2.1=0/\ix q.1/\q.1.au=v/\q.1.aT=bq/\q.1.aa=t/\q.1.aI=1:=by
 unfold vO;simp only[aj.eta,ax.eta,fB ht];rw[Qh (by omega:¬v<0),Qh (by omega:¬(10:Int)<=v),Qh (by omega:¬bq<0),Qh (by omega:¬(1000000:Int)<bq),Qh (by omega:¬(200:Int)<((own.size:Nat):Int))]
 simp only[Ql,Qa,decide_true,Qo];have hn:ix ⟨v,bq,1,1,t,own,[],[],[],[]⟩:=⟨⟨ht,h0,h1,h2,h3,by show(1:Int)<=1;omega,by show(1:Int)<=1000;omega⟩,ho,.nil,.nil,.nil,fun x hx=>absurd hx QR,fun x hx=>absurd hx QR,List.Pairwise.nil⟩
 refine Yd.bind (Fp hn.UF ⟨by show(0:Int)<=1;omega,by show(1:Int)<=1000000;omega⟩ hn) fun r hr=> .some ⟨rfl,⟨hr.ok.ask,hr.ok.own,hr.ok.fp,hr.ok.kC,hr.ok.sD,hr.ok.sub,hr.ok.heard,hr.ok.gJ⟩,hr.aC,hr.bq,hr.aO,rfl⟩
end Go.Proofs.YtjbfdglebjnelaaGreat
namespace Go.Proofs.YtjbfdglebjnelaaGreat
open Go.TQ
theorem ags{m:ak}(h:m.aJ=3):cv m=m:=by
 have h1:cW m=m:=by unfold cW;rw[Qr (.inl h)]
 have h2:fZ m=m:=by unfold fZ;rw[Qr (.inl (by rw[h];decide))]
 have h3:fK m=m:=by unfold fK;rw[Qs (by rw[h];decide),Qs (by rw[h];decide)]
 have h4:iN m=m:=by unfold iN;rw[Qs (by rw[h];rintro⟨e,_⟩;exact absurd e (by decide))]
 have h5:eO m=m:=by unfold eO;rw[Qr (.inl h)]
 unfold cv;rw[Qr h1,Qr h2,Qr h3,Qr h4];exact h5
structure C3 (m:ak) (t:aj) (x:ak):Prop where
 inv:bn x
 seq:gi x
 aC:x.au=m.au
 bq:x.aT=m.aT
 aO:x.aa=t
 ext:m.aJ=3->x.aJ=3/\x.af.Value=m.af.Value
theorem C3.refl{m:ak}(h:bn m)(hs:gi m):C3 m m.aa m:=⟨h,hs,rfl,rfl,rfl,fun e=>⟨e,rfl⟩⟩
def oU(m x:ak):Prop:=m.aJ=3->x.aJ=3/\x.af.Value=m.af.Value
theorem DT{m:ak}:∀x,bn x->oU m x->oU m (cv x):=fun x _ h e=>by
 have h2:=h e;rw[ags h2.1];exact h2
theorem DS{m:ak}:∀x,oU m x->oU m (c7 x):=fun x h e=>by
 have h2:=h e;unfold c7;split
 ·exact h2
 ·exact h2
theorem xW{m m1:ak}(h:bn m)(hb:vu m m1):oU m m1:=by
 intro e;rcases hb with⟨v,hv,rfl⟩|⟨x,hx,rfl⟩|⟨h3,hv,hc,rfl⟩|⟨t,ht,rfl⟩
 ·have hz:aG m.af=false:=by
   rcases h.body with k|k|k|k
   ·exact absurd (k.aS.symm.trans e) (by decide)
   ·exact k.aM.nz
   ·exact k.aM.nz
   ·exact k.aM.nz
  unfold eu;rw[Qs (by rw[hz];decide)]
  exact⟨e,rfl⟩
 ·exact⟨e,rfl⟩
 ·exact absurd e h3
 ·exact⟨e,rfl⟩
theorem Ei{m m1:ak}(h:bn m)(hb:vu m m1){q:ak×Int×Unit}(hq:Pw (oU m) m m1 q):q.2.1=0/\C3 m m1.aa q.1:=by
 obtain⟨m2,rfl,ha⟩:=hq;have hf:=adA h hb;obtain⟨f1,f2,f3,f4,f5,f6⟩:=FC m1;obtain⟨s,e,_⟩:=MT m m2;refine⟨rfl,adx ha.inv,af4 ha.inv ha.seq (fun hz=>ha.nz (by rw[f6];exact hf.nz hz)),?_,?_,?_,?_⟩
 ·rw[e];exact ha.env.1.trans (f1.trans hf.aC)
 ·rw[e];exact ha.env.2.1.trans (f2.trans hf.bq)
 ·rw[e];exact ha.env.2.2.1.trans f3
 ·rw[e];exact ha.rel
section
variable {m : ak} (h : bn m) (hs : gi m)
 include h hs
theorem VI{v:ByteArray}(hv:mg v):Yd (mj m v) fun q=>q.2.1=0/\C3 m m.aa q.1:=by
 have hb:vu m (eu m v):= .inl ⟨v,hv,rfl⟩;refine(acC (R:=oU m) DT DS h hs hv (xW h hb)).mono fun q hq=> ?_
 have e:(eu m v).aa=m.aa:=by unfold eu;split<;>rfl
 exact e▸Ei h hb hq
theorem ac0{e:al}(he:EP m e):Yd (kF m e) fun q=>(q.2.1=0/\C3 m m.aa q.1)\/q.2.1=9:=by
 have hb:vu m (FW m e):= .inr (.inl ⟨e,he,rfl⟩);refine(acB (R:=oU m) DT DS h hs he (xW h hb)).mono fun q hq=> ?_
 rcases hq with⟨hq,_⟩|⟨rfl,_⟩
 ·exact .inl (Ei h hb hq)
 ·exact .inr rfl
theorem ac1{t:aj}(ht:fu t):Yd (oX m t) fun q=>q.2.1=0/\C3 m t q.1:=by
 have hb:vu m (F2 m t):= .inr (.inr (.inr ⟨t,ht,rfl⟩));refine(acH (R:=oU m) DT DS h hs ht (xW h hb)).mono fun q hq=> ?_
 exact Ei h hb hq
theorem acZ:Yd (oW m) fun q=>(q.2.1=0/\C3 m m.aa q.1)\/q.2.1≠0:=by
 have hR:∃R:ak->Prop,(∀m,bn m->R m->R (cv m))/\(∀m,R m->R (c7 m))/\R (n3 m)/\(vu m (n3 m)->∀x,R x->oU m x):=by
  by_cases hi:vu m (n3 m)
  ·exact⟨oU m,DT,DS,xW h hi,fun _ x hx=>hx⟩
  ·exact⟨fun _=>True,fun _ _ _=>trivial,fun _ _=>trivial,trivial,fun hi'=>absurd hi' hi⟩
 obtain⟨R,hR1,hR2,hR0,hRR⟩:=hR;refine(acA hR1 hR2 h hs hR0).mono fun q hq=> ?_
 rcases hq with⟨⟨m2,rfl,ha⟩,h3,hv,hc⟩|⟨rfl,_⟩|⟨rfl,_⟩
 ·have hb:vu m (n3 m):= .inr (.inr (.inl ⟨h3,hv,hc,rfl⟩));exact .inl (Ei h hb ⟨m2,rfl,ha.inv,ha.seq,ha.env,ha.num,ha.nz,hRR hb _ ha.rel,ha.fix⟩)
 ·exact .inr (by show(62:Int)≠0;decide)
 ·exact .inr (by show(3:Int)≠0;decide)
theorem L6:ml m=some (bif decide (m.aJ=3)then m.af.Value else eQ,decide (m.aJ=3),()):=by
 unfold ml;simp only[ak.eta,aj.eta,uj h hs,Qa,Qo,Ql];cases decide (m.aJ=3)<;>rfl
theorem acD:sF m=some (bif aG m.af then(al.mk (0:Int) (0:Int) (0:Int) (aj.mk (0:Int) ([]:List Int) ([]:List aj)) (0:Int) (ab.mk (0:Int) (ByteArray.mk #[])) (ab.mk (0:Int) (ByteArray.mk #[])) (ab.mk (0:Int) (ByteArray.mk #[])) (0:Int) (0:Int))else cQ m,!aG m.af,()):=by
 unfold sF;simp only[ak.eta,aj.eta,al.eta,uj h hs,Qa,Qo,Ql,c6,xU];cases aG m.af<;>rfl
theorem aaW:Yd (ru m) fun _=>True:=by
 have hev:=h.ev;have hlen:=h.len;unfold ru;simp only[ak.eta,aj.eta,al.eta,acD h hs,Qa]
 cases hz:aG m.af with
 |true=>exact .some trivial
 |false=>
  simp only[Qp,Qo,Ql,Qa]
  cases decide (m.aJ=3)with
  |true=>exact .some trivial
  |false=>
   simp only[Ql];have ho:=Jk h hs hz;have hm0:c5 (cQ m).aa:=by rw[qZ];exact h.aO.sm
   have hall:∀e∈[cQ m]++m.aA,aW e=true/\c5 e.aa:=by
    intro e he;rcases Qz.1 he with he|he
    ·rw[List.mem_singleton.1 he];exact⟨ho,hm0⟩
    ·exact⟨(h.hv e he).1,(h.hv e he).2.1.sm⟩
   have hl1:([cQ m]++m.aA).length<=1000:=by simp;omega
   rw[bu (by simp;omega),Qk]
   rw[C0 ([cQ m]++m.aA) hl1 (fun e=>decide (dY (cQ m)<=dY e)) (fin:=fun s=>Option.bind (iH m.au m.aa ([cQ m]++m.aA)) fun r8=>Option.bind (fI ([cQ m]++m.aA) s) fun r9=>Option.bind (jO r8 r9) fun r10=>if(bK .u64 m.au)<0 then none else some (decide ((DL .i64 (nc .i64 r10 (bK .u64 m.au)) (1:Int))=(1:Int))))
    (fun i e s hs' he hd hx hw=>by
     simp only[hd,hx,hw,Yx hx,Qk,Qa,Fq (hall e he).2 (hall e he).1,Fq hm0 ho]
     rw[bu (by simp;omega),Qk])
    (fun s hd=>by simp only[hd,Ql])]
   have hsml:pI ([cQ m]++m.aA):=⟨by omega,fun e he=>(hall e he).2⟩
   have hn:=hev.aC;have hv:=yK hn.2 (t:=m.aa) hsml;rw[hn.1]at hv;have hin:ur ([cQ m]++m.aA):=fun e he=>iD (hall e he).1
   rw[hv,Qa,zd ([cQ m]++m.aA) hl1 _ (fun e he _=>hin e he),Qa,BD (lj h.aO.sm hsml) (lh hin),Qa]
   have hc:bK .u64 m.au=m.au:=by
    rw[<-hn.1];exact aei (by omega)
   rw[hc,Qs (by have:=h.n0;omega)]
   exact .some trivial
def wY(t:dz):Prop:=0<=t.an/\t.an<=1000000/\ -1<=t.C6/\t.C6<=212
 omit h hs in
theorem Vk{t:dz}(ht:wY t):rP t=some true:=by
  obtain⟨h1,h2,h3,h4⟩:=ht;unfold rP;rw[Qg h1,Qg h2,Qg h3,Qg h4];rfl
 omit h hs in
theorem Zn{c:Int}(hc:0<=c)(hc2:c<=1000000):Yd (qu c) fun w=>1<=w/\w<=12:=by
  unfold qu
  by_cases h:12<=c
  ·rw[Qg h];exact .some ⟨by decide,by decide⟩
  ·have hadd:aB .i64 c 1=c+1:=bL (by omega) (by omega)
   rw[Qh h,Ql,hadd];refine .some ?_;unfold bC;split<;>omega
 omit hs in
theorem aan:0<=m.af.an/\m.af.an<=1000:=by
  rcases h.body with k|k|k|k
  ·rw[k.aM];exact⟨by decide,by decide⟩
  ·exact⟨by have:=k.aM.1;omega,k.aM.2.1⟩
  ·exact⟨by have:=k.aM.1;omega,k.aM.2.1⟩
  ·exact⟨by have:=k.aM.1;omega,k.aM.2.1⟩
theorem aeG{t:dz}(ht:wY t){now:Int}(h0:0<=now)(h1:now<=200):Yd (xZ t m now) fun q=>wY q.1:=by
 obtain⟨b0,b1⟩:=aan h;unfold xZ;simp only[ak.eta,aj.eta,Vk ht,Qa,Qo,Ql];rw[Qh (by omega:¬now<0),Qh (by omega:¬(200:Int)<now)]
 simp only[Ql,Qa];refine Yd.bind (aaW h hs) fun b _=> ?_
 have off:wY ⟨m.af.an, -1⟩:=⟨b0,by show m.af.an<=1000000;omega,by show(-1:Int)<= -1;omega,by show(-1:Int)<=212;omega⟩
 cases b with
 |false=>exact .some off
 |true=>
  simp only[Qo,Ql];refine Yd.bind (p:=fun _=>True) (Yd.cond (fun _=> .some trivial) fun _=> .some trivial) fun c _=> ?_
  cases c with
  |true=>
   rw[Qk];refine Yd.bind (Zn b0 (by omega)) fun w ⟨w1,w2⟩=> ?_
   have hadd:aB .i64 now w=now+w:=bL (by omega) (by omega)
   rw[hadd];exact .some ⟨b0,by show m.af.an<=1000000;omega,by show -1<=now+w;omega,by show now+w<=212;omega⟩
  |false=>
   rw[Ql]
   cases decide (t.C6<=now)with
   |true=>exact .some off
   |false=>exact .some ht
end
end Go.Proofs.YtjbfdglebjnelaaGreat
namespace Go.Proofs.YtjbfdglebjnelaaGreat
open Go.TQ
structure ze (k:Int) (x:bI):Prop where
 py:bn x.ai
 qd:gi x.ai
 aC:x.ai.au=0
 bq:x.ai.aT=1
 zN:ix x.aq
 s8:1<=x.aq.aI/\x.aq.aI<=1+k
 xv:x.aq.au=0
 zq:x.aq.aT=1
 aO:x.aq.aa=x.ai.aa
 timer:wY x.Timer
 round:1<=x.Round/\x.Round<=1000
 next:0<=x.Next/\x.Next<=212
structure rl (k:Int) (x:bI):Prop where
 pre:ze k x
 done:x.nZ=decide (x.ai.aJ=3)
 value:x.Value=bif decide (x.ai.aJ=3)then x.ai.af.Value else eQ
theorem ze.le{k k':Int}{x:bI}(h:ze k x)(hk:k<=k'):ze k' x:=⟨h.py,h.qd,h.aC,h.bq,h.zN,⟨h.s8.1,by have:=h.s8.2;omega⟩,h.xv,h.zq,h.aO,h.timer,h.round,h.next⟩
theorem rl.le{k k':Int}{x:bI}(h:rl k x)(hk:k<=k'):rl k' x:=⟨h.pre.le hk,h.done,h.value⟩
theorem ze.Ze{k:Int}{x:bI}(h:ze k x){m:ak}(hm:C3 x.ai x.ai.aa m):ze k {x with ai:=m}:=⟨hm.inv,hm.seq,hm.aC.trans h.aC,hm.bq.trans h.bq,h.zN,h.s8,h.xv,h.zq,h.aO.trans hm.aO.symm,h.timer,h.round,h.next⟩
theorem yL{k:Int}{x:bI}(h:ze k x):Yd (gP x) fun y=>rl k y/\oU x.ai y.ai:=by
 unfold gP;simp only[bI.eta,ax.eta,ak.eta,aj.eta];refine Yd.join (fun v=>ze k v.1/\oU x.ai v.1.ai) (fun v ⟨hv,hst⟩=> ?_) (fun j' hj=> ?_)
 ·rw[L6 hv.py hv.qd,Qa];exact .some ⟨⟨⟨hv.py,hv.qd,hv.aC,hv.bq,hv.zN,hv.s8,hv.xv,hv.zq,hv.aO,hv.timer,hv.round,hv.next⟩,rfl,rfl⟩,hst⟩
 ·have same:ze k x/\oU x.ai x.ai:=⟨h,fun e=>⟨e,rfl⟩⟩
  refine Yd.bind (Zw h.zN.sD.CO) fun c hc=> ?_
  rw[c6];simp only[Qa]
  have go:c.2.1=false\/mg c.1:=by
   cases e:c.2.1 with
   |false=>exact .inl rfl
   |true=>exact .inr (hc e)
  have hcond:∀b1 b2 b3:Bool,Yd (Option.bind (bif b1 then some b2 else some false) fun b5=>Option.bind (bif b5 then some b3 else some false) fun b7=>Option.bind (bif b7 then some (!decide (c.1=x.ai.bh))else some false) fun b8=>(some b8:Option Bool)) fun b=>b=true->b1=true:=fun b1 b2 b3=>by
   cases b1 with
   |true=>cases b2<;>cases b3<;>exact .some fun _=>rfl
   |false=>exact .some fun e=>e
  obtain⟨b8,hb8,hb8'⟩:=hcond c.2.1 (decide (x.ai.aJ=1)) (aG x.ai.av)
  have key:∀K:Bool->Option bI,(Option.bind (bif c.2.1 then some (decide (x.ai.aJ=1))else some false) fun b5=>Option.bind (bif b5 then some (aG x.ai.av)else some false) fun b7=>Option.bind (bif b7 then some (!decide (c.1=x.ai.bh))else some false) K)=K b8:=by
   intro K;revert hb8
   cases c.2.1 with
   |false=>intro e;cases e;rfl
   |true=>
    cases decide (x.ai.aJ=1)with
    |false=>intro e;cases e;rfl
    |true=>
     cases aG x.ai.av with
     |false=>intro e;cases e;rfl
     |true=>intro e;cases e;rfl
  rw[key]
  cases b8 with
  |false=>exact hj (x,()) same
  |true=>
   rw[Qk];have hv:=hc (hb8' rfl);refine Yd.bind (VI h.py h.qd hv) fun q ⟨h0,hn⟩=> ?_
   rw[h0];exact hj (_,()) ⟨h.Ze hn,hn.ext⟩
theorem BG{k:Int}{x:bI}(h:rl k x)(hk:k<=999999):kT x=some true:=by
 have p:=h.pre;obtain⟨b,f,hb⟩:=Z4 (a:=x.aq.aa) (b:=x.ai.aa) p.zN.ask.aO.sm;have hbt:=hb.2 p.aO;subst hbt;unfold kT;simp only[ax.eta,ak.eta,aj.eta,uj p.py p.qd,Jf p.zN ⟨p.s8.1,by have:=p.s8.2;omega⟩,f,Vk p.timer,L6 p.py p.qd,Qa,Qo,Ql]
 rw[Qg (p.xv.trans p.aC.symm),Qg (p.zq.trans p.bq.symm),Qg p.round.1,Qg p.round.2,Qg p.next.1,Qg p.next.2,Qg h.done,Qg h.value]
 rfl
def wI(k:Int)(x y:bI):Prop:=rl k y/\oU x.ai y.ai
theorem wI.self{k k':Int}{x:bI}(h:rl k x)(hk:k<=k'):wI k' x x:=⟨h.le hk,fun e=>⟨e,rfl⟩⟩
section
variable {k : Int} {x : bI} (h : rl k x) (hk : k <= 999998)
 include h hk
theorem Zt{m:ay}(hm:DN m)(hne:m.au≠0):Yd (pN x m) fun q=>(q.2.1=0/\wI (k+1) x q.1)\/q.2.1≠0:=by
 have p:=h.pre;unfold pN;simp only[bI.eta,ax.eta,ak.eta,ay.eta,aj.eta,BG h (by omega),Qa,Qo,Ql]
 refine Yd.bind (ahN p.zN ⟨p.s8.1,by have:=p.s8.2;omega⟩ hm (by rw[p.xv];exact hne)) fun q hq=> ?_
 rcases hq with⟨h0,hq⟩|h9
 ·rw[h0];simp only[decide_true,Qo,Ql];have h1:=p.s8;refine Yd.bind (yL (k:=k+1) (x:={x with aq:=q.1}) ⟨p.py,p.qd,p.aC,p.bq,hq.ok,?_,hq.aC.trans p.xv,hq.bq.trans p.zq,hq.aO.trans p.aO,p.timer,p.round,p.next⟩) fun y hy=> .some (.inl ⟨rfl,hy⟩)
  show 1<=q.1.aI/\q.1.aI<=1+(k+1);rcases hq.seq with e|e<;>rw[e]<;>omega
 ·rw[h9];exact .some (.inr (by show(9:Int)≠0;decide))
theorem aa1{e:al}(he:EP x.ai e\/(c5 e.aa/\aW e=false)):Yd (rq x e) fun q=>(q.2.1=0/\wI k x q.1)\/q.2.1≠0:=by
 have p:=h.pre;unfold rq;simp only[bI.eta,ax.eta,ak.eta,al.eta,aj.eta,BG h (by omega),Qa,Qo,Ql]
 rcases he with he|⟨ht,hv⟩
 ·refine Yd.bind (ac0 p.py p.qd he) fun q hq=> ?_
  rcases hq with⟨h0,hq⟩|h9
  ·rw[h0];simp only[decide_true,Qo,Ql];refine Yd.bind (yL (p.Ze hq)) fun y hy=> .some (.inl ⟨rfl,hy.1,fun e=> ?_⟩)
   have e1:=hq.ext e;have e2:=hy.2 e1.1;exact⟨e2.1,e2.2.trans e1.2⟩
  ·rw[h9];exact .some (.inr (by show(9:Int)≠0;decide))
 ·rw[aeI p.py p.qd ht (.inl hv)];exact .some (.inr (by show(61:Int)≠0;decide))
theorem aaZ{v:ByteArray}(hv:mg v):Yd (uv x v) fun q=>(q.2.1=0/\wI k x q.1)\/q.2.1≠0:=by
 have p:=h.pre;unfold uv;simp only[bI.eta,ax.eta,ak.eta,aj.eta,BG h (by omega),Qa,Qo,Ql]
 refine Yd.bind (VI p.py p.qd hv) fun q ⟨h0,hq⟩=> ?_
 rw[h0];simp only[decide_true,Qo,Ql];refine Yd.bind (yL (p.Ze hq)) fun y hy=> .some (.inl ⟨rfl,hy.1,fun e=> ?_⟩)
 have e1:=hq.ext e;have e2:=hy.2 e1.1;exact⟨e2.1,e2.2.trans e1.2⟩
theorem Zv{t:aj}(ht:fu t):Yd (sE x t) fun q=>(q.2.1=0/\wI (k+1) x q.1)\/q.2.1≠0:=by
 have p:=h.pre;unfold sE;simp only[bI.eta,ax.eta,ak.eta,aj.eta,BG h (by omega),Qa,Qo,Ql]
 have h1:=p.s8;refine Yd.bind (agG p.zN ⟨p.s8.1,by omega⟩ ht) fun q ⟨h0,g1,g2,g3,g4,g5⟩=> ?_
 rw[h0];simp only[decide_true,Qo,Ql];refine Yd.bind (ac1 p.py p.qd ht) fun r ⟨r0,hr⟩=> ?_
 rw[r0];simp only[decide_true,Qo,Ql];refine Yd.bind (yL (k:=k+1) (x:={x with aq:=q.1,ai:=r.1}) ⟨hr.inv,hr.seq,hr.aC.trans p.aC,hr.bq.trans p.bq,g1,?_,g2.trans p.xv,g3.trans p.zq,g4.trans hr.aO.symm,p.timer,p.round,p.next⟩) fun y hy=> .some (.inl ⟨rfl,hy.1,fun e=> ?_⟩)
 ·show 1<=q.1.aI/\q.1.aI<=1+(k+1);rcases g5 with e|e<;>rw[e]<;>omega
 ·have e1:=hr.ext e;have e2:=hy.2 e1.1;exact⟨e2.1,e2.2.trans e1.2⟩
theorem aeF{now:Int}(h0:0<=now)(h1:now<=200):Yd (xY x now) fun q=>(q.2.1=0/\wI (k+1) x q.1)\/q.2.1≠0:=by
 have p:=h.pre;have hsq:=p.s8;have hrd:=p.round;unfold xY;simp only[bI.eta,ax.eta,ak.eta,aj.eta,BG h (by omega),Qa,Qo,Ql]
 rw[Qh (by omega:¬now<0),Qh (by omega:¬(200:Int)<now)]
 simp only[Ql,Qa];refine Yd.join (fun v=>wI (k+1) x v.1) (fun v hv=> ?_) (fun j4 hj4=> ?_)
 ·have pv:=hv.1.pre;refine Yd.bind (aeG pv.py pv.qd pv.timer h0 h1) fun t ht=> ?_
  refine Yd.join (fun w=>wI (k+1) x w.1) (fun w hw=> .some (.inl ⟨rfl,hw⟩)) (fun j7 hj7=> ?_)
  have pt:ze (k+1) {v.1 with Timer:=t.1}:=⟨pv.py,pv.qd,pv.aC,pv.bq,pv.zN,pv.s8,pv.xv,pv.zq,pv.aO,ht,pv.round,pv.next⟩
  cases t.2.1 with
  |false=>exact hj7 (_,()) ⟨⟨pt,hv.1.done,hv.1.value⟩,hv.2⟩
  |true=>
   rw[Qk];refine Yd.join (fun w=>ze (k+1) w.1/\oU v.1.ai w.1.ai) (fun w ⟨hw,hst⟩=> ?_) (fun j9 hj9=> ?_)
   ·refine Yd.bind (yL hw) fun y hy=>hj7 (y,()) ⟨hy.1,fun e=> ?_⟩
    have e1:=hv.2 e;have e2:=hst e1.1;have e3:=hy.2 e2.1;exact⟨e3.1,e3.2.trans (e2.2.trans e1.2)⟩
   ·refine Yd.bind (acZ pv.py pv.qd) fun r hr=> ?_
    rcases hr with⟨r0,hr⟩|hr
    ·rw[r0];exact hj9 (_,()) ⟨pt.Ze hr,hr.ext⟩
    ·rw[Qh hr];exact hj9 (_,()) ⟨pt,fun e=>⟨e,rfl⟩⟩
 ·have skip:=hj4 (x,()) (wI.self h (by omega))
  cases decide (((List.length x.aq.bR:Nat):Int)=(0:Int))with
  |false=>exact skip
  |true=>
   simp only[Qk,Qa]
   cases decide (x.Next<=now)with
   |false=>exact skip
   |true=>
    rw[Qk];refine Yd.join (fun v=>ze (k+1) v.1/\v.1.ai=x.ai) (fun v ⟨hv,hm⟩=> ?_) (fun j14 hj14=> ?_)
    ·have hvr:=hv.round;have hadd:aB .i64 v.1.Round 1=v.1.Round+1:=bL (by omega) (by omega)
     have hmin:1<=dC (v.1.Round+1) 1000/\dC (v.1.Round+1) 1000<=1000:=by unfold dC;split<;>omega
     rw[hadd];refine Yd.bind (Zn (by omega) (by omega)) fun w ⟨w1,w2⟩=> ?_
     have hadd2:aB .i64 now w=now+w:=bL (by omega) (by omega)
     rw[hadd2];refine Yd.bind (yL (k:=k+1) (x:=⟨v.1.aq,v.1.ai,v.1.Timer,dC (v.1.Round+1) 1000,now+w,v.1.nZ,v.1.Value⟩) ⟨hv.py,hv.qd,hv.aC,hv.bq,hv.zN,hv.s8,hv.xv,hv.zq,hv.aO,hv.timer,hmin,by show 0<=now+w/\now+w<=212;omega⟩) fun y hy=>hj4 (y,()) ⟨hy.1,?_⟩
     have h2:=hy.2;simp only at h2;rw[hm]at h2;exact h2
    ·refine Yd.bind (agz p.zN ⟨p.s8.1,by omega⟩) fun q hq=> ?_
     rcases hq with⟨q0,g1,g2,g3,g4,g5⟩|q3
     ·rw[q0];refine hj14 (_,()) ⟨⟨p.py,p.qd,p.aC,p.bq,g1,?_,g2.trans p.xv,g3.trans p.zq,g4.trans p.aO,p.timer,p.round,p.next⟩,rfl⟩
      show 1<=q.1.aI/\q.1.aI<=1+(k+1);rcases g5 with e|e<;>rw[e]<;>omega
     ·rw[q3];exact hj14 (x,()) ⟨p.le (by omega),rfl⟩
end
theorem VC{s:dm}(hO:lB s){v:Int}(h0:0<=v)(h1:v<10):Yd (pf s v) fun q=>lB q.2/\DN q.1/\q.1.au=v:=by
 unfold pf;refine Yd.bind (nN hO (by omega) (by omega) (by omega)) fun p1 ⟨hO1,hlo,hhi,_⟩=> ?_
 refine Yd.bind (Gf hO1 (n:=4) (by omega) (by omega)) fun p2 ⟨hO2,ht,_,_⟩=> ?_
 simp only[aj.eta,aU];have hpw:([(ByteArray.mk #[97]),(ByteArray.mk #[98]),(ByteArray.mk #[99]),(ByteArray.mk #[97,97])]:List ByteArray).Pairwise (fun a b=>c9 a b=true):=by decide+kernel
 have hval:∀x∈([(ByteArray.mk #[97]),(ByteArray.mk #[98]),(ByteArray.mk #[99]),(ByteArray.mk #[97,97])]:List ByteArray),mg x:=by
  intro x hx;have:=Le.size (v:=x) hx;exact⟨this.1,by omega⟩
 have hlen:([(ByteArray.mk #[97]),(ByteArray.mk #[98]),(ByteArray.mk #[99]),(ByteArray.mk #[97,97])]:List ByteArray).length=4:=rfl;revert hpw hval hlen;generalize ([(ByteArray.mk #[97]),(ByteArray.mk #[98]),(ByteArray.mk #[99]),(ByteArray.mk #[97,97])]:List ByteArray)=L;intro hpw hval hlen;have vl:∀l:List ByteArray,l.Sublist L->VL l:=fun l hl=>⟨fun x hx=>hval x (hl.subset hx),hpw.sublist hl,by have:=hl.length_le;omega⟩
 refine Yd.list L (by omega) (fun i (s:dm×List ByteArray×List ByteArray)=>(i,s.1,(ay.mk v p1.1 p2.1 [] []),s.2.1,s.2.2,())) (fun i s=>lB s.1/\s.2.1.Sublist (L.take i)/\s.2.2.Sublist (L.take i)) ?_ ?_ (s:=(p2.2,[],[])) ⟨hO2,List.nil_sublist _,List.nil_sublist _⟩
 ·rintro i x ⟨s,vs,as_⟩ ⟨hs,g1,g2⟩ hd hx' hi hdec hx hadd;simp only at hs g1 g2;have l1:=g1.length_le;have l2:=g2.length_le;rw[List.length_take]at l1 l2
  have e:L.take (i+1)=L.take i++[x]:=by
   have hi2:L[i]?=some x:=by rw[bA]at hx;exact hx
   rw[List.take_add_one,hi2];rfl
  have w1:vs.Sublist (L.take (i+1)):=by rw[e];exact g1.trans (List.sublist_append_left _ _)
  have w2:as_.Sublist (L.take (i+1)):=by rw[e];exact g2.trans (List.sublist_append_left _ _)
  have w3:(vs++[x]).Sublist (L.take (i+1)):=by rw[e];exact g1.append (List.Sublist.refl _)
  have w4:(as_++[x]).Sublist (L.take (i+1)):=by rw[e];exact g2.append (List.Sublist.refl _)
  simp only;rw[hdec,Qk,hx,Qa,hadd,bu (by simp;omega),bu (by simp;omega)]
  refine Yd.bind (qp hs (by omega)) fun p10 ⟨hO3,_,_,_⟩=> ?_
  have fin:∀vs':List ByteArray,vs'.Sublist (L.take (i+1))->Yd (Option.bind (cd p10.2 (3:Int)) fun p9=>
    bif (decide (p9.1=(2:Int)))then
    bif true then
    some (Sum.inl (((i+1:Nat):Int),p9.2,(ay.mk v p1.1 p2.1 ([]:List ByteArray) ([]:List ByteArray)),vs',(as_++[x]),()))
    else none
    else
    some (Sum.inl (((i+1:Nat):Int),p9.2,(ay.mk v p1.1 p2.1 ([]:List ByteArray) ([]:List ByteArray)),vs',as_,())):Option ((Int×dm×ay×(List ByteArray)×(List ByteArray)×Unit)⊕(ay×dm))) (Lp (fun t=>∃s':dm×List ByteArray×List ByteArray,t=(((i+1:Nat):Int),s'.1,(ay.mk v p1.1 p2.1 [] []),s'.2.1,s'.2.2,())/\(lB s'.1/\s'.2.1.Sublist (L.take (i+1))/\s'.2.2.Sublist (L.take (i+1)))) (fun r=>lB r.2/\DN r.1/\r.1.au=v)):=by
   intro vs' hvs;refine Yd.bind (qp hO3 (by omega)) fun p9 ⟨hO4,_,_,_⟩=> ?_
   cases decide (p9.1=2)with
   |true=>exact .some ⟨(p9.2,vs',as_++[x]),rfl,hO4,hvs,w4⟩
   |false=>exact .some ⟨(p9.2,vs',as_),rfl,hO4,hvs,w2⟩
  cases decide (p10.1=1)with
  |true=>exact fin _ w3
  |false=>exact fin _ w1
 ·rintro⟨s,vs,as_⟩ ⟨hs,g1,g2⟩ hdec;simp only at hs g1 g2;rw[List.take_length]at g1 g2;simp only;rw[hdec,Ql];exact .some ⟨hs,⟨h0,h1,hlo,ht,vl _ g1,vl _ g2⟩,rfl⟩
theorem agr{k:Int}{x:bI}(h:rl k x)(hk:k<=999998){s:dm}(hO:lB s){now:Int}(h0:0<=now)(h1:now<=190):Yd (yk s x now) fun q=>lB q.2/\wI (k+1) x q.1.1/\now<=q.1.2.1/\q.1.2.1<=now+4:=by
 unfold yk;simp only[bI.eta,ax.eta,ak.eta,aj.eta];refine Yd.join (fun v=>lB v.2.2.1/\(v.2.1=0->wI (k+1) x v.2.2.2.1)/\now<=v.1/\v.1<=now+4) (fun v ⟨hv1,hv2,hv3,hv4⟩=> ?_) (fun j' hj=> ?_)
 ·by_cases e:v.2.1=0
  ·rw[Qg e];exact .some ⟨hv1,hv2 e,hv3,hv4⟩
  ·rw[Qh e];exact .some ⟨hv1,wI.self h (by omega),hv3,hv4⟩
 ·refine Yd.bind (qp hO (by omega)) fun p3 ⟨hO3,_,_,_⟩=> ?_
  have out:∀{c:Int} {y:bI} {k':Int},k'<=k+1->((c=0/\wI k' x y)\/c≠0)->c=0->wI (k+1) x y:=fun{c y k'} hk' hq e=>hq.elim (fun g=>⟨g.2.1.le hk',g.2.2⟩) fun g=>absurd e g
  refine Yd.cond (fun _=> ?_) (fun _=>Yd.cond (fun _=> ?_) (fun _=>Yd.cond (fun _=> ?_) (fun _=>Yd.cond (fun _=> ?_) (fun _=> ?_))))
  ·refine Yd.bind (qp hO3 (by omega)) fun p4 ⟨hO4,g0,g1,_⟩=> ?_
   have g1:=g1 (by omega)
   have hadd:aB .i64 now p4.1=now+p4.1:=bL (by omega) (by omega)
   rw[hadd];refine Yd.bind (aeF h hk (by omega) (by omega)) fun q hq=> ?_
   exact hj _ ⟨hO4,out (by omega) hq,by show now<=now+p4.1;omega,by show now+p4.1<=now+4;omega⟩
  ·refine Yd.bind (Ge hO3) fun p6 ⟨hO6,hv⟩=> ?_
   refine Yd.bind (aaZ h hk (aaJ hv)) fun q hq=> ?_
   exact hj _ ⟨hO6,out (by omega) hq,Int.le_refl _,by show now<=now+4;omega⟩
  ·refine Yd.bind (Gf hO3 (n:=4) (by omega) (by omega)) fun p8 ⟨hO8,ht,_,_⟩=> ?_
   refine Yd.bind (Zv h hk ht) fun q hq=> ?_
   exact hj _ ⟨hO8,out (by omega) hq,Int.le_refl _,by show now<=now+4;omega⟩
  ·refine Yd.bind (nN hO3 (by omega) (by omega) (by omega)) fun p10 ⟨hO10,hlo,hhi,_⟩=> ?_
   have hhi:=hhi (by omega)
   refine Yd.bind (VC hO10 (by omega) (by omega)) fun p11 ⟨hO11,hm,hmn⟩=> ?_
   simp only[ay.eta];refine Yd.bind (Zt h hk hm (by rw[hmn];omega)) fun q hq=> ?_
   exact hj _ ⟨hO11,out (by omega) hq,Int.le_refl _,by show now<=now+4;omega⟩
  ·refine Yd.bind (nN hO3 (by omega) (by omega) (by omega)) fun p13 ⟨hO13,hlo,hhi,_⟩=> ?_
   have hhi:=hhi (by omega)
   refine Yd.bind (X3 hO13 (by omega) (by omega) (by omega) (by omega) (n:=4) (by omega) (by omega)) fun p14 ⟨hO14,he⟩=> ?_
   generalize hE:(al.mk p14.1.au p14.1.aT (aB .i64 p14.1.aI now) p14.1.aa p14.1.bD p14.1.af p14.1.ao p14.1.az p14.1.aQ p14.1.bb)=E;have hT:fu E.aa:=by rw[<-hE];exact he.aO
   have hN:E.au=p13.1:=by rw[<-hE];exact he.aC
   have hS:E.aT=1:=by rw[<-hE];exact he.bq
   have hh:EP x.ai E\/(c5 E.aa/\aW E=false):=by
    cases hv:aW E with
    |false=>exact .inr ⟨hT.sm,rfl⟩
    |true=>exact .inl ⟨hv,hT,by rw[hS,h.pre.bq],by rw[hN,h.pre.aC];omega⟩
   refine Yd.bind (aa1 h hk hh) fun q hq=> ?_
   exact hj _ ⟨hO14,out (by omega) hq,Int.le_refl _,by show now<=now+4;omega⟩
theorem ahY{t:aj}{own:ByteArray}{now:Int}(ht:fu t)(ho:own.size<=200)(h0:0<=now)(h1:now<=200):Yd (zD 0 1 t own now) fun q=>q.2.1=0/\rl 0 q.1:=by
 unfold zD;simp only[bI.eta,ax.eta,ak.eta,aj.eta];rw[Qh (by omega:¬now<0),Qh (by omega:¬(200:Int)<now)]
 simp only[Ql,Qa];rw[ajg (by omega) (by omega) (by omega) (by omega) ht]
 simp only[Qa,decide_true,Qo,Ql];refine Yd.bind (aeH ht (by omega) (by omega) (by omega) (by omega) ho) fun q ⟨q0,g1,g2,g3,g4,g5⟩=> ?_
 rw[q0];simp only[decide_true,Qo,Ql];refine Yd.bind (Zn (by omega) (by omega)) fun w ⟨w1,w2⟩=> ?_
 have hadd2:aB .i64 now w=now+w:=bL (by omega) (by omega)
 rw[hadd2];obtain⟨m1,m2⟩:=Yr (aC:=0) (bq:=1) (by omega) (by omega) (by omega) (by omega) ht
 have ht0:wY ⟨0, -1⟩:=⟨by decide,by decide,by decide,by decide⟩
 refine Yd.bind (yL (k:=0) (x:=⟨q.1,Dn 0 1 t,⟨0, -1⟩,1,now+w,false,ByteArray.mk #[]⟩) ⟨m1,m2,rfl,rfl,g1,by show 1<=q.1.aI/\q.1.aI<=1+0;rw[g5];decide,g2,g3,g4,ht0,⟨(by decide:(1:Int)<=1),(by decide:(1:Int)<=1000)⟩,by show 0<=now+w/\now+w<=212;omega⟩) fun y hy=> .some ⟨rfl,hy.1⟩
end Go.Proofs.YtjbfdglebjnelaaGreat
namespace Go.Proofs.YtjbfdglebjnelaaGreat
open Go.TQ
theorem Me(a b:ByteArray):eI a b=some (B6 a b):=by
 simp[eI,B6]
theorem abS{a b:ByteArray}:decide (0<=B6 a b)= !c9 a b:=by
 rw[<-F8]
 by_cases h:B6 a b<0
 ·rw[Qg h,Qh (by omega)];rfl
 ·rw[Qh h,Qg (by omega)];rfl
theorem abc(x:ByteArray):o0 x=some (decide (mg x)):=Vj x
theorem N6{l:List ByteArray}(h:VL l):gZ l=some true:=by
 unfold gZ;refine Yd.eq_true (Yd.list l h.CO (fun i (_:Unit)=>(i,())) (fun _ _=>True) ?_ ?_ (s:=()) trivial)
 ·intro i y s hs hd hy hi hdec hx hadd;simp only;rw[hdec,Qk,hx,Qa,abc,Qa,Qg (h.C9 y hy),hadd];simp only[Qo,Ql]
  by_cases h0:i=0
  ·subst h0;rw[Qh (by omega:¬(0:Int)<((0:Nat):Int))]
   exact .some ⟨(),rfl,trivial⟩
  ·rw[Qg (by omega:(0:Int)<(i:Int))]
   simp only[Qk];have hsub:da .i64 (i:Int) 1=((i - 1:Nat):Int):=by rw[pK (by omega) (by have:=h.len;omega)];omega
   have hi1:i - 1<l.length:=by omega
   rw[hsub,bA,Qv hi1,Qa,Me,Qa,abS]
   have hyi:y=l[i]:=by
    rw[bA,Qv hi]at hx;exact(Option.some.inj hx).symm
   have hlt:c9 l[i - 1] y=true:=by
    rw[hyi];exact List.pairwise_iff_getElem.1 h.asc (i - 1) i hi1 hi (by omega)
   rw[hlt];exact .some ⟨(),rfl,trivial⟩
 ·intro s hs hdec;simp only;rw[hdec,Ql,Qg (by have:=h.len;omega:((l.length:Nat):Int)<=(40:Int))]
  exact .some rfl
theorem agM(l:List ByteArray)(hl:l.length<=1000000)(x:ByteArray):Yd (iV l x) fun r=>decide (0<=r)=decide (x∈l):=by
 unfold iV;refine Yd.list l hl (fun i (_:Unit)=>(i,())) (fun i _=>x∉l.take i) ?_ ?_ (s:=()) (by simp)
 ·intro i y s hs hd hy hi hdec hx hadd;simp only;rw[hdec,Qk,hx,Qa,hadd]
  by_cases hxy:x=y
  ·rw[Qg hxy,Qk];refine .some ?_;show decide ((0:Int)<=(i:Int))=decide (x∈l);rw[Qg (by omega:(0:Int)<=(i:Int))]
   exact(Qg (by rw[hxy];exact hy)).symm
  ·rw[Qh hxy,Ql];refine .some ⟨(),rfl,?_⟩
   have hi2:l[i]?=some y:=by
    rw[bA]at hx;exact hx
   rw[List.take_add_one,hi2];simp only[Option.toList_some,Qz,List.mem_singleton];exact fun h=>h.elim hs hxy
 ·intro s hs hdec;simp only;rw[hdec,Ql];rw[List.take_length]at hs;refine .some ?_;show decide ((0:Int)<= -1)=decide (x∈l);rw[Qh hs];rfl
theorem Vv(l:List ByteArray)(hl:l.length<=1000000)(x:ByteArray):jV l x=some (decide (x∈l)):=by
 obtain⟨r,h1,h2⟩:=agM l hl x;unfold jV kl;rw[h1,Qa,Qa,h2]
theorem Us{v:Int}(h0:0<=v)(h1:v<10):kO v=some true:=by
 unfold kO;rw[Qg h0,Qg h1];rfl
theorem ae3{m:ay}(h:DN m):pc m=some true:=by
 unfold pc;simp only[aj.eta,Us h.n0 h.n1,eK h.aO,N6 h.fp,N6 h.kC];rw[Qg h.seq];rfl
theorem abh{n:ax}(h:ix n):eU n.bR n=some false:=by
 unfold eU iG;simp only[aj.eta,ax.eta]
 have:=Yd.list (p:=fun r:Int=>r= -1) (step:=fun(v1:Int×Unit)=>
   bif (decide (v1.1<((List.length n.bR:Nat):Int)))then
   Option.bind (idx n.bR v1.1) fun x2=>
   Option.bind (nm x2 n) fun r3=>
   bif r3 then
   Option.map Sum.inr (some v1.1)
   else
   some (Sum.inl ((aB .i64 v1.1 (1:Int)),()))
   else
   Option.map Sum.inr (some (-1:Int))) n.bR h.sD.CO (fun i (_:Unit)=>(i,())) (fun _ _=>True) ?_ ?_ (s:=()) trivial
 ·obtain⟨r,h1,rfl⟩:=this;rw[h1];rfl
 ·intro i x s _ hd hx' hi hdec hx hadd;simp only;unfold nm;rw[hdec,Qk,hx,Qa,hadd,Vv _ h.kC.CO,Qg (h.sub x hx')];exact .some ⟨(),rfl,trivial⟩
 ·intro s _ hdec;simp only;rw[hdec,Ql];exact .some rfl
theorem ae0{n:ax}(h:ix n)(hs:1<=n.aI/\n.aI<=1000000):pb n=some true:=by
 have hlen:=h.len;unfold pb rC;simp only[aj.eta,ax.eta,Us h.ask.v0 h.ask.v1,eK h.ask.aO,N6 h.fp,N6 h.kC,N6 h.sD,abh h];rw[Qg h.ask.s0,Qg h.ask.s1,Qg h.ask.r1,Qg h.ask.r2,Qg hs.1,Qg hs.2,Qh (by have:=h.own;omega:¬(200:Int)<((n.nO.size:Nat):Int))]
 simp only[Ql,Qk,Qa,decide_true,Qo];refine Yd.eq_true ?_;refine Yd.list n.aA (by omega) (fun i (_:Unit)=>(i,())) (fun _ _=>True) ?_ ?_ (s:=()) trivial
 ·intro i m s _ hd hm hi hdec hx hadd;obtain⟨hm1,hm2⟩:=h.heard m hm;simp only[aU];rw[hdec,Qk,hx,Qa,hadd];simp only[ay.eta];rw[ae3 hm1,Qa,Qh hm2];simp only[Qo,Ql]
  by_cases h0:i=0
  ·subst h0;rw[Qh (by omega:¬(0:Int)<((0:Nat):Int))]
   exact .some ⟨(),rfl,trivial⟩
  ·rw[Qg (by omega:(0:Int)<(i:Int))]
   simp only[Qk];have hsub:da .i64 (i:Int) 1=((i - 1:Nat):Int):=by rw[pK (by omega) (by omega)];omega
   have hi1:i - 1<n.aA.length:=by omega
   rw[hsub,bA,Qv hi1,Qa]
   have hyi:m=n.aA[i]:=by
    rw[bA,Qv hi]at hx;exact(Option.some.inj hx).symm
   have hlt:n.aA[i - 1].au<m.au:=by
    rw[hyi];exact List.pairwise_iff_getElem.1 h.gJ (i - 1) i hi1 hi (by omega)
   rw[Qh (by omega:¬m.au<=n.aA[i - 1].au)]
   exact .some ⟨(),rfl,trivial⟩
 ·intro s _ hdec;simp only;rw[hdec,Ql];exact .some rfl
theorem agK{t:dz}(ht:wY t):zh t=some true:=Vk ht
theorem Mf{k:Int}{x:bI}(h:rl k x)(hk:k<=999999):qt x=some true:=by
 have p:=h.pre;obtain⟨b,f,hb⟩:=eqT (a:=x.aq.aa) (b:=x.ai.aa) p.zN.ask.aO.sm;have hbt:=hb.2 p.aO;subst hbt;unfold qt;simp only[ax.eta,ak.eta,aj.eta,Jz p.py p.qd,ae0 p.zN ⟨p.s8.1,by have:=p.s8.2;omega⟩,f,agK p.timer,Vw p.py p.qd,Qa,Qk]
 rw[Qg (p.xv.trans p.aC.symm),Qg (p.zq.trans p.bq.symm),Qg p.round.1,Qg p.round.2,Qg p.next.1,Qg p.next.2,Qg h.done,Qg h.value]
 rfl
theorem EF(l:List ByteArray)(h:l.length<=1000):bY l=some l:=by
 unfold bY;have hk:bc 16 (([]:List ByteArray).length+l.length)=true:=bu ⟨by simp;omega,by simp;omega⟩
 rw[hk]
 cases l with
 |nil=>simp
 |cons x l=>simp
theorem Ym{t:aj}(h:c5 t):lS t=some t:=(show lS t=iX t from rfl).trans (tq h)
theorem abf{m:ay}(ht:c5 m.aa)(hv:m.cu.length<=1000)(ha:m.bj.length<=1000):kH m=some m:=by
 unfold kH;simp only[aj.eta,Ym ht,EF _ hv,EF _ ha,Qa]
theorem acU{m:ay}(ht:c5 m.aa)(hv:m.cu.length<=1000)(ha:m.bj.length<=1000):oe m=some m:=by
 unfold oe;simp only[aj.eta,tq ht,EF _ hv,EF _ ha,Qa]
theorem UG{m:ak}(h:bn m):aG m.af=decide (m.af.an=0):=by
 rcases h.body with k|k|k|k
 ·rw[k.aM];rfl
 all_goals
  rw[k.aM.nz,Qh (by have:=k.aM.1;omega)]
theorem Vu{k:Int}{x:bI}(h:rl k x)(hk:k<=999999):Yd (qq x) fun l=>l.length=(bif x.nZ then 0 else 1)+(bif decide (x.ai.af.an=0)then 0 else 1):=by
 have p:=h.pre;obtain⟨e,he,_⟩:=acT p.py p.qd;have l1:=p.zN.fp.len;have l2:=p.zN.kC.len;unfold qq wF jT;simp only[bI.eta,ax.eta,ak.eta,ay.eta,al.eta,aj.eta,Mf h hk,Qa,Qo,Ql,he,aU];rw[abf p.zN.ask.aO.sm (by show x.aq.cu.length<=1000;omega) (by show x.aq.bj.length<=1000;omega)]
 simp only[Qa];rw[acU p.zN.ask.aO.sm (by show x.aq.cu.length<=1000;omega) (by show x.aq.bj.length<=1000;omega)]
 rw[<-UG p.py];simp only[Qa,List.nil_append];rw[bu (by simp),bu (by simp),bu (by simp)]
 cases x.nZ<;>cases aG x.ai.af<;>exact .some rfl
end Go.Proofs.YtjbfdglebjnelaaGreat
namespace Go.Proofs.YtjbfdglebjnelaaGreat
open Go.TQ
def tA:aj:=⟨1,uB 1,[]⟩
def vA:ByteArray:=ByteArray.mk #[97]
theorem tT:fu tA:=by
 refine⟨fun x hx=> ?_,?_,?_,.inl rfl,?_⟩
 ·obtain⟨k,hk,rfl⟩:=Rp.1 hx;omega
 ·decide
 ·decide
 ·decide
theorem I6:mg vA:=by decide
theorem vlA:VL [vA]:=⟨fun x hx=>by rw[List.mem_singleton.1 hx];exact I6,List.pairwise_singleton _ _,by decide⟩
theorem ae6(l:List Int)(hl:l.length<=1000000)(x:Int):Yd (lH l x) fun r=>decide (0<=r)=true->x∈l:=by
 unfold lH;refine Yd.list l hl (fun i (_:Unit)=>(i,())) (fun _ _=>True) ?_ ?_ (s:=()) trivial
 ·intro i y s hs hd hy hi hdec hx hadd;simp only;rw[hdec,Qk,hx,Qa,hadd]
  by_cases hxy:x=y
  ·rw[Qg hxy,Qk];exact .some fun _=>by rw[hxy];exact hy
  ·rw[Qh hxy,Ql];exact .some ⟨(),rfl,trivial⟩
 ·intro s hs hdec;simp only;rw[hdec,Ql];exact .some fun e=>by cases e
theorem ahS(a b c d:Int):∃r,uz a b c d=some r:=⟨_,rfl⟩
theorem ae5{k:Int}(h:k≠0):ju tA 0 1 1 k=some false:=by
 unfold ju;rw[Qh h];simp only[aj.eta,Ql,aU]
 have hw:Yd (wG tA k) fun q=>q.2.1=false:=by
  show Yd (rH (Ch (SizeOf.sizeOf tA+SizeOf.sizeOf k)) tA k) fun q=>q.2.1=false
  unfold rH
  have hc:ke tA.ba k=some false:=by
   obtain⟨r,h1,h2⟩:=ae6 tA.ba (by decide) k
   unfold ke;rw[h1,Qa]
   cases e:decide (0<=r)with
   |false=>rfl
   |true=>
    obtain⟨j,hj,rfl⟩:=Rp.1 (h2 e);exact absurd (by omega) h
  rw[hc,Qa,Ql];refine Yd.list tA.aN (by decide) (fun i (s:gM)=>(i,s,())) (fun _ _=>True) (fun i x s _ _ hx=>absurd hx QR) (fun s _ hdec=> ?_) trivial
  simp only;rw[hdec,Ql];exact .some rfl
 obtain⟨q,h1,h2⟩:=hw;rw[h1,Qa,h2];rfl
theorem acW:nV tA 0 1 1=some 0:=by
 have:Yd (nV tA 0 1 1) fun r=>r=0:=by
  unfold nV;simp only[aj.eta,aU];refine Yd.Ju (fun(s:Int×Int×Int×Unit)=>s.1=0/\0<=s.2.2.1/\s.2.2.1<=10) (fun s=>(10 - s.2.2.1).toNat) ?_ ⟨rfl,Int.le_refl _,by show(0:Int)<=10;omega⟩
  rintro⟨b,hsh,k,u⟩ ⟨h1,h2,h3⟩;simp only at h1 h2 h3;subst h1;simp only
  by_cases hk:k<10
  ·rw[Qg hk];have hadd:aB .i64 k 1=k+1:=bL (by omega) (by omega)
   simp only[Qk];rw[hadd]
   have fin:∀x:Int,Yd (some (Sum.inl ((0:Int),x,k+1,())):Option ((Int×Int×Int×Unit)⊕Int)) (Lp (fun s'=>(s'.1=0/\0<=s'.2.2.1/\s'.2.2.1<=10)/\(10 - s'.2.2.1).toNat<(10 - k).toNat) (fun r=>r=0)):=
    fun x=> .some ⟨⟨rfl,by show 0<=k+1;omega,by show k+1<=10;omega⟩,by show(10 - (k+1)).toNat<(10 - k).toNat;omega⟩
   by_cases h0:k=0
   ·subst h0
    have hn:ju tA 0 1 1 0=some true:=by
     unfold ju;rfl
    rw[hn,Qa];obtain⟨hsv,eh⟩:=ahS 2 1 1 0;rw[eh];simp only[Qo,Ql,Qa];refine Yd.cond (fun _=> ?_) fun _=> ?_
    ·exact fin _
    ·exact fin _
   ·rw[ae5 h0,Qa];exact fin _
  ·rw[Qh hk];exact .some rfl
 obtain⟨r,h1,rfl⟩:=this;exact h1
theorem abg:pU tA 0 1 1=some (((1:Nat):Int),0,()):=by
 unfold pU yj;simp only[aj.eta,eK tT,Qa,decide_true,Qo,Ql];rw[Qh (by omega:¬(0:Int)<0),Qh (by omega:¬(10:Int)<=0),Qh (by omega:¬(1:Int)<0),Qh (by omega:¬(1000000:Int)<1),Qh (by omega:¬(1:Int)<1),Qh (by omega:¬(1000:Int)<1)]
 simp only[Ql,Qa,decide_true,Qo];rw[bz (s':=(((1:Nat):Int),1,())) ?_,bJ ?_]
 ·rfl
 ·simp only;rw[Qg (by omega:(0:Int)<1),show aB .i64 0 1=1 from rfl,acW,Qa,Qk,Qs (by omega)]
  have:=qc (s:=0) (x:=0) (by omega) (by omega) (by omega)
  rw[show oJ .i64 (0:Int) (bV .i64 1 0)=((0|||2 ^ (0:Int).toNat:Nat):Int)from this]
  rfl
theorem ahi:bY []=some []:=EF [] (by decide)
theorem YQ:df []=some []:=by
 unfold df;rw[bu (by decide)]
 simp
theorem ZH:jU [] vA=some [vA]:=by
 unfold jU eA;rw[bJ (r:=((0:Int),false,())) (by rfl),Qa]
 simp only[Ql,Qa];rw[Qh (by decide),Ql,ahi,Qa]
 unfold kW Wb;rw[bu (by decide)]
 rfl
theorem aeZ{n:ax}(hT:n.aa=tA)(hN:n.au=0)(hS:n.aT=1)(hR:n.Round=1)(hO:n.nO=vA)(hV:n.cu=[]):oZ n=some [vA]:=by
 unfold oZ;simp only[aj.eta,aU];rw[hT,hN,hS,hR,hO,hV,abg,Qa,Xi (by omega),Qa,show oK 1=[0]from by decide]
 rw[bz (s':=([vA],1,())) ?_,bJ (r:=[vA]) ?_]
 ·rfl
 ·simp only;rw[Qg (by decide:(0:Int)<((List.length [(0:Int)]:Nat):Int)),show idx [(0:Int)] 0=some 0 from rfl]
  simp only[Qk,Qa,decide_true];rw[Qh (by decide:¬vA=ByteArray.mk #[])]
  simp only[Qp,Qk];rw[ZH];rfl
theorem ahw{rec:(aj×Unit)->Option aj}{t:aj}(hm:c5 t)(hr:∀u∈t.aN,rec (u,())=some u):lZ rec t=some t:=by
 have hn:=hm.nodes;have hi:=hm.len;unfold lZ;rw[bu ⟨by omega,by omega⟩,Qk]
 simp only[aj.eta]
 have:=Yd.list (p:=fun r=>r=t) (step:=fun(v1:Int×aj×(List Int)×(List aj)×Unit)=>
   bif (decide (v1.1<((List.length t.aN:Nat):Int)))then
   Option.bind (idx t.aN v1.1) fun x2=>
   Option.bind (rec (x2,())) fun r3=>
   bif bc 56 (List.length v1.2.2.2.1+List.length [r3])then
   some (Sum.inl ((aB .i64 v1.1 (1:Int)),(aj.mk v1.2.1.aL ([]:List Int) ([]:List aj)),v1.2.2.1,(v1.2.2.2.1++[r3]),()))
   else none
   else
   Option.map Sum.inr (some (aj.mk v1.2.1.aL v1.2.2.1 v1.2.2.2.1))) t.aN hi (fun i (s:List aj)=>(i,(aj.mk t.aL [] []),t.ba,s,())) (fun i s=>s=t.aN.take i) ?_ ?_ (s:=[]) (by simp)
 ·obtain⟨r,h1,rfl⟩:=this;exact h1
 ·rintro i x s rfl hd hx' hi' hdec hx hadd;have hi2:t.aN[i]?=some x:=by rw[bA]at hx;exact hx
  simp only;rw[hdec,Qk,hx,Qa,hr x hx',Qa,hadd,bu ⟨by simp;omega,by simp;omega⟩,Qk]
  refine .some ⟨_,rfl,?_⟩;rw[List.take_add_one,hi2];rfl
 ·rintro s rfl hdec;simp only;rw[hdec,Ql,List.take_length];exact .some (aj.eta t)
theorem ahs{n:Nat}:∀{t:aj},SizeOf.sizeOf t<n->c5 t->tx n (t,())=some t:=by
 induction n with
 |zero=>intro t h;omega
 |succ n ih=>
  intro t hz hm;show lZ (tx n) t=some t;exact ahw hm fun u hu=>ih (t:=u) (by have:=pC hu;omega) (hm.inner u hu)
theorem acV{t:aj}(h:c5 t):ph t=some t:=ahs (by omega) h
def cA:List aR:=(List.replicate 10 ⟨false,⟨0,[],[]⟩⟩).set 0 ⟨true,tA⟩
theorem agJ{n:ax}(hT:n.aa=tA)(hN:n.au=0)(hH:n.aA=[]):pS n=some ⟨cA⟩:=by
 unfold pS;simp only[aj.eta];rw[hT,hN,hH]
 have hv:rE 0 tA []=some ⟨cA⟩:=by
  unfold rE
  have h1:(decide ((10:Int)=(10:Int))&&decide (0<=(10:Int))&&bc 64 (Int.toNat (10:Int)))=true:=by
   rw[bu (by decide)];rfl
  rw[h1,Qk];refine bJ ?_;simp only[aj.eta,aU,QZ];rw[Qh (by decide:¬(0:Int)<((0:Nat):Int)),Ql]
  have hcp:=acV tT.sm;rw[show rD 0=some true from Us (v:=0) (by omega) (by omega),eK tT,hcp]
  rfl
 refine bJ ?_;simp only[QZ];rw[Qh (by decide:¬(0:Int)<((0:Nat):Int)),Ql,hv]
 rfl
theorem aak:yC ⟨cA⟩:=⟨by decide,fun m hm=>by
 rcases List.mem_or_eq_of_mem_set hm with hm|rfl
 ·rw[(List.mem_replicate.1 hm).2];exact VE
 ·exact tT.sm⟩
theorem gqA:(gq cA 1).testBit 0=true:=by
 refine(A6 aak (s:=1) (by omega)).max 1 (fun k hk=> ?_) 0 (by decide)
 have h0:k=0:=by
  rcases Nat.eq_zero_or_pos k with h|h
  ·exact h
  ·rw[Nat.testBit_one_eq_true_iff_self_eq_zero]at hk;exact hk
 subst h0;exact⟨by decide,by decide,by decide⟩
theorem Md{a:List ByteArray}(ha:a=[]\/a=[vA]):lg [(⟨0,1,tA,[vA],a⟩:ay)] vA=some (((1:Nat):Int),((if a=[]then 0 else 1:Nat):Int),()):=by
 unfold lg;simp only[aU];have hb:oJ .i64 (0:Int) (bV .i64 1 0)=((1:Nat):Int):=qc (s:=0) (x:=0) (by omega) (by omega) (by omega)
 rw[bz (s':=(((1:Nat):Int),((if a=[]then 0 else 1:Nat):Int),1,())) ?_,bJ ?_]
 ·rfl
 ·simp only;rw[Qg (show(0:Int)<((List.length [(⟨0,1,tA,[vA],a⟩:ay)]:Nat):Int)from(by decide:(0:Int)<1)),show idx [(⟨0,1,tA,[vA],a⟩:ay)] 0=some ⟨0,1,tA,[vA],a⟩from rfl]
  simp only[Qk,Qa];rw[Vv _ (by decide),Vv _ (by rcases ha with rfl|rfl<;>decide),Qa,Qg (List.mem_singleton.2 rfl),Qk,Qs (by omega),hb,Qa]
  rcases ha with rfl|rfl
  ·rw[Qh QR];rfl
  ·rw[Qg (List.mem_singleton.2 rfl),Qk,Qs (by omega)]
   rfl
theorem ahV{a:List ByteArray}(ha:a=[]\/a=[vA]):nT [(⟨0,1,tA,[vA],a⟩:ay)]=some [vA]:=by
 unfold nT;have hal:a.length<=1:=by rcases ha with rfl|rfl<;>decide
 rw[bz (s':=(1,[vA]++a,())) ?_]
 ·refine bJ ?_;simp only;rw[Qh (show¬(1:Int)<((List.length [(⟨0,1,tA,[vA],a⟩:ay)]:Nat):Int)from(by decide:¬(1:Int)<1)),Ql]
  obtain⟨t,h1,h2,h3,h4⟩:=nb.Za (cmp:=fun x y=>eI x y) Me (fun x y=>F8 x y) ([vA]++a) (by simp only[QB,List.length_singleton];omega)
  have hs:iF ([vA]++a)=some ((),t):=h1;have hc:fA t=some (dd t):=A9 (eq:=fun a b=>decide (a=b)) (ne:=fun a b=> !decide (a=b)) (z:=ByteArray.mk #[]) (fun _ _=>rfl) (fun _ _=>rfl) t (by rw[h2];simp only[QB,List.length_singleton];omega)
  rw[hs,Qa,hc]
  have he:dd t=[vA]:=by
   refine nb.unique h3 (List.pairwise_singleton _ _) fun x=> ?_
   rw[h4];rcases ha with rfl|rfl<;>simp
  rw[he];rfl
 ·simp only;rw[Qg (show(0:Int)<((List.length [(⟨0,1,tA,[vA],a⟩:ay)]:Nat):Int)from(by decide:(0:Int)<1)),show idx [(⟨0,1,tA,[vA],a⟩:ay)] 0=some ⟨0,1,tA,[vA],a⟩from rfl]
  simp only[Qk,Qa];rw[bu (by simp),bu (by simp;omega)]
  rfl
theorem abe{n:ax}{a:List ByteArray}(ha:a=[]\/a=[vA])(hT:n.aa=tA)(hN:n.au=0)(hH:n.aA=[])(hQ:n.aI=1)(hV:n.cu=[vA])(hA:n.bj=a):mU n ⟨cA⟩=some (if a=[]then(vA,true,())else(ByteArray.mk #[],false,())):=by
 unfold mU jT;simp only[aj.eta,Qa];rw[hT,hN,hH,hQ,hV,hA,YQ,Qa,bu (by show(0+1)*120<=140737488355328/\0+1<=1000000;decide),Qk]
 simp only[List.nil_append];rw[ahV ha,Qa];have hl:a.length<=1:=by rcases ha with rfl|rfl<;>decide
 rcases ha with rfl|rfl
 ·refine bJ ?_;simp only;rw[Qg (by decide:(0:Int)<((List.length [vA]:Nat):Int)),show idx [vA] 0=some vA from rfl]
  simp only[Qk,Qa];rw[Md (.inl rfl),Qa,Vv _ (by decide),Qa,Qh QR]
  have:=Ap aak (v:=0) (fp:=1) (accepts:=0) (by omega) (by omega) (by omega)
  have hacc:lE cA 0 1 0=true:=by
   unfold lE;rw[show(1|||0:Nat)=1 from rfl,gqA,Bool.or_true]
  rw[hacc]at this;simp only[Qp,Qk,Qa,Qt];rw[Qg (by decide:((List.length ([]:List ByteArray):Nat):Int)<40),Qk]
  rw[show fO ⟨cA⟩ 0 ((1:Nat):Int) ((0:Nat):Int)=some true from this]
  rfl
 ·rw[bz (s':=(1,())) ?_,bJ (r:=(ByteArray.mk #[],false,())) ?_]
  ·rw[Qs (by decide)]
  ·rfl
  ·simp only;rw[Qg (by decide:(0:Int)<((List.length [vA]:Nat):Int)),show idx [vA] 0=some vA from rfl]
   simp only[Qk,Qa];rw[Md (.inr rfl),Qa,Vv _ (by decide),Qa,Qg (List.mem_singleton.2 rfl)]
   rfl
def nA:ax:=⟨0,1,1,1,tA,vA,[vA],[vA],[vA],[]⟩
theorem abd:nk ⟨0,1,1,1,tA,vA,[],[],[],[]⟩=some nA:=by
 unfold nk jT;simp only[aj.eta,aU,QZ];rw[Qg (by decide:((0:Nat):Int)=0),Qk,aeZ rfl rfl rfl rfl rfl rfl,Qa,agJ rfl rfl rfl,Qa,abe (.inl rfl) rfl rfl rfl rfl rfl rfl,Qa,Qr rfl]
 rw[bz (s':=(ByteArray.mk #[],false,⟨0,1,1,1,tA,vA,[vA],[vA],[],[]⟩,())) ?_]
 ·refine bJ ?_;simp only[Ql];rw[YQ];simp only[Qa];rw[bu (by decide),Qk]
  rw[bz (s':=(1,nA,())) ?_,bJ (r:=nA) ?_]
  ·rfl
  ·rfl
  ·simp only;rw[Qg (by decide:(0:Int)<((List.length [vA]:Nat):Int)),show idx [vA] 0=some vA from rfl]
   simp only[Qk,Qa,List.nil_append];rw[Md (.inr rfl),Qa];have:=y1 aak (v:=0) (accepts:=1) (by omega) (by omega)
   rw[gqA]at this;simp only;rw[Qs (by decide),show fD ⟨cA⟩ 0 ((1:Nat):Int)=some true from this,Qa,Qk,ZH]
   rfl
 ·simp only[Qk];rw[ZH,Qa,abe (.inr rfl) rfl rfl rfl rfl rfl rfl,Qa,Qs (by decide)]
theorem ajm:ix nA:=⟨⟨tT,by decide,by decide,by decide,by decide,by decide,by decide⟩,by decide,vlA,vlA,vlA,fun x hx=>hx,fun m hm=>absurd hm QR,List.Pairwise.nil⟩
theorem ae8:pa nA=some nA:=by
 unfold pa;simp only[aj.eta];rw[show nA.aa=tA from rfl,Ym tT.sm,Qa,show nA.cu=[vA]from rfl,show nA.bj=[vA]from rfl,show nA.bR=[vA]from rfl,EF _ (by decide)]
 simp only[Qa];exact bJ rfl
theorem ae1:lT 0 1 tA vA=some (nA,0,()):=by
 unfold lT;simp only[aj.eta,ax.eta,Us (v:=0) (by omega) (by omega),eK tT,Qa,Qo,Ql,decide_true]
 rw[Qh (by omega:¬(1:Int)<0),Qh (by omega:¬(1000000:Int)<1),Qh (by decide:¬(200:Int)<((vA.size:Nat):Int)),abd]
 simp only[Ql,Qa];rw[ae8];rfl
theorem XI:jE [vA]=some (vA,true,()):=by
 unfold jE;simp only[aU];rw[bz (s':=(vA,1,())) ?_,bJ (r:=(vA,true,())) ?_]
 ·rfl
 ·simp only;rw[Qg (by decide:(0:Int)<((List.length [vA]:Nat):Int)),show idx [vA] 0=some vA from rfl]
  simp only[Qk,Qa];rw[abc,Qg I6,Qa,Qk,Me,Qa];rw[Qg (by decide:(0:Int)<B6 vA (ByteArray.mk #[]))]
  rfl
def mA:ak:=Dn 0 1 tA
def zA:ak:=(runT 1 1 20 (eu mA vA)).getD mA
theorem ajf:runT 1 1 20 (eu mA vA)=some zA/\zA.aJ=3/\zA.af.Value=vA:=by
 refine⟨?_,by decide+kernel,by decide+kernel⟩
 have h:(runT 1 1 20 (eu mA vA)).isSome=true:=by decide+kernel
 unfold zA
 cases e:runT 1 1 20 (eu mA vA)with
 |none=>rw[e]at h;cases h
 |some z=>rfl
theorem agv:yl=some true:=by
 obtain⟨m1,m2⟩:=Yr (aC:=0) (bq:=1) (by omega) (by omega) (by omega) (by omega) tT
 have hp:=Fv m1 (v:=vA) I6
 have hflat:vM 1 1 (eu mA vA):=⟨by omega,by omega,by omega,by unfold eu;split<;>rfl,fun e he=>by
  have:(eu mA vA).aA=[]:=by unfold eu;split<;>rfl
  rw[this]at he
  exact absurd he QR⟩
 obtain⟨r1,r2,r3⟩:=ajf;obtain⟨q,e1,x2,hq,ha⟩:=acS (R:=fun x=>Reach (eu mA vA) x/\oU mA x) (fun x h1 h2=>⟨aeB hp x h1 h2.1,DT x h1 h2.2⟩) (fun x h=>⟨aeA x h.1,DS x h.2⟩) m1 m2 I6 ⟨aeC hp,xW m1 (.inl ⟨vA,I6,rfl⟩)⟩
 have hb:vu mA (eu mA vA):= .inl ⟨vA,I6,rfl⟩;have hop:=Ei m1 hb (q:=q) ⟨x2,hq,ha.inv,ha.seq,ha.env,ha.num,ha.nz,ha.rel.2,ha.fix⟩;have hx2:x2={zA with aI:=x2.aI}:=aim hp hflat r1 ⟨ha.inv,ha.seq,ha.env,ha.num,ha.nz,ha.rel.1,ha.fix⟩
 have hph:q.1.aJ=3/\q.1.af=zA.af:=by
  obtain⟨s,e,_⟩:=MT mA x2;rw[hq];show(rh mA x2).aJ=3/\(rh mA x2).af=zA.af;rw[e,hx2];exact⟨r2,rfl⟩
 have hn:=hop.2;have ht1:(eu mA vA).aa=tA:=by unfold eu;split<;>rfl
 unfold yl;simp only[bI.eta,ax.eta,ak.eta,aj.eta];rw[show vr 1 1=some tA from agf 1 (by omega) 1,Qa]
 let y:bI:=⟨nA,q.1,⟨0, -1⟩,1,2,true,vA⟩
 have hval:q.1.af.Value=vA:=by rw[hph.2];exact r3
 have ht0:wY ⟨0, -1⟩:=⟨by decide,by decide,by decide,by decide⟩
 have hy:rl 0 y:=⟨⟨hn.inv,hn.seq,hn.aC,hn.bq,ajm,⟨(by decide:(1:Int)<=1),(by decide:(1:Int)<=1+0)⟩,rfl,rfl,(hn.aO.trans ht1).symm,ht0,⟨(by decide:(1:Int)<=1),(by decide:(1:Int)<=1000)⟩,⟨(by decide:(0:Int)<=2),(by decide:(2:Int)<=212)⟩⟩,(Qg hph.1).symm,by
  show vA=bif decide (q.1.aJ=3)then q.1.af.Value else eQ
  rw[Qg hph.1,hval];rfl⟩
 have hnew:Bd 0 1 tA (ByteArray.mk #[97]) 0=some (y,0,()):=by
  unfold Bd Au Ar;simp only[bI.eta,ax.eta,ak.eta,aj.eta];rw[Qg (by omega:(0:Int)<=0),Qg (by omega:(0:Int)<=200),ajk (by omega) (by omega) (by omega) (by omega) tT]
  simp only[Qk,Ql,Qa,Qo,decide_true];rw[show lT 0 1 tA (ByteArray.mk #[97])=some (nA,0,())from ae1]
  simp only[Qa,decide_true,Qo,Ql];rw[show aB .i64 0 (aB .i64 (bC (dC 1 11) 0) 1)=2 from by decide]
  unfold As;simp only[bI.eta,ax.eta,ak.eta,aj.eta,aU,cJ];rw[Qg (show(Dn 0 1 tA).aJ=1 from rfl),show aG (Dn 0 1 tA).av=true from by decide]
  simp only[Qk,Qa];rw[Qg (show(0:Int)<((List.length nA.bR:Nat):Int)from by decide),Qk,show jE nA.bR=some (vA,true,())from XI]
  simp only[Qk,Qa];rw[Qh (show¬vA=(Dn 0 1 tA).bh from by decide)]
  simp only[Qp,Qk];rw[show mV (Dn 0 1 tA) vA=some q from e1,Qa,hop.1]
  simp only[decide_true,Qk];rw[Vw hn.inv hn.seq,Qa,Qg hph.1];simp only[Qk,hval];rfl
 rw[hnew];simp only[Qa,decide_true,Qk];obtain⟨l,hl,hlen⟩:=Vu hy (by omega)
 rw[Mf hy (by omega),hl]
 simp only[Qa,Qk]
 have hc:aG q.1.af=false:=by
  rcases hn.inv.body with k|k|k|k
  ·exact absurd (k.aS.symm.trans hph.1) (by decide)
  ·exact k.aM.nz
  ·exact k.aM.nz
  ·exact k.aM.nz
 rw[UG hn.inv]at hc
 have:l.length=1:=by
  rw[hlen];show(bif true then 0 else 1)+(bif decide (q.1.af.an=0)then 0 else 1)=1
  rw[hc];rfl
 rw[this];rfl
theorem CG(l:List Int):uW l=some true:=by
 refine Yd.eq_true ?_;unfold uW;simp only[bI.eta,ax.eta,ak.eta,aj.eta,aU,agv];refine Yd.bind (ahq l) fun s hO=> ?_
 refine Yd.bind (Gf hO (n:=4) (by omega) (by omega)) fun p2 ⟨hO2,ht,_,_⟩=> ?_
 refine Yd.bind (Ge hO2) fun p3 ⟨hO3,hv⟩=> ?_
 have hv2:=aaJ hv;refine Yd.bind (ahY ht hv2.2 (by omega) (by omega)) fun r4 ⟨_,hx⟩=> ?_
 refine Yd.Ju (fun(v:Int×Int×dm×bI×Unit)=>0<=v.2.1/\v.2.1<=12/\1<=v.1/\v.1<=1+4*v.2.1/\lB v.2.2.1/\rl v.2.1 v.2.2.2.1) (fun v=>(12 - v.2.1).toNat) ?_ ⟨Int.le_refl _,by show(0:Int)<=12;omega,Int.le_refl _,by show(1:Int)<=1+4*0;omega,hO3,hx⟩
 rintro⟨now,k,s',x,u⟩ ⟨h0,h12,hn1,hn2,hOs,hi⟩;simp only at h0 h12 hn1 hn2 hOs hi;simp only
 by_cases hk:k<12
 ·rw[Qg hk];simp only[Qk];refine Yd.bind (agr hi (by omega) hOs (by omega) (by omega)) fun q ⟨hOq,⟨hy,hst⟩,g1,g2⟩=> ?_
  have hadd:aB .i64 k 1=k+1:=bL (by omega) (by omega)
  have p:=hy.pre;rw[L6 p.py p.qd,Qa,Mf hy (by omega),Qa,hadd]
  have d1:xor true (decide (q.1.1.nZ=decide (q.1.1.ai.aJ=3)))=false:=by rw[Qg hy.done];rfl
  have d2:decide (q.1.1.Value=bif decide (q.1.1.ai.aJ=3)then q.1.1.ai.af.Value else eQ)=true:=Qg hy.value
  have d4:decide (q.1.2.1<now)=false:=Qh (by omega)
  have d3:x.nZ=true->q.1.1.nZ=true/\q.1.1.Value=x.Value:=fun e=>by
   have e3:x.ai.aJ=3:=of_decide_eq_true (hi.done.symm.trans e);have e4:=hst e3;refine⟨hy.done.trans (Qg e4.1),?_⟩;rw[hy.value,hi.value,Qg e3,Qg e4.1];exact e4.2
  simp only[Qo,Ql,Qa,d1,d2,d4]
  have d5:(Option.bind (bif x.nZ then Option.bind (bif !q.1.1.nZ then some true else some (!decide (q.1.1.Value=x.Value))) fun b11=>some b11 else some false) fun b12=>(some b12:Option Bool))=some false:=by
   cases e:x.nZ with
   |false=>rfl
   |true=>
    obtain⟨f1,f2⟩:=d3 e;rw[f1,Qg f2];rfl
  rw[d5];simp only[Qa,Ql];refine Yd.bind (Vu hy (by omega)) fun ls hls=> ?_
  have fin:Yd (some (Sum.inl (q.1.2.1,k+1,q.2,q.1.1,())):Option ((Int×Int×dm×bI×Unit)⊕Bool)) (Lp (fun s'=>(0<=s'.2.1/\s'.2.1<=12/\1<=s'.1/\s'.1<=1+4*s'.2.1/\lB s'.2.2.1/\rl s'.2.1 s'.2.2.2.1)/\(12 - s'.2.1).toNat<(12 - k).toNat) (fun r=>r=true)):=
   .some ⟨⟨by show 0<=k+1;omega,by show k+1<=12;omega,by show 1<=q.1.2.1;omega,by show q.1.2.1<=1+4*(k+1);omega,hOq,hy⟩,by show(12 - (k+1)).toNat<(12 - k).toNat;omega⟩
  rw[show aB .i64 1 1=2 from by decide,show aB .i64 0 1=1 from by decide]
  rw[hls];cases q.1.1.nZ<;>cases decide (q.1.1.ai.af.an=0)<;>exact fin
 ·rw[Qh hk];exact .some rfl
end Go.Proofs.YtjbfdglebjnelaaGreat
end
noncomputable section
namespace Go.TQ
open Go.RowKit
theorem rep_ints{w:World}{M:Nat->Prop}{G:Gh}{a:Option Addr}{len cap:Nat}{zs:List Int}(hM:∀b,¬M b)
  (h:(a=none/\len=0/\cap=0/\zs=[])\/∃x,a=some x/\len<=cap/\cap<=maxLen/\zs.length=cap/\(∀i,i<zs.length->w.cell? (x.add i)=some (.int .i64 (zs.getD i 0)))/\∀n∈zs,(Lit.int .i64 n).wf=true):
  bf w M G (.sl ((zs.take len).map fun n=>[.int .i64 n])) (.slice a len cap):=by
 rcases h with⟨rfl,rfl,rfl,rfl⟩|⟨x,rfl,h1,h2,h3,h4,_⟩
 ·exact .slnil
 ·have hfl:∀l:List Int,(l.map fun n=>[PV.int .i64 n]).flatten=l.map fun n=> .int .i64 n:=by
   intro l
   induction l with
   |nil=>rfl
   |cons n l ih=>simp only[QD,List.flatten_cons,ih];rfl
  have hlen:((zs.take len).map fun n=>[PV.int .i64 n]).length=len:=by simp;omega
  have:=bf.sl (w:=w) (M:=M) (G:=G) ((zs.take len).map fun n=>[.int .i64 n]) x cap 1 ((zs.take len).map fun n=> .int .i64 n) (fun e he=>by obtain⟨n,_,rfl⟩:=QP.1 he;rfl) (by rw[hfl];simp)
   (fun i v hv=> ?_) (fun i y v hy hv=> ?_) (by rw[hlen];exact h1) h2
  ·rw[hlen]at this;exact this
  ·refine⟨?_,hM _⟩;rw[QT,Qb]at hv;obtain⟨n,hn,rfl⟩:=hv;rw[List.getElem?_take]at hn;split at hn
   ·have hi:i<zs.length:=(Qw.1 hn).1;rw[h4 i hi,List.getD_eq_getElem?_getD,hn];rfl
   ·cases hn
  ·rw[hfl]at hy;rw[QT]at hy hv;rw[Qb]at hy hv;obtain⟨n,hn,rfl⟩:=hy;obtain⟨n',hn',rfl⟩:=hv;rw[hn]at hn';injection hn' with e
   subst e;exact .int _ _
theorem law_calls{P:Program}{f:FuncId}{args:List PV}{vs:List Value}{w:World}(h:Con P f false [] args (.bool true) [])(hr:bg w (fun _=>False) dg args vs):
  Calls P f vs.toArray w fun e w'=>e= .returned (.bool true)/\Below w.heap.size w w':=by
 refine(h w (fun _=>False) (fun _ hb=>hb.elim) 0 0 [] vs (fun hq=>by cases hq) ?_).mono ?_
 ·exact⟨hr.1,fun i x v hx hv=>(hr.2 i x v hx hv).mono (dI.of fun _ _=>fun hq=>by rcases hq with⟨hq,_⟩|hq;cases hq;exact hq) (Gh.le.refl _)⟩
 ·rintro e w' ⟨v,_,rfl,hv,_,hF⟩;refine⟨by rw[hv.mE],hF.os,hF.tape,hF.output,hF.size,fun k hk=>hF.block k hk (by simp)⟩
end Go.TQ
end
