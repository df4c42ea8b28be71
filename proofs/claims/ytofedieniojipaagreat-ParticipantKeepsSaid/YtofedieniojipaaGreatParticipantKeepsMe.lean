/-
  Texts made small by a program (see NOTES). Conditions: those that each theorem names.
-/
import Derived.Test.YtofedieniojipaaGreatParticipantKeepsMd
set_option linter.unusedVariables false
set_option linter.defProp false
set_option linter.unusedSimpArgs false
set_option linter.unusedSectionVars false
set_option maxHeartbeats 2000000
noncomputable section
namespace Go.TQ
@[simp] theorem aS {σ ρ:Type} (j:σ->Option ρ) (f:(σ->Option ρ)->Option ρ):aY j f=f j:=rfl
@[simp] def iN {α:Type} (b:Bool) (x y:α):(bif b then some x else some y)=some (bif b then x else y):=by cases b<;>rfl
@[simp] def akG {α:Type} (b:Bool) (x:α):(bif b then x else x)=x:=by cases b<;>rfl
def DP{α:Type}(p:Prop)[Decidable p](x y:α):(bif decide p then x else y)=if p then x else y:=by by_cases h:p<;>simp[h]
def Bs{α:Type}(p:Prop)[Decidable p](x y:α):(if p then some x else some y)=some (if p then x else y):=by split<;>rfl
@[simp] def G3 {α:Type} (b:Bool) (x y:α):(bif !b then x else y)=bif b then y else x:=by cases b<;>rfl
@[simp] def Co (a b:Int) (s t:ByteArray):mw false a b s t=(decide (a=b)&&decide (s=t)):=by simp[mw]
@[simp] def adL (a b:Int) (s t:ByteArray):mw true a b s t= !(decide (a=b)&&decide (s=t)):=by simp[mw]
def Yd{α:Type}(o:Option α)(p:α->Prop):Prop:=∃x,o=some x/\p x
def Yd.bind{α β:Type}{o:Option α}{p:α->Prop}{f:α->Option β}{q:β->Prop}(h:Yd o p)(k:∀x,p x->Yd (f x) q):Yd (o.bind f) q:=by obtain⟨x,rfl,hx⟩:=h;exact k x hx
def Yd.mono{α:Type}{o:Option α}{p q:α->Prop}(h:Yd o p)(k:∀x,p x->q x):Yd o q:=by obtain⟨x,h1,hx⟩:=h;exact⟨x,h1,k x hx⟩
theorem Yd.some{α:Type}{x:α}{p:α->Prop}(h:p x):Yd (Option.some x) p:=⟨x,rfl,h⟩
def Yd.of_eq{α:Type}{o:Option α}{x:α}{p:α->Prop}(h:o=Option.some x)(hp:p x):Yd o p:=⟨x,h,hp⟩
def Yd.cond{α:Type}{b:Bool}{x y:Option α}{p:α->Prop}(h1:b=true->Yd x p)(h2:b=false->Yd y p):Yd (bif b then x else y) p:=by
 cases b
 ·exact h2 rfl
 ·exact h1 rfl
def Yd.map{α β:Type}{o:Option α}{f:α->β}{p:β->Prop}(h:Yd o λx=>p (f x)):Yd (o.map f) p:=by obtain⟨x,rfl,hx⟩:=h;exact⟨f x,rfl,hx⟩
def Yd.eq_true{o:Option Bool}(h:Yd o (·=true)):o=Option.some true:=by obtain⟨x,h1,rfl⟩:=h;exact h1
def wrap64{n:Int}(h1: -9223372036854775808<=n)(h2:n<=9223372036854775807):IntKind.i64.wrap n=n:=i64_in h1 h2
theorem bG{a b:Int}(h1: -9223372036854775808<=a+b)(h2:a+b<=9223372036854775807):aA .i64 a b=a+b:=wrap64 h1 h2
theorem qC{a b:Int}(h1: -9223372036854775808<=a - b)(h2:a - b<=9223372036854775807):c8 .i64 a b=a - b:=wrap64 h1 h2
theorem bf{α:Type}(l:List α)(i:Nat):idx l (i:Int)=l[i]?:=by simp[idx]
theorem PH{α:Type}(l:List α){n:Int}(h:0<=n):idx l n=l[n.toNat]?:=by simp[idx,h]
@[simp] def aiy (n:Nat) (h:n<256):br .i64 (n:Int)=n:=wrap64 (by omega) (by omega)
@[simp] theorem bD {bytes n:Nat} (h:n*bytes<=140737488355328/\n<=1000000):bh bytes n=true:=by simp only[bh,Qm,Qi];exact⟨h.1,QK h.2 (by simp[maxLen])⟩
def vT(a:Nat)(h:a<2 ^ 62):(BitVec.ofInt 64 (a:Int)).toNat=a:=by grind
def DR(n:Nat)(h:n<2 ^ 62):IntKind.i64.wrap (n:Int)=n:=wrap64 (by omega) (by omega)
def EE(a b:Nat)(ha:a<2 ^ 62)(hb:b<2 ^ 62):Gd .i64 (a:Int) (b:Int)=((a&&&b:Nat):Int):=by show IntKind.i64.wrap (((BitVec.ofInt 64 (a:Int)&&&BitVec.ofInt 64 (b:Int)).toNat:Nat):Int)=_;rw[BitVec.toNat_and,vT a ha,vT b hb];exact DR _ (Nat.lt_of_le_of_lt Nat.and_le_left ha)
def Gy(a b:Nat)(ha:a<2 ^ 62)(hb:b<2 ^ 62):sB .i64 (a:Int) (b:Int)=((a|||b:Nat):Int):=by
 show IntKind.i64.wrap (((BitVec.ofInt 64 (a:Int)|||BitVec.ofInt 64 (b:Int)).toNat:Nat):Int)=_
 rw[BitVec.toNat_or,vT a ha,vT b hb];exact DR _ (Nat.or_lt_two_pow ha hb)
def ag0(s k:Nat):s&&&2 ^ k=if s.testBit k then 2 ^ k else 0:=by
 refine Nat.eq_of_testBit_eq λi=> ?_
 grind
theorem yr(k:Nat)(h:k<=60):bW .i64 1 (k:Int)=((2 ^ k:Nat):Int):=by
 show IntKind.i64.wrap (1*2 ^ min (k:Int).toNat 64)=_;rw[QV,show min k 64=k from Nat.min_eq_left (by omega),Int.one_mul]
 have:=DR (2 ^ k) (Nat.pow_lt_pow_right (by omega) (by omega))
 simpa using this
def acM(a k:Nat)(h:k<=60):jM .i64 (a:Int) (k:Int)=((a>>>k:Nat):Int):=by
 show(a:Int).fdiv (2 ^ min (k:Int).toNat 64)=_;rw[QV,show min k 64=k from Nat.min_eq_left (by omega),Nat.shiftRight_eq_div_pow]
 grind
theorem bM{σ ρ:Type}{step:σ->Option (σ⊕ρ)}{s:σ}{r:ρ}(h:step s=some (.inr r)):aE step s=some r:=by rw[fg,h]
def bx{σ ρ:Type}{step:σ->Option (σ⊕ρ)}{s s':σ}(h:step s=some (.inl s')):aE step s=aE step s':=by rw[fg,h]
def O8{σ ρ:Type}{step:σ->Option (σ⊕ρ)}{s:σ}(h:step s=none):aE step s=none:=by rw[fg,h]
def Yd.loop{σ ρ:Type}{step:σ->Option (σ⊕ρ)}{s:σ}{p:ρ->Prop}(h:Yd (step s) λy=>match y with| .inl s'=>Yd (aE step s') p| .inr r=>p r):Yd (aE step s) p:=by
 obtain⟨y,h1,h2⟩:=h
 cases y with
 |inl s'=>rw[bx h1];exact h2
 |inr r=>exact⟨r,bM h1,h2⟩
def Yd.join{σ ρ:Type}{j:σ->Option ρ}{f:(σ->Option ρ)->Option ρ}{p:ρ->Prop}(inv:σ->Prop)(h1:∀v,inv v->Yd (j v) p)(h2:∀j':σ->Option ρ,(∀v,inv v->Yd (j' v) p)->Yd (f j') p):Yd (aY j f) p:=h2 j h1
def Yd.inr{σ ρ:Type}{o:Option ρ}{p:σ⊕ρ->Prop}(h:Yd o λr=>p (.inr r)):Yd (Option.map Sum.inr o) p:=h.map
def fK{α σ ρ:Type}(g:α->σ->Option (σ⊕ρ))(fin:σ->Option ρ):List α->σ->Option ρ
 |[],s=>fin s
 |x::l,s=>match g x s with
  |none=>none
  |some (.inr r)=>some r
  |some (.inl s')=>fK g fin l s'
def ZV{α σ τ ρ:Type}(l:List α)(mk:Int->σ->τ){step:τ->Option (τ⊕ρ)}(g:α->σ->Option (σ⊕ρ))(fin:σ->Option ρ)
  (h1:∀(i:Nat) (x:α) (s:σ),i<l.length->l[i]?=some x->step (mk i s)=match g x s with|none=>none|some (.inr r)=>some (.inr r)|some (.inl s')=>some (.inl (mk (i+1:Nat) s')))
  (h2:∀s,step (mk l.length s)=(fin s).map Sum.inr) (s:σ):aE step (mk 0 s)=fK g fin l s:=by
 suffices h:∀(k:Nat) (i:Nat) (s:σ),i+k=l.length->aE step (mk i s)=fK g fin (l.drop i) s by
  have:=h l.length 0 s (by omega)
  simpa using this
 intro k
 induction k with
 |zero=>
  intro i s hi;obtain rfl:i=l.length:=by omega
  rw[Qq66,fK,fg,h2];cases fin s<;>rfl
 |succ k ih=>
  intro i s hi;have hlt:i<l.length:=by omega
  rw[QM hlt,fK,fg,h1 i l[i] s hlt (Qv hlt)]
  cases hg:g l[i] s with
  |none=>rfl
  |some y=>
   cases y with
   |inr r=>rfl
   |inl s'=>exact ih (i+1) s' (by omega)
def iF{α σ τ ρ:Type}(l:List α)(hl:l.length<=9223372036854775807)(mk:Int->σ->τ){step:τ->Option (τ⊕ρ)}(g:α->σ->Option (σ⊕ρ))(fin:σ->Option ρ)
  (h1:∀(i:Nat) (x:α) (s:σ),decide ((i:Int)<(l.length:Int))=true->idx l (i:Int)=some x->aA .i64 (i:Int) 1=((i+1:Nat):Int)->step (mk i s)=match g x s with|none=>none|some (.inr r)=>some (.inr r)|some (.inl s')=>some (.inl (mk (i+1:Nat) s')))
  (h2:∀s,decide ((l.length:Int)<(l.length:Int))=false->step (mk l.length s)=(fin s).map Sum.inr) (s:σ):aE step (mk 0 s)=fK g fin l s:=
 ZV l mk g fin (λi x s hi hx=>h1 i x s (Qg (Int.ofNat_lt.2 hi)) (by rw[bf];exact hx) (bG (by omega) (by omega))) (λs=>h2 s (Qh (Qq64 _))) s
end Go.TQ
namespace Go.Proofs.YtofedieniojipaaGreat
open Go.TQ
section
def gy:ByteArray:=⟨#[]⟩
def aP(b:ah):Bool:=decide (b.ai=0)&&decide (b.Value=gy)
def bP(a b:ByteArray):Bool:=if a.size=b.size then lG a b else decide (a.size<b.size)
def bC(a b:ah):Bool:=if a.ai=b.ai then bP a.Value b.Value else decide (a.ai<b.ai)
def bR(a b:ah):Bool:=decide (a.Value=b.Value)
def jJ(p b:ah):Bool:= !aP p&&bR p b&&decide (b.ai<=p.ai)
def ec(p q b:ah):Bool:=jJ p b||jJ q b||(!aP q&&bC b q)
def eO(p b:ah):Bool:= !aP p&& !bR p b&&bC b p
def cP(b:ah):Bool:=(decide (1<=b.ai)&&decide (b.ai<=1000)||decide (b.ai=1000000))&&decide (1<=b.Value.size)&&decide (b.Value.size<=200)
def T6:∀x:List UInt8,Op.bytesLess x x=false
 |[]=>rfl
 |a::l=>by simp[Op.bytesLess,T6 l]
def W9:∀{x y:List UInt8},x≠y->Op.bytesLess x y=true\/Op.bytesLess y x=true
 |[],[],h=>absurd rfl h
 |[],_::_,_=> .inl rfl
 |_::_,[],_=> .inr rfl
 |a::l,b::m,h=>by
  simp only[Op.bytesLess]
  by_cases hab:a=b
  ·subst hab;have:l≠m:=λe=>h (by rw[e])
   simpa using W9 this
  ·rcases Nat.lt_or_gt_of_ne (λe=>hab (UInt8.toNat_inj.1 e))with h1|h1
   ·have h2:a<b:=h1;simp[h2]
   ·have h2:b<a:=h1;simp[h2]
def DU(a:ByteArray):lG a a=false:=T6 _
@[simp] def dp (b:ah):bz b=some (aP b):=by unfold bz aP;rw[Co];rfl
@[simp] def c7 (b:ah):bL b=some (aP b):=by unfold bL aP;rw[Co];rfl
@[simp] def fU (a b:ah):cj a b=some (bR a b):=rfl
@[simp] def gK (a b:ah):cz a b=some (bR a b):=rfl
@[simp] def yT (b:ah):ju b=some (cP b):=by
 have h1:decide ((1:Int)<=(b.Value.size:Nat))=decide (1<=b.Value.size):=by rw[decide_eq_decide];omega
 have h2:decide (((b.Value.size:Nat):Int)<=200)=decide (b.Value.size<=200):=by rw[decide_eq_decide];omega
 simp only[ju,cP,h1,h2,iN,Qa,Bool.cond_false_right,Bool.cond_true_left]
@[simp] def Cy (b:ah):iY b=some (cP b):=yT b
@[simp] def AA (a b:ByteArray):oX a b=some (bP a b):=by simp only[oX,bP,G3,Int.ofNat_inj,Int.ofNat_lt,DP,Bs]
@[simp] def km (a b:ah):fH a b=some (bC a b):=by simp[fH,bC,DP,Bs]
@[simp] def C6 (a b:ah):mW a b=some (jJ a b):=by simp[mW,jJ]
@[simp] def aaP (a b:ah):ll a b=some (jJ a b):=by simp[ll,jJ]
@[simp] def vf (p q b:ah):jq p q b=some (ec p q b):=by simp[jq,ec]
@[simp] def C7 (p b:ah):gL p b=some (eO p b):=by simp[gL,eO]
def yN(a b:Int):Int:=if a<b then -1 else if b<a then 1 else 0
def NZ(a b:ByteArray):Int:=if lG a b then -1 else if lG a b||decide (a=b)then 0 else 1
def orL:List Int->Int
 |[]=>0
 |x::l=>if x=0 then orL l else x
@[simp] def IC (a b:Int):fe a b=some (yN a b):=by simp[fe,vF,yN,DP,Bs]
@[simp] def Xw (a b:ByteArray):mg a b=some (NZ a b):=by simp only[mg,sf,NZ];cases h1:lG a b<;>by_cases h2:a=b<;>simp[h2]
def Rx(l:List Int)(hl:l.length<=1000000):nU l=some (orL l):=by
 unfold nU;rw[iF l (by omega) (λi (_:Unit)=>(i,())) (λx _=>some (if x=0 then .inl ()else .inr x)) (λ_=>some 0) (λi x s hd hx hw=> ?_) (λs hd=> ?_) ()]
 ·induction l with
  |nil=>rfl
  |cons x l ih=>grind [fK,orL]
 ·grind
 ·simp only[hd,Ql]
@[simp] def aeo (a b:Int):nU [a,b]=some (if a=0 then b else a):=by
 rw[Rx _ (by simp)]
 simp only[orL]
 by_cases h:a=0<;>by_cases h':b=0<;>simp[h,h']
def xu(a b:ByteArray):Int:=if yN a.size b.size=0 then NZ a b else yN a.size b.size
def WU(a b:ah):Int:=if yN a.ai b.ai=0 then xu a.Value b.Value else yN a.ai b.ai
@[simp] def CQ (a b:ByteArray):hZ a b=some (xu a b):=by simp[hZ,xu]
@[simp] def aaJ (a b:ah):pf a b=some (WU a b):=by simp[pf,WU]
theorem wq(a b:Int):yN a b=0↔a=b:=by unfold yN;split<;>(try split)<;>omega
theorem Io(a b:Int):yN a b<0↔a<b:=by unfold yN;split<;>(try split)<;>omega
theorem adZ(a b:ByteArray):NZ a b<0↔lG a b=true:=by grind [NZ]
theorem wo(a b:ByteArray):decide (xu a b<0)=bP a b:=by grind [xu,bP,wq,adZ,Io]
def WT(a b:ah):decide (WU a b<0)=bC a b:=by grind [WU,bC,wq,wo,Io]
@[simp] def jW (a b:ah):eF a b=some (bC a b):=by simp[eF,WT]
@[simp] def tI (p q b:ah):hY p q b=some (ec p q b):=by simp[hY,ec]
@[simp] def vh (p b:ah):eG p b=some (eO p b):=by simp[eG,eO]
def finite(b:ah):Bool:=cP b&&decide (b.ai<=1000)
@[simp] def Hc (b:ah):nS b=some (finite b):=by simp[nS,finite]
@[simp] def EW (b:ah):mf b=some (aP b||cP b):=by simp[mf]
@[simp] def C9 (e:ak) (n:Int):pS e n=some ⟨n,e.af.Value⟩:=rfl
end
section
def SU{rec:(aj×Unit)->Option Int}{t:aj}(hl:t.aO.length<=9223372036854775807):
  jX rec t=fK (λu m=>(rec (u,())).map λr=> .inl (bF m r)) (λm=>some (aA .i64 m 1)) t.aO 0:=by
 unfold jX;rw[iF t.aO hl (λi (m:Int)=>(m,i,())) (λu m=>(rec (u,())).map λr=> .inl (bF m r)) (λm=>some (aA .i64 m 1)) (λi x s hd hx hw=> ?_) (λs hd=> ?_) 0]
 ·simp only[hd,hx,hw,Qk,Qa,etas];cases rec (x,())<;>rfl
 ·simp only[hd,Ql]
def Xu{rec:(aj×Unit)->Option Int}{t:aj}(hl:t.aO.length<=9223372036854775807):
  ln rec t=fK (λu m=>(rec (u,())).map λr=> .inl (aA .i64 m r)) (λm=>some m) t.aO (aA .i64 t.bb.length t.aO.length):=by
 unfold ln;rw[iF t.aO hl (λi (m:Int)=>(m,i,())) (λu m=>(rec (u,())).map λr=> .inl (aA .i64 m r)) (λm=>some m) (λi x s hd hx hw=> ?_) (λs hd=> ?_) (aA .i64 t.bb.length t.aO.length)]
 ·simp only[hd,hx,hw,Qk,Qa,etas];cases rec (x,())<;>rfl
 ·simp only[hd,Ql]
def Ti(t:aj):CP t=jO t:=rfl
def Vf(t:aj):EM t=kZ t:=rfl
def fQ(x:Int):Bool:=decide (0<=x)&&decide (x<10)
def xt(s x:Int):Bool:=decide (0<=s)&&decide (s<1024)&&fQ x&&s.toNat.testBit x.toNat
theorem SO(s:Int):gg s=some (decide (0<=s)&&decide (s<1024)):=by
 have:bW .i64 1 10=1024:=yr 10 (by omega)
 simp[gg,AF,this]
def Xf{s x:Int}(h1:0<=s)(h2:s<1024)(h3:0<=x)(h4:x<10):(Gd .i64 s (bW .i64 1 x)=0)=(s.toNat.testBit x.toNat=false):=by
 obtain⟨n,rfl⟩:=Int.eq_ofNat_of_zero_le h1;obtain⟨j,rfl⟩:=Int.eq_ofNat_of_zero_le h3;have hj:2 ^ j<=2 ^ 10:=Nat.pow_le_pow_right (by omega) (by omega)
 rw[yr j (by omega),EE n (2 ^ j) (by omega) (by omega),ag0]
 grind
@[simp] theorem qu (s x:Int):kW s x=some (xt s x):=by
 unfold kW xt fQ;rw[SO]
 by_cases h1:0<=s
 ·by_cases h2:s<1024
  ·by_cases h3:0<=x
   ·by_cases h4:x<10
    ·have h5:¬x<0:=by omega
     have:=Xf h1 h2 h3 h4;simp[h1,h2,h3,h4,h5,this]
    ·simp[h1,h2,h3,h4]
   ·simp[h1,h2,h3]
  ·simp[h1,h2]
 ·simp[h1]
def XC{s x:Int}(h1:0<=s)(h2:s<1024)(h3:0<=x)(h4:x<10):(Gd .i64 (jM .i64 s x) 1=1)=(s.toNat.testBit x.toNat=true):=by
 obtain⟨n,rfl⟩:=Int.eq_ofNat_of_zero_le h1;obtain⟨j,rfl⟩:=Int.eq_ofNat_of_zero_le h3;have hle:n>>>j<=n:=by rw[Nat.shiftRight_eq_div_pow];exact Nat.div_le_self _ _
 rw[acM n j (by omega),show(1:Int)=((1:Nat):Int)from rfl,EE _ 1 (by omega) (by omega)]
 simp only[QV,Int.ofNat_inj,Nat.testBit,eq_iff_iff];rw[Nat.and_comm];simp
@[simp] theorem mY (s x:Int):kJ s x=some (xt s x):=by
 unfold kJ eW xt fQ
 by_cases h1:0<=s
 ·by_cases h2:s<1024
  ·have h2':s<=1023:=by omega
   by_cases h3:0<=x
   ·by_cases h4:x<10
    ·have h5:¬x<0:=by omega
     have:=XC h1 h2 h3 h4;simp[h1,h2,h2',h3,h4,h5,this]
    ·simp[h1,h2,h2',h3,h4]
   ·simp[h1,h2,h2',h3]
  ·have h2':¬s<=1023:=by omega
   simp[h1,h2,h2']
 ·simp[h1]
theorem qO{s:Nat}{x:Int}(h1:s<1024)(h3:0<=x)(h4:x<10):sB .i64 (s:Int) (bW .i64 1 x)=((s|||2 ^ x.toNat:Nat):Int):=by
 obtain⟨j,rfl⟩:=Int.eq_ofNat_of_zero_le h3;have hj:2 ^ j<=2 ^ 9:=Nat.pow_le_pow_right (by omega) (by omega)
 rw[yr j (by omega)]
 exact Gy s (2 ^ j) (by omega) (by omega)
def BJ{s:Nat}{x:Int}(h1:s<1024)(h4:x<10):s|||2 ^ x.toNat<1024:=by
 have hj:2 ^ x.toNat<=2 ^ 9:=Nat.pow_le_pow_right (by omega) (by omega)
 exact Nat.or_lt_two_pow (n:=10) h1 (by omega)
def wR(s:Nat):List Int->Int×Int×Unit
 |[]=>(s,0,())
 |x::l=>if fQ x then(if s.testBit x.toNat then(0,6,())else wR (s|||2 ^ x.toNat) l)else(0,5,())
def YA(g:Int->Int->Option (Int⊕(Int×Int×Unit)))
  (hg:∀x (s:Nat),s<1024->g x s=some (if fQ x then(if s.testBit x.toNat then .inr (0,6,())else .inl ((s|||2 ^ x.toNat:Nat):Int))else .inr (0,5,()))):
  ∀(l:List Int) (s:Nat),s<1024->fK g (λs=>some (s,0,())) l s=some (wR s l)
 |[],s,_=>rfl
 |x::l,s,hs=>by
  rw[fK,hg x s hs,wR]
  cases h1:fQ x with
  |false=>simp
  |true=>
   cases h2:s.testBit x.toNat with
   |true=>simp
   |false=>
    simp only[Qt,Qq,Qu];have h3:x<10:=by simp[fQ]at h1;omega
    exact YA g hg l _ (BJ hs h3)
def FC(l:List Int)(hl:l.length<=9223372036854775807):tC l=some (wR 0 l):=by
 unfold tC;rw[iF l hl (λi (s:Int)=>(s,i,())) (λx s=>if fQ x then(if xt s x then some (.inr (0,6,()))else some (.inl (sB .i64 s (bW .i64 1 x))))else some (.inr (0,5,()))) (λs=>some (s,0,())) (λi x s hd hx hw=> ?_) (λs hd=> ?_) 0]
 ·refine YA _ (λx s hs=> ?_) l 0 (by omega)
  grind [fQ,xt,qO]
 ·grind [qu,fQ,xt]
 ·simp only[hd,Ql]
def UA(l:List Int)(hl:l.length<=9223372036854775807):AE l=some (wR 0 l):=by
 have:AE l=tC l:=by unfold AE tC;simp only[mY,qu]
 rw[this,FC l hl]
@[simp] def ya (x:Int):mJ x=some (!fQ x):=by simp[mJ,yS,fQ]
def Ml(l:List Int)(hl:l.length<=9223372036854775807):gF l=some (l.any λx=> !fQ x):=by
 have key:∀(i:Nat) (k:Nat),i+k=l.length->Yd (aE (λ(v1:Int×Unit)=>bif (decide (v1.1<((List.length l:Nat):Int)))then Option.bind (idx l v1.1) λx2=>Option.bind (mJ x2) λr3=>bif r3 then Option.map Sum.inr (some v1.1)else some (Sum.inl ((aA .i64 v1.1 (1:Int)),()))else Option.map Sum.inr (some (-1:Int))) ((i:Int),())) λr=>decide (0<=r)=(l.drop i).any λx=> !fQ x:=by
  intro i k
  induction k generalizing i with
  |zero=>
   intro hi;refine⟨-1,bM ?_,?_⟩
   ·grind
   ·rw[List.drop_eq_nil_of_le (by omega)];rfl
  |succ k ih=>
   intro hi;have hlt:i<l.length:=by omega
   have hd:decide ((i:Int)<(l.length:Int))=true:=Qg (Int.ofNat_lt.2 hlt);have hx:idx l (i:Int)=some l[i]:=by rw[bf];exact Qv hlt
   have hw:aA .i64 (i:Int) 1=((i+1:Nat):Int):=bG (by omega) (by omega)
   rw[QM hlt,List.any_cons]
   cases h:fQ l[i]with
   |true=>
    rw[bx (s':=(((i+1:Nat):Int),())) (by simp only[hd,hx,hw,Qk,Qa,ya,h];rfl)]
    exact(ih (i+1) (by omega)).mono λr hr=>by simpa using hr
   |false=>
    refine⟨i,bM (by simp only[hd,hx,Qk,Qa,ya,h];rfl),?_⟩
    simp
 obtain⟨r,h1,h2⟩:=key 0 l.length (by omega)
 unfold gF lN;simp only[Int.natCast_zero]at h1;rw[h1];simpa using h2
def sY(rec:aj->Option Int)(t:aj):Option Int:=
 if t.aI<1\/aA .i64 t.bb.length t.aO.length<t.aI then some 4
 else if(t.bb.any λx=> !fQ x)then some 5
 else if(wR 0 t.bb).2.1=0 then fK (λu (_:Unit)=>(rec u).map λr=>if r=0 then .inl ()else .inr r) (λ_=>some 0) t.aO ()
 else some (wR 0 t.bb).2.1
theorem LD{rec:(aj×Unit)->Option Int}{t:aj}(hn:t.bb.length<=9223372036854775807)(hl:t.aO.length<=9223372036854775807):iL rec t=sY (λu=>rec (u,())) t:=by
 unfold iL sY;rw[Ml _ hn,FC _ hn];rw[iF t.aO hl (λi (_:Unit)=>(i,())) (λu (_:Unit)=>(rec (u,())).map λr=>if r=0 then .inl ()else .inr r) (λ_=>some 0) (λi x s hd hx hw=> ?_) (λs hd=> ?_) ()]
 ·grind
 ·simp only[hd,hx,hw,Qk,Qa,etas]
  cases rec (x,())with
  |none=>rfl
  |some r=>by_cases h:r=0<;>simp[h]
 ·simp only[hd,Ql]
theorem SV{rec:(aj×Unit)->Option Int}{t:aj}(hn:t.bb.length<=9223372036854775807)(hl:t.aO.length<=9223372036854775807):oK rec t=sY (λu=>rec (u,())) t:=by
 unfold oK sY;rw[iF t.bb hn (λi (_:Unit)=>(i,())) (λx (_:Unit)=>some (if fQ x then .inl ()else .inr 5)) (λ_=>if(wR 0 t.bb).2.1=0 then fK (λu (_:Unit)=>(rec (u,())).map λr=>if r=0 then .inl ()else .inr r) (λ_=>some 0) t.aO ()else some (wR 0 t.bb).2.1) (λi x s hd hx hw=> ?_) (λs hd=> ?_) ()]
 ·by_cases h1:t.aI<1
  ·simp[h1]
  ·by_cases h2:aA .i64 t.bb.length t.aO.length<t.aI
   ·simp[h1,h2]
   ·simp only[h1,h2,decide_false,Ql,Qa,or_self,Qu]
    have:∀(l:List Int) (fin:Unit->Option Int),fK (λx (_:Unit)=>some (if fQ x then .inl ()else .inr 5)) fin l ()=if(l.any λx=> !fQ x)then some 5 else fin ():=by
     intro l fin
     induction l with
     |nil=>rfl
     |cons x l ih=>grind [fK,fQ]
    exact this _ _
 ·grind [fQ]
 ·simp only[hd,Ql];rw[UA _ hn,Qa];rw[iF t.aO hl (λi (_:Unit)=>(i,())) (λu (_:Unit)=>(rec (u,())).map λr=>if r=0 then .inl ()else .inr r) (λ_=>some 0) (λi x s hd hx hw=> ?_) (λs hd=> ?_) ()]
  ·grind
  ·simp only[hd,hx,hw,Qk,Qa,etas]
   cases rec (x,())with
   |none=>rfl
   |some r=>by_cases h:r=0<;>simp[h]
  ·simp only[hd,Ql]
structure dt (t:aj):Prop where
 nodes:∀x∈t.bb,0<=x/\x<10
 nodup:t.bb.Nodup
 len:t.bb.length<=10
 inner:t.aO=[]\/∃x,0<=x/\x<10/\t.aO=[⟨1,[x],[]⟩]
 th:1<=t.aI/\t.aI<=t.bb.length+t.aO.length
theorem HJ:∀(l:List Int) (s:Nat),(∀x∈l,0<=x/\x<10)->l.Nodup->(∀x∈l,s.testBit x.toNat=false)->(wR s l).2.1=0
 |[],s,_,_,_=>rfl
 |x::l,s,h1,h2,h3=>by
  rw[List.nodup_cons]at h2;have hx:=h1 x (by simp)
  have:fQ x=true:=by simp[fQ];omega
  rw[wR,this,h3 x (by simp)]
  simp only[Qt,Qq,Qu];refine HJ l _ (λy hy=>h1 y (by simp[hy])) h2.2 λy hy=> ?_
  have hy1:=h1 y (by simp[hy])
  rw[Nat.testBit_or,h3 y (by simp[hy]),Nat.testBit_two_pow]
  have:x.toNat≠y.toNat:=λe=>by
   have:x=y:=by omega
   subst this;exact h2.1 hy
  simp[this]
theorem Xe{l:List Int}(h:∀x∈l,0<=x/\x<10):(l.any λx=> !fQ x)=false:=by grind [fQ]
theorem MB{rec:aj->Option Int}{x:Int}(h0:0<=x)(h1:x<10):sY rec ⟨1,[x],[]⟩=some 0:=by
 have h2:aA .i64 (1:Nat) (0:Nat)=1:=rfl
 grind [wR,HJ,fQ,Xe,sY,fK]
def O9{t:aj}(h:dt t){rec:aj->Option Int}(hr:∀x,0<=x->x<10->rec ⟨1,[x],[]⟩=some 0):sY rec t=some 0:=by
 have hil:t.aO.length<=1:=by rcases h.inner with e|⟨x,_,_,e⟩<;>rw[e]<;>simp
 have hlen:=h.len;have h2:aA .i64 t.bb.length t.aO.length=t.bb.length+t.aO.length:=bG (by omega) (by omega)
 have h3:(wR 0 t.bb).2.1=0:=HJ _ 0 h.nodes h.nodup (by simp)
 have h4:=Xe h.nodes;have h5:=h.th;unfold sY;rw[h2,Qs (by omega),h4,h3]
 simp only[Qq,Qu,Qt];rcases h.inner with e|⟨x,hx0,hx1,e⟩
 ·rw[e];rfl
 ·rw[e,fK,hr x hx0 hx1];rfl
def Gl(t:aj):∃n,SizeOf.sizeOf t=n+1:=by
 have:1<=SizeOf.sizeOf t:=by cases t;simp only[aj.mk.sizeOf_spec];omega
 exact⟨SizeOf.sizeOf t - 1,by omega⟩
def aai(n:Nat)(th:Int)(l:List Int):oW (n+1) (⟨th,l,[]⟩,())=some 1:=by
 show jX _ _=_;rw[SU (by simp)]
 rfl
def size_leaf(n:Nat)(th:Int)(l:List Int):qk (n+1) (⟨th,l,[]⟩,())=some (aA .i64 l.length (0:Nat)):=by
 show ln _ _=_;rw[Xu (by simp)]
 rfl
def P8{t:aj}(h:dt t):∃d,jO t=some d/\d<=2:=by
 obtain⟨n,hn⟩:=Gl t;have hil:t.aO.length<=1:=by rcases h.inner with e|⟨x,_,_,e⟩<;>rw[e]<;>simp
 unfold jO;rw[hn];show∃d,jX (oW (n+1)) t=some d/\d<=2;rw[SU (by omega)]
 rcases h.inner with e|⟨x,_,_,e⟩
 ·rw[e];exact⟨1,rfl,by omega⟩
 ·rw[e,fK,aai n 1 [x]];exact⟨2,rfl,by omega⟩
def S9{t:aj}(h:dt t):∃d,kZ t=some d/\d<=200:=by
 obtain⟨n,hn⟩:=Gl t;have hil:t.aO.length<=1:=by rcases h.inner with e|⟨x,_,_,e⟩<;>rw[e]<;>simp
 have hlen:=h.len;unfold kZ;rw[hn];show∃d,ln (qk (n+1)) t=some d/\d<=200;rw[Xu (by omega),bG (by omega) (by omega)]
 rcases h.inner with e|⟨x,_,_,e⟩
 ·rw[e];exact⟨_,rfl,by simp;omega⟩
 ·rw[e,fK,size_leaf n 1 [x]];have h1:aA .i64 (([x]:List Int).length:Nat) (0:Nat)=1:=rfl;rw[h1];refine⟨_,rfl,?_⟩
  grind [bG]
def eK{t:aj}(h:dt t):bU t=some 0:=by
 obtain⟨d,h1,h2⟩:=P8 h;obtain⟨z,h3,h4⟩:=S9 h;obtain⟨n,hn⟩:=Gl t;have hil:t.aO.length<=1:=by rcases h.inner with e|⟨x,_,_,e⟩<;>rw[e]<;>simp
 have hlen:=h.len
 have h5:ml t=some 0:=by
  unfold ml;rw[hn];show iL (fO (n+1)) t=some 0;rw[LD (by omega) (by omega)]
  refine O9 h λx hx0 hx1=> ?_
  show iL (fO n) ⟨1,[x],[]⟩=some 0
  grind [LD,MB]
 have h6:¬4<d:=by omega
 have h7:¬200<z:=by omega
 simp[bU,h1,h3,h5,h6,h7]
def dI{t:aj}(h:dt t):cJ t=some 0:=by
 obtain⟨d,h1,h2⟩:=P8 h;obtain⟨z,h3,h4⟩:=S9 h;obtain⟨n,hn⟩:=Gl t;have hil:t.aO.length<=1:=by rcases h.inner with e|⟨x,_,_,e⟩<;>rw[e]<;>simp
 have hlen:=h.len
 have h5:uQ t=some 0:=by
  unfold uQ;rw[hn];show oK (qV (n+1)) t=some 0;rw[SV (by omega) (by omega)]
  refine O9 h λx hx0 hx1=> ?_
  show oK (qV n) ⟨1,[x],[]⟩=some 0
  grind [SV,MB]
 have h6:¬4<d:=by omega
 have h7:¬200<z:=by omega
 simp[cJ,Ti,Vf,h1,h3,h5,h6,h7]
end
section
structure oV (s:eD):Prop where
 len:s.L.length<=800
 lo:0<=s.At
 hi:s.At<=800
def aiK(l:List Int):Yd (DB l) λs=>oV s:=by
 have h:du (l.length:Int) 800=((min l.length 800:Nat):Int):=by unfold du;split<;>omega
 have h2:cD 0 ((min l.length 800:Nat):Int) l.length=true:=by grind [cD]
 unfold DB;rw[h,h2];refine Yd.some ⟨?_,by simp,by simp⟩
 grind
def afi(x n:Int)(hn:1<=n): -n<x.tmod n/\x.tmod n<n:=by
 have h2:=Int.emod_nonneg x (show n≠0 by omega)
 have h3:=Int.emod_lt_of_pos x (show 0<n by omega)
 rw[Int.tmod_eq_emod];split
 ·omega
 ·rw[Int.natAbs_of_nonneg (by omega)];omega
def tf{s:eD}(h:oV s){n:Int}(hn:n<=1000000000):Yd (cq s n) λp=>oV p.2/\0<=p.1/\(1<=n->p.1<n)/\(n<1->p.1=0):=by
 unfold cq;simp only[aS];refine Yd.cond (λh1=> ?_) (λh1=> ?_)
 ·grind [Yd.some]
 ·simp only[Qj,Int.not_le]at h1;refine Yd.cond (λh2=> ?_) (λh2=> ?_)
  ·grind [Yd.some]
  ·simp only[Qj,Int.not_lt]at h2;obtain⟨hl,hlo,hhi⟩:=h;have e1:aA .i64 s.At 1=s.At+1:=bG (by omega) (by omega)
   have e2:c8 .i64 (s.At+1) 1=s.At:=by rw[qC (by omega) (by omega)];omega
   rw[e1,e2];have hlt:s.At.toNat<s.L.length:=by omega
   rw[PH _ hlo,Qv hlt,Qa,Qs (by omega),Qs (by omega)]
   have hb:=afi s.L[s.At.toNat] n h2;have e3:Zr .i64 s.L[s.At.toNat] n=s.L[s.At.toNat].tmod n:=rfl;rw[e3];generalize s.L[s.At.toNat].tmod n=y at hb;have e4:aA .i64 y n=y+n:=bG (by omega) (by omega)
   rw[e4];have h5:Zr .i64 (y+n) n=(y+n) % n:=Int.tmod_eq_emod_of_nonneg (by omega)
   rw[h5];exact Yd.some ⟨⟨hl,by simp;omega,by simp;omega⟩,Int.emod_nonneg _ (by omega),λ_=>Int.emod_lt_of_pos _ (by omega),λ_=>by omega⟩
def mS{s:eD}(h:oV s){a b:Int}(h1:0<=a)(h2:a<=b+1)(h3:b<=1000000):Yd (cv s a b) λp=>oV p.2/\a<=p.1/\(a<=b->p.1<=b)/\(b<a->p.1=a):=by
 unfold cv;have e1:c8 .i64 b a=b - a:=qC (by omega) (by omega)
 have e2:aA .i64 (b - a) 1=b - a+1:=bG (by omega) (by omega)
 rw[e1,e2];refine(tf h (by omega)).bind λp ⟨h4,h5,h6,h7⟩=> ?_
 grind [aA,bG,Yd.some]
def ahc{s:eD}(h:oV s){l:List ByteArray}(h1:1<=l.length)(h2:l.length<=1000):Yd (vB s l) λp=>oV p.2/\p.1∈l:=by
 unfold vB;refine(tf h (by omega)).bind λp ⟨h4,h5,h6,_⟩=> ?_
 grind [PH,Yd.some]
def Rp(v:ByteArray):Prop:=v∈[(ByteArray.mk #[97]),(ByteArray.mk #[98]),(ByteArray.mk #[99]),(ByteArray.mk #[97,97])]
def Rp.size{v:ByteArray}(h:Rp v):1<=v.size/\v.size<=2:=by simp only[Rp,QA,QR,or_false]at h;rcases h with rfl|rfl|rfl|rfl<;>exact⟨by decide,by decide⟩
def BB{s:eD}(h:oV s):Yd (iq s) λp=>oV p.2/\Rp p.1:=by unfold iq;exact(ahc h (by simp) (by simp)).bind λp hp=>Yd.some hp
def acC{s:eD}(h:oV s):Yd (tB s) λp=>oV p.2/\1<=p.1.ai/\p.1.ai<=6/\Rp p.1.Value:=by
 unfold tB;refine(mS h (by omega) (by omega) (by omega)).bind λp ⟨h1,h2,h3,_⟩=> ?_
 refine(BB h1).bind λq ⟨h4,h5⟩=> ?_
 exact Yd.some ⟨h4,h2,h3 (by omega),h5⟩
def Iw{s:eD}(h:oV s){n:Nat}(hn1:1<=n)(hn:n<=10):Yd (lg s n) λp=>oV p.2/\dt p.1/\(∀x∈p.1.bb,x<n)/\p.1.bb≠[]:=by
 unfold lg;simp only[aS]
 let I (i:Nat) (s:eD) (t:aj) (ns:List Int) (is:List aj):Prop:=oV s/\t.aI=0/\(∀x∈ns,0<=x/\x<i)/\ns.Nodup/\ns.length<=i/\is=[]
 suffices key:∀(k i:Nat) (s:eD) (t:aj) (ns:List Int) (is:List aj),i+k=n->I i s t ns is->Yd (aE _ ((i:Int),s,t,ns,is,())) _ from key n 0 s _ _ _ (by omega) ⟨h,rfl,by simp,by simp,by simp,rfl⟩
 intro k
 induction k with
 |zero=>
  intro i s t ns is hi ⟨h1,h2,h3,h4,h5,h6⟩;obtain rfl:i=n:=by omega
  subst h6;have hd:decide ((i:Int)<(i:Int))=false:=Qh (Qq64 _);refine Yd.loop ?_;simp only[hd,Ql];refine Yd.inr ?_
  have fin:∀(s:eD) (ns:List Int) (is:List aj) (th:Int),oV s->(∀x∈ns,0<=x/\x<i)->ns.Nodup->ns.length<=10->ns≠[]->(is=[]\/∃x,0<=x/\x<10/\is=[⟨1,[x],[]⟩])->1<=th->th<=ns.length+is.length->
    oV s/\dt ⟨th,ns,is⟩/\(∀x∈ns,x<(i:Int))/\ns≠[]:=by
   intro s ns is th a1 a2 a3 a4 a5 a6 a7 a8;exact⟨a1,⟨λx hx=>by have:=a2 x hx;exact⟨this.1,by omega⟩,a3,a4,a6,a7,a8⟩,λx hx=>(a2 x hx).2,a5⟩
  have tail:∀(s:eD) (ns:List Int) (is:List aj),oV s->(∀x∈ns,0<=x/\x<i)->ns.Nodup->ns.length<=10->ns≠[]->(is=[]\/∃x,0<=x/\x<10/\is=[⟨1,[x],[]⟩])->
    Yd (Option.bind (cv s (Vq .i64 (aA .i64 (aA .i64 ((List.length ns:Nat):Int) ((List.length is:Nat):Int)) (1:Int)) (2:Int)) (aA .i64 ((List.length ns:Nat):Int) ((List.length is:Nat):Int))) λp9=>
     Option.bind (cq p9.2 (6:Int)) λp12=>
     bif (decide (p12.1=(5:Int)))then some ((aj.mk (1:Int) ns is),p12.2)else some ((aj.mk p9.1 ns is),p12.2)) λp=>oV p.2/\dt p.1/\(∀x∈p.1.bb,x<(i:Int))/\p.1.bb≠[]:=by
   intro s ns is a1 a2 a3 a4 a5 a6;have hp:1<=ns.length:=by cases ns with|nil=>exact absurd rfl a5|cons x l=>simp
   have hil:is.length<=1:=by rcases a6 with e|⟨x,_,_,e⟩<;>rw[e]<;>simp
   have e1:aA .i64 ((List.length ns:Nat):Int) ((List.length is:Nat):Int)=ns.length+is.length:=bG (by omega) (by omega)
   have e2:aA .i64 ((ns.length:Int)+is.length) 1=ns.length+is.length+1:=bG (by omega) (by omega)
   have e3:Vq .i64 ((ns.length:Int)+is.length+1) 2=(ns.length+is.length+1) / 2:=by
    show IntKind.i64.wrap (Int.tdiv _ _)=_;rw[Int.tdiv_eq_ediv_of_nonneg (by omega)]
    exact wrap64 (by omega) (by omega)
   rw[e1,e2,e3];refine(mS a1 (by omega) (by omega) (by omega)).bind λp ⟨b1,b2,b3,_⟩=> ?_
   refine(tf b1 (by omega)).bind λq ⟨c1,_⟩=> ?_
   have b4:=b3 (by omega)
   refine Yd.cond (λ_=>Yd.some (fin q.2 ns is 1 c1 a2 a3 a4 a5 a6 (by omega) (by omega))) (λ_=>Yd.some (fin q.2 ns is p.1 c1 a2 a3 a4 a5 a6 (by omega) (by omega)))
  have mid:∀(s:eD) (ns:List Int),oV s->(∀x∈ns,0<=x/\x<i)->ns.Nodup->ns.length<=10->ns≠[]->
    Yd (Option.bind (cq s (4:Int)) λp13=>
     bif (decide (p13.1=(3:Int)))then
     Option.bind (cq p13.2 (i:Int)) λp14=>
     bif bh 56 (List.length ([]:List aj)+List.length [(aj.mk (1:Int) [p14.1] ([]:List aj))])then
     (Option.bind (cv p14.2 (Vq .i64 (aA .i64 (aA .i64 ((List.length ns:Nat):Int) ((List.length (([]:List aj)++[(aj.mk (1:Int) [p14.1] ([]:List aj))]):Nat):Int)) (1:Int)) (2:Int)) (aA .i64 ((List.length ns:Nat):Int) ((List.length (([]:List aj)++[(aj.mk (1:Int) [p14.1] ([]:List aj))]):Nat):Int))) λp9=>
     Option.bind (cq p9.2 (6:Int)) λp12=>
     bif (decide (p12.1=(5:Int)))then some ((aj.mk (1:Int) ns (([]:List aj)++[(aj.mk (1:Int) [p14.1] ([]:List aj))])),p12.2)else some ((aj.mk p9.1 ns (([]:List aj)++[(aj.mk (1:Int) [p14.1] ([]:List aj))])),p12.2))
     else none
     else
     (Option.bind (cv p13.2 (Vq .i64 (aA .i64 (aA .i64 ((List.length ns:Nat):Int) ((List.length ([]:List aj):Nat):Int)) (1:Int)) (2:Int)) (aA .i64 ((List.length ns:Nat):Int) ((List.length ([]:List aj):Nat):Int))) λp9=>
     Option.bind (cq p9.2 (6:Int)) λp12=>
     bif (decide (p12.1=(5:Int)))then some ((aj.mk (1:Int) ns []),p12.2)else some ((aj.mk p9.1 ns []),p12.2))) λp=>oV p.2/\dt p.1/\(∀x∈p.1.bb,x<(i:Int))/\p.1.bb≠[]:=by
   intro s ns a1 a2 a3 a4 a5;refine(tf a1 (by omega)).bind λp ⟨b1,b2,b3,_⟩=> ?_
   refine Yd.cond (λ_=> ?_) (λ_=> ?_)
   ·refine(tf b1 (by omega)).bind λq ⟨c1,c2,c3,_⟩=> ?_
    have c4:=c3 (by omega)
    rw[bD (by simp)]
    exact tail q.2 ns _ c1 a2 a3 a4 a5 (.inr ⟨q.1,c2,by omega,rfl⟩)
   ·exact tail p.2 ns [] b1 a2 a3 a4 a5 (.inl rfl)
  refine Yd.cond (λhz=> ?_) (λhz=> ?_)
  ·refine(tf h1 (by omega)).bind λp ⟨b1,b2,b3,_⟩=> ?_
   have b4:=b3 (by omega)
   exact mid p.2 [p.1] b1 (by simp;omega) (by simp) (by simp) (by simp)
  ·grind
 |succ k ih=>
  intro i s t ns is hi ⟨h1,h2,h3,h4,h5,h6⟩;have hd:decide ((i:Int)<(n:Int))=true:=Qg (by omega)
  have hw:aA .i64 (i:Int) 1=((i+1:Nat):Int):=bG (by omega) (by omega)
  refine Yd.loop ?_;simp only[hd,Qk,hw];refine(tf h1 (by omega)).bind λp ⟨b1,b2,b3,_⟩=> ?_
  refine Yd.cond (λ_=> ?_) (λ_=> ?_)
  ·rw[bD (by simp;omega)]
   refine Yd.some (ih (i+1) p.2 _ _ _ (by omega) ⟨b1,h2,?_,?_,by simp;omega,h6⟩)
   ·grind
   ·grind
  ·refine Yd.some (ih (i+1) p.2 _ _ _ (by omega) ⟨b1,h2,?_,h4,by omega,h6⟩)
   intro x hx;have:=h3 x hx;omega
end
section
def at_(e:ak)(n:Int):ah:=⟨n,e.af.Value⟩
def DF(e:ak):Bool:=aP e.aD||(!aP e.ao&&bC e.aD e.ao&& !bR e.aD e.ao)
def gY(e:ak):Bool:=
 finite e.af&&(aP e.ao||cP e.ao)&&(aP e.aD||cP e.aD)&&DF e&&decide (0<=e.aZ)&&decide (e.aZ<=e.bq)&&decide (e.bq<=e.af.ai)
  &&(decide (e.bq=0)||ec e.ao e.aD (at_ e e.bq))&&(decide (e.aZ=0)||(!eO e.ao (at_ e e.aZ)&& !eO e.aD (at_ e e.aZ)))
def uD(e:ak):Bool:=decide (1<=e.aZ)&&decide (e.aZ<=e.bq)&&decide (e.bq<=1000)
def wi(e:ak):Bool:=finite e.af&&cP e.ao&&bR e.ao e.af&&aP e.aD&&uD e&&decide (e.bq<=e.ao.ai)
def BT(e:ak):Bool:=cP e.af&&aP e.ao&&aP e.aD&&uD e
def Ae(e:ak):Bool:=decide (0<=e.al)&&decide (e.al<10)&&decide (1<=e.aK)&&decide (e.aK<=1000000)&&decide (1<=e.aH)&&decide (e.aH<=1000000)
def gX(tv:Int)(e:ak):Bool:=
 Ae e&&decide (tv=0)&&(if e.bA=1 then gY e else if e.bA=2 then wi e else if e.bA=3 then BT e else false)
def dlt(a b:Int):decide (a<b)= !decide (b<=a):=by by_cases h:a<b<;>simp[h]<;>omega
def UB(e:ak):pA e=some (gY e):=by
 unfold pA gY DF at_
 simp only[dp,jW,fU,Hc,EW,C9,vh,tI,Qa,iN,aS,dlt,G3];cases finite e.af<;>cases (aP e.ao||cP e.ao)<;>cases (aP e.aD||cP e.aD)<;>simp
 grind
def AK{e:ak}{tv:Int}(hT:bU e.aa=some tv):dD e=some (gX tv e):=by
 unfold dD gX Ae;simp[UB,hT,dlt,wi,BT,uD]
 grind
def uy{e:ak}{tv:Int}(hT:cJ e.aa=some tv):di e=some (gX tv e):=by
 unfold di gX Ae;simp[hT,dlt,wi,BT,uD,gY,finite,DF,at_]
 have h9:decide (e.al<=9)= !decide (10<=e.al):=by by_cases h:e.al<=9<;>simp[h]<;>omega
 rw[h9];generalize (decide (0<=e.al)&& !decide (10<=e.al)&&decide (1<=e.aK)&&decide (e.aK<=1000000)&&decide (1<=e.aH)&&decide (e.aH<=1000000)&&decide (tv=0))=hd
 by_cases k1:e.bA=1
 ·simp only[k1,decide_true,Qk,Qt]
  grind
 ·grind
def Lq(e:ak)(v:ByteArray)(lo hi:Int):Bool:=decide (1<=lo)&&decide (lo<=hi)&&decide (e.af.Value=v)&&decide (e.aZ<=lo)
def vI(e:ak)(v:ByteArray)(lo hi:Int):Bool:=Lq e v lo hi&&(!decide (e.bA=1)||(!decide (e.aZ=0)&&decide (hi<=e.bq)))
def iO(e:ak)(v:ByteArray)(lo hi:Int):Bool:=Lq e v lo hi&&(decide (e.bA=3)||(decide (e.bA=2)&&decide (hi<=e.bq)))
def sP(e:ak)(b:ah):Bool:= !aP b&&(if e.bA=1 then jJ e.af b else bR e.af b)
def et(e:ak)(b:ah):Bool:= !aP b&&(if e.bA=1 then ec e.ao e.aD b else if e.bA=2 then jJ e.ao b else bR e.af b)
def fG(e:ak):Int:=if e.bA=3 then 1000000 else e.af.ai
@[simp] def Gf (r:bK) (v:ByteArray) (lo hi:Int):jh r v lo hi=some (vI r.ay v lo hi):=by simp[jh,kM,vI,Lq]
@[simp] def wI (r:bK) (v:ByteArray) (lo hi:Int):iE r v lo hi=some (iO r.ay v lo hi):=by simp[iE,kM,iO,Lq]
@[simp] def EX (r:bK) (b:ah):iX r b=some (sP r.ay b):=by simp only[iX,sP];cases hz:aP b<;>by_cases h:r.ay.bA=1<;>simp[h,hz]
@[simp] def vG (r:bK) (b:ah):iu r b=some (et r.ay b):=by simp only[iu,et];cases hz:aP b<;>by_cases h:r.ay.bA=1<;>by_cases h2:r.ay.bA=2<;>simp[h,h2,hz]
@[simp] def aep (r:bK):mH r=some (fG r.ay):=by simp[mH,fG,DP,Bs]
section
variable {e : ak} {tv : Int} (hT : bU e.aa = some tv)
 include hT
theorem Xs:kx e=some (if gX tv e then fG e else 0):=by simp only[kx,etas,AK hT,Qa];cases gX tv e<;>simp
end
def xE(n:Nat):List Int:=(List.range n).map λi:Nat=>(i:Int)
def U0(n:Nat):xE (n+1)=xE n++[(n:Int)]:=by simp[xE,List.range_succ]
@[simp] def aiW (n:Nat):(xE n).length=n:=by simp[xE]
def ahf(n:Nat)(hn:n<=1000)(k:Int):uX n k=some ⟨k,xE n,[]⟩:=by
 unfold uX
 suffices key:∀(m i:Nat) (t:aj),i+m=n->t.aI=k->t.aO=[]->aE (λ(v1:Int×aj×(List Int)×Unit)=>
   bif (decide (v1.1<(n:Int)))then
   bif bh 8 (List.length v1.2.2.1+List.length [v1.1])then
   some (Sum.inl ((aA .i64 v1.1 (1:Int)),(aj.mk v1.2.1.aI ([]:List Int) v1.2.1.aO),(v1.2.2.1++[v1.1]),()))
   else none
   else
   Option.map Sum.inr (some (aj.mk v1.2.1.aI v1.2.2.1 v1.2.1.aO))) ((i:Int),t,xE i,())=some ⟨k,xE n,[]⟩from key n 0 _ (by omega) rfl rfl
 intro m
 induction m with
 |zero=>grind [bM]
 |succ m ih=>
  intro i t hi h1 h2;have hd:decide ((i:Int)<(n:Int))=true:=Qg (by omega)
  have hw:aA .i64 (i:Int) 1=((i+1:Nat):Int):=bG (by omega) (by omega)
  rw[bx (s':=(((i+1:Nat):Int),⟨t.aI,[],t.aO⟩,xE (i+1),()))]
  ·exact ih (i+1) _ (by omega) h1 h2
  ·simp only[hd,hw,Qk];rw[bD (by simp;omega)]
   simp[U0]
def TR(n:Nat)(hn:n<=10)(k:Int)(h1:1<=k)(h2:k<=n):dt ⟨k,xE n,[]⟩:=by
 refine⟨λx hx=> ?_,?_,by simpa using hn,.inl rfl,h1,by simpa using h2⟩
 ·grind [xE]
 ·show(xE n).Nodup;exact List.Pairwise.map _ (λa b h e=>h (by omega)) List.nodup_range
structure Rz (aF aJ n:Int) (e:ak):Prop where
 aF:e.al=aF
 aJ:e.aK=aJ
 seq:1<=e.aH/\e.aH<=9
 aN:dt e.aa
 nodes:∀x∈e.aa.bb,x<n
 ne:e.aa.bb≠[]
 val:Rp e.af.Value
 valid:gX 0 e=true
def Jl{b:ah}(h1:1<=b.ai)(h2:b.ai<=1000)(h3:Rp b.Value):cP b=true:=by
 have:=h3.size
 grind [cP]
def X8{s:eD}(h:oV s){aF aJ:Int}(hn0:0<=aF)(hn1:aF<10)(hs0:1<=aJ)(hs1:aJ<=1000000){n:Nat}(hn2:1<=n)(hn:n<=10):
  Yd (qF s aF aJ n) λp=>oV p.2/\Rz aF aJ n p.1:=by
 unfold qF;refine(mS h (by omega) (by omega) (by omega)).bind λp1 ⟨a1,a2,a3,_⟩=> ?_
 have a4:=a3 (by omega)
 refine(Iw a1 hn2 hn).bind λp2 ⟨b1,b2,b3,b4⟩=> ?_
 refine(BB b1).bind λp3 ⟨c1,c2⟩=> ?_
 have c3:=c2.size;have hv:∀k:Int,1<=k->k<=1000->cP ⟨k,p3.1⟩=true:=λk h1 h2=>Jl h1 h2 c2
 simp only[etas]
 have hd:∀e:ak,e.al=aF->e.aK=aJ->e.aH=p1.1->Ae e=true:=by grind [Ae]
 refine Yd.join (λv=>oV v.1/\Rz aF aJ n v.2.1) (λv hv=>Yd.some hv) λj5 hj5=> ?_
 refine(tf c1 (by omega)).bind λp6 ⟨d1,_⟩=> ?_
 refine Yd.join (λv=>oV v.1/\v.2.1=ak.mk aF aJ p1.1 p2.1 0 ⟨0,gy⟩ ⟨0,gy⟩ ⟨0,gy⟩ 0 0) (λv ⟨hv1,hv2⟩=> ?_) λj8 hj8=> ?_
 ·
  refine Yd.join (λv=>oV v.1/\Rz aF aJ n v.2.1) (λv hv=>hj5 _ hv) λj10 hj10=> ?_
  refine(mS hv1 (by omega) (by omega) (by omega)).bind λp11 ⟨e1,e2,e3,_⟩=> ?_
  have e4:=e3 (by omega)
  simp only[hv2];refine Yd.join (λv=>oV v.1/\v.2.1.al=aF/\v.2.1.aK=aJ/\v.2.1.aH=p1.1/\v.2.1.aa=p2.1/\v.2.1.bA=1/\v.2.1.af=⟨p11.1,p3.1⟩/\(aP v.2.1.ao=true\/cP v.2.1.ao=true)) (λv ⟨f0,f1,f2,f3,f4,f5,f6,f7⟩=> ?_) λj13 hj13=> ?_
  ·rw[f6];have g1:aA .i64 p11.1 1=p11.1+1:=bG (by omega) (by omega)
   simp only[g1];refine(tf f0 (by omega)).bind λp14 ⟨k1,k2,k3,_⟩=> ?_
   have k4:=k3 (by omega)
   have g2:aA .i64 p14.1 1=p14.1+1:=bG (by omega) (by omega)
   simp only[g2];refine(tf k1 (by omega)).bind λp15 ⟨l1,l2,l3,_⟩=> ?_
   have hTr:∀t,t=p2.1->cJ t=some 0:=λt ht=>by rw[ht];exact dI b2
   have done:∀e:ak,e.al=aF->e.aK=aJ->e.aH=p1.1->e.aa=p2.1->e.af=⟨p11.1,p3.1⟩->gX 0 e=true->Rz aF aJ n e:=by intro e h1 h2 h3 h4 h5 h6;exact⟨h1,h2,by rw[h3];exact⟨a2,a4⟩,by rw[h4];exact b2,by rw[h4];exact b3,by rw[h4];exact b4,by rw[h5];exact c2,h6⟩
   refine Yd.join (λw=>w.1.al=aF/\w.1.aK=aJ/\w.1.aH=p1.1/\w.1.aa=p2.1/\w.1.bA=1/\w.1.af=⟨p11.1,p3.1⟩/\(aP w.1.ao=true\/cP w.1.ao=true)/\(gX 0 w.1=true\/w.1.aZ=0)) (λw ⟨m1,m2,m3,m4,m5,m6,m7,m8⟩=> ?_) λj17 hj17=> ?_
   ·refine Yd.join (λw=>w.1.al=aF/\w.1.aK=aJ/\w.1.aH=p1.1/\w.1.aa=p2.1/\w.1.bA=1/\w.1.af=⟨p11.1,p3.1⟩/\(aP w.1.ao=true\/cP w.1.ao=true)/\(gX 0 w.1=true\/w.1.aZ=0/\w.1.bq=0)) (λw ⟨o1,o2,o3,o4,o5,o6,o7,o8⟩=> ?_) λj19 hj19=> ?_
    ·rw[uy (hTr _ o4)];simp only[Qa,G3];refine Yd.cond (λhx=>hj10 _ ⟨l1,done _ o1 o2 o3 o4 o6 hx⟩) (λhx=>hj10 _ ⟨l1,done _ o1 o2 o3 o4 o6 ?_⟩)
     rcases o8 with o8|⟨o8,o9⟩
     ·rw[o8]at hx;cases hx
     ·have q1:finite w.1.af=true:=by rw[o6];simp[finite,hv p11.1 e2 (by omega)];omega
      have q2:aP (ah.mk 0 bE)=true:=by decide+kernel
      have q3:(aP w.1.ao||cP w.1.ao)=true:=by simpa using o7
      have q4:=hd w.1 o1 o2 o3;have q5:0<=w.1.af.ai:=by rw[o6];show 0<=p11.1;omega
      simp only[gX,Ae,gY,DF,o5,o8,o9,q1,q2,q3,Qt]at q4 ⊢;simp[q4,q5]
    ·rw[uy (hTr _ m4)];simp only[Qa,G3];refine Yd.cond (λhx=>hj19 _ ⟨m1,m2,m3,m4,m5,m6,m7,.inl hx⟩) (λhx=>hj19 _ ⟨m1,m2,m3,m4,m5,m6,m7,.inr ⟨?_,rfl⟩⟩)
     rcases m8 with m8|m8
     ·rw[m8]at hx;cases hx
     ·exact m8
   ·rw[uy (e:=ak.mk v.2.1.al v.2.1.aK v.2.1.aH v.2.1.aa v.2.1.bA ⟨p11.1,p3.1⟩ v.2.1.ao v.2.1.aD p15.1 p14.1) (tv:=0) (hTr _ f4)];simp only[Qa,G3];refine Yd.cond (λhx=>hj17 _ ⟨f1,f2,f3,f4,f5,rfl,f7,.inl hx⟩) (λhx=>hj17 _ ⟨f1,f2,f3,f4,f5,rfl,f7,.inr rfl⟩)
  ·refine(tf e1 (by omega)).bind λp23 ⟨k1,_⟩=> ?_
   refine Yd.cond (λ_=> ?_) (λ_=> ?_)
   ·refine(acC k1).bind λp24 ⟨l1,l2,l3,l4⟩=> ?_
    refine(tf l1 (by omega)).bind λp25 ⟨m1,_⟩=> ?_
    have hvl:=Jl (b:=p24.1) l2 (by omega) l4
    refine Yd.cond (λ_=> ?_) (λ_=> ?_)
    ·refine(acC m1).bind λp26 ⟨o1,_⟩=> ?_
     exact hj13 _ ⟨o1,rfl,rfl,rfl,rfl,rfl,rfl,.inr hvl⟩
    ·exact hj13 _ ⟨m1,rfl,rfl,rfl,rfl,rfl,rfl,.inr hvl⟩
   ·have z0:aP (ah.mk 0 gy)=true:=by decide+kernel
    exact hj13 _ ⟨k1,rfl,rfl,rfl,rfl,rfl,rfl,.inl z0⟩
 ·have z0:aP (ah.mk 0 bE)=true:=by decide+kernel
  refine Yd.cond (λ_=> ?_) (λ_=> ?_)
  ·refine(mS d1 (by omega) (by omega) (by omega)).bind λp27 ⟨e1,e2,e3,_⟩=> ?_
   refine(mS e1 (by omega) (by omega) (by omega)).bind λp28 ⟨f1,f2,f3,_⟩=> ?_
   refine(tf f1 (by omega)).bind λp29 ⟨k1,k2,k3,_⟩=> ?_
   refine(tf k1 (by omega)).bind λp30 ⟨l1,l2,l3,_⟩=> ?_
   have e4:=e3 (by omega)
   have f4:=f3 (by omega)
   have k4:=k3 (by omega)
   have l4:=l3 (by omega)
   have g1:aA .i64 p28.1 p29.1=p28.1+p29.1:=bG (by omega) (by omega)
   have g2:aA .i64 (p28.1+p29.1) p30.1=p28.1+p29.1+p30.1:=bG (by omega) (by omega)
   simp only[g1,g2];refine hj5 _ ⟨l1,⟨rfl,rfl,⟨a2,a4⟩,b2,b3,b4,c2,?_⟩⟩;have q4:=hd ⟨aF,aJ,p1.1,p2.1,2,⟨p27.1,p3.1⟩,⟨p28.1+p29.1+p30.1,p3.1⟩,⟨0,bE⟩,p28.1,p28.1+p29.1⟩ rfl rfl rfl;have q5:=hv p27.1 e2 (by omega)
   have q6:=hv (p28.1+p29.1+p30.1) (by omega) (by omega)
   have r1:p27.1<=1000:=by omega
   have r2:p28.1<=p28.1+p29.1:=by omega
   have r3:p28.1+p29.1<=1000:=by omega
   have r4:p28.1+p29.1<=p28.1+p29.1+p30.1:=by omega
   simp[gX,q4,wi,finite,q5,q6,bR,z0,uD,r1,f2,r3,r4];omega
  ·refine Yd.cond (λ_=> ?_) (λ_=> ?_)
   ·refine(tf d1 (by omega)).bind λp31 ⟨e1,_⟩=> ?_
    refine Yd.cond (λ_=> ?_) (λ_=>hj8 _ ⟨e1,rfl⟩)
    refine(mS e1 (by omega) (by omega) (by omega)).bind λp32 ⟨f1,f2,f3,_⟩=> ?_
    refine(mS f1 (by omega) (by omega) (by omega)).bind λp33 ⟨k1,k2,k3,_⟩=> ?_
    refine(tf k1 (by omega)).bind λp34 ⟨l1,l2,l3,_⟩=> ?_
    have f4:=f3 (by omega)
    have k4:=k3 (by omega)
    have l4:=l3 (by omega)
    have g1:aA .i64 p33.1 p34.1=p33.1+p34.1:=bG (by omega) (by omega)
    simp only[g1];refine hj5 _ ⟨l1,⟨rfl,rfl,⟨a2,a4⟩,b2,b3,b4,c2,?_⟩⟩
    grind [gX,BT,uD]
   ·exact hj8 _ ⟨d1,rfl⟩
end
section
inductive cU:aj->Prop where
 |mk (t:aj) (h1:t.bb.length<=1000000) (h2:t.aO.length<=1000000) (h3:∀u∈t.aO,cU u):cU t
def cU.nodes{t:aj}:cU t->t.bb.length<=1000000| .mk _ h _ _=>h
def cU.len{t:aj}:cU t->t.aO.length<=1000000| .mk _ _ h _=>h
def cU.inner{t:aj}:cU t->∀u∈t.aO,cU u| .mk _ _ _ h=>h
def so{t u:aj}(h:u∈t.aO):SizeOf.sizeOf u<SizeOf.sizeOf t:=by
 have h1:=List.sizeOf_lt_of_mem h
 cases t with
 |mk th ns is=>grind
def dt.sm{t:aj}(h:dt t):cU t:=by
 have:=h.len;refine .mk t (by omega) ?_ λu hu=> ?_
 ·rcases h.inner with e|⟨x,_,_,e⟩<;>rw[e]<;>simp
 ·rcases h.inner with e|⟨x,_,_,e⟩
  ·rw[e]at hu;cases hu
  ·rw[e]at hu;simp only[Q5]at hu;subst hu;exact .mk _ (by simp) (by simp) (by simp)
@[simp] def ad2 (l:List Int) (h:l.length<=1000000):kG l=some l:=by
 unfold kG;rw[bD (by simp;omega)]
 cases l with
 |nil|cons x l=>simp
def aen{n:Nat}:∀{t:aj},SizeOf.sizeOf t<n->cU t->xb n (t,())=some t:=by
 induction n with
 |zero=>intro t h;omega
 |succ n ih=>
  intro t hs hm;show xg (xb n) t=some t;unfold xg;have hl:=hm.len;rw[ad2 _ hm.nodes,Qa]
  suffices key:∀(k i:Nat) (t':aj),i+k=t.aO.length->t'.aI=t.aI->t'.bb=t.bb->aE (λ(v2:Int×aj×(List aj)×Unit)=>
    bif (decide (v2.1<((List.length t.aO:Nat):Int)))then
    Option.bind (idx t.aO v2.1) λx3=>
    Option.bind (xb n ((aj.mk x3.aI x3.bb x3.aO),())) λr4=>
    bif bh 56 (List.length v2.2.2.1+List.length [(aj.mk r4.aI r4.bb r4.aO)])then
    some (Sum.inl ((aA .i64 v2.1 (1:Int)),(aj.mk v2.2.1.aI v2.2.1.bb ([]:List aj)),(v2.2.2.1++[(aj.mk r4.aI r4.bb r4.aO)]),()))
    else none
    else
    Option.map Sum.inr (some (aj.mk v2.2.1.aI v2.2.1.bb v2.2.2.1))) ((i:Int),t',t.aO.take i,())=some t by
   have:=key t.aO.length 0 ⟨t.aI,t.bb,[]⟩ (by omega) rfl rfl
   simpa using this
  intro k
  induction k with
  |zero=>grind [bM,aj.eta]
  |succ k ihk=>
   intro i t' hi h1 h2;have hlt:i<t.aO.length:=by omega
   have hd:decide ((i:Int)<(t.aO.length:Int))=true:=Qg (by omega)
   have hx:idx t.aO (i:Int)=some t.aO[i]:=by rw[bf];exact Qv hlt
   have hw:aA .i64 (i:Int) 1=((i+1:Nat):Int):=bG (by omega) (by omega)
   have hmem:t.aO[i]∈t.aO:=Q0 hlt;have hr:=ih (t:=t.aO[i]) (by have:=so hmem;omega) (hm.inner _ hmem)
   rw[bx (s':=(((i+1:Nat):Int),⟨t'.aI,t'.bb,[]⟩,t.aO.take (i+1),()))]
   ·exact ihk (i+1) _ (by omega) h1 h2
   ·simp only[hd,Qk,hx,hw,Qa,etas,hr];rw[bD (by simp;omega),Q7 hlt]
    rfl
@[simp] def ly {t:aj} (h:cU t):eR t=some t:=aen (by omega) h
def BR{α σ ρ:Type}{g:α->σ->Option (σ⊕ρ)}{fin:σ->Option ρ}(hf:∀s,∃r,fin s=some r):∀(l:List α),(∀x∈l,∀s,∃y,g x s=some y)->∀s,∃r,fK g fin l s=some r
 |[],_,s=>hf s
 |x::l,h,s=>by
  obtain⟨y,hy⟩:=h x (by simp) s
  rw[fK,hy]
  cases y with
  |inr r=>exact⟨r,rfl⟩
  |inl s'=>exact BR hf l (λx hx=>h x (by simp[hx])) s'
theorem MG{α σ ρ:Type}{g g':α->σ->Option (σ⊕ρ)}{fin:σ->Option ρ}:∀(l:List α),(∀x∈l,∀s,g x s=g' x s)->∀s,fK g fin l s=fK g' fin l s
 |[],_,s=>rfl
 |x::l,h,s=>by
  rw[fK,fK,h x (by simp) s]
  cases g' x s with
  |none=>rfl
  |some y=>
   cases y with
   |inr r=>rfl
   |inl s'=>exact MG l (λx hx=>h x (by simp[hx])) s'
def ML{n:Nat}:∀{t:aj},SizeOf.sizeOf t<n->cU t->∃d,oW n (t,())=some d:=by
 induction n with
 |zero=>intro t h;omega
 |succ n ih=>
  intro t hs hm;show∃d,jX (oW n) t=some d;have hl:=hm.len;rw[SU (by omega)]
  refine BR (λs=>⟨_,rfl⟩) _ (λu hu s=> ?_) _
  obtain⟨d,hd⟩:=ih (t:=u) (by have:=so hu;omega) (hm.inner u hu)
  exact⟨_,by rw[hd];rfl⟩
def Oh{n:Nat}:∀{t:aj},SizeOf.sizeOf t<n->cU t->∃d,qk n (t,())=some d:=by
 induction n with
 |zero=>intro t h;omega
 |succ n ih=>
  intro t hs hm;show∃d,ln (qk n) t=some d;have hl:=hm.len;rw[Xu (by omega)]
  refine BR (λs=>⟨_,rfl⟩) _ (λu hu s=> ?_) _
  obtain⟨d,hd⟩:=ih (t:=u) (by have:=so hu;omega) (hm.inner u hu)
  exact⟨_,by rw[hd];rfl⟩
def JY{rec:aj->Option Int}{t:aj}(h:∀u∈t.aO,∃r,rec u=some r):∃r,sY rec t=some r:=by
 unfold sY;split
 ·exact⟨_,rfl⟩
 ·split
  ·exact⟨_,rfl⟩
  ·split
   ·refine BR (λs=>⟨_,rfl⟩) _ (λu hu s=> ?_) _
    obtain⟨r,hr⟩:=h u hu;exact⟨_,by rw[hr];rfl⟩
   ·exact⟨_,rfl⟩
theorem VM{rec rec':aj->Option Int}{t:aj}(h:∀u∈t.aO,rec u=rec' u):sY rec t=sY rec' t:=by grind [sY,MG]
def XQ{n:Nat}:∀{t:aj},SizeOf.sizeOf t<n->cU t->∃d,fO n (t,())=some d/\qV n (t,())=some d:=by
 induction n with
 |zero=>intro t h;omega
 |succ n ih=>
  intro t hs hm;show∃d,iL (fO n) t=some d/\oK (qV n) t=some d;have hl:=hm.len;have hn:=hm.nodes;rw[LD (by omega) (by omega),SV (by omega) (by omega)]
  have hih:∀u∈t.aO,∃r,fO n (u,())=some r/\qV n (u,())=some r:=λu hu=>ih (t:=u) (by have:=so hu;omega) (hm.inner u hu)
  obtain⟨r,hr⟩:=JY (rec:=λu=>fO n (u,())) (t:=t) λu hu=>by obtain⟨r,h1,_⟩:=hih u hu;exact⟨r,h1⟩
  grind [VM]
def agb{n:Nat}:∀{t:aj},SizeOf.sizeOf t<n->cU t->∃d,fO n (t,())=some d:=by
 induction n with
 |zero=>intro t h;omega
 |succ n ih=>
  intro t hs hm;show∃d,iL (fO n) t=some d;have hl:=hm.len;have hn:=hm.nodes;rw[LD (by omega) (by omega)]
  exact JY (rec:=λu=>fO n (u,())) (t:=t) λu hu=>ih (t:=u) (by have:=so hu;omega) (hm.inner u hu)
theorem afd{t:aj}(h:cU t):∃v,bU t=some v:=by
 obtain⟨d,hd⟩:∃d,jO t=some d:=ML (by omega) h
 obtain⟨z,hz⟩:∃z,kZ t=some z:=Oh (by omega) h
 obtain⟨l,hl1⟩:∃l,ml t=some l:=agb (by omega) h
 simp[bU,hd,hz,hl1]
theorem Zc{t:aj}(h:cU t):∃v,bU t=some v/\cJ t=some v:=by
 obtain⟨d,hd⟩:∃d,jO t=some d:=ML (by omega) h
 obtain⟨z,hz⟩:∃z,kZ t=some z:=Oh (by omega) h
 obtain⟨l,hl1,hl2⟩:∃l,ml t=some l/\uQ t=some l:=XQ (by omega) h
 simp[bU,cJ,Ti,Vf,hd,hz,hl1,hl2]
 def Hk(t:aj):Int:=(bU t).getD 1
def KY{t:aj}(h:cU t):bU t=some (Hk t):=by grind [afd,Hk]
def A7{t:aj}(h:cU t):cJ t=some (Hk t):=by grind [Zc,Hk]
def vJ{t:aj}(h:dt t):Hk t=0:=by rw[Hk,eK h];rfl
 def bc(e:ak):Bool:=gX (Hk e.aa) e
def su{e:ak}(h:cU e.aa):dD e=some (bc e):=AK (KY h)
def jZ{e:ak}(h:cU e.aa):di e=some (bc e):=uy (A7 h)
def qe(s:Nat)(x:Int):Bool:=fQ x&&s.testBit x.toNat
theorem uf{s:Nat}(h:s<1024)(x:Int):xt s x=qe s x:=by grind [xt,qe]
mutual
def mC(s:Nat):aj->Bool
 |⟨th,ns,is⟩=>decide (th<=((ns.countP (qe s)+zw s is:Nat):Int))
def zw(s:Nat):List aj->Nat
 |[]=>0
 |t::l=>(if mC s t then 1 else 0)+zw s l
end
def RI(s:Nat)(t:aj):mC s t=decide (t.aI<=((t.bb.countP (qe s)+zw s t.aO:Nat):Int)):=by cases t;rw[mC]
def Il(s:Nat)(hs:s<1024)(fin:Int->Option Bool):∀(l:List Int) (n:Nat),n+l.length<=9000000->
  fK (λx (m:Int)=>some (.inl (if xt s x then aA .i64 m 1 else m))) fin l n=fin ((n+l.countP (qe s):Nat):Int)
 |[],n,_=>by simp[fK]
 |x::l,n,h=>by
  simp at h;rw[fK,uf hs,List.countP_cons]
  cases hx:qe s x with
  |false=>simp only[Qq,Qu,Nat.add_zero];exact Il s hs fin l n (by omega)
  |true=>
   simp only[Qt];rw[bG (by omega) (by omega)]
   rw[show(n:Int)+1=((n+1:Nat):Int)by omega,Il s hs fin l (n+1) (by omega)]
   congr 2;omega
def M7(s:Nat)(rec:aj->Option Bool)(fin:Int->Option Bool):∀(l:List aj) (n:Nat),n+l.length<=9000000->(∀u∈l,rec u=some (mC s u))->
  fK (λu (m:Int)=>(rec u).map λr=> .inl (if r then aA .i64 m 1 else m)) fin l n=fin ((n+zw s l:Nat):Int)
 |[],n,_,_=>by simp[fK,zw]
 |u::l,n,h,hr=>by
  simp at h;rw[fK,hr u (by simp),zw]
  cases hx:mC s u with
  |false=>simp only[Qe,Qq,Qu,Nat.zero_add];exact M7 s rec fin l n (by omega) λu hu=>hr u (by simp[hu])
  |true=>
   simp only[Qe,Qt];rw[bG (by omega) (by omega)]
   rw[show(n:Int)+1=((n+1:Nat):Int)by omega,M7 s rec fin l (n+1) (by omega) λu hu=>hr u (by simp[hu])]
   congr 2;omega
def ajQ{rec:(aj×Int×Unit)->Option Bool}{t:aj}{s:Nat}(hs:s<1024)(hm:cU t)(hr:∀u∈t.aO,rec (u,(s:Int),())=some (mC s u)):jY rec t s=some (mC s t):=by
 unfold jY;have hn:=hm.nodes;have hl:=hm.len;have hv:eW (s:Int)=some true:=by unfold eW;simp;omega
 rw[hv];simp only[Qa,Qo,Ql,aS];rw[iF t.bb (by omega) (λi (m:Int)=>(m,i,())) (λx (m:Int)=>some (.inl (if xt s x then aA .i64 m 1 else m))) (λm=>fK (λu (m:Int)=>(rec (u,(s:Int),())).map λr=> .inl (if r then aA .i64 m 1 else m)) (λm=>some (decide (t.aI<=m))) t.aO m) (λi x m hd hx hw=> ?_) (λm hd=> ?_) 0]
 ·rw[show(0:Int)=((0:Nat):Int)from rfl,Il s hs _ t.bb 0 (by omega)]
  rw[M7 s (λu=>rec (u,(s:Int),())) _ t.aO _ (by have:=List.countP_le_length (p:=qe s) (l:=t.bb);omega) hr,RI]
  simp
 ·grind [mY,xt]
 ·simp only[hd,Ql];rw[iF t.aO (by omega) (λi (m:Int)=>(m,i,())) (λu (m:Int)=>(rec (u,(s:Int),())).map λr=> .inl (if r then aA .i64 m 1 else m)) (λm=>some (decide (t.aI<=m))) (λi x m hd hx hw=> ?_) (λm hd=> ?_) m]
  ·simp only[hd,hx,hw,Qk,Qa,etas]
   cases rec (x,(s:Int),())with
   |none=>rfl
   |some r=>cases r<;>rfl
  ·simp only[hd,Ql]
def ajM{s:Nat}(hs:s<1024){n:Nat}:∀{t:aj},SizeOf.sizeOf t<n->cU t->sF n (t,(s:Int),())=some (mC s t):=by
 induction n with
 |zero=>intro t h;omega
 |succ n ih=>intro t hz hm;show jY (sF n) t s=some (mC s t);exact ajQ hs hm λu hu=>ih (t:=u) (by have:=so hu;omega) (hm.inner u hu)
def CF{s:Nat}(hs:s<1024){t:aj}(hm:cU t):jP t s=some (mC s t):=ajM hs (by omega) hm
def Zx(t:aj)(s:Int):jP t s=jd t s:=by
 have hB:∀(rec:(aj×Int×Unit)->Option Bool) (t:aj) (s:Int),jY rec t s=oA rec t s:=by grind [jY,oA,eW,gg,SO,mY,qu]
 grind [jP,jd,sF,zk]
def KO{s:Nat}(hs:s<1024){t:aj}(hm:cU t):jd t s=some (mC s t):=by rw[<-Zx];exact CF hs hm
def abS{s s':Nat}(h:∀k,s.testBit k=true->s'.testBit k=true)(x:Int)(hx:qe s x=true):qe s' x=true:=by grind [qe]
mutual
def Te{s s':Nat}(h:∀k,s.testBit k=true->s'.testBit k=true):∀(t:aj),mC s t=true->mC s' t=true
 |⟨th,ns,is⟩,ht=>by
  rw[mC,Qi]at ht ⊢;have h1:=Tf h is;have h2:ns.countP (qe s)<=ns.countP (qe s'):=List.countP_mono_left λx _ hx=>abS h x hx
  omega
def Tf{s s':Nat}(h:∀k,s.testBit k=true->s'.testBit k=true):∀(l:List aj),zw s l<=zw s' l
 |[]=>by simp[zw]
 |t::l=>by
  have h1:=Tf h l;have h2:=Te h t;rw[zw,zw]
  cases hs:mC s t with
  |false=>simp;omega
  |true=>rw[h2 hs];simp;omega
end
end
section
def afr(s:Int):eW s=some (decide (0<=s)&&decide (s<1024)):=by unfold eW;simp;congr 1;rw[decide_eq_decide];omega
def Dc{s:Nat}(h:s<1024):gg (s:Int)=some true:=by rw[SO];simp;omega
def xJ{s:Nat}(h:s<1024):eW (s:Int)=some true:=by rw[afr];simp;omega
def MP(a b:Nat)(ha:a<2 ^ 62)(hb:b<2 ^ 62):∃c:Nat,BA .i64 (a:Int) (b:Int)=(c:Int)/\c<=a/\∀k,c.testBit k=(a.testBit k&& !b.testBit k):=by
 refine⟨((BitVec.ofInt 64 (a:Int)&&& ~~~ BitVec.ofInt 64 (b:Int)).toNat),?_,?_,λk=> ?_⟩
 ·have hle:(BitVec.ofInt 64 (a:Int)&&& ~~~ BitVec.ofInt 64 (b:Int)).toNat<=a:=by
   rw[BitVec.toNat_and,vT a ha];exact Nat.and_le_left
  show IntKind.i64.wrap (((BitVec.ofInt 64 (a:Int)&&& ~~~ BitVec.ofInt 64 (b:Int)).toNat:Nat):Int)=_;exact DR _ (by omega)
 ·rw[BitVec.toNat_and,vT a ha];exact Nat.and_le_left
 ·have h1:∀i (x:Nat),x<2 ^ 62->(BitVec.ofInt 64 (x:Int)).getLsbD i=x.testBit i:=by
   intro i x hx;rw[<-BitVec.testBit_toNat,vT x hx]
  rw[BitVec.testBit_toNat,BitVec.getLsbD_and,BitVec.getLsbD_not,h1 k a ha,h1 k b hb]
  by_cases hk:k<64
  ·simp[hk]
  ·have:a.testBit k=false:=Nat.testBit_lt_two_pow (QJ ha (Nat.pow_le_pow_right (by omega) (by omega)))
   simp[this]
def DK{a b:Nat}(h:∀k,a.testBit k=b.testBit k):a=b:=Nat.eq_of_testBit_eq h
def Rh{s k:Nat}(hs:s<1024)(hk:s.testBit k=true):k<10:=by
 rcases Nat.lt_or_ge k 10 with h|h
 ·exact h
 ·have:s.testBit k=false:=Nat.testBit_lt_two_pow (QJ hs (show 2 ^ 10<=2 ^ k from Nat.pow_le_pow_right (by omega) h))
  rw[this]at hk;cases hk
def Lh{s:Nat}(h:∀k,s.testBit k=true->k<10):s<1024:=by
 rcases Nat.lt_or_ge s 1024 with h1|h1
 ·exact h1
 ·obtain⟨k,hk1,hk2⟩:=Nat.exists_ge_and_testBit_of_ge_two_pow (n:=10) h1;have:=h k hk2;omega
theorem yL(s k:Nat):qe s (k:Int)=(decide (k<10)&&s.testBit k):=by
 have h1:decide ((k:Int)<10)=decide (k<10):=by rw[decide_eq_decide];omega
 have h2:decide (0<=(k:Int))=true:=Qg (by omega)
 simp only[qe,fQ,h1,h2,Bool.true_and,QV]
def Ii(i:Nat)(s:Nat):List bj->Nat
 |[]=>s
 |m::l=>Ii (i+1) (if m.ft&&decide (i<10)then s|||2 ^ i else s) l
def ke(l:List bj):Nat:=Ii 0 0 l
def T0:∀(l:List bj) (i s k:Nat),(Ii i s l).testBit k=(s.testBit k||(decide (i<=k)&&decide (k<10)&&((l[k - i]?).any (·.ft))))
 |[],i,s,k=>by simp[Ii]
 |m::l,i,s,k=>by
  rw[Ii,T0 l (i+1)]
  by_cases hk:k=i
  ·subst hk;have h1:¬(k+1<=k):=by omega
   cases hm:m.ft<;>by_cases hi:k<10<;>simp[hm,hi,h1,Nat.testBit_or]
  ·have h2:i<=k↔i+1<=k:=by omega
   have h3:∀b:Bool,(if(b&&decide (i<10))=true then s|||2 ^ i else s).testBit k=s.testBit k:=by
    intro b;split
    ·rw[Nat.testBit_or,Nat.testBit_two_pow];have:¬i=k:=λe=>hk e.symm
     simp[this]
    ·rfl
   rw[h3]
   by_cases hik:i+1<=k
   ·have h4:(m::l)[k - i]?=l[k - (i+1)]?:=by
     rw[show k - i=(k - (i+1))+1 by omega,List.getElem?_cons_succ]
    rw[h4];have:i<=k:=by omega
    simp[this,hik]
   ·have:¬i<=k:=by omega
    simp[this,hik]
def TZ(l:List bj)(k:Nat):(ke l).testBit k=(decide (k<10)&&((l[k]?).any (·.ft))):=by rw[ke,T0];simp
def Ex(l:List bj):ke l<1024:=Lh λk hk=>by rw[TZ]at hk;simp at hk;exact hk.1
def TY(step:(Int×Int×Unit)->Option ((Int×Int×Unit)⊕Int))(l:List bj)
  (h1:∀(i:Nat) (m:bj) (s:Nat),l[i]?=some m->s<1024->step ((s:Int),(i:Int),())=some (.inl (((if m.ft&&decide (i<10)then s|||2 ^ i else s:Nat):Int),((i+1:Nat):Int),())))
  (h2:∀s:Int,step (s,(l.length:Int),())=some (.inr s)):aE step (0,0,())=some ((ke l:Nat):Int):=by
 suffices key:∀(k i s:Nat),i+k=l.length->s<1024->aE step ((s:Int),(i:Int),())=some ((Ii i s (l.drop i):Nat):Int)by
  have:=key l.length 0 0 (by omega) (by omega)
  simpa[ke]using this
 intro k
 induction k with
 |zero=>
  intro i s hi hs;obtain rfl:i=l.length:=by omega
  rw[bM (h2 s),Qq66];rfl
 |succ k ih=>
  intro i s hi hs;have hlt:i<l.length:=by omega
  rw[QM hlt,Ii,bx (h1 i l[i] s (Qv hlt) hs)];refine ih (i+1) _ (by omega) ?_
  split
  ·rename_i hc;simp only[Qm,Qi]at hc;have:=BJ (x:=(i:Int)) hs (by omega)
   simpa using this
  ·exact hs
def MS{c:bd}(h:c.bn.length<=1000000):jr c=some ((ke c.bn:Nat):Int):=by
 unfold jr;refine TY _ _ (λi m s hm hs=> ?_) (λs=> ?_)
 ·have hlt:i<c.bn.length:=(Qw.1 hm).1;have hd:decide ((i:Int)<(c.bn.length:Int))=true:=Qg (by omega)
  have hw:aA .i64 (i:Int) 1=((i+1:Nat):Int):=bG (by omega) (by omega)
  have hx:idx c.bn (i:Int)=some m:=by rw[bf];exact hm
  have h0:¬(i:Int)<0:=by omega
  simp only[hd,hx,hw,Qk,Qa,aS,h0,Qu]
  cases m.ft with
  |false=>simp
  |true=>
   by_cases h10:i<10
   ·have:(i:Int)<10:=by omega
    have ho:=qO (x:=(i:Int)) hs (by omega) (by omega)
    simp only[QV]at ho;simp[this,h10,ho]
   ·have:¬(i:Int)<10:=by omega
    simp[this,h10]
 ·have hd:decide ((c.bn.length:Int)<(c.bn.length:Int))=false:=Qh (Qq64 _);simp only[hd,Ql,Qe]
def D1{c:bd}(h:c.bn.length<=1000000):mX c=some ((ke c.bn:Nat):Int):=by
 unfold mX;refine TY _ _ (λi m s hm hs=> ?_) (λs=> ?_)
 ·have hlt:i<c.bn.length:=(Qw.1 hm).1;have hd:decide ((i:Int)<(c.bn.length:Int))=true:=Qg (by omega)
  have hw:aA .i64 (i:Int) 1=((i+1:Nat):Int):=bG (by omega) (by omega)
  have hx:idx c.bn (i:Int)=some m:=by rw[bf];exact hm
  have h0:¬(i:Int)<0:=by omega
  simp only[hd,hx,hw,Qk,Qa,aS,h0,Qu]
  by_cases h10:i<10
  ·have:(i:Int)<10:=by omega
   have ho:=qO (x:=(i:Int)) hs (by omega) (by omega)
   simp only[QV]at ho;cases m.ft<;>simp[this,h10,ho]
  ·have:¬(i:Int)<10:=by omega
   cases m.ft<;>simp[this,h10]
 ·have hd:decide ((c.bn.length:Int)<(c.bn.length:Int))=false:=Qh (Qq64 _);simp only[hd,Ql,Qe]
structure AX (c:bd):Prop where
 len:c.bn.length<=1000000
 aN:∀m∈c.bn,cU m.aa
def pG(l:List bj)(k:Nat):aj:=((l[k]?).map (·.aa)).getD ⟨0,[],[]⟩
def uG(l:List bj)(k:Nat):Bool:=(ke l).testBit k
def Ab{l:List bj}{k:Nat}(h:uG l k=true):k<10/\∃m,l[k]?=some m/\m.ft=true:=by rw[uG,TZ]at h;simp only[Qm,Qi,Option.any_eq_true]at h;obtain⟨h1,m,h2,h3⟩:=h;exact⟨h1,m,h2,h3⟩
def BE{l:List bj}{k:Nat}{m:bj}(h:l[k]?=some m):pG l k=m.aa:=by rw[pG,h];rfl
def DG(s v:Nat):Nat:=(1023^^^s)|||2 ^ v
def Bz(l:List bj)(v s:Nat):Bool:=uG l v&& !mC (DG s v) (pG l v)
def aex(k:Nat):(1023:Nat).testBit k=decide (k<10):=by rw[show(1023:Nat)=2 ^ 10 - 1 from rfl,Nat.testBit_two_pow_sub_one]
def Dh{s:Nat}(hs:s<1024)(v k:Nat):(DG s v).testBit k=(decide (k<10)&& !s.testBit k||decide (v=k)):=by
 rw[DG,Nat.testBit_or,Nat.testBit_xor,aex,Nat.testBit_two_pow]
 by_cases hk:k<10
 ·simp[hk]
 ·have:s.testBit k=false:=by
   cases h:s.testBit k with
   |false=>rfl
   |true=>exact absurd (Rh hs h) hk
  simp[hk,this]
def TA{s v:Nat}(hs:s<1024)(hv:v<10):DG s v<1024:=Lh λk hk=>by rw[Dh hs]at hk;simp at hk;omega
def XL{s v:Nat}(hs:s<1024)(hv:v<10):sB .i64 (BA .i64 1023 (s:Int)) (bW .i64 1 (v:Int))=((DG s v:Nat):Int):=by
 obtain⟨c,h1,h2,h3⟩:=MP 1023 s (by omega) (by omega)
 have h1':BA .i64 1023 (s:Int)=(c:Int):=h1;rw[h1',yr v (by omega),Gy c (2 ^ v) (by omega) (Nat.pow_lt_pow_right (by omega) (by omega))]
 congr 1;refine DK λk=> ?_
 rw[Dh hs,Nat.testBit_or,h3,aex,Nat.testBit_two_pow]
def ZQ{s v:Nat}(hs:s<1024)(hv:v<10):sB .i64 (c8 .i64 1023 (s:Int)) (bW .i64 1 (v:Int))=((DG s v:Nat):Int):=by
 have h1:c8 .i64 1023 (s:Int)=((1023 - s:Nat):Int):=by rw[qC (by omega) (by omega)];omega
 rw[h1,yr v (by omega),Gy _ (2 ^ v) (by omega) (Nat.pow_lt_pow_right (by omega) (by omega))]
 congr 1;refine DK λk=> ?_
 rw[Dh hs,Nat.testBit_or,Nat.testBit_two_pow]
 have h2:(1023 - s).testBit k=(decide (k<10)&& !s.testBit k):=by
  have:=Nat.testBit_two_pow_sub_succ (x:=s) (n:=10) (by omega) k
  rw[show 2 ^ 10 - (s+1)=1023 - s by omega]at this
  exact this
 rw[h2]
def Ue{c:bd}(hc:AX c){v s:Nat}(hs:s<1024):pd c v s=some (Bz c.bn v s):=by
 unfold pd Bz;rw[Dc hs,MS hc.len];simp only[Qa,Qo,Ql,qu,uf (Ex _),yL]
 cases hd:uG c.bn v with
 |false=>
  have:(decide (v<10)&&(ke c.bn).testBit v)=false:=by rw[show(ke c.bn).testBit v=uG c.bn v from rfl,hd];simp
  simp[this]
 |true=>
  obtain⟨h10,m,hm,hdm⟩:=Ab hd
  have:(decide (v<10)&&(ke c.bn).testBit v)=true:=by rw[show(ke c.bn).testBit v=uG c.bn v from rfl,hd];simp[h10]
  rw[bf,hm,XL hs h10];have h0:¬(v:Int)<0:=by omega
  have hmem:m∈c.bn:=Q8 hm;simp only[this,Qo,Ql,Qa,h0,Qu,etas,KO (TA hs h10) (hc.aN m hmem),BE hm,Bool.true_and]
def OE{c:bd}(hc:AX c){v s:Nat}(hs:s<1024):pO c v s=some (Bz c.bn v s):=by
 unfold pO Bz;rw[xJ hs,D1 hc.len];simp only[Qa,Qo,Ql,mY,uf (Ex _),yL]
 cases hd:uG c.bn v with
 |false=>
  have:(decide (v<10)&&(ke c.bn).testBit v)=false:=by rw[show(ke c.bn).testBit v=uG c.bn v from rfl,hd];simp
  simp[this]
 |true=>
  obtain⟨h10,m,hm,hdm⟩:=Ab hd
  have:(decide (v<10)&&(ke c.bn).testBit v)=true:=by rw[show(ke c.bn).testBit v=uG c.bn v from rfl,hd];simp[h10]
  rw[bf,hm,ZQ hs h10];have h0:¬(v:Int)<0:=by omega
  have hmem:m∈c.bn:=Q8 hm;simp only[this,Qo,Ql,Qa,h0,Qu,etas,CF (TA hs h10) (hc.aN m hmem),BE hm,Bool.true_and]
end
section
def oP(s:Nat):List Int:=(xE 10).filter (qe s)
theorem af8{n:Nat}{x:Int}:x∈xE n↔∃k:Nat,k<n/\x=k:=by grind [xE]
def Dl{s:Nat}{x:Int}:x∈oP s↔∃k:Nat,k<10/\x=k/\s.testBit k=true:=by grind [oP,af8,yL]
theorem O1(step:(Int×List Int×Unit)->Option ((Int×List Int×Unit)⊕List Int))(s:Nat)
  (h1:∀(i:Nat) (acc:List Int),i<10->acc.length<=i->step ((i:Int),acc,())=some (.inl (((i+1:Nat):Int),(if qe s i then acc++[(i:Int)]else acc),())))
  (h2:∀acc,step (((10:Nat):Int),acc,())=some (.inr acc)):aE step (0,[],())=some (oP s):=by
 suffices key:∀(k i:Nat) (acc:List Int),i+k=10->acc=(xE i).filter (qe s)->aE step ((i:Int),acc,())=some (oP s)from key 10 0 [] rfl rfl
 intro k
 induction k with
 |zero=>
  intro i acc hi ha;obtain rfl:i=10:=by omega
  rw[bM (h2 acc),ha];rfl
 |succ k ih=>
  intro i acc hi ha;have hlen:acc.length<=i:=by rw[ha];exact QK (List.length_filter_le _ _) (by simp)
  rw[bx (h1 i acc (by omega) hlen)]
  refine ih (i+1) _ (by omega) ?_
  rw[U0,List.filter_append,<-ha];cases hh:qe s i<;>simp[hh]
def Xp{s:Nat}(hs:s<1024):rY (s:Int)=some (oP s):=by grind [rY,O1,aA,bG,aS,qu,uf,bD,qe]
def JF{s:Nat}(hs:s<1024):q8 (s:Int)=some (oP s):=by grind [q8,O1,aA,bG,aS,mY,uf,bD,qe]
def Ha(l:List bj)(s r:Nat):Prop:=∀k,r.testBit k=true->s.testBit k=true/\uG l k=true/\mC r (pG l k)=true
structure Ap (l:List bj) (s q:Nat):Prop where
 inside:Ha l s q
 max:∀r,Ha l s r->∀k,r.testBit k=true->q.testBit k=true
def Ap.unique{l:List bj}{s q q':Nat}(h:Ap l s q)(h':Ap l s q'):q=q':=by
 refine DK λk=> ?_
 rw[QW];exact⟨h'.max q h.inside k,h.max q' h'.inside k⟩
def Ap.lt{l:List bj}{s q:Nat}(h:Ap l s q):q<1024:=Lh λk hk=>(Ab (h.inside k hk).2.1).1
def pU(l:List bj)(s:Nat):Option Int:=(oP s).find? λx=> !mC s (pG l x.toNat)
def CB{l:List bj}{s:Nat}{x:Int}(h:pU l s=some x):∃k:Nat,x=k/\k<10/\s.testBit k=true/\mC s (pG l k)=false:=by have h1:=List.mem_of_find?_eq_some h;have h2:=List.find?_some h;obtain⟨k,hk,rfl,hb⟩:=Dl.1 h1;simp at h2;exact⟨k,rfl,hk,hb,h2⟩
def Uf{l:List bj}{s:Nat}(hs:s<1024)(h:pU l s=none):∀k,s.testBit k=true->mC s (pG l k)=true:=by intro k hk;have:=List.find?_eq_none.1 h (k:Int) (Dl.2 ⟨k,Rh hs hk,rfl,hk⟩);simpa using this
def afk:∀s,s<1024->∀k,k<10->s.testBit k=true->s - 2 ^ k=s^^^2 ^ k:=by decide+kernel
def Gm{s k:Nat}(hs:s<1024)(hk:s.testBit k=true):2 ^ k<=s/\∀j,(s - 2 ^ k).testBit j=(s.testBit j&& !decide (k=j)):=by
 have hle:2 ^ k<=s:=Nat.ge_two_pow_of_testBit hk;refine⟨hle,?_⟩;have hx:s - 2 ^ k=s^^^2 ^ k:=afk s hs k (Rh hs hk) hk
 grind
structure pT (l:List bj) (s0 s:Nat):Prop where
 lt:s<1024
 sub:∀k,s.testBit k=true->s0.testBit k=true/\uG l k=true
 max:∀r,Ha l s0 r->∀k,r.testBit k=true->s.testBit k=true
def pT.first(l:List bj){s:Nat}(hs:s<1024):pT l s (s&&&ke l):=by
 refine⟨Nat.lt_of_le_of_lt Nat.and_le_left hs,λk hk=> ?_,λr hr k hk=> ?_⟩
 ·rw[Nat.testBit_and,Qm]at hk;exact hk
 ·rw[Nat.testBit_and,Qm];exact⟨(hr k hk).1,(hr k hk).2.1⟩
def pT.next{l:List bj}{s0 s k:Nat}(h:pT l s0 s)(hk:s.testBit k=true)(hu:mC s (pG l k)=false):pT l s0 (s - 2 ^ k):=by
 obtain⟨h1,h2⟩:=Gm h.lt hk;refine⟨Nat.lt_of_le_of_lt (Nat.sub_le _ _) h.lt,λj hj=> ?_,λr hr j hj=> ?_⟩
 ·rw[h2]at hj;simp at hj;exact h.sub j hj.1
 ·rw[h2,h.max r hr j hj]
  have:k≠j:=by
   intro e;subst e;have:=Te (λi hi=>h.max r hr i hi) _ (hr k hj).2.2
   rw[hu]at this;cases this
  simp[this]
def pT.done{l:List bj}{s0 s:Nat}(h:pT l s0 s)(hn:pU l s=none):Ap l s0 s:=
 ⟨λk hk=>⟨(h.sub k hk).1,(h.sub k hk).2,Uf h.lt hn k hk⟩,h.max⟩
def TS{l:List Int}{ρ:Type}{f:Int->Bool}{hit:Int->ρ}{fin:Unit->Option ρ}{g:Int->Unit->Option (Unit⊕ρ)}(hg:∀x∈l,∀s,g x s=some (if f x then .inr (hit x)else .inl ())):
  fK g fin l ()=match l.find? f with|some x=>some (hit x)|none=>fin ():=by
 induction l with
 |nil=>rfl
 |cons x l ih=>grind [fK]
def zN(s:Nat):(oP s).length<=10:=QK (List.length_filter_le _ _) (by simp)
def Ze{c:bd}(hc:AX c){s:Nat}(hs:s<1024)(hsub:∀k,s.testBit k=true->uG c.bn k=true):
  pb c s=some (match pU c.bn s with|some x=>(x,true,())|none=>(0,false,())):=by
 unfold pb;rw[Xp hs,Qa];have hlen:=zN s;rw[iF (oP s) (by omega) (λi (_:Unit)=>(i,())) (λx (_:Unit)=>(pc c x s).map λr=>if r then .inl ()else .inr (x,true,())) (λ_=>some (0,false,())) (λi x u hd hx hw=> ?_) (λu hd=> ?_) ()]
 ·rw[TS (f:=λx=> !mC s (pG c.bn x.toNat)) (hit:=λx=>(x,true,()))]
  ·grind [pU,oP]
  ·intro x hx u;obtain⟨k,hk,rfl,hb⟩:=Dl.1 hx;obtain⟨_,m,hm,_⟩:=Ab (hsub k hb);unfold pc;rw[bf,hm];simp only[Qa,etas,KO hs (hc.aN m (Q8 hm)),Qe,QV,BE hm];cases mC s m.aa<;>rfl
 ·simp only[hd,hx,hw,Qk,Qa]
  cases pc c x s with
  |none=>rfl
  |some r=>cases r<;>rfl
 ·simp only[hd,Ql]
def aaz{s k:Nat}(hs:s<1024)(hk:s.testBit k=true):BA .i64 (s:Int) (bW .i64 1 (k:Int))=((s - 2 ^ k:Nat):Int):=by
 have h10:=Rh hs hk;obtain⟨c,h1,_,h3⟩:=MP s (2 ^ k) (by omega) (Nat.pow_lt_pow_right (by omega) (by omega))
 rw[yr k (by omega),h1]
 congr 1;refine DK λj=> ?_
 rw[h3,(Gm hs hk).2,Nat.testBit_two_pow]
def X7{c:bd}(hc:AX c){s:Nat}(hs:s<1024):Yd (lE c s) λq=>∃n:Nat,q=n/\Ap c.bn s n:=by
 unfold lE vg;rw[Dc hs,MS hc.len];simp only[Qa,Qo,Ql];have hdl:=Ex c.bn;rw[EE s (ke c.bn) (by omega) (by omega)]
 suffices key:∀(n t:Nat) (out:List Int),t<n->pT c.bn s t->out.length+t<=1024->Yd (aE (λ(v3:Int×(List Int)×Unit)=>
   Option.bind (pb c v3.1) λr4=>
   bif (!r4.2.1)then
   Option.map Sum.inr (some (v3.1,v3.2.1,()))
   else
   bif bh 8 (List.length v3.2.1+List.length [r4.1])then
   if r4.1<0 then none else
   some (Sum.inl ((BA .i64 v3.1 (bW .i64 (1:Int) r4.1)),(v3.2.1++[r4.1]),()))
   else none) ((t:Int),out,())) λp=>∃n:Nat,p.1=n/\Ap c.bn s n by
  have hfirst:=pT.first c.bn hs
  have hb:=hfirst.lt;refine(key 1024 (s&&&ke c.bn) [] hb hfirst (by simp;omega)).bind λp hp=>Yd.some hp
 intro n
 induction n with
 |zero=>intro t out h;omega
 |succ n ih=>
  intro t out ht hinv hout;refine Yd.loop ?_;rw[Ze hc hinv.lt λk hk=>(hinv.sub k hk).2]
  simp only[Qa]
  cases hu:pU c.bn t with
  |none=>exact Yd.some ⟨t,rfl,hinv.done hu⟩
  |some x=>
   obtain⟨k,rfl,hk10,hkb,hks⟩:=CB hu;have h0:¬(k:Int)<0:=by omega
   have hlb:=(Gm hinv.lt hkb).1;have hp:0<2 ^ k:=Nat.pow_pos (by omega)
   simp only[Qo,Ql];rw[bD (by simp;omega),Qs h0,aaz hinv.lt hkb]
   exact Yd.some (ih (t - 2 ^ k) _ (by omega) (hinv.next hkb hks) (by simp;omega))
theorem abT{c:bd}(hc:AX c){s:Nat}(hs:s<1024):∃q,Ap c.bn s q:=by
 suffices key:∀(n t:Nat),t<n->pT c.bn s t->∃q,Ap c.bn s q from key _ _ (Nat.lt_succ_self _) (pT.first c.bn hs)
 intro n
 induction n with
 |zero=>intro t h;omega
 |succ n ih=>
  intro t ht hinv
  cases hu:pU c.bn t with
  |none=>exact⟨t,hinv.done hu⟩
  |some x=>
   obtain⟨k,rfl,_,hkb,hks⟩:=CB hu;have hp:0<2 ^ k:=Nat.pow_pos (by omega)
   have:=(Gm hinv.lt hkb).1;exact ih (t - 2 ^ k) (by omega) (hinv.next hkb hks)
open Classical in
 def gq(l:List bj)(s:Nat):Nat:=if h:∃q,Ap l s q then Classical.choose h else 0
def Ia{c:bd}(hc:AX c){s:Nat}(hs:s<1024):Ap c.bn s (gq c.bn s):=by grind [abT,gq]
def MR{c:bd}(hc:AX c){s:Nat}(hs:s<1024):lE c s=some ((gq c.bn s:Nat):Int):=by obtain⟨q,h1,n,rfl,h2⟩:=X7 hc hs;rw[h1,h2.unique (Ia hc hs)]
def xF(s:Nat):List Int->Nat
 |[]=>s
 |x::l=>xF (s - 2 ^ x.toNat) l
def Ob(s:Nat):∀(l:List Int) (x:Int),xF s (l++[x])=xF s l - 2 ^ x.toNat
 |[],x=>rfl
 |y::l,x=>by rw[List.cons_append,xF,Ob _ l x,xF]
def Ly(s:Nat):List Int->Prop
 |[]=>True
 |x::l=>(∃k:Nat,x=k/\k<10/\2 ^ k<=s)/\Ly (s - 2 ^ x.toNat) l
def Ub{s:Nat}:∀{l:List Int} {k:Nat},Ly s l->k<10->2 ^ k<=xF s l->Ly s (l++[(k:Int)])
 |[],k,_,h1,h2=>⟨⟨k,rfl,h1,h2⟩,trivial⟩
 |_::_,_,h,h1,h2=>⟨h.1,Ub h.2 h1 h2⟩
theorem U6{t k:Nat}(hk:k<10)(h:2 ^ k<=t)(ht:t<1024):c8 .i64 (t:Int) (bW .i64 1 (k:Int))=((t - 2 ^ k:Nat):Int):=by grind [yr,qC]
def ahh{c:bd}(hc:AX c){s:Nat}(hs:s<1024):Yd (qE c s) λout=>Ly (s&&&ke c.bn) out/\Ap c.bn s (xF (s&&&ke c.bn) out)/\out.length<=1024:=by
 unfold qE;rw[xJ hs,D1 hc.len];simp only[Qa,Qo,Ql];have hdl:=Ex c.bn;rw[EE s (ke c.bn) (by omega) (by omega)]
 generalize hs0:s&&&ke c.bn=s0
 suffices key:∀(n t:Nat) (b:Bool) (out:List Int),t<n->pT c.bn s t->(b=false->pU c.bn t=none)->out.length+t<=1024->Ly s0 out->xF s0 out=t->
   Yd (aE (λ(v3:Int×Bool×(List Int)×Unit)=>
    bif v3.2.1 then
    Option.bind (q8 v3.1) λr4=>
    aE (λ(v5:Int×Bool×Int×(List Int)×Unit)=>
    bif (decide (v5.2.2.1<((List.length r4:Nat):Int)))then
    Option.bind (idx r4 v5.2.2.1) λx6=>
    Option.bind (idx c.bn x6) λx7=>
    Option.bind (jP (aj.mk x7.aa.aI x7.aa.bb x7.aa.aO) v5.1) λr8=>
    bif (!r8)then
    if x6<0 then none else
    bif bh 8 (List.length v5.2.2.2.1+List.length [x6])then
    Option.map Sum.inr (some (Sum.inl ((c8 .i64 v5.1 (bW .i64 (1:Int) x6)),true,(v5.2.2.2.1++[x6]),())))
    else none
    else
    some (Sum.inl (v5.1,v5.2.1,(aA .i64 v5.2.2.1 (1:Int)),v5.2.2.2.1,()))
    else
    Option.map Sum.inr (some (Sum.inl (v5.1,v5.2.1,v5.2.2.2.1,())))) (v3.1,false,(0:Int),v3.2.2.1,())
    else
    Option.map Sum.inr (some v3.2.2.1)) ((t:Int),b,out,())) λout=>Ly s0 out/\Ap c.bn s (xF s0 out)/\out.length<=1024 by
  have hfirst:=pT.first c.bn hs
  rw[hs0]at hfirst;have hb:=hfirst.lt;exact key 1024 s0 true [] hb hfirst (λh=>by cases h) (by simp;omega) trivial rfl
 intro n
 induction n with
 |zero=>intro t b out h;omega
 |succ n ih=>
  intro t b out ht hinv hb hout hso hsub;refine Yd.loop ?_
  cases b with
  |false=>
   simp only[Ql];refine Yd.inr (Yd.some ⟨hso,?_,by omega⟩)
   rw[hsub];exact hinv.done (hb rfl)
  |true=>
   simp only[Qk];rw[JF hinv.lt,Qa];have hlen:=zN t;rw[iF (oP t) (by omega) (λi (_:Unit)=>((t:Int),false,i,out,())) (λx (_:Unit)=>some (if !mC t (pG c.bn x.toNat)then .inr (Sum.inl ((c8 .i64 (t:Int) (bW .i64 (1:Int) x)),true,(out++[x]),()))else .inl ())) (λ_=>some (Sum.inl ((t:Int),false,out,()))) (λi x u hd hx hw=> ?_) (λu hd=> ?_) ()]
   ·rw[TS (f:=λx=> !mC t (pG c.bn x.toNat)) (hit:=λx=>Sum.inl ((c8 .i64 (t:Int) (bW .i64 (1:Int) x)),true,(out++[x]),())) (λx hx u=>rfl)]
    cases hu:pU c.bn t with
    |none=>
     rw[pU]at hu;rw[hu];refine Yd.some ?_;refine Yd.loop ?_;simp only[Ql];refine Yd.inr (Yd.some ⟨hso,?_,by omega⟩)
     rw[hsub];exact hinv.done hu
    |some x=>
     obtain⟨k,rfl,hk10,hkb,hks⟩:=CB hu;rw[pU]at hu;rw[hu];have hlb:=(Gm hinv.lt hkb).1;have hp:0<2 ^ k:=Nat.pow_pos (by omega)
     simp only;rw[U6 hk10 hlb hinv.lt];refine Yd.some (ih (t - 2 ^ k) true _ (by omega) (hinv.next hkb hks) (λh=>by cases h) (by simp;omega) (Ub hso hk10 (by rw[hsub];exact hlb)) (by rw[Ob,hsub];rfl))
   ·have hmem:x∈oP t:=by
     rw[bf]at hx;exact Q8 hx
    obtain⟨k,hk10,rfl,hkb⟩:=Dl.1 hmem;obtain⟨_,m,hm,_⟩:=Ab (hinv.sub k hkb).2;have h0:¬(k:Int)<0:=by omega
    simp only[hd,hx,hw,Qk,Qa,bf c.bn,hm,etas,CF hinv.lt (hc.aN m (Q8 hm)),h0,Qu,QV,BE hm];rw[bD (by simp;omega)]
    cases mC t m.aa<;>rfl
   ·simp only[hd,Ql]
def D0{c:bd}(hc:AX c){s:Nat}(hs:s<1024):k8 c s=some ((gq c.bn s:Nat):Int):=by
 unfold k8;rw[xJ hs,D1 hc.len];simp only[Qa,Qo,Ql];have hdl:=Ex c.bn;rw[EE s (ke c.bn) (by omega) (by omega)]
 obtain⟨out,h1,h2,h3,h4⟩:=ahh hc hs;rw[h1,Qa];rw[iF out (by omega) (λi (t:Int)=>(t,i,())) (λx (t:Int)=>if x<0 then none else some (.inl (c8 .i64 t (bW .i64 1 x)))) (λt=>some t) (λi x u hd hx hw=> ?_) (λu hd=> ?_) _]
 ·rw[<-h3.unique (Ia hc hs)];have hlt:s&&&ke c.bn<1024:=Nat.lt_of_le_of_lt Nat.and_le_left hs;generalize s&&&ke c.bn=t at h2 hlt;clear h1 h3 h4
  induction out generalizing t with
  |nil=>rfl
  |cons x l ih=>
   obtain⟨⟨k,rfl,hk,hle⟩,h2⟩:=h2
   grind [fK,U6,xF]
 ·grind
 ·simp only[hd,Ql]
end
section
structure td (l:List ak):Prop where
 len:l.length<=100000
 aN:∀e∈l,cU e.aa
def kD{e:ak}(h:bc e=true):0<=e.al/\e.al<10:=by simp only[bc,gX,Ae,Qm,Qi]at h;exact⟨h.1.1.1.1.1.1.1,h.1.1.1.1.1.1.2⟩
def jk:bj:=⟨false,⟨0,[],[]⟩⟩
 def fF(ms:List bj)(e:ak):List bj:=
 if bc e&& !((ms[e.al.toNat]?).any (·.ft))then ms.set e.al.toNat ⟨true,e.aa⟩else ms
 def kP(aF:Nat)(t:aj)(l:List ak):List bj:=l.foldl fF ((List.replicate 10 jk).set aF ⟨true,t⟩)
def zt(ms:List bj)(e:ak):(fF ms e).length=ms.length:=by
 unfold fF;split
 ·rw[QY]
 ·rfl
def Gg:∀(l:List ak) (ms:List bj),(l.foldl fF ms).length=ms.length
 |[],_=>rfl
 |e::l,ms=>by rw[QU,Gg l,zt]
def Jk(aF:Nat)(t:aj)(l:List ak):(kP aF t l).length=10:=by rw[kP,Gg,QY,List.length_replicate]
def UO{ms:List bj}(hl:ms.length=10){n:Int}(h0:0<=n)(h1:n<10):∃m,ms[n.toNat]?=some m/\idx ms n=some m:=by
 have:n.toNat<ms.length:=by omega
 exact⟨ms[n.toNat],Qv this,by rw[PH _ h0];exact Qv this⟩
def Y5{aF:Nat}(hn:aF<10){t:aj}(ht:cU t){l:List ak}(hl:td l):tz aF t l=some ⟨kP aF t l⟩:=by
 unfold tz
 have h1:(decide ((10:Int)<=10)&&decide ((0:Int)<=10)&&bh 64 (Int.toNat 10))=true:=by rw[bD (by decide)];rfl
 have h2:¬(aF:Int)<0:=by omega
 have h3:¬(10:Int)<=aF:=by omega
 rw[h1];simp only[Qk,h2,h3,decide_false,Ql,Qa,etas,ly ht,aS];obtain⟨m,hm1,hm2⟩:=UO (ms:=List.replicate 10 jk) (by simp) (n:=(aF:Int)) (by omega) (by omega)
 have e10:List.replicate (Int.toNat 10) (bj.mk false (aj.mk 0 [] []))=List.replicate 10 jk:=rfl;rw[e10,hm2,hm1,Qa,Qa];have hlen:=hl.len
 suffices key:∀(k i:Nat) (ms:List bj) (c:bd),i+k=l.length->ms.length=10->aE _ ((i:Int),c,ms,())=some (bd.mk ((l.drop i).foldl fF ms))by
  have:=key l.length 0 ((List.replicate 10 jk).set aF ⟨true,t⟩) ⟨[]⟩ (by omega) (by simp)
  simpa[kP]using this
 intro k
 induction k with
 |zero=>
  intro i ms c hi hms;obtain rfl:i=l.length:=by omega
  refine bM ?_;have hd:decide ((l.length:Int)<(l.length:Int))=false:=Qh (Qq64 _);simp only[hd,Ql,Qq66,List.foldl_nil]
 |succ k ih=>
  intro i ms c hi hms;have hlt:i<l.length:=by omega
  have hd:decide ((i:Int)<(l.length:Int))=true:=Qg (by omega)
  have hw:aA .i64 (i:Int) 1=((i+1:Nat):Int):=bG (by omega) (by omega)
  have hx:idx l (i:Int)=some l[i]:=by rw[bf];exact Qv hlt
  have hsm:=hl.aN _ (Q0 hlt);rw[QM hlt,QU];refine Eq.trans (bx (s':=(((i+1:Nat):Int),⟨[]⟩,fF ms l[i],())) ?_) (ih (i+1) _ _ (by omega) (by rw[zt];exact hms))
  simp only[hd,hx,hw,Qk,Qa,su hsm];unfold fF
  cases hv:bc l[i]with
  |false=>simp
  |true=>obtain⟨h4,h5⟩:=kD hv;obtain⟨m,hm1,hm2⟩:=UO hms h4 h5;simp only[Qk,hm1,hm2,Qa,ly hsm,Option.any_some,Bool.true_and];cases m.ft<;>simp
def Ba{aF:Nat}(hn:aF<10){t:aj}{l:List ak}(hl:td l):jo aF t l=some ⟨kP aF t l⟩:=by
 unfold jo
 have h1:(decide ((10:Int)<=10)&&decide ((0:Int)<=10)&&bh 64 (Int.toNat 10))=true:=by rw[bD (by decide)];rfl
 have h2:¬(aF:Int)<0:=by omega
 have h3:¬(9:Int)<aF:=by omega
 rw[h1];simp only[Qk,h2,h3,decide_false,Ql,Qa,etas,aS];obtain⟨m,hm1,hm2⟩:=UO (ms:=List.replicate 10 jk) (by simp) (n:=(aF:Int)) (by omega) (by omega)
 have e10:List.replicate (Int.toNat 10) (bj.mk false (aj.mk 0 [] []))=List.replicate 10 jk:=rfl;rw[e10,hm2,hm1,Qa,Qa];have hlen:=hl.len
 suffices key:∀(k i:Nat) (ms:List bj) (c:bd),i+k=l.length->ms.length=10->aE _ ((i:Int),c,ms,())=some (bd.mk ((l.drop i).foldl fF ms))by
  have:=key l.length 0 ((List.replicate 10 jk).set aF ⟨true,t⟩) ⟨[]⟩ (by omega) (by simp)
  simpa[kP]using this
 intro k
 induction k with
 |zero=>
  intro i ms c hi hms;obtain rfl:i=l.length:=by omega
  refine bM ?_;have hd:decide ((l.length:Int)<(l.length:Int))=false:=Qh (Qq64 _);simp only[hd,Ql,Qq66,List.foldl_nil]
 |succ k ih=>
  intro i ms c hi hms;have hlt:i<l.length:=by omega
  have hd:decide ((i:Int)<(l.length:Int))=true:=Qg (by omega)
  have hw:aA .i64 (i:Int) 1=((i+1:Nat):Int):=bG (by omega) (by omega)
  have hx:idx l (i:Int)=some l[i]:=by rw[bf];exact Qv hlt
  have hsm:=hl.aN _ (Q0 hlt);rw[QM hlt,QU];refine Eq.trans (bx (s':=(((i+1:Nat):Int),⟨[]⟩,fF ms l[i],())) ?_) (ih (i+1) _ _ (by omega) (by rw[zt];exact hms))
  simp only[hd,hx,hw,Qk,Qa,jZ hsm];unfold fF
  cases hv:bc l[i]with
  |false=>simp
  |true=>obtain⟨h4,h5⟩:=kD hv;obtain⟨m,hm1,hm2⟩:=UO hms h4 h5;simp only[Qk,hm1,hm2,Qa,Option.any_some,Bool.true_and];cases m.ft<;>simp
def oB{aF:Nat}{t:aj}(ht:cU t){l:List ak}(hl:td l):AX ⟨kP aF t l⟩:=by
 refine⟨by rw[Jk];omega,?_⟩
 have key:∀(l:List ak) (ms:List bj),(∀e∈l,cU e.aa)->(∀m∈ms,cU m.aa)->∀m∈l.foldl fF ms,cU m.aa:=by
  intro l
  induction l with
  |nil=>intro ms _ h;exact h
  |cons e l ih=>
   intro ms he h;rw[QU];refine ih _ (λe' h'=>he e' (by simp[h'])) λm hm=> ?_
   unfold fF at hm;split at hm
   ·rcases List.mem_or_eq_of_mem_set hm with hm|rfl
    ·exact h m hm
    ·exact he e (by simp)
   ·exact h m hm
 refine key l _ hl.aN λm hm=> ?_
 rcases List.mem_or_eq_of_mem_set hm with hm|rfl
 ·rw[List.eq_of_mem_replicate hm];exact .mk _ (by simp[jk]) (by simp[jk]) (by simp[jk])
 ·exact ht
 def c5(l:List ak):List ak:=l.filter bc
def acB{l:List ak}(hl:td l):sd l=some ((c5 l).map bK.mk):=by
 unfold sd;have hlen:=hl.len;simp only[aS]
 suffices key:∀(k i:Nat) (acc:List bK),i+k=l.length->acc=(c5 (l.take i)).map bK.mk->aE _ ((i:Int),acc,())=some ((c5 l).map bK.mk)from key l.length 0 [] (by omega) rfl
 intro k
 induction k with
 |zero=>
  intro i acc hi ha;obtain rfl:i=l.length:=by omega
  refine bM ?_;have hd:decide ((l.length:Int)<(l.length:Int))=false:=Qh (Qq64 _);simp only[hd,Ql,Qe,ha,Qq62]
 |succ k ih=>
  intro i acc hi ha;have hlt:i<l.length:=by omega
  have hd:decide ((i:Int)<(l.length:Int))=true:=Qg (by omega)
  have hw:aA .i64 (i:Int) 1=((i+1:Nat):Int):=bG (by omega) (by omega)
  have hx:idx l (i:Int)=some l[i]:=by rw[bf];exact Qv hlt
  have hsm:=hl.aN _ (Q0 hlt)
  have hal:acc.length<=i:=by rw[ha,QC];exact QK (List.length_filter_le _ _) (by rw[List.length_take];omega)
  refine Eq.trans (bx (s':=(((i+1:Nat):Int),(if bc l[i]then acc++[bK.mk l[i]]else acc),())) ?_) (ih (i+1) _ (by omega) ?_)
  ·simp only[hd,hx,hw,Qk,Qa,etas,su hsm];rw[bD (by simp;omega)]
   cases bc l[i]<;>simp
  ·rw[Q7 hlt,c5,List.filter_append,ha];cases hv:bc l[i]<;>simp[c5,hv]
def ff(p:ak->Bool):List ak->Nat
 |[]=>0
 |e::l=>(if p e then 2 ^ e.al.toNat else 0)|||ff p l
def AY(p:ak->Bool)(k:Nat):∀(l:List ak),(ff p l).testBit k=l.any λe=>p e&&decide (e.al.toNat=k)
 |[]=>by simp[ff]
 |e::l=>by rw[ff,Nat.testBit_or,AY p k l,List.any_cons];cases p e<;>simp[Nat.testBit_two_pow]
def xa(l:List ak):Prop:=∀e∈l,0<=e.al/\e.al<10
def nF(l:List ak):xa (c5 l):=λ_ he=>kD (List.mem_filter.1 he).2
def Df(l:List ak):(c5 l).length<=l.length:=List.length_filter_le _ _
def mO{p:ak->Bool}{l:List ak}(h:xa l):ff p l<1024:=Lh λk hk=>by rw[AY,List.any_eq_true]at hk;obtain⟨e,he,h1⟩:=hk;simp only[Qm,Qi]at h1;have:=h e he;omega
def He(p:ak->Bool)(l:List ak)(hin:xa l)(step:(Int×Int×Unit)->Option ((Int×Int×Unit)⊕Int))
  (h1:∀(i:Nat) (e:ak) (s:Int),l[i]?=some e->step (s,(i:Int),())=if p e then(if e.al<0 then none else some (.inl (sB .i64 s (bW .i64 1 e.al),((i+1:Nat):Int),())))else some (.inl (s,((i+1:Nat):Int),())))
  (h2:∀s:Int,step (s,(l.length:Int),())=some (.inr s)):aE step (0,0,())=some ((ff p l:Nat):Int):=by
 suffices key:∀(k i s:Nat),i+k=l.length->s<1024->aE step ((s:Int),(i:Int),())=some ((s|||ff p (l.drop i):Nat):Int)by
  have:=key l.length 0 0 (by omega) (by omega)
  simpa using this
 intro k
 induction k with
 |zero=>
  intro i s hi hs;obtain rfl:i=l.length:=by omega
  rw[bM (h2 s),Qq66,ff];simp
 |succ k ih=>
  intro i s hi hs;have hlt:i<l.length:=by omega
  have hm:=hin l[i] (Q0 hlt);rw[QM hlt,ff];have hst:=h1 i l[i] s (Qv hlt)
  cases hp:p l[i]with
  |false=>
   rw[hp]at hst;rw[bx hst,ih (i+1) s (by omega) hs]
   simp
  |true=>
   rw[hp,Qr rfl,Qs (by omega),qO hs hm.1 hm.2]at hst
   rw[bx hst,ih (i+1) _ (by omega) (BJ hs hm.2)]
   simp[Nat.or_assoc]
def MQ{v:bd}{aF:Int}{l:List ak}(hl:l.length<=1000000)(hin:xa l)(b:ah):jL ⟨aF,v,l.map bK.mk⟩ b=some ((ff (et · b) l:Nat):Int):=by
 unfold jL;refine He (et · b) l hin _ (λi e s he=> ?_) (λs=> ?_)
 ·have hlt:i<l.length:=(Qw.1 he).1;have hd:decide ((i:Int)<(((l.map bK.mk).length:Nat):Int))=true:=Qg (by rw[QC];omega)
  have hw:aA .i64 (i:Int) 1=((i+1:Nat):Int):=bG (by omega) (by omega)
  have hx:idx (l.map bK.mk) (i:Int)=some ⟨e⟩:=by rw[bf,QT,he];rfl
  simp only[hd,hx,hw,Qk,Qa,etas,mK,vG,aS];cases et e b<;>simp
 ·have hd:decide ((l.length:Int)<(((l.map bK.mk).length:Nat):Int))=false:=Qh (by rw[QC];exact Qq64 _)
  simp only[hd,Ql,Qe]
def aaF{v:bd}{aF:Int}{l:List ak}(hl:l.length<=1000000)(hin:xa l)(b:ah):gS ⟨aF,v,l.map bK.mk⟩ b b=some ((ff (λe=>sP e b||et e b) l:Nat):Int):=by
 unfold gS;refine He (λe=>sP e b||et e b) l hin _ (λi e s he=> ?_) (λs=> ?_)
 ·have hlt:i<l.length:=(Qw.1 he).1;have hd:decide ((i:Int)<(((l.map bK.mk).length:Nat):Int))=true:=Qg (by rw[QC];omega)
  have hw:aA .i64 (i:Int) 1=((i+1:Nat):Int):=bG (by omega) (by omega)
  have hx:idx (l.map bK.mk) (i:Int)=some ⟨e⟩:=by rw[bf,QT,he];rfl
  simp only[hd,hx,hw,Qk,Qa,etas,ak.eta,jS,mK,sA,vG,EX,aS,iN,Bool.cond_true_left];cases (sP e b||et e b)<;>simp
 ·have hd:decide ((l.length:Int)<(((l.map bK.mk).length:Nat):Int))=false:=Qh (by rw[QC];exact Qq64 _)
  simp only[hd,Ql,Qe]
 def rG(ms:List bj)(v dv accepts:Nat):Bool:=Bz ms v accepts||(gq ms (dv|||accepts)).testBit v
def CL{c:bd}(hc:AX c){v dv accepts:Nat}(hv:v<10)(h1:dv<1024)(h2:accepts<1024):iS c v dv accepts=some (rG c.bn v dv accepts):=by
 unfold iS rG;have h3:dv|||accepts<1024:=Nat.or_lt_two_pow (n:=10) h1 h2
 rw[Dc h1,Dc h2,Ue hc h2,Gy dv accepts (by omega) (by omega),MR hc h3]
 simp[uf (Ia hc h3).lt,yL,hv]
def Bt{c:bd}(hc:AX c){v accepts:Nat}(hv:v<10)(h2:accepts<1024):fq c v accepts=some ((gq c.bn accepts).testBit v):=by
 unfold fq;rw[MR hc h2];simp[uf (Ia hc h2).lt,yL,hv]
 def pD(aF:Nat)(t:aj)(l:List ak)(b:ah):Bool:=
 rG (kP aF t l) aF (ff (λe=>sP e b||et e b) (c5 l)) (ff (et · b) (c5 l))
 def nG(aF:Nat)(t:aj)(l:List ak)(b:ah):Bool:=
 (gq (kP aF t l) (ff (et · b) (c5 l))).testBit aF
def SR{aF:Nat}(hn:aF<10){t:aj}(ht:cU t){l:List ak}(hl:td l):fW aF t l=some ⟨aF,⟨kP aF t l⟩,(c5 l).map bK.mk⟩:=by unfold fW;simp only[etas,Y5 hn ht hl,acB hl,Qa]
end
section
def aee{α:Type}{l l':List α}(h:l.Perm l')(p:α->Bool):l.any p=l'.any p:=by rw[QW,List.any_eq_true,List.any_eq_true];exact⟨λ⟨x,h1,h2⟩=>⟨x,h.mem_iff.1 h1,h2⟩,λ⟨x,h1,h2⟩=>⟨x,h.mem_iff.2 h1,h2⟩⟩
def aaQ{l l':List ak}(h:l.Perm l')(p:ak->Bool):ff p l=ff p l':=DK λk=>by rw[AY,AY,aee h]
def XE{l l':List ak}(h:l.Perm l'):(c5 l).Perm (c5 l'):=h.filter _
def B0(l:List ak):Prop:=∀a∈l,∀b∈l,a.al=b.al->a=b
def B0.perm{l l':List ak}(h:B0 l)(hp:l.Perm l'):B0 l':=λa ha b hb=>h a (hp.mem_iff.2 ha) b (hp.mem_iff.2 hb)
 def pZ(l:List ak)(k:Nat):Option ak:=l.find? λe=>bc e&&decide (e.al.toNat=k)
def FN{l:List ak}{k:Nat}{e:ak}(h:pZ l k=some e):e∈l/\bc e=true/\e.al=k:=by unfold pZ at h;have h1:=List.mem_of_find?_eq_some h;have h2:=List.find?_some h;simp only[Qm,Qi]at h2;have:=kD h2.1;exact⟨h1,h2.1,by omega⟩
def O0{l:List ak}(ha:B0 l){k:Nat}{e:ak}(h1:e∈l)(h2:bc e=true)(h3:e.al=k):pZ l k=some e:=by
 cases h:pZ l k with
 |none=>unfold pZ at h;rw[List.find?_eq_none]at h;have:=h e h1;simp[h2,h3]at this
 |some e'=>obtain⟨g1,g2,g3⟩:=FN h;rw[ha e' g1 e h1 (by omega)]
def XM{l l':List ak}(ha:B0 l)(h:l.Perm l')(k:Nat):pZ l k=pZ l' k:=by
 cases h1:pZ l k with
 |some e=>obtain⟨g1,g2,g3⟩:=FN h1;exact(O0 (ha.perm h) (h.mem_iff.1 g1) g2 g3).symm
 |none=>
  cases h2:pZ l' k with
  |none=>rfl
  |some e=>obtain⟨g1,g2,g3⟩:=FN h2;rw[O0 ha (h.mem_iff.2 g1) g2 g3]at h1;cases h1
def SY:∀(l:List ak) (ms:List bj),ms.length=10->(∀m∈ms,m.ft=false->m=jk)->∀k,k<10->(l.foldl fF ms)[k]?=some (match ms[k]? with
  |some m=>if m.ft then m else(match pZ l k with
   |some e=>⟨true,e.aa⟩
   |none=>jk)
  |none=>jk)
 |[],ms,hl,hn,k,hk=>by
  have hk':k<ms.length:=by omega
  rw[List.foldl_nil,Qv hk']
  cases hd:ms[k].ft with
  |true=>simp[hd]
  |false=>have:=hn _ (Q0 hk') hd;simp[pZ,this]
 |e::l,ms,hl,hn,k,hk=>by
  have hk':k<ms.length:=by omega
  rw[QU];have hlen:(fF ms e).length=10:=by rw[zt];exact hl
  have hn':∀m∈fF ms e,m.ft=false->m=jk:=by
   unfold fF;split
   ·intro m hm hd;rcases List.mem_or_eq_of_mem_set hm with hm|rfl
    ·exact hn m hm hd
    ·cases hd
   ·exact hn
  rw[SY l (fF ms e) hlen hn' k hk];congr 1
  have hof:pZ (e::l) k=if(bc e&&decide (e.al.toNat=k))=true then some e else pZ l k:=by unfold pZ;rw[List.find?_cons];cases bc e&&decide (e.al.toNat=k)<;>rfl
  rw[hof];unfold fF
  by_cases hv:bc e=true
  ·have hnode:=kD hv;have hi:e.al.toNat<ms.length:=by omega
   rw[hv,Bool.true_and,Bool.true_and]
   by_cases hke:e.al.toNat=k
   ·subst hke;rw[Qv hi]
    cases hd:ms[e.al.toNat].ft with
    |true=>simp[hd,Qv hi]
    |false=>simp[hd,hi]
   ·have hne:decide (e.al.toNat=k)=false:=Qh hke
    have hset:∀c:Bool,(if c=true then ms.set e.al.toNat ⟨true,e.aa⟩else ms)[k]?=ms[k]?:=λc=>by
     cases c
     ·rfl
     ·rw[Qr rfl,List.getElem?_set_ne hke]
    rw[hne,hset];simp
  ·have hv':bc e=false:=by simpa using hv
   simp[hv']
def Jj{aF:Nat}(hn:aF<10)(t:aj)(l:List ak){k:Nat}(hk:k<10):(kP aF t l)[k]?=some (if k=aF then⟨true,t⟩else match pZ l k with
  |some e=>⟨true,e.aa⟩
  |none=>jk):=by
 rw[kP,SY l _ (by simp) (λm hm hd=> ?_) k hk]
 ·by_cases h:k=aF
  ·subst h;simp[hn]
  ·rw[List.getElem?_set_ne (λe=>h e.symm),List.getElem?_replicate,Qr hk]
   simp[h,jk]
 ·rcases List.mem_or_eq_of_mem_set hm with hm|rfl
  ·exact(List.mem_replicate.1 hm).2
  ·cases hd
def Za{aF:Nat}(hn:aF<10)(t:aj){l l':List ak}(ha:B0 l)(h:l.Perm l'):kP aF t l=kP aF t l':=by
 refine List.ext_getElem? λk=> ?_
 by_cases hk:k<10
 ·rw[Jj hn t l hk,Jj hn t l' hk,XM ha h]
 ·rw[Qq72 (by rw[Jk];omega),Qq72 (by rw[Jk];omega)]
end
section
def acr{τ ρ:Type}(n:Nat)(mk:Int->τ){step:τ->Option (τ⊕ρ)}{fin:Option ρ}(h1:∀i:Nat,i<n->step (mk (i:Int))=some (.inl (mk ((i+1:Nat):Int))))(h2:step (mk (n:Int))=Option.map Sum.inr fin):aE step (mk 0)=fin:=by
 suffices key:∀(k i:Nat),i+k=n->aE step (mk (i:Int))=fin from key n 0 (by omega)
 intro k
 induction k with
 |zero=>
  intro i hi;obtain rfl:i=n:=by omega
  rw[fg,h2];cases fin<;>rfl
 |succ k ih=>exact λi hi=>(bx (h1 i (by omega))).trans (ih (i+1) (by omega))
def aa1{ρ:Type}(n:Nat)(hn:n<=1000000){fin:Option ρ}{step:Int×Unit->Option ((Int×Unit)⊕ρ)}
  (h1:∀i:Nat,i<n->decide ((i:Int)<((n:Nat):Int))=true->aA .i64 (i:Int) 1=((i+1:Nat):Int)->step ((i:Int),())=some (.inl (((i+1:Nat):Int),())))
  (h2:decide (((n:Nat):Int)<((n:Nat):Int))=false->step ((n:Int),())=Option.map Sum.inr fin):aE step (0,())=fin:=
 acr n (λi=>(i,())) (λi hi=>h1 i hi (Qg (by omega)) (bG (by omega) (by omega))) (h2 (Qh (Qq64 _)))
end
section
def Ic:List UInt8->Nat
 |[]=>0
 |a::l=>a.toNat*256 ^ l.length+Ic l
def Lt:∀l:List UInt8,Ic l<256 ^ l.length
 |[]=>by simp[Ic]
 |a::l=>by have h1:=Lt l;have h2:a.toNat<256:=a.toNat_lt;rw[Ic,QE,Nat.pow_succ];have h3:(a.toNat+1)*256 ^ l.length<=256*256 ^ l.length:=Qq63 _ h2;rw[Qq73,Nat.one_mul,Nat.mul_comm 256]at h3;omega
def aco:∀{x y:List UInt8},x.length=y.length->Op.bytesLess x y=true->Ic x<Ic y
 |[],[],_,h=>by simp[Op.bytesLess]at h
 |[],_::_,hl,_=>by simp at hl
 |_::_,[],hl,_=>by simp at hl
 |a::x,b::y,hl,h=>by
  simp only[QE,Nat.add_right_cancel_iff]at hl;simp only[Op.bytesLess,Qn,Qi,Qm,beq_iff_eq]at h;rw[Ic,Ic,hl];rcases h with h|⟨rfl,h⟩
  ·have h1:=Lt x;rw[hl]at h1;have h2:a.toNat<b.toNat:=UInt8.lt_iff_toNat_lt.1 h;have h3:(a.toNat+1)*256 ^ y.length<=b.toNat*256 ^ y.length:=Qq63 _ h2;rw[Qq73,Nat.one_mul]at h3;omega
  ·have:=aco hl h;omega
def WV:Nat:=256 ^ 201
def SH(v:ByteArray):Nat:=v.size*256 ^ 200+Ic v.toList
def toList_len(v:ByteArray):v.toList.length=v.size:=by rw[Lib.toList_data];cases v;simp[ByteArray.size]
def abh{a b:Nat}(h:a<=b):(256:Nat) ^ a<=256 ^ b:=Nat.pow_le_pow_right (by omega) h
def YT{v:ByteArray}(h:v.size<=200):SH v<WV:=by
 have h1:=Lt v.toList;rw[toList_len]at h1;have h2:=abh h;have h3:v.size*256 ^ 200<=200*256 ^ 200:=Qq63 _ h;have h4:WV=256*256 ^ 200:=by rw[WV,Nat.pow_succ,Nat.mul_comm]
 unfold SH;rw[h4];generalize (256:Nat) ^ 200=Z at*;omega
def abI{a b:ByteArray}(hb:b.size<=200)(h:bP a b=true):SH a<SH b:=by
 unfold bP at h;unfold SH
 by_cases hs:a.size=b.size
 ·rw[Qr hs]at h;have:=aco (x:=a.toList) (y:=b.toList) (by rw[toList_len,toList_len,hs]) h
  rw[hs];omega
 ·rw[Qs hs,Qi]at h;have h1:=Lt a.toList;rw[toList_len]at h1;have h2:=abh (show a.size<=200 by omega)
  have h3:(a.size+1)*256 ^ 200<=b.size*256 ^ 200:=Qq63 _ h;rw[Qq73,Nat.one_mul]at h3;generalize (256:Nat) ^ 200=Z at*;omega
def Sm(b:ah):Prop:=0<=b.ai/\b.ai<=1000/\b.Value.size<=200
def pn(b:ah):Nat:=b.ai.toNat*WV+SH b.Value
def WB:Nat:=1001*WV
def s8{b:ah}(h:Sm b):pn b<WB:=by
 obtain⟨h1,h2,h3⟩:=h;have h4:=YT h3;unfold pn WB;have h5:b.ai.toNat*WV<=1000*WV:=Qq63 _ (by omega)
 generalize WV=Z at*;omega
def zf{a b:ah}(ha:Sm a)(hb:Sm b)(h:bC a b=true):pn a<pn b:=by
 unfold bC at h;unfold pn
 by_cases hc:a.ai=b.ai
 ·rw[Qr hc]at h;have:=abI hb.2.2 h;rw[hc];omega
 ·rw[Qs hc,Qi]at h;have h1:=YT ha.2.2;have h2:=ha.1;have h3:(a.ai.toNat+1)*WV<=b.ai.toNat*WV:=Qq63 _ (by omega)
  rw[Qq73,Nat.one_mul]at h3;generalize WV=Z at*;omega
def Yd.down{σ ρ:Type}{step:σ->Option (σ⊕ρ)}{p:ρ->Prop}(inv:σ->Prop)(μ:σ->Nat)(h:∀s,inv s->Yd (step s) λy=>match y with| .inl s'=>inv s'/\μ s'<μ s| .inr r=>p r){s:σ}(hs:inv s):Yd (aE step s) p:=by
 suffices key:∀(n:Nat) (s:σ),μ s<n->inv s->Yd (aE step s) p from key _ s (Nat.lt_succ_self _) hs
 intro n
 induction n with
 |zero=>intro s h0;omega
 |succ n ih=>
  intro s hn hi;refine Yd.loop ((h s hi).mono λy hy=> ?_)
  cases y with
  |inl s'=>exact ih s' (by have:=hy.2;omega) hy.1
  |inr r=>exact hy
end
section
def cg:ah:=⟨0,gy⟩
def fE(m:ab):Int:=if(!aP m.ax&&bR m.ax m.af)=true then m.ax.ai else 0
def dg(m:ab):ak:=
 if m.aQ=1 then⟨m.al,m.aK,m.aH,m.aa,m.aQ,m.af,m.ao,m.aD,m.aZ,fE m⟩
 else if m.aQ=2 then⟨m.al,m.aK,m.aH,m.aa,m.aQ,m.af,m.ao,cg,m.aZ,m.bq⟩
 else⟨m.al,m.aK,m.aH,m.aa,m.aQ,m.af,cg,cg,m.aZ,m.bq⟩
def zi(m:ab):(dg m).al=m.al:=by unfold dg;split<;>(try split)<;>rfl
def Fs(m:ab):(dg m).aK=m.aK:=by unfold dg;split<;>(try split)<;>rfl
def Wx(m:ab):(dg m).aH=m.aH:=by unfold dg;split<;>(try split)<;>rfl
def ug(m:ab):(dg m).aa=m.aa:=by unfold dg;split<;>(try split)<;>rfl
def ab2(m:ab):(dg m).bA=m.aQ:=by unfold dg;split<;>(try split)<;>rfl
def Aj(m:ab):ik m=some (dg m):=by
 unfold ik dg fE;simp only[aS,etas,c7,gK,Qa]
 by_cases h1:m.aQ=1
 ·rw[Qg h1,Qr h1];cases aP m.ax<;>cases bR m.ax m.af<;>rfl
 ·rw[Qh h1,Qs h1]
  by_cases h2:m.aQ=2
  ·rw[Qg h2,Qr h2];rfl
  ·rw[Qh h2,Qs h2];rfl
def jj(m:ab):ak:={dg m with aH:=bF (dg m).aH 1}
def Ac(e:ak):List ak->List ak
 |[]=>[e]
 |x::l=>if e.al<x.al then e::x::l else x::Ac e l
def Fo(e:ak):∀l,(Ac e l).Perm (l++[e])
 |[]=> .refl _
 |x::l=>by
  unfold Ac;split
  ·exact(List.perm_append_singleton e (x::l)).symm
  ·exact(Fo e l).cons x
def bN(m:ab):List ak:=if aP m.af=true then m.ar else Ac (jj m) m.ar
def Rn{m:ab}(h:m.ar.length<=1000):lQ m=some (bN m):=by
 unfold lQ bN;simp only[etas,c7,Aj,Qa]
 cases aP m.af with
 |true=>rfl
 |false=>
  simp only[Ql,Qq,Qu];have hown:ak.mk (dg m).al (dg m).aK (bF (dg m).aH 1) (dg m).aa (dg m).bA (dg m).af (dg m).ao (dg m).aD (dg m).aZ (dg m).bq=jj m:=rfl;have hnode:(dg m).al=(jj m).al:=rfl;rw[hown,hnode];generalize jj m=e
  suffices key:∀(k i:Nat) (b:Bool) (o:List ak),i+k=m.ar.length->o.length<=i+(bif b then 1 else 0)->aE _ (b,(i:Int),o,())=some (o++if b=true then m.ar.drop i else Ac e (m.ar.drop i))from(key m.ar.length 0 false [] (by omega) (by simp)).trans (by simp)
  intro k
  induction k with
  |zero=>
   intro i b o hi ho;obtain rfl:i=m.ar.length:=by omega
   have hd:decide ((m.ar.length:Int)<(m.ar.length:Int))=false:=Qh (Qq64 _);refine bM ?_;rw[Qq66];simp only[hd,Ql,aS]
   cases b with
   |true=>simp
   |false=>
    simp only[Ql]at ho;rw[bD (by simp;omega)]
    simp[Ac]
  |succ k ih=>
   intro i b o hi ho;have hlt:i<m.ar.length:=by omega
   have hd:decide ((i:Int)<(m.ar.length:Int))=true:=Qg (by omega)
   have hw:aA .i64 (i:Int) 1=((i+1:Nat):Int):=bG (by omega) (by omega)
   have hx:idx m.ar (i:Int)=some m.ar[i]:=by rw[bf];exact Qv hlt
   rw[QM hlt]
   cases b with
   |true=>
    simp only[Qk]at ho;have:=ih (i+1) true (o++[m.ar[i]]) (by omega) (by simp;omega)
    simp only[Qt]at this ⊢;rw[show o++m.ar[i]::m.ar.drop (i+1)=(o++[m.ar[i]])++m.ar.drop (i+1)by simp]
    refine Eq.trans (bx ?_) this;simp only[hd,hx,hw,Qk,aS,Qa,Qo,Ql];rw[bD (by simp;omega),Qk]
   |false=>
    simp only[Ql]at ho
    by_cases hn:e.al<m.ar[i].al
    ·have:=ih (i+1) true (o++[e]++[m.ar[i]]) (by omega) (by simp;omega)
     simp only[Qt,Qq,Qu]at this ⊢;rw[Ac,Qr hn,show o++e::m.ar[i]::m.ar.drop (i+1)=(o++[e]++[m.ar[i]])++m.ar.drop (i+1)by simp]
     refine Eq.trans (bx ?_) this;simp only[hd,hx,hw,Qk,aS,Qa,Qp,Qg hn];rw[bD (by simp;omega),Qk,bD (by simp;omega),Qk]
    ·have:=ih (i+1) false (o++[m.ar[i]]) (by omega) (by simp;omega)
     simp only[Qq,Qu]at this ⊢;rw[Ac,Qs hn,show o++m.ar[i]::Ac e (m.ar.drop (i+1))=(o++[m.ar[i]])++Ac e (m.ar.drop (i+1))by simp]
     refine Eq.trans (bx ?_) this;simp only[hd,hx,hw,Qk,aS,Qa,Qp,Qh hn,Ql];rw[bD (by simp;omega),Qk]
def Hs(a b:ah):Bool:=decide (a.ai=b.ai)&&decide (a.Value=b.Value)
def Tg{a b:ah}:Hs a b=true↔a=b:=by cases a;cases b;simp[Hs]
def E8(a b:ab):Bool:=decide (a.aQ=b.aQ)&&Hs a.af b.af&&Hs a.ao b.ao&&Hs a.aD b.aD&&Hs a.ax b.ax&&decide (a.aZ=b.aZ)&&decide (a.bq=b.bq)
def adX(a b:Bool):(bif a then b else false)=(a&&b):=by cases a<;>rfl
def ahx(a b:ab):kH a b=some (E8 a b):=by unfold kH E8 Hs;simp only[Co,Qa,iN,adX]
end
section
def yc(v:ByteArray)(n:Int)(x:ah):Int:=
 if(cP x&&eO x ⟨n,v⟩)=true then(if eO x ⟨x.ai,v⟩=true then x.ai+1 else x.ai)else n
def lL(v:ByteArray)(n:Int)(p q:ah):Int:=yc v (yc v (bF n 1) p) q
def VJ(v:ByteArray)(n:Int)(p q:ah):tw v n p q=some (lL v n p q):=by
 unfold tw lL;generalize bF n 1=k
 have hst:∀(i:Nat) (x:ah) (k:Int),i<2->[p,q][i]?=some x->
   (λ(v1:Int×Int×Unit)=>
    bif (decide (v1.2.1<(2:Int)))then
    aY (λ(v2:Int×Unit)=>some (Sum.inl (v2.1,(aA .i64 v1.2.1 (1:Int)),v2.2))) λj3=>
    Option.bind (idx [p,q] v1.2.1) λx4=>
    Option.bind (ju x4) λr5=>
    Option.bind (bif r5 then Option.bind (gL x4 (ah.mk v1.1 v)) λr6=>some r6 else some false) λb7=>
    bif b7 then Option.bind (gL x4 (ah.mk x4.ai v)) λr8=>bif r8 then j3 ((aA .i64 x4.ai (1:Int)),())else j3 (x4.ai,())
    else j3 (v1.1,())
    else(Option.map Sum.inr (some v1.1):Option ((Int×Int×Unit)⊕Int))) (k,(i:Int),())=some (Sum.inl (yc v k x,((i+1:Nat):Int),())):=by
  intro i x k hi hx;have hd:decide ((i:Int)<2)=true:=Qg (by omega)
  have hw:aA .i64 (i:Int) 1=((i+1:Nat):Int):=bG (by omega) (by omega)
  have hx':idx [p,q] (i:Int)=some x:=by rw[bf];exact hx
  simp only[hd,hw,hx',Qk,aS,Qa,yT,C7];unfold yc
  cases hv:cP x with
  |false=>simp
  |true=>
   have hc:aA .i64 x.ai 1=x.ai+1:=by
    have:1<=x.ai/\x.ai<=1000000:=by simp only[cP,Qm,Qn,Qi]at hv;omega
    exact bG (by omega) (by omega)
   cases h1:eO x ⟨k,v⟩with
   |false=>simp
   |true=>cases h2:eO x ⟨x.ai,v⟩<;>simp[hc]
 refine(bx (hst 0 p k (by omega) rfl)).trans ((bx (hst 1 q _ (by omega) rfl)).trans (bM ?_))
 rfl
def adK(b:ah):tq b=some (if 1000<b.ai then⟨1000,b.Value⟩else b):=by
 unfold tq
 by_cases h:1000<b.ai
 ·simp[h]
 ·simp[h]
end
section
def ZW{lo k:Int}{v:ByteArray}{p:ah}(h:lo<=k)(hl:bC ⟨k,v⟩ p=true):bC ⟨lo,v⟩ p=true:=by
 unfold bC at hl ⊢;simp only at hl ⊢
 by_cases h1:lo=k
 ·rw[h1];exact hl
 ·have h2:lo<p.ai:=by
   split at hl
   ·omega
   ·simp only[Qi]at hl;omega
  rw[Qs (by omega)]
  simpa using h2
def X5{lo k:Int}{v:ByteArray}{p:ah}(h:lo<=k)(ha:eO p ⟨lo,v⟩=false):eO p ⟨k,v⟩=false:=by
 cases hk:eO p ⟨k,v⟩with
 |false=>rfl
 |true=>simp only[eO,Qm,bR]at hk;simp only[eO,bR,hk.1.1,hk.1.2,ZW h hk.2]at ha;cases ha
def lV(p b:ah):jJ p b=true↔aP p=false/\p.Value=b.Value/\b.ai<=p.ai:=by simp[jJ,bR,and_assoc]
def O7{b:ah}(h:1<=b.ai):aP b=false:=by
 have:¬b.ai=0:=by omega
 simp[aP,this]
end
section
def ae5{n:Nat}(h:n<1000000):br .u64 (n:Int)=n:=by unfold br IntKind.wrap;simp[IntKind.signed,IntKind.bits];omega
def vE(b p:ah)(j:Nat)(t:aj):ak:=⟨j,1,1,t,1,b,p,⟨0,bE⟩,0,0⟩
structure Xq (b:ah):Prop where
 lo:1<=b.ai
 hi:b.ai<=6
 val:Rp b.Value
def Xq.valid{b:ah}(h:Xq b):cP b=true:=Jl h.lo (by have:=h.hi;omega) h.val
def Xq.nz{b:ah}(h:Xq b):aP b=false:=O7 h.lo
def Zp{l:List ak}(h:∀e∈l,bc e=true):c5 l=l:=List.filter_eq_self.2 h
end
section
def AL(b p:ah)(ts:List aj)(q n:Nat)(l:List ak):Prop:=
 l.length<=n/\(∀e∈l,∃i t,i<n/\q.testBit i=true/\ts[i]?=some t/\e=vE b p i t)/\∀i t,i<n->q.testBit i=true->ts[i]?=some t->vE b p i t∈l
def AL.nil(b p:ah)(ts:List aj)(q:Nat):AL b p ts q 0 []:=⟨by simp,by simp,λi t h=>by omega⟩
def AL.skip{b p:ah}{ts:List aj}{q n:Nat}{l:List ak}(h:AL b p ts q n l)(hq:q.testBit n=false):AL b p ts q (n+1) l:=by
 obtain⟨h1,h2,h3⟩:=h;refine⟨by omega,λe he=> ?_,λi t hi hb ht=> ?_⟩
 ·obtain⟨i,t,a,b,c⟩:=h2 e he;exact⟨i,t,by omega,b,c⟩
 ·rcases Nat.lt_or_ge i n with h|h
  ·exact h3 i t h hb ht
  ·obtain rfl:i=n:=by omega
   rw[hq]at hb;cases hb
def AL.take{b p:ah}{ts:List aj}{q n:Nat}{l:List ak}(h:AL b p ts q n l)(hq:q.testBit n=true){t:aj}(ht:ts[n]?=some t):AL b p ts q (n+1) (l++[vE b p n t]):=by
 obtain⟨h1,h2,h3⟩:=h;refine⟨by simp;omega,λe he=> ?_,λi t' hi hb ht'=> ?_⟩
 ·rcases Qz.1 he with he|he
  ·obtain⟨i,t,a,b,c⟩:=h2 e he;exact⟨i,t,by omega,b,c⟩
  ·simp only[Q5]at he;exact⟨n,t,by omega,hq,ht,he⟩
 ·rcases Nat.lt_or_ge i n with h|h
  ·exact Qz.2 (.inl (h3 i t' h hb ht'))
  ·obtain rfl:i=n:=by omega
   rw[ht]at ht';injection ht' with ht'
   subst ht';exact Qz.2 (.inr (by simp))
section
variable {b p : ah} (hb : Xq b) (hp : aP p = true \/ cP p = true) {ts : List aj} (hts : ∀ t ∈ ts, dt t) {q : Nat} {l : List ak} (hlen : ts.length <= 5) (hc : AL b p ts q ts.length l)
 include hb hp hts hlen hc
end
end
section
section
variable {α : Type}
structure SWO (lt:α->α->Bool):Prop where
 asymm:∀x y,lt x y=true->lt y x=false
 trans:∀x y z,lt y x=false->lt z y=false->lt z x=false
end
end
section
section
variable {α : Type}
 def WN(eq ne:α->α->Bool)(z:α)(K:Int)(n:Nat)(v6:Int×Int×(List α)×Unit):Option ((Int×Int×(List α)×Unit)⊕((Int×(List α)×Unit)⊕List α)):=
 bif (decide (v6.2.1<((List.length ((v6.2.2.1.drop (Int.toNat K)).take (Int.toNat (n:Int) - Int.toNat K)):Nat):Int)))then
 aY (λ(v7:Int×(List α)×Unit)=>
 some (Sum.inl (v7.1,(aA .i64 v6.2.1 (1:Int)),v7.2.1,()))) λj8=>
 Option.bind (idx ((v6.2.2.1.drop (Int.toNat K)).take (Int.toNat (n:Int) - Int.toNat K)) v6.2.1) λx9=>
 Option.bind (v6.2.2.1[((Int.toNat K)+Int.toNat v6.2.1)]?) λx10=>
 Option.bind (idx ((v6.2.2.1.drop (Int.toNat K)).take (Int.toNat (n:Int) - Int.toNat K)) (c8 .i64 v6.2.1 (1:Int))) λx11=>
 Option.bind (v6.2.2.1[((Int.toNat K)+Int.toNat (c8 .i64 v6.2.1 (1:Int)))]?) λx12=>
 bif (ne x10 x12)then
 Option.bind (idx ((v6.2.2.1.drop (Int.toNat K)).take (Int.toNat (n:Int) - Int.toNat K)) v6.2.1) λx13=>
 Option.bind (v6.2.2.1[((Int.toNat K)+Int.toNat v6.2.1)]?) λx14=>
 Option.bind (idx v6.2.2.1 v6.1) λx15=>
 Option.bind (v6.2.2.1[(Int.toNat v6.1)]?) λx16=>
 j8 ((aA .i64 v6.1 (1:Int)),(v6.2.2.1.set (Int.toNat v6.1) x14),())
 else
 j8 (v6.1,v6.2.2.1,())
 else
 Option.map Sum.inr (bif cD v6.1 ((List.length v6.2.2.1):Int) (List.length v6.2.2.1)then
 bif cD (0:Int) v6.1 (List.length (v6.2.2.1.take (Int.toNat v6.1)++List.replicate (Int.toNat ((List.length v6.2.2.1):Int) - Int.toNat v6.1) z++v6.2.2.1.drop ((Int.toNat v6.1)+(Int.toNat ((List.length v6.2.2.1):Int) - Int.toNat v6.1))))then
 Option.map Sum.inr (some ((v6.2.2.1.take (Int.toNat v6.1)++List.replicate (Int.toNat ((List.length v6.2.2.1):Int) - Int.toNat v6.1) z++v6.2.2.1.drop ((Int.toNat v6.1)+(Int.toNat ((List.length v6.2.2.1):Int) - Int.toNat v6.1))).take (Int.toNat v6.1 - Int.toNat (0:Int))))
 else none
 else none)
 def Ra(eq ne:α->α->Bool)(z:α)(v1:Int×(List α)×Unit):Option ((Int×(List α)×Unit)⊕List α):=
 bif (decide (v1.1<((List.length v1.2.1:Nat):Int)))then
 Option.bind (idx v1.2.1 v1.1) λx2=>
 Option.bind (v1.2.1[(Int.toNat v1.1)]?) λx3=>
 Option.bind (idx v1.2.1 (c8 .i64 v1.1 (1:Int))) λx4=>
 Option.bind (v1.2.1[(Int.toNat (c8 .i64 v1.1 (1:Int)))]?) λx5=>
 bif (eq x3 x5)then
 bif cD v1.1 ((List.length v1.2.1):Int) (List.length v1.2.1)then
 aE (WN eq ne z v1.1 (List.length v1.2.1)) (v1.1,(1:Int),v1.2.1,())
 else none
 else
 some (Sum.inl ((aA .i64 v1.1 (1:Int)),v1.2.1,()))
 else
 Option.map Sum.inr (some v1.2.1)
 def NK(eq ne:α->α->Bool)(z:α)(s:List α):Option (List α):=
 bif (decide (((List.length s:Nat):Int)<(2:Int)))then
 some s
 else
 aE (Ra eq ne z) ((1:Int),s,())
def UY(d:List α){K n m:Nat}(hm:m<n - K):idx ((d.drop K).take (n - K)) (m:Int)=d[K+m]?:=by grind [bf]
variable [DecidableEq α]
def s9(acc:List α)(x:α):List α:=if acc.getLast?=some x then acc else acc++[x]
def dd(l:List α):List α:=l.foldl s9 []
theorem YY(l:List α)(x:α):dd (l++[x])=s9 (dd l) x:=by simp[dd,List.foldl_append]
theorem agP(l:List α):(dd l).getLast?=l.getLast?:=by
 suffices h:∀r:List α,(dd r.reverse).getLast?=r.reverse.getLast? by
  have:=h l.reverse
  rwa [List.reverse_reverse]at this
 intro r
 induction r with
 |nil=>rfl
 |cons x r ih=>grind [YY,s9]
def YX{s:List α}{k:Nat}{x:α}(h:s[k]?=some x):dd (s.take (k+1))=s9 (dd (s.take k)) x:=by obtain⟨hl,hx⟩:=Qw.1 h;rw[Q7 hl,hx,YY]
def TH{s:List α}{k:Nat}{x:α}(h:s[k]?=some x):(dd (s.take (k+1))).getLast?=some x:=by grind [agP]
variable {eq ne : α -> α -> Bool} {z : α}
def NW(hne:∀x y,ne x y= !decide (x=y)){s:List α}{K:Nat}(hn:s.length<1000000000):∀(r i k2:Nat) (d:List α),k2+r=s.length - K->1<=k2->i<=K+k2 - 1->d.length=s.length->d.take i=dd (s.take (K+k2))->(∀j,K+k2 - 1<=j->d[j]?=s[j]?)->
  aE (WN eq ne z (K:Int) s.length) ((i:Int),(k2:Int),d,())=some (.inr (dd s))
 |0,i,k2,d,hr,h1,hi,hd,ht,hs=>by
  have hKn:K+k2=s.length:=by omega
  refine bM ?_;have e1:(((d.drop K).take (s.length - K)).length)=s.length - K:=by simp;omega
  have e2:decide ((k2:Int)<((s.length - K:Nat):Int))=false:=Qh (by omega)
  have e3:∀n,cD (i:Int) (d.length:Int) n=decide (d.length<=n):=by
   intro n;have:i<=d.length:=by omega
   simp only[cD];have h1:decide ((0:Int)<=(i:Int))=true:=Qg (by omega)
   have h2:decide ((i:Int)<=(d.length:Int))=true:=Qg (by omega)
   rw[h1,h2,Bool.and_self,Bool.true_and,decide_eq_decide];omega
  have e4:(d.take i++List.replicate (d.length - i) z++d.drop (i+(d.length - i))).length=d.length:=by simp;omega
  have e5:cD (0:Int) (i:Int) d.length=true:=by simp only[cD,Qm,Qi];omega
  have e6:(d.take i++List.replicate (d.length - i) z++d.drop (i+(d.length - i))).take (i - 0)=dd s:=by rw[Nat.sub_zero,QL,List.take_append_of_le_length (by simp;omega),List.take_take,Nat.min_self,ht,hKn,Qq62]
  simp only[WN,QV,e1,e2,Ql,e3,QI,decide_true,Qk,e4,e5,Int.toNat_zero,e6,Qe]
 |r+1,i,k2,d,hr,h1,hi,hd,ht,hs=>by
  have hKn:K+k2<s.length:=by omega
  obtain⟨x,hx⟩:∃x,s[K+k2]?=some x:=⟨_,Qv hKn⟩;obtain⟨y,hy⟩:∃y,s[K+(k2 - 1)]?=some y:=⟨_,Qv (by omega)⟩
  have e1:(((d.drop K).take (s.length - K)).length)=s.length - K:=by simp;omega
  have e2:decide ((k2:Int)<((s.length - K:Nat):Int))=true:=Qg (by omega)
  have e3:c8 .i64 (k2:Int) 1=((k2 - 1:Nat):Int):=by rw[qC (by omega) (by omega)];omega
  have e4:aA .i64 (k2:Int) 1=((k2+1:Nat):Int):=bG (by omega) (by omega)
  have e5:aA .i64 (i:Int) 1=((i+1:Nat):Int):=bG (by omega) (by omega)
  have hdx:d[K+k2]?=some x:=by rw[hs _ (by omega),hx]
  have hdy:d[K+(k2 - 1)]?=some y:=by rw[hs _ (by omega),hy]
  have hv1:=UY d (K:=K) (n:=s.length) (m:=k2) (by omega)
  have hv2:=UY d (K:=K) (n:=s.length) (m:=k2 - 1) (by omega)
  obtain⟨w,hw⟩:∃w,d[i]?=some w:=⟨_,Qv (by omega)⟩
  have hstep:=YX hx
  have hlast:(dd (s.take (K+k2))).getLast?=some y:=by
   have:=TH hy
   rwa [show K+(k2 - 1)+1=K+k2 by omega]at this
  rw[s9,hlast]at hstep;have hil:i<d.length:=by omega
  by_cases hxy:x=y
  ·refine Eq.trans (bx (s':=((i:Int),((k2+1:Nat):Int),d,())) ?_) (NW hne hn r i (k2+1) d (by omega) (by omega) (by omega) hd ?_ λj hj=>hs j (by omega))
   ·simp only[WN,QV,e1,e2,Qk,aS,hv1,hdx,Qa,e3,hv2,hdy,hne,hxy,decide_true,Qo,Ql,e4]
   ·rw[show K+(k2+1)=K+k2+1 by omega,hstep,Qr (by rw[hxy]),ht]
  ·refine Eq.trans (bx (s':=(((i+1:Nat):Int),((k2+1:Nat):Int),d.set i x,())) ?_) (NW hne hn r (i+1) (k2+1) (d.set i x) (by omega) (by omega) (by omega) (by rw[QY];exact hd) ?_ λj hj=> ?_)
   ·simp only[WN,QV,e1,e2,Qk,aS,hv1,hdx,Qa,e3,hv2,hdy,hne,hxy,decide_false,Qp,e4,e5,bf,hw]
   ·rw[show K+(k2+1)=K+k2+1 by omega,hstep,Qs (λe=>hxy (by injection e with e;exact e.symm)),<-ht,Q7 (by rw[QY];exact hil)]
    congr 1
    ·rw[List.take_set_of_le (QI _)]
    ·simp
   ·rw[List.getElem?_set,Qs (by omega)]
    exact hs j (by omega)
def WM(heq:∀x y,eq x y=decide (x=y))(hne:∀x y,ne x y= !decide (x=y)){s:List α}(hn:s.length<1000000000):∀(r k:Nat),k+r=s.length->1<=k->dd (s.take k)=s.take k->aE (Ra eq ne z) ((k:Int),s,())=some (dd s)
 |0,k,hr,h1,h=>by
  refine bM ?_;have hk:k=s.length:=by omega
  have e2:decide ((k:Int)<(s.length:Int))=false:=Qh (by omega)
  rw[hk,Qq62]at h;simp only[Ra,e2,Ql,Qe,h]
 |r+1,k,hr,h1,h=>by
  have hk:k<s.length:=by omega
  obtain⟨x,hx⟩:∃x,s[k]?=some x:=⟨_,Qv hk⟩;obtain⟨y,hy⟩:∃y,s[k - 1]?=some y:=⟨_,Qv (by omega)⟩
  have e2:decide ((k:Int)<(s.length:Int))=true:=Qg (by omega)
  have e3:c8 .i64 (k:Int) 1=((k - 1:Nat):Int):=by rw[qC (by omega) (by omega)];omega
  have e4:aA .i64 (k:Int) 1=((k+1:Nat):Int):=bG (by omega) (by omega)
  have hstep:=YX hx
  have hlast:(dd (s.take k)).getLast?=some y:=by
   have:=TH hy
   rwa [show k - 1+1=k by omega]at this
  rw[s9,hlast]at hstep
  by_cases hxy:x=y
  ·rw[Qr (by rw[hxy])]at hstep
   have e5:cD (k:Int) (s.length:Int) s.length=true:=by simp only[cD,Qm,Qi];omega
   have hin:=NW (eq:=eq) (z:=z) (K:=k) hne hn (s.length - k - 1) k 1 s (by omega) (by omega) (by omega) rfl (by rw[hstep,h]) (λ_ _=>rfl)
   refine bM ?_;simp only[Ra,e2,Qk,bf,QV,hx,hy,e3,Qa,heq,hxy,decide_true,e5];exact hin
  ·rw[Qs (λe=>hxy (by injection e with e;exact e.symm))]at hstep
   refine Eq.trans (bx (s':=(((k+1:Nat):Int),s,())) ?_) (WM heq hne hn r (k+1) (by omega) (by omega) ?_)
   ·simp only[Ra,e2,Qk,bf,QV,hx,hy,e3,Qa,heq,hxy,decide_false,Ql,e4]
   ·obtain⟨hl,hx'⟩:=Qw.1 hx;rw[hstep,h,Q7 hl,hx']
def Dw(heq:∀x y,eq x y=decide (x=y))(hne:∀x y,ne x y= !decide (x=y))(s:List α)(hn:s.length<1000000000):NK eq ne z s=some (dd s):=by
 unfold NK
 by_cases h:s.length<2
 ·have e:decide ((s.length:Int)<2)=true:=Qg (by omega)
  rw[e,Qk]
  match s,h with
  |[],_|[x],_=>rfl
 ·have e:decide ((s.length:Int)<2)=false:=Qh (by omega)
  rw[e,Ql];refine WM heq hne hn (s.length - 1) 1 (by omega) (by omega) ?_
  cases s with
  |nil|cons x l=>rfl
def aaj(acc:List α)(x:α):∀y,y∈s9 acc x↔y∈acc\/y=x:=by grind [s9]
def JT:∀(l acc:List α) (y:α),y∈l.foldl s9 acc↔y∈acc\/y∈l
 |[],acc,y=>by simp
 |x::l,acc,y=>by rw[QU,JT l,aaj];simp[or_assoc]
def ah9(l:List α)(y:α):y∈dd l↔y∈l:=by rw[dd,JT];simp
def WK(l:List α):(dd l).length<=l.length:=by
 suffices h:∀(l acc:List α),(l.foldl s9 acc).length<=acc.length+l.length by simpa[dd]using h l []
 intro l
 induction l with
 |nil=>intro acc;simp
 |cons x l ih=>grind [s9]
def ab8{lt:α->α->Bool}(ho:SWO lt)(hto:∀x y,lt x y=false->lt y x=false->x=y){l:List α}(hl:l.Pairwise (λa b=>lt b a=false)):(dd l).Pairwise (λa b=>lt a b=true):=by
 suffices h:∀(l acc:List α),(acc++l).Pairwise (λa b=>lt b a=false)->acc.Pairwise (λa b=>lt a b=true)->(l.foldl s9 acc).Pairwise (λa b=>lt a b=true)from h l [] (by simpa using hl) .nil
 intro l
 induction l with
 |nil=>intro acc _ h;exact h
 |cons x l ih=>
  intro acc h1 h2;rw[QU];unfold s9;split
  ·rename_i hlast;refine ih acc ?_ h2
   grind
  ·rename_i hlast;refine ih _ (by simpa using h1) ?_
   rw[Qq69]at h1 ⊢;refine⟨h2,by simp,λa ha b hb=> ?_⟩
   rw[Q5.1 hb];have hax:lt x a=false:=h1.2.2 a ha x (by simp)
   cases hc:lt a x with
   |true=>rfl
   |false=>
    exfalso;have e:=hto a x hc hax;subst e
    obtain⟨y,hy⟩:∃y,acc.getLast?=some y:=by
     cases hg:acc.getLast? with
     |none=>rw[List.getLast?_eq_none_iff.1 hg]at ha;cases ha
     |some y=>exact⟨y,rfl⟩
    obtain⟨pre,rfl⟩:∃pre,acc=pre++[y]:=by have:=List.getLast?_eq_some_iff.1 hy;exact this
    rcases Qz.1 ha with ha|ha
    ·rw[Qq69]at h2;have h3:=h2.2.2 a ha y (by simp)
     have h4:=h1.2.2 y (by simp) a (by simp)
     rw[h3]at h4;cases h4
    ·rw[Q5.1 ha]at hlast;exact hlast hy
end
end
section
def adV(s:List Int):qm s=NK (λx y=>decide (x=y)) (λx y=> !decide (x=y)) 0 s:=rfl
 def kc(v:ByteArray)(e:ak):Bool:=bc e&&decide (e.af.Value=v)&& !decide (e.aZ=0)
 def ends(v:ByteArray)(l:List ak):List Int:=l.flatMap λe=>if kc v e then[e.aZ,e.bq]else[]
def Ea{v:ByteArray}{l:List ak}{x:Int}:x∈ends v l↔∃e∈l,kc v e=true/\(x=e.aZ\/x=e.bq):=by
 simp only[ends,QQ];constructor
 ·rintro⟨e,he,hx⟩;split at hx
  ·rename_i h;exact⟨e,he,h,by simpa using hx⟩
  ·cases hx
 ·rintro⟨e,he,h,hx⟩;exact⟨e,he,by rw[Qr h];simpa using hx⟩
end
section
def KM{v:bd}{aF:Int}{l:List ak}(hl:l.length<=1000000)(hin:xa l)(val:ByteArray)(lo hi:Int):jK ⟨aF,v,l.map bK.mk⟩ val lo hi=some ((ff (iO · val lo hi) l:Nat):Int):=by
 unfold jK;refine He (iO · val lo hi) l hin _ (λi e s he=> ?_) (λs=> ?_)
 ·have hlt:i<l.length:=(Qw.1 he).1;have hd:decide ((i:Int)<(((l.map bK.mk).length:Nat):Int))=true:=Qg (by rw[QC];omega)
  have hw:aA .i64 (i:Int) 1=((i+1:Nat):Int):=bG (by omega) (by omega)
  have hx:idx (l.map bK.mk) (i:Int)=some ⟨e⟩:=by rw[bf,QT,he];rfl
  simp only[hd,hx,hw,Qk,Qa,etas,nT,wI,aS];cases iO e val lo hi<;>simp
 ·have hd:decide ((l.length:Int)<(((l.map bK.mk).length:Nat):Int))=false:=Qh (by rw[QC];exact Qq64 _)
  simp only[hd,Ql,Qe]
def X6{v:bd}{aF:Int}{l:List ak}(hl:l.length<=1000000)(hin:xa l)(val:ByteArray)(lo hi:Int):gR ⟨aF,v,l.map bK.mk⟩ val lo hi val lo hi=some ((ff (λe=>vI e val lo hi||iO e val lo hi) l:Nat):Int):=by
 unfold gR;refine He (λe=>vI e val lo hi||iO e val lo hi) l hin _ (λi e s he=> ?_) (λs=> ?_)
 ·have hlt:i<l.length:=(Qw.1 he).1;have hd:decide ((i:Int)<(((l.map bK.mk).length:Nat):Int))=true:=Qg (by rw[QC];omega)
  have hw:aA .i64 (i:Int) 1=((i+1:Nat):Int):=bG (by omega) (by omega)
  have hx:idx (l.map bK.mk) (i:Int)=some ⟨e⟩:=by rw[bf,QT,he];rfl
  simp only[hd,hx,hw,Qk,Qa,etas,ak.eta,jR,nT,yV,wI,Gf,aS,iN,Bool.cond_true_left];cases (vI e val lo hi||iO e val lo hi)<;>simp
 ·have hd:decide ((l.length:Int)<(((l.map bK.mk).length:Nat):Int))=false:=Qh (by rw[QC];exact Qq64 _)
  simp only[hd,Ql,Qe]
 def Js(aF:Nat)(t:aj)(l:List ak):gQ:=⟨aF,⟨kP aF t l⟩,(c5 l).map bK.mk⟩
 def nK(aF:Nat)(t:aj)(l:List ak)(val:ByteArray)(lo hi:Int):Bool:=
 rG (kP aF t l) aF (ff (λe=>vI e val lo hi||iO e val lo hi) (c5 l)) (ff (iO · val lo hi) (c5 l))
 def wh(aF:Nat)(t:aj)(l:List ak)(val:ByteArray)(lo hi:Int):Bool:=
 (gq (kP aF t l) (ff (iO · val lo hi) (c5 l))).testBit aF
section
variable {aF : Nat} (hn : aF < 10) {t : aj} (ht : cU t) {l : List ak} (hl : td l)
 include hn ht hl
theorem Vg(val:ByteArray)(lo hi:Int):iH (Js aF t l) val lo hi=some (nK aF t l val lo hi):=by
 have hlen:=hl.len;have hrl:=Df l;have hin:=nF l
 simp only[Js,iH,qy,k9,Qa,X6 (by omega:(c5 l).length<=1000000) hin,KM (by omega:(c5 l).length<=1000000) hin,
  CL (oB ht hl) hn (mO hin) (mO hin),nK]
theorem afj(val:ByteArray)(lo hi:Int):oJ (Js aF t l) val lo hi=some (wh aF t l val lo hi):=by have hlen:=hl.len;have hrl:=Df l;have hin:=nF l;simp only[Js,oJ,qy,mZ,Qa,KM (by omega:(c5 l).length<=1000000) hin,Bt (oB ht hl) hn (mO hin),wh]
theorem look_eq:fW aF t l=some (Js aF t l):=SR hn ht hl
end
def dh(q:Int->Bool):List Int->Int->Int
 |[],lo=>lo
 |e::l,lo=>if lo<=e then dh q l lo else if q e then dh q l e else lo
def DO{p:Int->Option Bool}{q:Int->Bool}(h:∀e,p e=some (q e)):∀(l:List Int) (lo:Int),n9 (λ(m5:Nat) (e6:Int) (v4:Int×Unit)=>
  bif (decide (v4.1<=e6))then some (Sum.inl (v4.1,()))else
  Option.bind (p e6) λr7=>bif (!r7)then Option.map Sum.inr (some v4.1)else some (Sum.inl (e6,()))) (λv8=>some v8.1) l (lo,())=some (dh q l lo)
 |[],lo=>rfl
 |e::l,lo=>by
  rw[n9,dh]
  by_cases hle:lo<=e
  ·rw[Qr hle];simp only[hle,decide_true,Qk];exact DO h l lo
  ·rw[Qs hle];simp only[hle,decide_false,Ql,h,Qa]
   cases hq:q e with
   |true=>simp only[Qo,Ql,Qt];have:=DO h l e;simp only[h,Qa]at this;exact this
   |false=>rfl
def flat(n:Nat)(k:Int):aj:=⟨k,xE n,[]⟩
structure IB (n:Nat) (k:Int) (l:List ak):Prop where
 n10:n<=10
 k1:1<=k
 kn:k<=n
 valid:∀e∈l,bc e=true
 aN:∀e∈l,e.aa=flat n k
 few:l.length<=1000
 all:∀i,i<n->∃e∈l,e.al.toNat=i
def IB.ic{n:Nat}{k:Int}{l:List ak}(h:IB n k l):dt (flat n k):=TR n h.n10 k h.k1 h.kn
def IB.sm{n:Nat}{k:Int}{l:List ak}(h:IB n k l):td l:=⟨by have:=h.few;omega,λe he=>by rw[h.aN e he];exact h.ic.sm⟩
def IB.c5{n:Nat}{k:Int}{l:List ak}(h:IB n k l):Go.Proofs.YtofedieniojipaaGreat.c5 l=l:=Zp h.valid
def cE(n:Nat)(k:Int)(c:Int)(v:ByteArray)(lo hi:Nat->Int)(i:Nat):ak:=⟨i,1,1,flat n k,2,⟨c,v⟩,⟨c,v⟩,⟨0,bE⟩,lo i,hi i⟩
end
section
def Et(b:List Int)(sure:Int->Int->Bool):Int×Int×Bool×Unit:=
 match b.reverse.find? (λe=>sure e e)with
 |some e=>(dh (λx=>sure x e) b.reverse e,e,true,())
 |none=>(0,0,false,())
def YP{p:Int->Option Bool}{q:Int->Bool}{d:Int->Option Int}{f:Int->Int}(hp:∀e,p e=some (q e))(hd:∀e,d e=some (f e)):∀r:List Int,n9 (λ(m5:Nat) (e6:Int) (v4:Int×Int×Bool×Unit)=>
  Option.bind (p e6) λr7=>bif r7 then Option.bind (d e6) λr8=>Option.map Sum.inr (some (r8,e6,true,()))else some (Sum.inl (v4.1,v4.2.1,v4.2.2.1,()))) (λ(v9:Int×Int×Bool×Unit)=>some ((0:Int),(0:Int),false,())) r ((0:Int),(0:Int),false,())=
  some (match r.find? q with|some e=>(f e,e,true,())|none=>(0,0,false,()))
 |[]=>rfl
 |e::r=>by
  have ih:=YP hp hd r;rw[n9,List.find?_cons];simp only[hp,hd,Qa,Qe]at ih ⊢
  cases q e with
  |true=>rfl
  |false=>simp only[Ql];exact ih
section
variable {aF : Nat} (hn : aF < 10) {t : aj} (ht : cU t) {l : List ak} (hl : td l)
 include hn ht hl
end
section
variable {n : Nat} {k c : Int} {v : ByteArray} {lo hi : Nat -> Int} (h : IB n k ((List.range n).map (cE n k c v lo hi))) {i : Nat} (hi' : i < n)
 include h hi'
end
end
section
section
variable {α : Type}
structure xZ (lt:α->α->Bool):Prop where
 irrefl:∀x,lt x x=false
 trans:∀x y z,lt x y=true->lt y z=true->lt x z=true
 total:∀x y,lt x y=false->lt y x=false->x=y
variable {lt : α -> α -> Bool}
def xZ.asymm(h:xZ lt){x y:α}(hxy:lt x y=true):lt y x=false:=by
 cases hc:lt y x with
 |false=>rfl
 |true=>have:=h.trans x y x hxy hc;rw[h.irrefl]at this;cases this
def xZ.ntrans(h:xZ lt){x y z:α}(h1:lt x y=false)(h2:lt y z=false):lt x z=false:=by
 cases hc:lt x z with
 |false=>rfl
 |true=>
  cases hyx:lt y x with
  |false=>rw[h.total x y h1 hyx,h2]at hc;cases hc
  |true=>have:=h.trans y x z hyx hc;rw[h2]at this;cases this
def xZ.kit(h:xZ lt):Go.Sort.SWO lt:=⟨h.irrefl,h.trans,λ_ _ _=>h.ntrans⟩
def xZ.own(h:xZ lt):SWO lt:=⟨λ_ _=>h.asymm,λ_ _ _ h1 h2=>h.ntrans h2 h1⟩
def xZ.flip(h:xZ lt):xZ λa b=>lt b a:=⟨h.irrefl,λx y z h1 h2=>h.trans z y x h2 h1,λx y h1 h2=>h.total x y h2 h1⟩
def xZ.unique(h:xZ lt):∀{a b:List α},a.Pairwise (λx y=>lt x y=true)->b.Pairwise (λx y=>lt x y=true)->(∀x,x∈a↔x∈b)->a=b
 |[],[],_,_,_=>rfl
 |[],y::b,_,_,h'=>by have:=(h' y).2 (by simp);cases this
 |x::a,[],_,_,h'=>by have:=(h' x).1 (by simp);cases this
 |x::a,y::b,ha,hb,h'=>by
  rw[Q4]at ha hb
  have hxy:x=y:=by
   have h1:=(h' x).1 (by simp)
   have h2:=(h' y).2 (by simp)
   rcases QA.1 h1 with h1|h1
   ·exact h1
   ·rcases QA.1 h2 with h2|h2
    ·exact h2.symm
    ·have q1:=ha.1 y h2;have q2:=hb.1 x h1;rw[h.asymm q1]at q2;cases q2
  subst hxy;congr 1;refine h.unique ha.2 hb.2 λz=>⟨λhz=> ?_,λhz=> ?_⟩
  ·rcases QA.1 ((h' z).1 (by simp[hz]))with e|e
   ·subst e;have:=ha.1 z hz;rw[h.irrefl]at this;cases this
   ·exact e
  ·rcases QA.1 ((h' z).2 (by simp[hz]))with e|e
   ·subst e;have:=hb.1 z hz;rw[h.irrefl]at this;cases this
   ·exact e
def xZ.Zh[DecidableEq α](h:xZ lt){cmp:α->α->Option Int}{c:α->α->Int}(hc:∀x y,cmp x y=some (c x y))(hlt:∀x y,decide (c x y<0)=lt x y)(s:List α)(hs:s.length<1000000000):
  ∃t,CC cmp s=some ((),t)/\t.length=s.length/\(dd t).Pairwise (λx y=>lt x y=true)/\∀x,x∈dd t↔x∈s:=by
 have hcf:KF cmp=c:=funext λx=>funext λy=>by unfold KF;rw[hc];rfl
 have hl:Go.Proofs.ltOf (KF cmp)=lt:=by rw[hcf];exact funext λx=>funext λy=>hlt x y
 have hok:ae8 cmp:=⟨λx y=>by rw[hcf];exact hc x y,by rw[hl];exact h.kit,λx y h1 h2=>by rw[hl]at h1 h2;exact h.total x y h1 h2⟩
 refine⟨s.mergeSort λx y=> !lt y x,?_,List.length_mergeSort s,ab8 h.own h.total ?_,λx=>by rw[ah9,List.mem_mergeSort]⟩
 ·unfold CC;rw[Qr ⟨hok,by omega⟩,hl]
 ·refine(List.pairwise_mergeSort (le:=λx y=> !lt y x) (λa b c h1 h2=> ?_) (λa b=> ?_) s).imp λ{a b} hab=>by simpa using hab
  ·simp only[Bool.not_eq_true']at h1 h2 ⊢;exact h.ntrans h2 h1
  ·cases hab:lt a b with
   |false=>simp
   |true=>rw[h.asymm hab];rfl
end
def K4:xZ λa b:Int=>decide (a<b):=
 ⟨λx=>Qh (Qq64 x),λx y z h1 h2=>by simp only[Qi]at*;omega,λx y h1 h2=>by simp only[Qj]at*;omega⟩
def W8:∀{x y z:List UInt8},Op.bytesLess x y=true->Op.bytesLess y z=true->Op.bytesLess x z=true
 |[],[],_,h,_=>by simp[Op.bytesLess]at h
 |_::_,[],_,h,_=>by simp[Op.bytesLess]at h
 |[],_::_,[],_,h=>by simp[Op.bytesLess]at h
 |[],_::_,_::_,_,_=>rfl
 |_::_,_::_,[],_,h=>by simp[Op.bytesLess]at h
 |a::x,b::y,c::z,h,h'=>by
  simp only[Op.bytesLess,Qn,Qi,Qm,beq_iff_eq]at h h' ⊢;rcases h with h|⟨rfl,h⟩
  ·rcases h' with h'|⟨rfl,h'⟩
   ·exact .inl (UInt8.lt_trans h h')
   ·exact .inl h
  ·rcases h' with h'|⟨rfl,h'⟩
   ·exact .inl h'
   ·exact .inr ⟨rfl,W8 h h'⟩
def XA{a b c:ByteArray}(h:lG a b=true)(h':lG b c=true):lG a c=true:=W8 h h'
def XB{a b:ByteArray}(h:a≠b):lG a b=true\/lG b a=true:=
 W9 λe=>h (by
  rw[Lib.toList_data,Lib.toList_data]at e;cases a;cases b;rename_i x y;cases x;cases y
  simp_all)
def jx:xZ bP:=by
 refine⟨λx=>by rw[bP,Qr rfl,DU],λx y z h1 h2=> ?_,λx y h1 h2=> ?_⟩
 ·unfold bP at*
  by_cases e1:x.size=y.size
  ·rw[Qr e1]at h1
   by_cases e2:y.size=z.size
   ·rw[Qr e2]at h2;rw[Qr (e1.trans e2)];exact XA h1 h2
   ·rw[Qs e2]at h2;rw[Qs (by omega),e1]
    exact h2
  ·rw[Qs e1,Qi]at h1
   by_cases e2:y.size=z.size
   ·rw[Qs (by omega),<-e2]
    exact Qg h1
   ·rw[Qs e2,Qi]at h2;rw[Qs (by omega)]
    exact Qg (by omega)
 ·unfold bP at*
  by_cases e1:x.size=y.size
  ·rw[Qr e1]at h1;rw[Qr e1.symm]at h2;refine Classical.byContradiction λhne=> ?_
   rcases XB hne with h|h
   ·rw[h]at h1;cases h1
   ·rw[h]at h2;cases h2
  ·rw[Qs e1,Qj]at h1;rw[Qs (λe=>e1 e.symm),Qj]at h2
   omega
def E3:xZ bC:=by
 refine⟨λx=>by rw[bC,Qr rfl,jx.irrefl],λx y z h1 h2=> ?_,λx y h1 h2=> ?_⟩
 ·unfold bC at*
  by_cases e1:x.ai=y.ai
  ·rw[Qr e1]at h1
   by_cases e2:y.ai=z.ai
   ·rw[Qr e2]at h2;rw[Qr (e1.trans e2)];exact jx.trans _ _ _ h1 h2
   ·rw[Qs e2]at h2;rw[Qs (by omega),e1]
    exact h2
  ·rw[Qs e1,Qi]at h1
   by_cases e2:y.ai=z.ai
   ·rw[Qs (by omega),<-e2]
    exact Qg h1
   ·rw[Qs e2,Qi]at h2;rw[Qs (by omega)]
    exact Qg (by omega)
 ·unfold bC at*
  by_cases e1:x.ai=y.ai
  ·rw[Qr e1]at h1;rw[Qr e1.symm]at h2;have:=jx.total _ _ h1 h2;cases x;cases y
   simp_all
  ·rw[Qs e1,Qj]at h1;rw[Qs (λe=>e1 e.symm),Qj]at h2
   omega
end
section
structure Ry (n:Nat) (l:List ak):Prop where
 of:∀e∈l,∃i:Nat,i<n/\Rz i 1 n e
 G5:l.Pairwise λa b=>a.al<b.al
 len:l.length<=n
def Ry.valid{n:Nat}{l:List ak}(h:Ry n l):∀e∈l,bc e=true:=λe he=>by obtain⟨i,_,hi⟩:=h.of e he;rw[bc,vJ hi.aN];exact hi.valid
def Ry.sm{n:Nat}{l:List ak}(h:Ry n l)(hn:n<=1000):td l:=⟨by have:=h.len;omega,λe he=>by
 obtain⟨i,_,hi⟩:=h.of e he
 exact hi.aN.sm⟩
def Ha.mono{l:List bj}{s s' r:Nat}(h:∀k,s.testBit k=true->s'.testBit k=true)(hi:Ha l s r):Ha l s' r:=λk hk=>⟨h k (hi k hk).1,(hi k hk).2⟩
section
variable {aF : Nat} {t : aj} (ht : cU t) {l : List ak} (hl : td l) {v : ByteArray} {lo hi k : Int} (h1 : lo <= k) (h2 : k <= hi)
 include ht hl h1 h2
end
end
section
section
variable {α : Type}
 def uW(p:α->Option Bool)(a0:List α)(v1:Int×Unit):Option ((Int×Unit)⊕Int):=
 bif (decide (v1.1<((List.length a0:Nat):Int)))then
  Option.bind (idx a0 v1.1) λx2=>Option.bind (p x2) λr3=>bif r3 then Option.map Sum.inr (some v1.1)else some (Sum.inl ((aA .i64 v1.1 (1:Int)),()))
 else Option.map Sum.inr (some (-1:Int))
 def abU(p:α->Option Bool)(a0:List α):Option Int:=aE (uW p a0) ((0:Int),())
 def GW(p:α->Option Bool)(z:α)(v2:Int×Int×(List α)×Unit):Option ((Int×Int×(List α)×Unit)⊕List α):=
 bif (decide (v2.2.1<((List.length v2.2.2.1:Nat):Int)))then
  aY (λ(v3:Int×(List α)×Unit)=>some (Sum.inl (v3.1,(aA .i64 v2.2.1 (1:Int)),v3.2.1,()))) λj4=>
  Option.bind (idx v2.2.2.1 v2.2.1) λx5=>Option.bind (v2.2.2.1[(Int.toNat v2.2.1)]?) λx6=>Option.bind (p x6) λr7=>
  bif (!r7)then
   Option.bind (idx v2.2.2.1 v2.1) λx8=>Option.bind (v2.2.2.1[(Int.toNat v2.1)]?) λx9=>j4 ((aA .i64 v2.1 (1:Int)),(v2.2.2.1.set (Int.toNat v2.1) x6),())
  else j4 (v2.1,v2.2.2.1,())
 else
  Option.map Sum.inr (bif cD v2.1 ((List.length v2.2.2.1):Int) (List.length v2.2.2.1)then
   bif cD (0:Int) v2.1 (List.length (v2.2.2.1.take (Int.toNat v2.1)++List.replicate (Int.toNat ((List.length v2.2.2.1):Int) - Int.toNat v2.1) z++v2.2.2.1.drop ((Int.toNat v2.1)+(Int.toNat ((List.length v2.2.2.1):Int) - Int.toNat v2.1))))then
    some ((v2.2.2.1.take (Int.toNat v2.1)++List.replicate (Int.toNat ((List.length v2.2.2.1):Int) - Int.toNat v2.1) z++v2.2.2.1.drop ((Int.toNat v2.1)+(Int.toNat ((List.length v2.2.2.1):Int) - Int.toNat v2.1))).take (Int.toNat v2.1 - Int.toNat (0:Int)))
   else none
  else none)
 def YM(p:α->Option Bool)(z:α)(s:List α):Option (List α):=
 Option.bind (abU p s) λr1=>bif (decide (r1=(-1:Int)))then some s else aE (GW p z) (r1,(aA .i64 r1 (1:Int)),s,())
def F5{q:α->Bool}{s:List α}{j:Nat}{x:α}(h:s[j]?=some x):(s.take (j+1)).filter q=(s.take j).filter q++if q x then[x]else[]:=by obtain⟨hl,hx⟩:=Qw.1 h;rw[Q7 hl,List.filter_append,hx];congr 1;cases hq:q x<;>simp[hq]
variable {p : α -> Option Bool} {q : α -> Bool} (hp : ∀ x, p x = some (q x)) {z : α}
 include hp
theorem Wk{s:List α}(hs:s.length<1000000000):∀(k i:Nat),i+k=s.length->(s.take i).filter (λx=> !q x)=s.take i->
  (∃m:Nat,∃x,aE (uW p s) ((i:Int),())=some (m:Int)/\(s.take m).filter (λx=> !q x)=s.take m/\s[m]?=some x/\q x=true)\/(aE (uW p s) ((i:Int),())=some (-1)/\s.filter (λx=> !q x)=s)
 |0,i,hi,hf=>by
  have hd:decide ((i:Int)<(s.length:Int))=false:=Qh (by omega)
  refine .inr ⟨bM ?_,?_⟩
  ·simp only[uW,hd,Ql,Qe]
  ·rwa [show i=s.length by omega,Qq62]at hf
 |k+1,i,hi,hf=>by
  have hd:decide ((i:Int)<(s.length:Int))=true:=Qg (by omega)
  have hw:aA .i64 (i:Int) 1=((i+1:Nat):Int):=bG (by omega) (by omega)
  obtain⟨x,hx⟩:∃x,s[i]?=some x:=⟨_,Qv (by omega)⟩
  cases hq:q x with
  |true=>refine .inl ⟨i,x,bM ?_,hf,hx,hq⟩;simp only[uW,hd,Qk,bf,hx,Qa,hp,hq,Qe]
  |false=>
   have hstep:aE (uW p s) ((i:Int),())=aE (uW p s) (((i+1:Nat):Int),()):=bx (by simp only[uW,hd,Qk,bf,hx,Qa,hp,hq,Ql,hw])
   rw[hstep];refine Wk hs k (i+1) (by omega) ?_
   rw[F5 hx,hf,hq];obtain⟨hl,hx'⟩:=Qw.1 hx;rw[Q7 hl,hx'];rfl
theorem NP{s:List α}(hs:s.length<1000000000):∀(r i j:Nat) (d:List α),j+r=s.length->i<j->d.length=s.length->d.take i=(s.take j).filter (λx=> !q x)->(∀m,j<=m->d[m]?=s[m]?)->
  aE (GW p z) ((i:Int),(j:Int),d,())=some (s.filter λx=> !q x)
 |0,i,j,d,hr,hij,hd,ht,hm=>by
  have e2:decide ((j:Int)<(d.length:Int))=false:=Qh (by omega)
  refine bM ?_
  have e3:∀n,cD (i:Int) (d.length:Int) n=decide (d.length<=n):=by
   intro n;simp only[cD];have h1:decide ((0:Int)<=(i:Int))=true:=Qg (by omega)
   have h2:decide ((i:Int)<=(d.length:Int))=true:=Qg (by omega)
   rw[h1,h2,Bool.and_self,Bool.true_and,decide_eq_decide];omega
  have e4:(d.take i++List.replicate (d.length - i) z++d.drop (i+(d.length - i))).length=d.length:=by simp;omega
  have e5:cD (0:Int) (i:Int) d.length=true:=by simp only[cD,Qm,Qi];omega
  have e6:(d.take i++List.replicate (d.length - i) z++d.drop (i+(d.length - i))).take (i - 0)=s.filter λx=> !q x:=by rw[Nat.sub_zero,QL,List.take_append_of_le_length (by simp;omega),List.take_take,Nat.min_self,ht,show j=s.length by omega,Qq62]
  simp only[GW,e2,Ql,QV,e3,QI,decide_true,Qk,e4,e5,Int.toNat_zero,e6,Qe]
 |r+1,i,j,d,hr,hij,hd,ht,hm=>by
  have e2:decide ((j:Int)<(d.length:Int))=true:=Qg (by omega)
  have ej:aA .i64 (j:Int) 1=((j+1:Nat):Int):=bG (by omega) (by omega)
  have ei:aA .i64 (i:Int) 1=((i+1:Nat):Int):=bG (by omega) (by omega)
  obtain⟨x,hx⟩:∃x,s[j]?=some x:=⟨_,Qv (by omega)⟩
  obtain⟨y,hy⟩:∃y,d[i]?=some y:=⟨_,Qv (by omega)⟩
  have hdx:d[j]?=some x:=by rw[hm j (QI _),hx]
  have hstep:=F5 (q:=λx=> !q x) hx
  cases hq:q x with
  |true=>
   rw[hq]at hstep;refine(bx (s':=((i:Int),((j+1:Nat):Int),d,())) ?_).trans (NP hs r i (j+1) d (by omega) (by omega) hd (by rw[hstep,ht];simp) λm h=>hm m (by omega))
   simp only[GW,e2,Qk,aS,bf,QV,hdx,Qa,hp,hq,Qo,Ql,ej]
  |false=>
   rw[hq]at hstep;refine(bx (s':=(((i+1:Nat):Int),((j+1:Nat):Int),d.set i x,())) ?_).trans (NP hs r (i+1) (j+1) (d.set i x) (by omega) (by omega) (by rw[QY];exact hd) ?_ λm h=> ?_)
   ·simp only[GW,e2,Qk,aS,bf,QV,hdx,hy,Qa,hp,hq,Qp,ej,ei]
   ·rw[hstep,<-ht,Q7 (by rw[QY];omega),List.take_set_of_le (QI _)]
    simp
   ·rw[List.getElem?_set,Qs (by omega)]
    exact hm m (by omega)
theorem Z4(s:List α)(hs:s.length<1000000000):YM p z s=some (s.filter λx=> !q x):=by
 rw[YM,abU];rcases Wk hp hs s.length 0 (by omega) (by simp)with⟨m,x,h1,h2,h3,h4⟩|⟨h1,h2⟩
 ·have hm:m<s.length:=(Qw.1 h3).1;have h1':aE (uW p s) ((0:Int),())=some (m:Int):=h1;have e:decide ((m:Int)= -1)=false:=Qh (by omega)
  rw[h1',Qa,e,Ql,show aA .i64 (m:Int) 1=((m+1:Nat):Int)from bG (by omega) (by omega)]
  refine NP hp hs (s.length - (m+1)) m (m+1) s (by omega) (by omega) rfl ?_ λ_ _=>rfl
  rw[F5 h3,h2,h4];simp
 ·have h1':aE (uW p s) ((0:Int),())=some (-1):=h1;rw[h1',Qa,h2];rfl
end
def Im{α β ρ:Type}(l:List α)(hl:l.length<=1000000)(f:α->List β)(hf:∀x∈l,(f x).length<=3){step:Int×List β×Unit->Option ((Int×List β×Unit)⊕ρ)}{fin:List β->Option ρ}
  (h1:∀(i:Nat) (x:α) (acc:List β),x∈l->decide ((i:Int)<(l.length:Int))=true->idx l (i:Int)=some x->aA .i64 (i:Int) 1=((i+1:Nat):Int)->(∀bytes n:Nat,bytes<=40->n<=3->acc.length<=3000000->bh bytes (acc.length+n)=true)->acc.length<=3000000->step ((i:Int),acc,())=some (.inl (((i+1:Nat):Int),acc++f x,())))
  (h2:∀acc,decide ((l.length:Int)<(l.length:Int))=false->step ((l.length:Int),acc,())=Option.map Sum.inr (fin acc)):aE step ((0:Int),([]:List β),())=fin (l.flatMap f):=by
 suffices key:∀(k i:Nat) (acc:List β),i+k=l.length->acc=(l.take i).flatMap f->acc.length<=3*i->aE step ((i:Int),acc,())=fin (l.flatMap f)from key l.length 0 [] (by omega) (by simp) (by simp)
 intro k
 induction k with
 |zero=>
  intro i acc hi ha hal;obtain rfl:i=l.length:=by omega
  rw[Qq62]at ha;rw[fg,h2 acc (Qh (Qq64 _)),ha];cases fin (l.flatMap f)<;>rfl
 |succ k ih=>
  intro i acc hi ha hal;have hlt:i<l.length:=by omega
  have hx:l[i]?=some l[i]:=Qv hlt;have:=hf _ (Q0 hlt);refine(bx (h1 i l[i] acc (Q0 hlt) (Qg (by omega)) (by rw[bf];exact hx) (bG (by omega) (by omega)) (λbytes n hb hn ha=> ?_) (by omega))).trans (ih (i+1) _ (by omega) ?_ (by rw[QB];omega))
  ·simp only[bh,Qm,Qi];exact⟨QK (Nat.mul_le_mul (show acc.length+n<=3000003 by omega) hb) (show 3000003*40<=140737488355328 by decide),QK (show acc.length+n<=3000003 by omega) (by simp[maxLen])⟩
  ·rw[Q7 hlt,List.flatMap_append,ha];simp
instance:Inhabited ah:=⟨⟨0,bE⟩⟩
instance:DecidableEq ah:=λa b=>decidable_of_iff (a.ai=b.ai/\a.Value=b.Value) (by cases a;cases b;simp)
def afg(s:List ah)(hs:s.length<1000000000):∃b,fc s=some b/\b.Pairwise (λx y=>bC y x=true)/\b.length<=s.length/\∀x,x∈b↔x∈s:=by
 obtain⟨t,h1,h2,h3,h4⟩:=E3.flip.Zh (cmp:=oy) (c:=λx y=>WU y x) (λx y=>by simp[oy]) (λx y=>WT y x) s hs
 have hc:=Dw (eq:=λx y:ah=>mw false x.ai y.ai x.Value y.Value) (ne:=λx y=>mw true x.ai y.ai x.Value y.Value) (z:=ah.mk 0 bE) (λx y=>by
  rw[Co,QW];cases x;cases y;simp) (λx y=>by
  rw[adL];congr 1;rw[QW];cases x;cases y
  simp) t (by omega)
 refine⟨dd t,?_,h3,by have:=WK t;omega,h4⟩
 have h1':gu s=some ((),t):=h1;have hc':iR t=some (dd t):=hc;simp only[fc,h1',hc',Qa]
def afe(s:List ByteArray)(hs:s.length<1000000000):∃b,gl s=some b/\b.Pairwise (λx y=>bP x y=true)/\b.length<=s.length/\∀x,x∈b↔x∈s:=by
 obtain⟨t,h1,h2,h3,h4⟩:=jx.Zh (cmp:=hZ) (c:=xu) (λx y=>CQ x y) wo s hs
 have hc:=Dw (eq:=λx y:ByteArray=>decide (x=y)) (ne:=λx y=> !decide (x=y)) (z:=bE) (λ_ _=>rfl) (λ_ _=>rfl) t (by omega)
 refine⟨dd t,?_,h3,by have:=WK t;omega,h4⟩
 have h1':jn s=some ((),t):=h1;have hc':eP t=some (dd t):=hc;simp only[gl,h1',hc',Qa]
def ad1(a b:Int):decide (yN a b<0)=decide (a<b):=by rw[decide_eq_decide];exact Io a b
def aff(s:List Int)(hs:s.length<1000000000):∃b,hU s=some b/\b.Pairwise (·<·)/\b.length<=s.length/\∀x,x∈b↔x∈s:=by
 obtain⟨t,h1,h2,h3,h4⟩:=K4.Zh (cmp:=fe) (c:=yN) (λx y=>IC x y) ad1 s hs
 have hc:=Dw (eq:=λx y:Int=>decide (x=y)) (ne:=λx y=> !decide (x=y)) (z:=0) (λ_ _=>rfl) (λ_ _=>rfl) t (by omega)
 refine⟨dd t,?_,h3.imp λh=>of_decide_eq_true h,by have:=WK t;omega,h4⟩
 have h1':lX s=some ((),t):=h1;simp only[hU,h1',Qa,adV,hc]
 def said(e:ak):List ah:=if bc e then(if e.bA=1 then[e.af,e.ao,e.aD]else if e.bA=2 then[e.ao,at_ e 1000000]else[at_ e 1000000])else[]
def Ht(e:ak):(said e).length<=3:=by
 unfold said;split
 ·split
  ·simp
  ·split<;>simp
 ·simp
def wc{α β:Type}(f:α->List β)(hf:∀x,(f x).length<=3):∀l:List α,(l.flatMap f).length<=3*l.length
 |[]=>by simp
 |x::l=>by have:=wc f hf l;have:=hf x;rw[List.flatMap_cons,QB,QE];omega
section
variable {l : List ak} (hl : ∀ e ∈ l, cU e.aa) (hlen : l.length <= 1000)
 include hl hlen
theorem aaO:∃b,iT l=some b/\b.Pairwise (λx y=>bC y x=true)/\b.length<=3000/\∀x,x∈b↔∃e∈l,x∈said e/\aP x=false:=by
 have hd:=Z4 (p:=bz) (q:=aP) dp (z:=ah.mk 0 bE) (l.flatMap said) (by have:=wc said Ht l;omega)
 obtain⟨b,h1,h2,hbl,h3⟩:=afg ((l.flatMap said).filter λx=> !aP x) (by have:=wc said Ht l;have:=List.length_filter_le (λx=> !aP x) (l.flatMap said);omega)
 refine⟨b,?_,h2,by have:=wc said Ht l;have:=List.length_filter_le (λx=> !aP x) (l.flatMap said);omega,λx=> ?_⟩
 ·unfold iT;refine(Im l (by omega) said (λe _=>Ht e) (fin:=λacc=>Option.bind (eA acc) λr8=>Option.bind (fc r8) λr9=>some r9) (λi e acc he hd hx hw hok hal=> ?_) (λacc hd=> ?_)).trans ?_
  ·have o1:=hok 24 3 (by omega) (by omega) hal
   have o2:=hok 24 2 (by omega) (by omega) hal
   have o3:=hok 24 1 (by omega) (by omega) hal
   simp only[hd,hx,hw,Qk,aS,Qa,etas,su (hl e he),C9,QE,QZ,o1,o2,o3,Nat.zero_add,Nat.reduceAdd];unfold said at_
   cases bc e<;>by_cases k1:e.bA=1<;>by_cases k2:e.bA=2<;>simp[k1,k2]
  ·simp only[hd,Ql]
  ·have hd':eA (l.flatMap said)=_:=hd;simp only[hd',h1,Qa]
 ·rw[h3,List.mem_filter,QQ];constructor
  ·rintro⟨⟨e,he,hx⟩,hz⟩;exact⟨e,he,hx,by simpa using hz⟩
  ·rintro⟨e,he,hx,hz⟩;exact⟨⟨e,he,hx⟩,by simpa using hz⟩
theorem acy:∃b,lD l=some b/\b.Pairwise (λx y=>bP x y=true)/\b.length<=3000/\∀x,x∈b↔∃e∈l,bc e=true/\x=e.af.Value:=by
 have hf:∀e:ak,(if bc e then[e.af.Value]else[]).length<=3:=λe=>by split<;>simp
 obtain⟨b,h1,h2,hbl,h3⟩:=afe (l.flatMap λe=>if bc e then[e.af.Value]else[]) (by have:=wc _ hf l;omega)
 refine⟨b,?_,h2,by have:=wc _ hf l;omega,λx=> ?_⟩
 ·unfold lD;refine(Im l (by omega) (λe=>if bc e then[e.af.Value]else[]) (λe _=>hf e) (fin:=λacc=>Option.bind (gl acc) λr6=>some r6) (λi e acc he hd hx hw hok hal=> ?_) (λacc hd=> ?_)).trans ?_
  ·have o3:=hok 16 1 (by omega) (by omega) hal
   simp only[hd,hx,hw,Qk,aS,Qa,etas,su (hl e he),QE,QZ,o3,Nat.zero_add];cases bc e<;>simp
  ·simp only[hd,Ql]
  ·simp only[h1,Qa]
 ·rw[h3,QQ];constructor
  ·rintro⟨e,he,hx⟩;split at hx
   ·rename_i hv;exact⟨e,he,hv,by simpa using hx⟩
   ·cases hx
  ·rintro⟨e,he,hv,hx⟩;exact⟨e,he,by rw[Qr hv];simpa using hx⟩
theorem aaN(v:ByteArray):∃b,gm l v=some b/\b.Pairwise (·<·)/\b.length<=3000/\∀x,x∈b↔x∈ends v l:=by
 have hf:∀e:ak,(if kc v e then[e.aZ,e.bq]else[]).length<=3:=λe=>by split<;>simp
 obtain⟨b,h1,h2,hbl,h3⟩:=aff (ends v l) (by have:=wc _ hf l;unfold ends;omega)
 refine⟨b,?_,h2,by have:=wc _ hf l;unfold ends at hbl;omega,h3⟩
 unfold gm;refine(Im l (by omega) (λe=>if kc v e then[e.aZ,e.bq]else[]) (λe _=>hf e) (fin:=λacc=>Option.bind (hU acc) λr6=>some r6) (λi e acc he hd hx hw hok hal=> ?_) (λacc hd=> ?_)).trans ?_
 ·have o3:=hok 8 2 (by omega) (by omega) hal
  simp only[hd,hx,hw,Qk,aS,Qa,etas,su (hl e he),QE,QZ,o3,Nat.zero_add,Nat.reduceAdd];unfold kc;cases bc e<;>cases decide (e.af.Value=v)<;>cases decide (e.aZ=0)<;>simp
 ·simp only[hd,Ql]
 ·exact(congrArg (λo=>Option.bind o λr6=>some r6) h1)
end
end
section
def aga{e:ak}(hv:bc e=true):e.bA=1/\0<=e.aZ/\e.aZ<=e.bq\/e.bA≠1/\1<=e.aZ/\e.aZ<=e.bq:=by
 unfold bc gX at hv;rw[Qm]at hv;have h:=hv.2
 by_cases k1:e.bA=1
 ·rw[Qr k1]at h;simp only[gY,Qm,Qi]at h;omega
 ·rw[Qs k1]at h
  by_cases k2:e.bA=2
  ·rw[Qr k2]at h;simp only[wi,uD,Qm,Qi]at h;omega
  ·rw[Qs k2]at h
   by_cases k3:e.bA=3
   ·rw[Qr k3]at h;simp only[BT,uD,Qm,Qi]at h;omega
   ·rw[Qs k3]at h;cases h
end
section
def IJ:ah:=⟨0,gy⟩
def Dt{α τ:Type}(l:List α)(hl:l.length<=1000000)(mk:Int->τ)(P:α->Bool)(z:α){step:τ->Option (τ⊕α)}
  (h1:∀(i:Nat) (x:α),decide ((i:Int)<(l.length:Int))=true->idx l (i:Int)=some x->aA .i64 (i:Int) 1=((i+1:Nat):Int)->step (mk (i:Int))=some (bif P x then .inr x else .inl (mk ((i+1:Nat):Int))))
  (h2:decide ((l.length:Int)<(l.length:Int))=false->step (mk (l.length:Int))=some (.inr z)):aE step (mk 0)=some ((l.find? P).getD z):=by
 suffices key:∀(k i:Nat),i+k=l.length->aE step (mk (i:Int))=some (((l.drop i).find? P).getD z)from key l.length 0 (by omega)
 intro k
 induction k with
 |zero=>
  intro i hi;obtain rfl:i=l.length:=by omega
  rw[bM (h2 (Qh (Qq64 _))),Qq66];rfl
 |succ k ih=>
  intro i hi;have hlt:i<l.length:=by omega
  have hs:=h1 i l[i] (Qg (by omega)) (by rw[bf];exact Qv hlt) (bG (by omega) (by omega))
  rw[QM hlt,List.find?_cons]
  cases hP:P l[i]with
  |true=>rw[hP]at hs;rw[bM hs];rfl
  |false=>rw[hP]at hs;rw[bx hs];exact ih (i+1) (by omega)
 def fj(l:List ak):List ah:=(iT l).getD []
section
variable {l : List ak} (hl : ∀ e ∈ l, cU e.aa) (hlen : l.length <= 1000)
 include hl hlen
theorem pE:iT l=some (fj l)/\(fj l).Pairwise (λx y=>bC y x=true)/\(fj l).length<=3000/\∀x,x∈fj l↔∃e∈l,x∈said e/\aP x=false:=by
 obtain⟨b,h1,h2,h3,h4⟩:=aaO hl hlen;have:fj l=b:=by rw[fj,h1];rfl
 rw[this];exact⟨h1,h2,h3,h4⟩
end
def qS(b:ah):ah:=if 1000<=b.ai then⟨1000000,b.Value⟩else b
def aaf(b:ah):jQ b=some (qS b):=by unfold jQ qS;simp only[aS,DP,Bs]
def Vo{e:ak}(h:cU e.aa)(b:ah):nr e b=some (bc e&&et e b):=by
 simp only[nr,etas,jZ h,Qa,c7,gK,vf]
 cases hv:bc e with
 |false=>simp
 |true=>
  cases hz:aP b with
  |true=>simp[et,hz]
  |false=>
   by_cases k1:e.bA=1
   ·simp[et,hz,k1]
   ·by_cases k3:e.bA=3
    ·simp[et,hz,k3]
    ·by_cases k2:e.bA=2
     ·have hp:aP e.aD=true:=by
       unfold bc gX at hv;rw[Qm,Qs k1,Qr k2]at hv;simp only[wi,Qm]at hv;exact hv.2.1.1.2
      simp[et,hz,k2,ec,jJ,hp]
     ·unfold bc gX at hv;rw[Qs k1,Qs k2,Qs k3]at hv;simp at hv
end
section
 def gG(l:List ak):List ByteArray:=(lD l).getD []
 def bu(l:List ak)(v:ByteArray):List Int:=(gm l v).getD []
section
variable {l : List ak} (hl : ∀ e ∈ l, cU e.aa) (hlen : l.length <= 1000)
 include hl hlen
theorem wL:lD l=some (gG l)/\(gG l).Pairwise (λx y=>bP x y=true)/\(gG l).length<=3000/\∀x,x∈gG l↔∃e∈l,bc e=true/\x=e.af.Value:=by
 obtain⟨b,h1,h2,h3,h4⟩:=acy hl hlen;have:gG l=b:=by rw[gG,h1];rfl
 rw[this];exact⟨h1,h2,h3,h4⟩
theorem jE(v:ByteArray):gm l v=some (bu l v)/\(bu l v).Pairwise (·<·)/\(bu l v).length<=3000/\∀x,x∈bu l v↔x∈ends v l:=by
 obtain⟨b,h1,h2,h3,h4⟩:=aaN hl hlen v;have:bu l v=b:=by rw[bu,h1];rfl
 rw[this];exact⟨h1,h2,h3,h4⟩
end
def Fy{l:List ak}(hl:td l)(hlen:l.length<=1000)(v:ByteArray):∀x∈bu l v,1<=x/\x<=1000:=by
 obtain⟨_,_,_,h⟩:=jE hl.aN hlen v;intro x hx;obtain⟨e,he,hb,hy⟩:=Ea.1 ((h x).1 hx);simp only[kc,Qm,Bool.not_eq_true',Qj]at hb;have hv:=hb.1.1;have h0:=hb.2;unfold bc gX at hv;rw[Qm]at hv;have hv:=hv.2
 by_cases k1:e.bA=1
 ·rw[Qr k1]at hv;simp only[gY,finite,Qm,Qi]at hv;omega
 ·rw[Qs k1]at hv
  by_cases k2:e.bA=2
  ·rw[Qr k2]at hv;simp only[wi,uD,Qm,Qi]at hv;omega
  ·rw[Qs k2]at hv
   by_cases k3:e.bA=3
   ·rw[Qr k3]at hv;simp only[BT,uD,Qm,Qi]at hv;omega
   ·rw[Qs k3]at hv;cases hv
def PZ{α A B ρ:Type}(l:List α)(hl:l.length<=1000000)(f:A×B->α->A×B){step:A×Int×B×Unit->Option ((A×Int×B×Unit)⊕ρ)}{fin:A×B->Option ρ}
  (h1:∀(i:Nat) (x:α) (a:A) (b:B),x∈l->decide ((i:Int)<(l.length:Int))=true->idx l (i:Int)=some x->aA .i64 (i:Int) 1=((i+1:Nat):Int)->step (a,(i:Int),b,())=some (.inl ((f (a,b) x).1,((i+1:Nat):Int),(f (a,b) x).2,())))
  (h2:∀a b,decide ((l.length:Int)<(l.length:Int))=false->step (a,(l.length:Int),b,())=Option.map Sum.inr (fin (a,b))) (a:A) (b:B):aE step (a,(0:Int),b,())=fin (l.foldl f (a,b)):=by
 suffices key:∀(k i:Nat) (a:A) (b:B),i+k=l.length->aE step (a,(i:Int),b,())=fin ((l.drop i).foldl f (a,b))from key l.length 0 a b (by omega)
 intro k
 induction k with
 |zero=>
  intro i a b hi;obtain rfl:i=l.length:=by omega
  rw[fg,h2 a b (Qh (Qq64 _)),Qq66,List.foldl_nil];cases fin (a,b)<;>rfl
 |succ k ih=>
  intro i a b hi;have hlt:i<l.length:=by omega
  rw[bx (h1 i l[i] a b (Q0 hlt) (Qg (by omega)) (by rw[bf];exact Qv hlt) (bG (by omega) (by omega))),ih (i+1) _ _ (by omega),QM hlt,QU]
def oU(p q:ah)(v:ByteArray)(n:Int):Bool:=eO p ⟨n,v⟩||eO q ⟨n,v⟩
def Rw(v:ByteArray)(n:Int)(p q:ah):qz v n p q=some (oU p q v n):=by
 simp only[qz,vh,Qa,iN,Bool.cond_true_left,oU]
 def F7(b:List Int)(ready:Int->Int->Bool)(low cm:Int):Int×Int:=
 match b.reverse.find? (λn=>decide (cm<n)&&ready n n)with
 |none=>(dh (λx=>ready x cm) b.reverse low,cm)
 |some n=>
  let bottom:=dh (λx=>ready x n) b.reverse n
  (dh (λx=>ready x n) b.reverse (if cm<bottom - 1\/bottom<low then bottom else low),n)
 def DN(S:gQ)(b:List Int)(v:ByteArray)(m8:Nat)(e9:Int)(v7:Int×Int×Unit):Option ((Int×Int×Unit)⊕(Int×Int×Unit)):=
 Option.bind (bif (decide (e9<=v7.2.1))then some true else Option.bind (iH S v e9 e9) λr10=>some (!r10)) λb11=>
 bif b11 then some (Sum.inl (v7.1,v7.2.1,()))else
 Option.bind (kO b e9 S v e9) λr12=>
 aY (λ(v13:Int×Unit)=>Option.map Sum.inr (Option.bind (iI b v13.1 S v e9) λr5=>some (r5,e9,()))) λj14=>
 Option.bind (bif (decide (v7.2.1<(c8 .i64 r12 (1:Int))))then some true else some (decide (r12<v7.1))) λb15=>
 bif b15 then j14 (r12,())else j14 (v7.1,())
 def abY(S:gQ)(b:List Int)(v:ByteArray)(v16:Int×Int×Unit):Option (Int×Int×Unit):=Option.bind (iI b v16.1 S v v16.2.1) λr5=>some (r5,v16.2.1,())
section
variable {aF : Nat} (hn : aF < 10) {t : aj} (ht : cU t) {l : List ak} (hl : td l)
 include hn ht hl
end
end
section
section
variable {α : Type} [DecidableEq α] {lt : α -> α -> Bool}
def dR(lt:α->α->Bool)(x:α):List α->List α
 |[]=>[x]
 |y::l=>if lt y x then y::dR lt x l else if y=x then y::l else x::y::l
def HN(x:α):∀(l:List α) (z:α),z∈dR lt x l↔z=x\/z∈l
 |[],z=>by simp[dR]
 |y::l,z=>by
  rw[dR];split
  ·rw[QA,HN x l z,QA];constructor
   ·rintro(h|h|h)
    ·exact .inr (.inl h)
    ·exact .inl h
    ·exact .inr (.inr h)
   ·rintro(h|h|h)
    ·exact .inr (.inl h)
    ·exact .inl h
    ·exact .inr (.inr h)
  ·split
   ·rename_i h;rw[QA];constructor
    ·exact .inr
    ·rintro(h1|h1)
     ·exact .inl (h1.trans h.symm)
     ·exact h1
   ·rw[QA]
def xZ.dR(h:xZ lt)(x:α):∀{l:List α},l.Pairwise (λa b=>lt a b=true)->(Go.Proofs.YtofedieniojipaaGreat.dR lt x l).Pairwise (λa b=>lt a b=true)
 |[],_=>by rw[Go.Proofs.YtofedieniojipaaGreat.dR];exact List.pairwise_singleton _ _
 |y::l,hp=>by
  rw[Q4]at hp;rw[Go.Proofs.YtofedieniojipaaGreat.dR];split
  ·rename_i hy;rw[Q4];refine⟨λz hz=> ?_,h.dR x hp.2⟩
   rcases(HN x l z).1 hz with rfl|hz
   ·exact hy
   ·exact hp.1 z hz
  ·rename_i hy;split
   ·exact Q4.2 hp
   ·rename_i hne
    have hxy:lt x y=true:=by
     cases hc:lt x y with
     |true=>rfl
     |false=>exact absurd (h.total y x (by simpa using hy) hc) hne
    rw[Q4,Q4];refine⟨λz hz=> ?_,hp⟩
    rcases QA.1 hz with rfl|hz
    ·exact hxy
    ·exact h.trans _ _ _ hxy (hp.1 z hz)
def wa(x:α):∀l:List α,(dR lt x l).length<=l.length+1
 |[]=>by simp[dR]
 |y::l=>by
  have:=wa x l;rw[dR];split
  ·simp;omega
  ·split<;>simp
def Sr(x:α):∀(l:List α) (i:Nat),(∀j,j<i->∃y,l[j]?=some y/\lt y x=true)->(∀y,l[i]?=some y->lt y x=false)->dR lt x l=if l[i]?=some x then l else l.take i++x::l.drop i
 |[],i,h1,h2=>by
  cases i with
  |zero=>simp[dR]
  |succ i=>obtain⟨y,hy,_⟩:=h1 0 (by omega);simp at hy
 |y::l,i,h1,h2=>by
  cases i with
  |zero=>
   have hy:=h2 y rfl;rw[dR,hy,Qs (by simp)]
   by_cases h:y=x
   ·simp[h]
   ·simp[h]
  |succ i=>
   obtain⟨y',hy',hlt⟩:=h1 0 (by omega)
   simp only[List.getElem?_cons_zero,Qf]at hy';subst hy'
   rw[dR,Qr hlt,Sr x l i (λj hj=>by
    obtain⟨z,hz,h⟩:=h1 (j+1) (by omega)
    exact⟨z,by simpa using hz,h⟩) (λz hz=>h2 z (by simpa using hz))]
   simp only[List.getElem?_cons_succ,List.take_succ_cons,List.drop_succ_cons];split<;>simp
def Km(h:xZ lt):∀(xs l:List α),l.Pairwise (λa b=>lt a b=true)->(xs.foldl (λl x=>dR lt x l) l).Pairwise (λa b=>lt a b=true)/\∀z,z∈xs.foldl (λl x=>dR lt x l) l↔z∈xs\/z∈l
 |[],l,hp=>⟨hp,by simp⟩
 |x::xs,l,hp=>by
  obtain⟨h1,h2⟩:=Km h xs _ (h.dR x hp);rw[QU];refine⟨h1,λz=> ?_⟩
  rw[h2,HN,QA];constructor
  ·rintro(a|a|a)
   ·exact .inl (.inr a)
   ·exact .inl (.inl a)
   ·exact .inr a
  ·rintro((a|a)|a)
   ·exact .inr (.inl a)
   ·exact .inl a
   ·exact .inr (.inr a)
def PF:∀(xs l:List α),(xs.foldl (λl x=>dR lt x l) l).length<=l.length+xs.length
 |[],l=>by simp
 |x::xs,l=>by have:=PF xs (dR lt x l);have:=wa (lt:=lt) x l;rw[QU,QE];omega
end
def tN{α:Type}(l:List α)(i:Nat):(l.take (Int.toNat (i:Int))).drop (Int.toNat (0:Int))=l.take i:=by simp
def yq{α:Type}(l:List α)(i:Nat):(l.take (Int.toNat (l.length:Int))).drop (Int.toNat (i:Int))=l.drop i:=by simp
def DV{i n:Nat}(h:i<=n):cD (0:Int) (i:Int) n=true:=by simp only[cD,Qm,Qi];omega
def DW{i n:Nat}(h:i<=n):cD (i:Int) (n:Int) n=true:=by simp only[cD,Qm,Qi];omega
def jl{bytes n:Nat}(h:bytes<=200)(hn:n<=1000000):bh bytes n=true:=
 bD ⟨QK (Nat.mul_le_mul hn h) (by decide),hn⟩
def UU{α ρ:Type}(l:List α)(hl:l.length<=1000000)(P:α->Bool){step:Int×Unit->Option ((Int×Unit)⊕ρ)}{r:Nat->Option ρ}
  (h1:∀(i:Nat) (y:α),l[i]?=some y->decide ((i:Int)<(l.length:Int))=true->idx l (i:Int)=some y->P y=true->aA .i64 (i:Int) 1=((i+1:Nat):Int)->step ((i:Int),())=some (.inl (((i+1:Nat):Int),())))
  (h2:∀(i:Nat) (y:α),l[i]?=some y->decide ((i:Int)<(l.length:Int))=true->idx l (i:Int)=some y->P y=false->step ((i:Int),())=Option.map Sum.inr (r i))
  (h3:decide ((l.length:Int)<(l.length:Int))=false->step ((l.length:Int),())=Option.map Sum.inr (r l.length)):
  ∃i,i<=l.length/\(∀j,j<i->∃y,l[j]?=some y/\P y=true)/\(∀y,l[i]?=some y->P y=false)/\aE step ((0:Int),())=r i:=by
 suffices key:∀(k i:Nat),i+k=l.length->(∀j,j<i->∃y,l[j]?=some y/\P y=true)->∃m,m<=l.length/\(∀j,j<m->∃y,l[j]?=some y/\P y=true)/\(∀y,l[m]?=some y->P y=false)/\aE step ((i:Int),())=r m from key l.length 0 (by omega) (λj hj=>absurd hj (Nat.not_lt_zero _))
 intro k
 induction k with
 |zero=>
  intro i hi hj;obtain rfl:i=l.length:=by omega
  refine⟨l.length,QI _,hj,λy hy=>by simp at hy,?_⟩
  rw[fg,h3 (Qh (Qq64 _))];cases r l.length<;>rfl
 |succ k ih=>
  intro i hi hj;have hx:l[i]?=some l[i]:=Qv (by omega)
  have hd:decide ((i:Int)<(l.length:Int))=true:=Qg (by omega)
  cases hP:P l[i]with
  |true=>
   rw[bx (h1 i _ hx hd (by rw[bf];exact hx) hP (bG (by omega) (by omega)))]
   refine ih (i+1) (by omega) λj hj'=> ?_
   rcases Nat.lt_or_ge j i with h|h
   ·exact hj j h
   ·obtain rfl:j=i:=by omega
    exact⟨_,hx,hP⟩
  |false=>
   refine⟨i,by omega,hj,λy hy=> ?_,?_⟩
   ·rw[hx]at hy;injection hy with hy
    rw[<-hy];exact hP
   ·rw[fg,h2 i _ hx hd (by rw[bf];exact hx) hP]
    cases r i<;>rfl
def Kk{α ρ:Type}[DecidableEq α]{lt:α->α->Bool}(l:List α)(hl:l.length<=1000000)(x:α){step:Int×Unit->Option ((Int×Unit)⊕ρ)}{k:List α->Option ρ}
  (h1:∀(i:Nat) (y:α),decide ((i:Int)<(l.length:Int))=true->idx l (i:Int)=some y->lt y x=true->aA .i64 (i:Int) 1=((i+1:Nat):Int)->step ((i:Int),())=some (.inl (((i+1:Nat):Int),())))
  (h2:∀(i:Nat) (y:α),i<l.length->decide ((i:Int)<(l.length:Int))=true->decide ((i:Int)=(l.length:Int))=false->idx l (i:Int)=some y->lt y x=false->step ((i:Int),())=Option.map Sum.inr (k (if y=x then l else l.take i++x::l.drop i)))
  (h3:decide ((l.length:Int)<(l.length:Int))=false->decide ((l.length:Int)=(l.length:Int))=true->step ((l.length:Int),())=Option.map Sum.inr (k (l++[x]))):aE step ((0:Int),())=k (dR lt x l):=by
 obtain⟨i,hi,g1,g2,g3⟩:=UU l hl (λy=>lt y x) (step:=step) (r:=λi=>k (if l[i]?=some x then l else l.take i++x::l.drop i)) (λi y hy hd hx hP hw=>h1 i y hd hx hP hw) (λi y hy hd hx hP=>by
   have hlt:=(Qw.1 hy).1;rw[h2 i y hlt hd (Qh (by omega)) hx hP,hy]
   by_cases hyx:y=x
   ·simp[hyx]
   ·have:¬(some y=some x):=λh=>hyx (by injection h)
    rw[Qs hyx,Qs this]) (λhd=>by
   rw[h3 hd (Qg rfl),Qs (by simp),Qq62,Qq66])
 rw[g3,Sr x l i g1 g2]
def agi(l:List ah)(hl:l.length<=900000)(b:ah):wH l b=some (if aP b then l else dR (λx y=>bC y x) b l):=by
 unfold wH;rw[c7,Qa]
 cases hz:aP b with
 |true=>rfl
 |false=>
  simp only[Ql,aS]
  have he:∀y:ah,(decide (y.ai=b.ai)&&decide (y.Value=b.Value))=decide (y=b):=λy=>by rw[QW];cases y;cases b;simp
  refine Kk (lt:=λx y=>bC y x) l (by omega) b (k:=λt=>some t) (λi y hd hx hlt hw=> ?_) (λi y hi hd hde hx hlt=> ?_) (λhd hde=> ?_)
  ·simp only[hd,hx,hw,Qk,Qa,km,hlt]
  ·have e1:=tN l i;have e2:=yq l i;simp only[hd,hx,Qk,Qa,km,hlt,Ql,Co,e1,e2,DV (show i<=l.length by omega),DW (show i<=l.length by omega),he]
   rw[jl (by omega) (by simp;omega),jl (by omega) (by simp;omega),jl (by omega) (by simp;omega)]
   by_cases hyb:y=b<;>simp[hyb]
  ·have e1:=tN l l.length;have e2:=yq l l.length;simp only[hd,Ql,e1,e2,DV (QI l.length),DW (QI l.length),Qk];rw[jl (by omega) (by simp;omega),jl (by omega) (by simp;omega),jl (by omega) (by simp;omega)]
   simp
def Fq{α σ ρ:Type}(l:List α)(hl:l.length<=1000000)(f:σ->α->σ)(Inv:Nat->σ->Prop){step:σ×Int×Unit->Option ((σ×Int×Unit)⊕ρ)}{fin:σ->Option ρ}
  (hI:∀i s x,x∈l->Inv i s->Inv (i+1) (f s x))
  (h1:∀(i:Nat) (x:α) (s:σ),Inv i s->i<=l.length->x∈l->decide ((i:Int)<(l.length:Int))=true->idx l (i:Int)=some x->aA .i64 (i:Int) 1=((i+1:Nat):Int)->step (s,(i:Int),())=some (.inl (f s x,((i+1:Nat):Int),())))
  (h2:∀s,decide ((l.length:Int)<(l.length:Int))=false->step (s,(l.length:Int),())=Option.map Sum.inr (fin s)) (s:σ) (hs:Inv 0 s):aE step (s,(0:Int),())=fin (l.foldl f s):=by
 suffices key:∀(k i:Nat) (s:σ),i+k=l.length->Inv i s->aE step (s,(i:Int),())=fin ((l.drop i).foldl f s)from key l.length 0 s (by omega) hs
 intro k
 induction k with
 |zero=>
  intro i s hi hs;obtain rfl:i=l.length:=by omega
  rw[fg,h2 s (Qh (Qq64 _)),Qq66,List.foldl_nil];cases fin s<;>rfl
 |succ k ih=>
  intro i s hi hs;have hlt:i<l.length:=by omega
  rw[bx (h1 i l[i] s hs (by omega) (Q0 hlt) (Qg (by omega)) (by rw[bf];exact Qv hlt) (bG (by omega) (by omega))),ih (i+1) _ (by omega) (hI i s _ (Q0 hlt) hs),QM hlt,QU]
 def vm(e:ak):List ah:=if bc e then(if e.bA=1 then[e.af,e.ao,e.aD]else[e.ao,at_ e 1000000])else[]
def Ov{e:ak}{x:ah}(hz:aP x=false):x∈vm e↔x∈said e:=by
 unfold vm said
 cases hv:bc e with
 |false=>simp
 |true=>
  by_cases k1:e.bA=1
  ·simp[k1]
  ·by_cases k2:e.bA=2
   ·simp[k2]
   ·have hp:aP e.ao=true:=by
     unfold bc gX at hv;rw[Qm,Qs k1,Qs k2]at hv;have h:=hv.2
     by_cases k3:e.bA=3
     ·rw[Qr k3]at h;simp only[BT,Qm]at h;exact h.1.1.2
     ·rw[Qs k3]at h;cases h
    simp only[Qt,k1,k2,Qu,QA,QR,or_false];constructor
    ·rintro(h|h)
     ·rw[h,hp]at hz;cases hz
     ·exact h
    ·exact .inr
def wV(l:List ah)(b:ah):List ah:=if aP b then l else dR (λx y=>bC y x) b l
def MF:∀(xs l:List ah),xs.foldl wV l=(xs.filter λb=> !aP b).foldl (λl x=>dR (λx y=>bC y x) x l) l
 |[],l=>rfl
 |x::xs,l=>by rw[QU,MF xs,List.filter_cons];cases hz:aP x<;>simp[wV,hz]
def TJ(l:List ah)(b:ah):(wV l b).length<=l.length+1:=by
 unfold wV;split
 ·omega
 ·exact wa b l
section
variable {l : List ak} (hl : ∀ e ∈ l, cU e.aa) (hlen : l.length <= 1000)
 include hl hlen
theorem Mt:oi l=some (fj l):=by
 have hfold:∀xs:List ah,xs.length<=3->∀s:List ah,(xs.foldl wV s).length<=s.length+xs.length:=by
  intro xs _
  induction xs with
  |nil=>intro s;simp
  |cons x xs ih=>
   intro s;have:=ih (by simp at*;omega) (wV s x)
   have:=TJ s x;rw[QU,QE];omega
 have hr3:∀e,(vm e).length<=3:=λe=>by
  unfold vm;split
  ·split<;>simp
  ·simp
 have hF:oi l=some (l.foldl (λs e=>(vm e).foldl wV s) []):=by
  unfold oi;refine Fq l (by omega) (λs e=>(vm e).foldl wV s) (λi s=>s.length<=3*i) (fin:=λs=>some s) (λi s x _ hs=> ?_) (λi e s hs hi he hd hx hw=> ?_) (λs hd=> ?_) [] (by simp)
  ·have:=hfold (vm x) (hr3 x) s;have:=hr3 x;show(List.foldl wV s (vm x)).length<=3*(i+1);omega
  ·simp only[hd,hx,hw,Qk,aS,Qa,etas,jZ (hl e he)]
   have inner:∀L:List ah,L.length<=3->aE (λ(v8:(List ah)×Int×Unit)=>
     bif (decide (v8.2.1<((List.length L:Nat):Int)))then Option.bind (idx L v8.2.1) λx9=>Option.bind (wH v8.1 x9) λr10=>some (Sum.inl (r10,(aA .i64 v8.2.1 (1:Int)),()))
     else Option.map Sum.inr (some (Sum.inl (v8.1,((i+1:Nat):Int),()):((List ah)×Int×Unit)⊕(List ah)))) (s,(0:Int),())=some (Sum.inl (L.foldl wV s,((i+1:Nat):Int),())):=by
    intro L hL;refine Fq L (by omega) wV (λk t=>t.length<=s.length+k) (fin:=λt=>some (Sum.inl (t,((i+1:Nat):Int),()))) (λk t x _ ht=> ?_) (λk x t ht hk hx' hd' hxx hw'=> ?_) (λt hd'=> ?_) s (by simp)
    ·have:=TJ t x;omega
    ·simp only[hd',hxx,hw',Qk,Qa,agi t (by omega)]
     rfl
    ·simp only[hd',Ql]
   cases hv:bc e with
   |false=>simp[vm,hv]
   |true=>
    by_cases k1:e.bA=1
    ·have i3:=inner [e.af,e.ao,e.aD] (by simp)
     simp only[Qo,Ql,k1,decide_true,i3,vm,hv,Qt]
    ·have i2:=inner [e.ao,⟨1000000,e.af.Value⟩] (by simp)
     simp only[Qo,Qp,Ql,Qk,k1,decide_false,i2,vm,hv,Qt,Qu,at_]
  ·simp only[hd,Ql]
 obtain⟨_,h2,_,h4⟩:=pE hl hlen;have hflat:l.foldl (λs e=>(vm e).foldl wV s) []=(l.flatMap vm).foldl wV []:=by rw[List.foldl_flatMap]
 rw[hF,hflat,MF];obtain⟨h5,h6⟩:=Km E3.flip ((l.flatMap vm).filter λb=> !aP b) [] .nil
 congr 1;refine E3.flip.unique h5 h2 λx=> ?_
 rw[h6,h4];simp only[List.mem_filter,QQ,QR,or_false,Bool.not_eq_true'];constructor
 ·rintro⟨⟨e,he,hx⟩,hz⟩;exact⟨e,he,(Ov hz).1 hx,hz⟩
 ·rintro⟨e,he,hx,hz⟩;exact⟨⟨e,he,(Ov hz).2 hx⟩,hz⟩
end
section
variable {l : List ak} (hl : ∀ e ∈ l, cU e.aa) (hlen : l.length <= 1000)
 include hl hlen
theorem Zw:tt l=some (gG l):=by
 have hF:tt l=some (l.foldl (λs e=>if bc e then dR bP e.af.Value s else s) []):=by
  unfold tt;refine Fq l (by omega) (λs e=>if bc e then dR bP e.af.Value s else s) (λi s=>s.length<=i) (fin:=λs=>some s) (λi s x _ hs=> ?_) (λi e s hs hi he hd hx hw=> ?_) (λs hd=> ?_) [] (by simp)
  ·show(if bc x then dR bP x.af.Value s else s).length<=i+1
   have:=wa (lt:=bP) x.af.Value s;split<;>omega
  ·simp only[hd,hx,hw,Qk,aS,Qa,etas,jZ (hl e he)]
   cases hv:bc e with
   |false=>simp
   |true=>
    simp only[Qo,Ql,Qt];refine Kk (lt:=bP) s (by omega) e.af.Value (k:=λt=>some (Sum.inl (t,((i+1:Nat):Int),()))) (λj y hd' hx' hlt hw'=> ?_) (λj y hj hd' hde hx' hlt=> ?_) (λhd' hde=> ?_)
    ·simp only[hd',hx',hw',Qk,Qa,AA,hlt]
    ·have e1:=tN s j;have e2:=yq s j;simp only[hd',hx',hde,Qk,Ql,Qa,AA,hlt,e1,e2,DV (show j<=s.length by omega),DW (show j<=s.length by omega)]
     rw[jl (by omega) (by simp;omega),jl (by omega) (by simp;omega),jl (by omega) (by simp;omega)]
     by_cases hyx:y=e.af.Value<;>simp[hyx]
    ·have e1:=tN s s.length;have e2:=yq s s.length;simp only[hd',Qk,Ql,e1,e2,DV (QI s.length),DW (QI s.length)];rw[jl (by omega) (by simp;omega),jl (by omega) (by simp;omega),jl (by omega) (by simp;omega)]
     simp
  ·simp only[hd,Ql]
 obtain⟨_,h2,_,h4⟩:=wL hl hlen
 have hflat:l.foldl (λs e=>if bc e then dR bP e.af.Value s else s) []=(l.flatMap λe=>if bc e then[e.af.Value]else[]).foldl (λl x=>dR bP x l) []:=by
  rw[List.foldl_flatMap];congr 1
  funext s e
  split<;>rfl
 rw[hF,hflat];obtain⟨h5,h6⟩:=Km jx (l.flatMap λe=>if bc e then[e.af.Value]else[]) [] .nil
 congr 1;refine jx.unique h5 h2 λx=> ?_
 rw[h6,h4];simp only[QQ,QR,or_false];constructor
 ·rintro⟨e,he,hx⟩;split at hx
  ·rename_i hv;exact⟨e,he,hv,by simpa using hx⟩
  ·cases hx
 ·rintro⟨e,he,hv,hx⟩;exact⟨e,he,by rw[Qr hv];simpa using hx⟩
theorem zF(v:ByteArray):jG l v=some (bu l v):=by
 have hF:jG l v=some (l.foldl (λs e=>if kc v e then dR (λa b=>decide (a<b)) e.bq (dR (λa b=>decide (a<b)) e.aZ s)else s) []):=by
  unfold jG;refine Fq l (by omega) (λs e=>if kc v e then dR (λa b=>decide (a<b)) e.bq (dR (λa b=>decide (a<b)) e.aZ s)else s) (λi s=>s.length<=2*i) (fin:=λs=>some s) (λi s x _ hs=> ?_) (λi e s hs hi he hd hx hw=> ?_) (λs hd=> ?_) [] (by simp)
  ·show(if kc v x then dR (λa b=>decide (a<b)) x.bq (dR (λa b=>decide (a<b)) x.aZ s)else s).length<=2*(i+1)
   have h1:=wa (lt:=λa b:Int=>decide (a<b)) x.aZ s
   have h2:=wa (lt:=λa b:Int=>decide (a<b)) x.bq (dR (λa b=>decide (a<b)) x.aZ s)
   split<;>omega
  ·simp only[hd,hx,hw,Qk,aS,Qa,etas,jZ (hl e he)]
   have inner:∀(t:List Int) (x:Int) (z:Int),t.length<=3000->aE (λ(v12:Int×Unit)=>
     Option.bind (bif (decide (v12.1<((List.length t:Nat):Int)))then Option.bind (idx t v12.1) λx13=>some (decide (x13<x))else some false) λb14=>
     bif b14 then some (Sum.inl ((aA .i64 v12.1 (1:Int)),()))else
     Option.map Sum.inr (Option.bind (bif (decide (v12.1=((List.length t:Nat):Int)))then some true else Option.bind (idx t v12.1) λx15=>some (!decide (x15=x))) λb16=>
     bif b16 then
     bif cD (0:Int) v12.1 (List.length t)then
     bif bh 8 (List.length ((t.take (Int.toNat v12.1)).drop (Int.toNat (0:Int))))then
     bif bh 8 (List.length ((t.take (Int.toNat v12.1)).drop (Int.toNat (0:Int)))+List.length [x])then
     bif cD v12.1 (t.length:Int) (List.length t)then
     bif bh 8 (List.length (((t.take (Int.toNat v12.1)).drop (Int.toNat (0:Int)))++[x])+List.length ((t.take (Int.toNat (t.length:Int))).drop (Int.toNat v12.1)))then
     some (Sum.inl (((((t.take (Int.toNat v12.1)).drop (Int.toNat (0:Int)))++[x])++((t.take (Int.toNat (t.length:Int))).drop (Int.toNat v12.1))),z,()):((List Int)×Int×Unit)⊕(((List Int)×Int×Unit)⊕(List Int)))
     else none else none else none else none else none
     else some (Sum.inl (t,z,())))) ((0:Int),())=some (Sum.inl (dR (λa b=>decide (a<b)) x t,z,())):=by
    intro t x z ht;refine Kk (lt:=λa b:Int=>decide (a<b)) t (by omega) x (k:=λt=>some (Sum.inl (t,z,()))) (λj y hd' hx' hlt hw'=> ?_) (λj y hj hd' hde hx' hlt=> ?_) (λhd' hde=> ?_)
    ·simp only[hd',hx',hw',Qk,Qa,hlt]
    ·have e1:=tN t j;have e2:=yq t j;simp only[hd',hx',hde,Qk,Ql,Qa,hlt,e1,e2,DV (show j<=t.length by omega),DW (show j<=t.length by omega)]
     rw[jl (by omega) (by simp;omega),jl (by omega) (by simp;omega),jl (by omega) (by simp;omega)]
     by_cases hyx:y=x<;>simp[hyx]
    ·have e1:=tN t t.length;have e2:=yq t t.length;simp only[hd',Qk,Ql,Qa,e1,e2,DV (QI t.length),DW (QI t.length)];rw[jl (by omega) (by simp;omega),jl (by omega) (by simp;omega),jl (by omega) (by simp;omega)]
     simp
   have hw1:aA .i64 (0:Int) 1=1:=rfl;have hw2:aA .i64 (1:Int) 1=2:=rfl;have hd0:decide ((0:Int)<2)=true:=rfl;have hd1:decide ((1:Int)<2)=true:=rfl;have hd2:decide ((2:Int)<2)=false:=rfl;have hx0:idx [e.aZ,e.bq] 0=some e.aZ:=rfl;have hx1:idx [e.aZ,e.bq] 1=some e.bq:=rfl;have hl1:=wa (lt:=λa b:Int=>decide (a<b)) e.aZ s
   unfold kc
   cases hv:bc e with
   |false=>simp
   |true=>
    by_cases hvv:e.af.Value=v
    ·by_cases hlo:e.aZ=0
     ·simp[hvv,hlo]
     ·simp only[Qo,Ql,hvv,decide_true,hlo,decide_false,Bool.and_self,Qp,Qa,Qt];refine(bx (s':=(dR (λa b=>decide (a<b)) e.aZ s,(1:Int),())) ?_).trans ((bx (s':=(dR (λa b=>decide (a<b)) e.bq (dR (λa b=>decide (a<b)) e.aZ s),(2:Int),())) ?_).trans (bM ?_))
      ·simp only[hd0,hx0,hw1,Qk,Qa];exact inner s e.aZ 1 (by omega)
      ·simp only[hd1,hx1,hw2,Qk,Qa];exact inner _ e.bq 2 (by omega)
      ·simp only[hd2,Ql,Qe]
    ·simp[hvv]
  ·simp only[hd,Ql]
 obtain⟨_,h2,_,h4⟩:=jE hl hlen v
 have hflat:l.foldl (λs e=>if kc v e then dR (λa b=>decide (a<b)) e.bq (dR (λa b=>decide (a<b)) e.aZ s)else s) []=(ends v l).foldl (λl x=>dR (λa b=>decide (a<b)) x l) []:=by
  rw[ends,List.foldl_flatMap];congr 1
  funext s e
  split<;>rfl
 rw[hF,hflat];obtain⟨h5,h6⟩:=Km K4 (ends v l) [] .nil;congr 1;refine K4.unique h5 (h2.imp λh=>Qg h) λx=> ?_
 rw[h6,h4];simp
end
end
section
def kinds{e:ak}(hv:bc e=true):e.bA=1\/e.bA=2\/e.bA=3:=by
 unfold bc gX at hv;rw[Qm]at hv;have h:=hv.2
 by_cases k1:e.bA=1
 ·exact .inl k1
 ·by_cases k2:e.bA=2
  ·exact .inr (.inl k2)
  ·by_cases k3:e.bA=3
   ·exact .inr (.inr k3)
   ·rw[Qs k1,Qs k2,Qs k3]at h;cases h
def Zu{e:ak}(h:cU e.aa)(b:ah):py e b=some (bc e&&sP e b):=by
 simp only[py,etas,jZ h,Qa,c7,gK,C6]
 cases hv:bc e with
 |false=>simp
 |true=>
  cases hz:aP b with
  |true=>simp[sP,hz]
  |false=>by_cases k1:e.bA=1<;>simp[sP,hz,k1]
def Vp{e:ak}(h:cU e.aa)(v:ByteArray)(lo hi:Int):om e v lo hi=some (bc e&&iO e v lo hi):=by
 simp only[om,etas,jZ h,Qa,iN,iO,Lq]
 cases hv:bc e with
 |false=>simp
 |true=>
  have hk:=kinds hv
  by_cases a1:lo<1<;>by_cases a2:hi<lo<;>by_cases a3:e.af.Value=v<;>by_cases a4:lo<e.aZ<;>by_cases k1:e.bA=1<;>by_cases k3:e.bA=3<;>simp_all<;>grind
def Zv{e:ak}(h:cU e.aa)(v:ByteArray)(lo hi:Int):qD e v lo hi=some (bc e&&vI e v lo hi):=by
 simp only[qD,etas,jZ h,Qa,iN,vI,Lq]
 cases hv:bc e with
 |false=>simp
 |true=>
  have hl:=aga hv
  by_cases a1:lo<1<;>by_cases a2:hi<lo<;>by_cases a3:e.af.Value=v<;>by_cases a4:lo<e.aZ<;>by_cases k1:e.bA=1<;>by_cases a5:e.aZ=0<;>simp_all<;>grind
def xD(p:ak->Bool):∀l:List ak,ff (λe=>bc e&&p e) l=ff p (c5 l)
 |[]=>rfl
 |e::l=>by have ih:=xD p l;rw[ff,ih];cases hv:bc e<;>simp[c5,hv,ff]
def BC(l:List ak)(hlen:l.length<=1000)(p:ak->Bool)(hp:∀e∈l,p e=true->0<=e.al/\e.al<10):gw l (l.map p)=some ((ff p l:Nat):Int):=by
 unfold gw
 suffices key:∀(k i s:Nat),i+k=l.length->s<1024->aE _ ((s:Int),(i:Int),())=some ((s|||ff p (l.drop i):Nat):Int)by
  have:=key l.length 0 0 (by omega) (by omega)
  rw[Nat.zero_or,List.drop_zero]at this;exact this
 intro k
 induction k with
 |zero=>
  intro i s hi hs;obtain rfl:i=l.length:=by omega
  have hd:decide ((l.length:Int)<(l.length:Int))=false:=Qh (Qq64 _);rw[bM (r:=(s:Int)) (by simp only[hd,Ql,Qe]),Qq66,ff]
  simp
 |succ k ih=>
  intro i s hi hs;have hlt:i<l.length:=by omega
  have hd:decide ((i:Int)<(l.length:Int))=true:=Qg (by omega)
  have hd2:decide ((i:Int)<(((l.map p).length:Nat):Int))=true:=Qg (by rw[QC];omega)
  have hw:aA .i64 (i:Int) 1=((i+1:Nat):Int):=bG (by omega) (by omega)
  have hx:idx l (i:Int)=some l[i]:=by rw[bf];exact Qv hlt
  have hx2:idx (l.map p) (i:Int)=some (p l[i]):=by rw[bf,QT,Qv hlt];rfl
  rw[QM hlt,ff]
  cases hpe:p l[i]with
  |false=>
   rw[bx (s':=((s:Int),((i+1:Nat):Int),())) (by simp only[hd,hd2,hx,hx2,hw,hpe,Qk,Ql,aS,Qa]),ih (i+1) s (by omega) hs]
   simp
  |true=>
   obtain⟨h0,h1⟩:=hp _ (Q0 hlt) hpe
   have hc:br .u64 l[i].al=l[i].al:=by
    obtain⟨n,hn⟩:∃n:Nat,l[i].al=n:=⟨l[i].al.toNat,by omega⟩
    rw[hn];exact ae5 (by omega)
   have hn0:¬l[i].al<0:=by omega
   have d1:decide ((0:Int)<=l[i].al)=true:=Qg h0;have d2:decide (l[i].al<=(9:Int))=true:=Qg (by omega)
   rw[bx (s':=(((s|||2 ^ l[i].al.toNat:Nat):Int),((i+1:Nat):Int),())) (by
    simp only[hd,hd2,hx,hx2,hw,hpe,Qk,aS,Qa,d1,d2,hc,hn0,Qu]
    rw[qO hs h0 h1]),ih (i+1) _ (by omega) (BJ hs h1)]
   simp[Nat.or_assoc]
def U4{ρ:Type}(l:List ak)(hl:l.length<=1000)(p q:ak->Bool){step:Int×List Bool×List Bool×Unit->Option ((Int×List Bool×List Bool×Unit)⊕ρ)}{fin:List Bool->List Bool->Option ρ}
  (h1:∀(i:Nat) (e:ak) (vs as_:List Bool),e∈l->decide ((i:Int)<(l.length:Int))=true->idx l (i:Int)=some e->aA .i64 (i:Int) 1=((i+1:Nat):Int)->(∀x:Bool,bh 1 (vs.length+[x].length)=true)->(∀x:Bool,bh 1 (as_.length+[x].length)=true)->step ((i:Int),vs,as_,())=some (.inl (((i+1:Nat):Int),vs++[p e],as_++[q e],())))
  (h2:∀vs as_,decide ((l.length:Int)<(l.length:Int))=false->step ((l.length:Int),vs,as_,())=Option.map Sum.inr (fin vs as_)):aE step ((0:Int),[],[],())=fin (l.map p) (l.map q):=by
 suffices key:∀(k i:Nat),i+k=l.length->aE step ((i:Int),(l.take i).map p,(l.take i).map q,())=fin (l.map p) (l.map q)from key l.length 0 (by omega)
 intro k
 induction k with
 |zero=>
  intro i hi;obtain rfl:i=l.length:=by omega
  rw[fg,h2 _ _ (Qh (Qq64 _)),Qq62];cases fin (l.map p) (l.map q)<;>rfl
 |succ k ih=>
  intro i hi;have hlt:i<l.length:=by omega
  rw[bx (h1 i l[i] _ _ (Q0 hlt) (Qg (by omega)) (by rw[bf];exact Qv hlt) (bG (by omega) (by omega)) (λx=>jl (by omega) (by simp;omega)) (λx=>jl (by omega) (by simp;omega))),<-ih (i+1) (by omega),Q7 hlt,List.map_append,List.map_append]
  rfl
def Hh{p:ak->Bool}{l:List ak}:∀e∈l,(bc e&&p e)=true->0<=e.al/\e.al<10:=λe _ h=>by rw[Qm]at h;exact kD h.1
section
variable {l : List ak} (hl : ∀ e ∈ l, cU e.aa) (hlen : l.length <= 1000)
 include hl hlen
theorem Tc(b:ah):wG l b=some (((ff (λe=>sP e b||et e b) (c5 l):Nat):Int),((ff (et · b) (c5 l):Nat):Int),()):=by
 unfold wG;refine(U4 l hlen (λe=>bc e&&(sP e b||et e b)) (λe=>bc e&&et e b) (fin:=λvs as_=>Option.bind (gw l vs) λr6=>Option.bind (gw l as_) λr7=>some (r6,r7,())) (λi e vs as_ he hd hx hw o1 o2=> ?_) (λvs as_ hd=> ?_)).trans ?_
 ·simp only[hd,hx,hw,Qk,Qa,etas,Vo (hl e he),Zu (hl e he),iN,o1,o2];cases bc e<;>cases sP e b<;>cases et e b<;>rfl
 ·simp only[hd,Ql]
 ·rw[BC l hlen _ Hh,BC l hlen _ Hh,Qa,Qa,xD,xD]
theorem Tb(v:ByteArray)(lo hi:Int):wD l v lo hi=some (((ff (λe=>vI e v lo hi||iO e v lo hi) (c5 l):Nat):Int),((ff (iO · v lo hi) (c5 l):Nat):Int),()):=by
 unfold wD;refine(U4 l hlen (λe=>bc e&&(vI e v lo hi||iO e v lo hi)) (λe=>bc e&&iO e v lo hi) (fin:=λvs as_=>Option.bind (gw l vs) λr6=>Option.bind (gw l as_) λr7=>some (r6,r7,())) (λi e vs as_ he hd hx hw o1 o2=> ?_) (λvs as_ hd=> ?_)).trans ?_
 ·simp only[hd,hx,hw,Qk,Qa,etas,Vp (hl e he),Zv (hl e he),iN,o1,o2];cases bc e<;>cases vI e v lo hi<;>cases iO e v lo hi<;>rfl
 ·simp only[hd,Ql]
 ·rw[BC l hlen _ Hh,BC l hlen _ Hh,Qa,Qa,xD,xD]
end
def wO{c:bd}(hc:AX c){v a b:Nat}(hv:v<10)(h1:a<1024)(h2:b<1024):oq c v a b=some (rG c.bn v a b):=by
 unfold oq rG;have h3:a|||b<1024:=Nat.or_lt_two_pow (n:=10) h1 h2
 rw[xJ h1,xJ h2,OE hc h2,Gy a b (by omega) (by omega),D0 hc h3]
 simp[uf (Ia hc h3).lt,yL,hv]
def vn{c:bd}(hc:AX c){v b:Nat}(hv:v<10)(h2:b<1024):il c v b=some ((gq c.bn b).testBit v):=by unfold il;rw[D0 hc h2];simp[uf (Ia hc h2).lt,yL,hv]
end
section
def Oj{c:bd}{aF:Int}{l:List ak}(hlen:l.length<=100000)(b:ah):im ⟨aF,c,(c5 l).map bK.mk⟩ b=iS c aF ((ff (λe=>sP e b||et e b) (c5 l):Nat):Int) ((ff (et · b) (c5 l):Nat):Int):=by have hrl:=Df l;have hin:=nF l;simp only[im,oY,lf,Qa,Option.bind_fun_some,aaF (by omega:(c5 l).length<=1000000) hin,MQ (by omega:(c5 l).length<=1000000) hin]
def M6{c:bd}{aF:Int}{l:List ak}(hlen:l.length<=100000)(b:ah):fB ⟨aF,c,(c5 l).map bK.mk⟩ b=fq c aF ((ff (et · b) (c5 l):Nat):Int):=by have hrl:=Df l;have hin:=nF l;simp only[fB,Qa,Option.bind_fun_some,MQ (by omega:(c5 l).length<=1000000) hin]
def aa4(b:ah):mV b=some (qS b):=by unfold mV qS;simp only[aS,DP,Bs]
def Dk(x:ah->Bool)(p q:ah)(v:ByteArray)(b:ah):Bool:=(decide (v=gy)||decide (b.Value=v))&& !ec (qS p) (qS q) b&&x b
def Ds(y:ah->Bool)(a b:ah):Bool:=bC a b&&decide (b.ai<=1000)&&y b
section
variable {aF : Int} {t : aj} {l : List ak} (hl : td l) (hlen : l.length <= 1000) {c : bd} {x y : ah -> Bool}
 include hl hlen
theorem af5(hL:fW aF t l=some ⟨aF,c,(c5 l).map bK.mk⟩)(hx:∀b,im ⟨aF,c,(c5 l).map bK.mk⟩ b=some (x b))(p q:ah)(v:ByteArray):pP aF t l p q v=some (((fj l).find? (Dk x p q v)).getD IJ):=by
 obtain⟨h1,_,h3,_⟩:=pE hl.aN hlen;unfold pP;simp only[etas,hL,h1,Qa];refine Dt (fj l) (by omega) (λi=>(i,ah.mk (0:Int) bE,())) (Dk x p q v) IJ (λi b hd hx' hw=> ?_) (λhd=> ?_)
 ·simp only[hd,hx',hw,Qk,aS,Qa,aaf,tI,hx];unfold Dk gy;cases decide (v=bE)<;>cases decide (b.Value=v)<;>cases ec (qS p) (qS q) b<;>cases x b<;>simp
 ·simp only[hd,Ql,Qe];rfl
theorem acR(hx:∀b,rR aF t l b=some (x b))(p q:ah)(v:ByteArray):tr aF t l p q v=some (((fj l).find? (Dk x p q v)).getD IJ):=by
 obtain⟨h1,_,h3,_⟩:=pE hl.aN hlen;unfold tr;simp only[etas,Mt hl.aN hlen,Qa];refine Dt (fj l) (by omega) (λi=>(i,ah.mk (0:Int) bE,())) (Dk x p q v) IJ (λi b hd hx' hw=> ?_) (λhd=> ?_)
 ·simp only[hd,hx',hw,Qk,aS,Qa,aa4,vf,hx];unfold Dk gy;cases decide (v=bE)<;>cases decide (b.Value=v)<;>cases ec (qS p) (qS q) b<;>cases x b<;>simp
 ·simp only[hd,Ql,Qe];rfl
theorem agl(hL:fW aF t l=some ⟨aF,c,(c5 l).map bK.mk⟩)(hy:∀b,fB ⟨aF,c,(c5 l).map bK.mk⟩ b=some (y b))(a:ah):mo aF t l a=some (((fj l).find? (Ds y a)).getD IJ):=by
 obtain⟨h1,_,h3,_⟩:=pE hl.aN hlen;unfold mo;simp only[etas,hL,h1,Qa];refine Dt (fj l) (by omega) (λi=>(i,ah.mk (0:Int) bE,())) (Ds y a) IJ (λi b hd hx' hw=> ?_) (λhd=> ?_)
 ·simp only[hd,hx',hw,Qk,aS,Qa,jW,oY,hy];unfold Ds;cases bC a b<;>cases decide (b.ai<=1000)<;>cases y b<;>simp
 ·simp only[hd,Ql,Qe];rfl
theorem acS(hy:∀b,qn aF t l b=some (y b))(a:ah):oh aF t l a=some (((fj l).find? (Ds y a)).getD IJ):=by
 obtain⟨h1,_,h3,_⟩:=pE hl.aN hlen;unfold oh;simp only[etas,Mt hl.aN hlen,Qa];refine Dt (fj l) (by omega) (λi=>(i,ah.mk (0:Int) bE,())) (Ds y a) IJ (λi b hd hx' hw=> ?_) (λhd=> ?_)
 ·simp only[hd,hx',hw,Qk,Qa,km,hy];unfold Ds;cases bC a b<;>cases decide (b.ai<=1000)<;>cases y b<;>simp
 ·simp only[hd,Ql,Qe];rfl
end
end
section
def ji{A ρ:Type}(g:A->Int->A⊕ρ)(fin:A->Option ρ):List Int->A->Option ρ
 |[],a=>fin a
 |x::l,a=>match g a x with
  | .inl a'=>ji g fin l a'
  | .inr r=>some r
def zJ{A σ ρ:Type}(b:List Int)(hb:b.length<=1000000)(st:A->Int->σ)(g:A->Int->A⊕ρ)(fin:A->Option ρ){step:σ->Option (σ⊕ρ)}
  (h1:∀(i:Nat) (x:Int) (a:A),idx b (i:Int)=some x->decide ((0:Int)<=(i:Int))=true->c8 .i64 (i:Int) 1=(i:Int) - 1->step (st a (i:Int))=some (match g a x with| .inl a'=> .inl (st a' ((i:Int) - 1))| .inr r=> .inr r))
  (h2:∀a,decide ((0:Int)<=(-1:Int))=false->step (st a (-1))=Option.map Sum.inr (fin a)):∀n:Nat,n<=b.length->∀a:A,aE step (st a ((n:Int) - 1))=ji g fin (b.take n).reverse a
 |0,_,a=>by
  rw[show((0:Nat):Int) - 1= -1 by omega,fg,h2 a rfl,List.take_zero,List.reverse_nil,ji]
  cases fin a<;>rfl
 |n+1,hn,a=>by
  have hlt:n<b.length:=by omega
  have hs:=h1 n b[n] a (by rw[bf];exact Qv hlt) (Qg (by omega)) (qC (by omega) (by omega))
  rw[show((n+1:Nat):Int) - 1=(n:Int)by omega,Q7 hlt,List.reverse_append,List.reverse_singleton,List.singleton_append,ji]
  cases hg:g a b[n]with
  |inl a'=>rw[hg]at hs;rw[bx hs,zJ b hb st g fin h1 h2 n (by omega) a']
  |inr r=>rw[hg]at hs;rw[bM hs]
def K3(b:List Int)(hb:b.length<=1000000):c8 .i64 (b.length:Int) 1=(b.length:Int) - 1:=qC (by omega) (by omega)
def E9{ρ:Type}(q:Int->Bool)(f:Int->ρ):∀(l:List Int) (lo:Int),ji (λlo x=>if lo<=x then .inl lo else if q x then .inl x else .inr (f lo)) (λlo=>some (f lo)) l lo=some (f (dh q l lo))
 |[],lo=>rfl
 |x::l,lo=>by
  rw[ji,dh]
  by_cases h1:lo<=x
  ·rw[Qr h1,Qr h1];exact E9 q f l lo
  ·rw[Qs h1,Qs h1]
   cases hq:q x with
   |true=>rw[Qr rfl,Qr rfl];exact E9 q f l x
   |false=>rw[Qs (by simp),Qs (by simp)]
def Th{A ρ:Type}(s:A)(c p:Int->Bool)(f:Int->ρ)(d:ρ)(g:A->Int->A⊕ρ)(fin:A->Option ρ)(hg:∀z,g s z=if c z then(if p z then .inr (f z)else .inl s)else .inr d)(hfin:fin s=some d)(hc:∀a b,b<a->c b=true->c a=true):
  ∀r:List Int,r.Pairwise (λa b=>b<a)->ji g fin r s=some (match r.find? (λn=>c n&&p n)with|some n=>f n|none=>d)
 |[],_=>hfin
 |z::r,h=>by
  rw[ji,hg,List.find?_cons];rw[Q4]at h
  cases hz:c z with
  |false=>
   have:r.find? (λn=>c n&&p n)=none:=by rw[List.find?_eq_none];intro n hn hcn;rw[Qm]at hcn;rw[hc z n (h.1 n hn) hcn.1]at hz;cases hz
   simp[this]
  |true=>
   cases hp:p z with
   |true=>simp
   |false=>simp only[Qt,Bool.true_and];exact Th s c p f d g fin hg hfin hc r h.2
def Ot{ρ:Type}(q:Int->Bool)(f:Int->ρ):∀(r:List Int) (lo:Int),(∀z∈r,z<lo)->r.Pairwise (λa b=>b<a)->ji (λlo z=>if q z then .inl z else .inr (f lo)) (λlo=>some (f lo)) r lo=some (f (dh q r lo))
 |[],lo,_,_=>rfl
 |z::r,lo,h,hs=>by
  rw[Q4]at hs;have hz:=h z (by simp)
  have h0:¬lo<=z:=by omega
  rw[ji,dh,Qs h0]
  cases hq:q z with
  |true=>rw[Qr rfl,Qr rfl];exact Ot q f r z hs.1 hs.2
  |false=>rw[Qs (by simp),Qs (by simp)]
def PY{α B ρ:Type}(l:List α)(hl:l.length<=1000000)(f:B->α->B){step:Int×B×Unit->Option ((Int×B×Unit)⊕ρ)}{fin:B->Option ρ}
  (h1:∀(i:Nat) (x:α) (b:B),x∈l->decide ((i:Int)<(l.length:Int))=true->idx l (i:Int)=some x->aA .i64 (i:Int) 1=((i+1:Nat):Int)->step ((i:Int),b,())=some (.inl (((i+1:Nat):Int),f b x,())))
  (h2:∀b,decide ((l.length:Int)<(l.length:Int))=false->step ((l.length:Int),b,())=Option.map Sum.inr (fin b)) (b:B):aE step ((0:Int),b,())=fin (l.foldl f b):=by
 suffices key:∀(k i:Nat) (b:B),i+k=l.length->aE step ((i:Int),b,())=fin ((l.drop i).foldl f b)from key l.length 0 b (by omega)
 intro k
 induction k with
 |zero=>
  intro i b hi;obtain rfl:i=l.length:=by omega
  rw[fg,h2 b (Qh (Qq64 _)),Qq66,List.foldl_nil];cases fin b<;>rfl
 |succ k ih=>
  intro i b hi;have hlt:i<l.length:=by omega
  rw[bx (h1 i l[i] b (Q0 hlt) (Qg (by omega)) (by rw[bf];exact Qv hlt) (bG (by omega) (by omega))),ih (i+1) _ (by omega),QM hlt,QU]
def MK(q:Int->Bool):∀(l r:List Int) (lo:Int),(∀x∈l,lo<=x)->dh q (l++r) lo=dh q r lo
 |[],r,lo,_=>rfl
 |x::l,r,lo,h=>by
  rw[List.cons_append,dh,Qr (h x (by simp))]
  exact MK q l r lo λy hy=>h y (by simp[hy])
def Ig(q:Int->Bool):∀(r:List Int) (lo:Int),(∀x∈r,0<=x/\x<=1000000)->0<=lo/\lo<=1000000->0<=dh q r lo/\dh q r lo<=1000000
 |[],lo,_,h=>h
 |x::r,lo,hx,h=>by
  rw[dh];split
  ·exact Ig q r lo (λy hy=>hx y (by simp[hy])) h
  ·split
   ·exact Ig q r x (λy hy=>hx y (by simp[hy])) (hx x (by simp))
   ·exact h
 def fY(x:ByteArray->Int->Int->Bool)(p q:ah)(v:ByteArray)(s:Bool×ah)(n:Int):Bool×ah:=
 if bC s.2 ⟨n,v⟩&& !oU p q v n&&x v n n then(true,⟨n,v⟩)else s
 def ig(x:ByteArray->Int->Int->Bool)(l:List ak)(p q:ah):Bool×ah:=
 (gG l).foldl (λs v=>(bu l v).foldl (fY x p q v) s) (false,⟨0,gy⟩)
 def rF(x:ByteArray->Int->Int->Bool)(l:List ak)(p q:ah)(s:Bool×ah):ByteArray×Int×Int×Bool×Unit:=
 if s.1 then(s.2.Value,dh (λn=> !oU p q s.2.Value n&&x s.2.Value n s.2.ai) (bu l s.2.Value).reverse s.2.ai,s.2.ai,true,())else(gy,0,0,false,())
section
variable {S : gQ} {x y : ByteArray -> Int -> Int -> Bool} (hx : ∀ v lo hi, iH S v lo hi = some (x v lo hi)) (hy : ∀ v lo hi, oJ S v lo hi = some (y v lo hi))
section
 include hx
theorem adO(b:List Int)(lo:Int)(p q z:ah):kq b lo p q z S=some (dh (λn=> !oU p q z.Value n&&x z.Value n z.ai) b.reverse lo):=by
 have:=DO (p:=λe=>oz e p q z S) (q:=λn=> !oU p q z.Value n&&x z.Value n z.ai) (λe=>by
  simp only[oz,Rw,hx,Qa,iN]
  cases oU p q z.Value e<;>simp) b.reverse lo
 simp only[kq,cp,aS,Qa];exact this
theorem adN(b:List Int)(lo:Int)(v:ByteArray)(hi:Int):kO b lo S v hi=some (dh (λz=>x v z hi) b.reverse lo):=by
 have:=DO (p:=λe=>sO e S v hi) (q:=λz=>x v z hi) (λe=>by simp only[sO,hx,Qa]) b.reverse lo
 simp only[kO,cp,aS,Qa];exact this
theorem WC(b:List Int)(lo:Int)(v:ByteArray)(hi:Int):iI b lo S v hi=some (dh (λz=>x v z hi) b.reverse lo):=by
 have:=DO (p:=λe=>sN e S v hi) (q:=λz=>x v z hi) (λe=>by simp only[sN,hx,Qa]) b.reverse lo
 simp only[iI,cp,aS,Qa];exact this
theorem TV(b:List Int)(v:ByteArray)(low cm:Int)(hb:∀x∈b,0<=x/\x<=1000000):∀r:List Int,(∀x∈r,x∈b)->n9 (DN S b v) (abY S b v) r (low,cm,())=
  some (match r.find? (λn=>decide (cm<n)&&x v n n)with
   |none=>(dh (λz=>x v z cm) b.reverse low,cm,())
   |some n=>(dh (λz=>x v z n) b.reverse (if cm<dh (λz=>x v z n) b.reverse n - 1\/dh (λz=>x v z n) b.reverse n<low then dh (λz=>x v z n) b.reverse n else low),n,()))
 |[],_=>by simp only[n9,abY,WC hx,Qa,List.find?_nil]
 |e::r,hr=>by
  have ih:=TV b v low cm hb r (λx hx=>hr x (by simp[hx]))
  rw[List.find?_cons,n9]
  by_cases hle:e<=cm
  ·have h2:decide (cm<e)=false:=Qh (by omega)
   have h1:decide (e<=cm)=true:=Qg hle;have hst:DN S b v r.length e (low,cm,())=some (.inl (low,cm,())):=by simp only[DN,h1,Qk,Qa]
   rw[hst,h2,Bool.false_and];exact ih
  ·have h2:decide (cm<e)=true:=Qg (by omega)
   have h1:decide (e<=cm)=false:=Qh hle;rw[h2,Bool.true_and]
   cases hr':x v e e with
   |false=>
    have hst:DN S b v r.length e (low,cm,())=some (.inl (low,cm,())):=by simp only[DN,h1,Ql,hx,hr',Qp,Qa,Qk]
    rw[hst];exact ih
   |true=>
    have hb9:=Ig (λz=>x v z e) b.reverse e (λz hz=>hb z (by simpa using hz)) (hb e (hr e (by simp)))
    simp only[DN,h1,Ql,hx,hr',Qo,adN hx,WC hx,Qa,aS,iN,Bool.cond_true_left,Qe];generalize dh (λz=>x v z e) b.reverse e=bt at*
    have e3:c8 .i64 bt 1=bt - 1:=qC (by omega) (by omega)
    rw[e3]
    by_cases hc:cm<bt - 1\/bt<low
    ·have:(decide (cm<bt - 1)||decide (bt<low))=true:=by rw[Qn];simpa using hc
     rw[this,Qr hc];rfl
    ·have:(decide (cm<bt - 1)||decide (bt<low))=false:=by
      rw[<-QX,Qn];simpa using hc
     rw[this,Qs hc];rfl
end
section
 include hy
theorem agH(b:List Int)(lo:Int)(v:ByteArray)(hi:Int):kN b lo S v hi=some (dh (λz=>y v z hi) b.reverse lo):=by
 have:=DO (p:=λe=>uA e S v hi) (q:=λz=>y v z hi) (λe=>by simp only[uA,hy,Qa]) b.reverse lo
 simp only[kN,cp,aS,Qa];exact this
end
variable {aF : Int} {t : aj} {l : List ak} (hl : td l) (hlen : l.length <= 1000) (hL : fW aF t l = some S)
 include hl hlen hL
section
 include hx
theorem aiO(p q:ah):tF aF t l p q=some (rF x l p q (ig x l p q)):=by
 obtain⟨h1,_,h3,_⟩:=wL hl.aN hlen;unfold tF;simp only[etas,hL,h1,Qa];refine(PZ (gG l) (by omega) (λs v=>(bu l v).foldl (fY x p q v) s) (fin:=λs=>some (rF x l p q s)) (λi v a b hv hd hx' hw=> ?_) (λa b hd=> ?_) false ⟨0,bE⟩)
 ·obtain⟨g1,_,g3,_⟩:=jE hl.aN hlen v;simp only[hd,hx',hw,Qk,Qa,g1];refine(PZ (bu l v) (by omega) (fY x p q v) (fin:=λs=>some (Sum.inl (s.1,((i+1:Nat):Int),s.2,()))) (λi' n a' b' hv' hd' hx'' hw'=> ?_) (λa' b' hd'=> ?_) a b)
  ·simp only[hd',hx'',hw',Qk,aS,Qa,jW,Rw,hx,iN];unfold fY;cases bC b' ⟨n,v⟩<;>cases oU p q v n<;>cases x v n n<;>simp
  ·simp only[hd',Ql]
 ·simp only[hd,Ql];obtain⟨g1,_,g3,_⟩:=jE hl.aN hlen b.Value;unfold rF;cases a
  ·rfl
  ·simp only[Qo,Ql,g1,Qa,adO hx,Qt]
theorem ahg(v:ByteArray)(low cm:Int):se aF t l v low cm=some ((F7 (bu l v) (x v) low cm).1,(F7 (bu l v) (x v) low cm).2,()):=by
 obtain⟨h1,_,_,_⟩:=jE hl.aN hlen v;have hin:=Fy hl hlen v;unfold se;simp only[etas,hL,h1,Qa,cp];refine(TV hx (bu l v) v low cm (λx hx=>by have:=hin x hx;omega) (bu l v).reverse (by simp)).trans ?_
 unfold F7;cases (bu l v).reverse.find? (λn=>decide (cm<n)&&x v n n)<;>rfl
end
section
 include hy
theorem aiP(v:ByteArray):tG aF t l v=some (Et (bu l v) (y v)):=by
 obtain⟨h1,_,_,_⟩:=jE hl.aN hlen v
 have:=YP (p:=λe=>oJ S v e e) (q:=λe=>y v e e) (d:=λe=>kN (bu l v) e S v e) (f:=λe=>dh (λz=>y v z e) (bu l v).reverse e)
  (λe=>hy v e e) (λe=>agH hy (bu l v) e v e) (bu l v).reverse
 simp only[tG,etas,hL,h1,cp,Qa,Et];exact this
end
end
 def E4(x:ByteArray->Int->Int->Bool)(p q:ah)(v:ByteArray)(s:ah)(n:Int):ah:=if bC s ⟨n,v⟩&& !oU p q v n&&x v n n then⟨n,v⟩else s
def Xa{x:ByteArray->Int->Int->Bool}{p q:ah}(v:ByteArray):∀(b:List Int),(∀n∈b,1<=n)->∀s:Bool×ah,s.1= !aP s.2->
  (b.foldl (fY x p q v) s).2=b.foldl (E4 x p q v) s.2/\(b.foldl (fY x p q v) s).1= !aP (b.foldl (fY x p q v) s).2
 |[],_,s,h=>⟨rfl,h⟩
 |n::b,hb,s,h=>by
  rw[QU,QU];have hn:=hb n (by simp)
  have h1:(fY x p q v s n).2=E4 x p q v s.2 n:=by unfold fY E4;split<;>rfl
  have h2:(fY x p q v s n).1= !aP (fY x p q v s n).2:=by
   unfold fY;split
   ·have:decide (n=0)=false:=Qh (by omega)
    simp[aP,this]
   ·exact h
  rw[<-h1];exact Xa v b (λn hn=>hb n (by simp[hn])) _ h2
def Xb{x:ByteArray->Int->Int->Bool}{p q:ah}{l:List ak}(hl:td l)(hlen:l.length<=1000):∀(vs:List ByteArray) (s:Bool×ah),s.1= !aP s.2->
  (vs.foldl (λs v=>(bu l v).foldl (fY x p q v) s) s).2=vs.foldl (λs v=>(bu l v).foldl (E4 x p q v) s) s.2/\(vs.foldl (λs v=>(bu l v).foldl (fY x p q v) s) s).1= !aP (vs.foldl (λs v=>(bu l v).foldl (fY x p q v) s) s).2
 |[],s,h=>⟨rfl,h⟩
 |v::vs,s,h=>by
  rw[QU,QU];obtain⟨h1,h2⟩:=Xa (x:=x) (p:=p) (q:=q) v (bu l v) (λn hn=>(Fy hl hlen v n hn).1) s h
  rw[<-h1];exact Xb hl hlen vs _ h2
section
variable {aF : Int} {t : aj} {l : List ak} (hl : td l) (hlen : l.length <= 1000) {x y : ByteArray -> Int -> Int -> Bool} (hx : ∀ v lo hi, kl aF t l v lo hi = some (x v lo hi)) (hy : ∀ v lo hi, mU aF t l v lo hi = some (y v lo hi))
 include hl hlen
section
 include hx
theorem acY(v:ByteArray)(lo hi:Int):wF aF t l v lo hi=some (dh (λz=>x v z hi) (bu l v).reverse lo):=by
 obtain⟨_,_,h3,_⟩:=jE hl.aN hlen v;unfold wF;simp only[etas,zF hl.aN hlen,Qa,K3 _ (by omega:(bu l v).length<=1000000),aS]
 refine(zJ (bu l v) (by omega) (λlo i=>(lo,i,())) (λlo z=>if lo<=z then .inl lo else if x v z hi then .inl z else .inr lo) (λlo=>some lo) (λi z a hi' hd hs=> ?_) (λa hd=> ?_) (bu l v).length (QI _) lo).trans ?_
 ·simp only[hi',hd,hs,Qk,Qa,hx]
  by_cases h1:a<=z
  ·simp[h1]
  ·cases x v z hi<;>simp[h1]
 ·simp only[hd,Ql]
 ·rw[Qq62];exact E9 (λz=>x v z hi) (λlo=>lo) _ _
theorem ac7(v:ByteArray)(low cm:Int):pM aF t l v low cm=some ((F7 (bu l v) (x v) low cm).1,(F7 (bu l v) (x v) low cm).2,()):=by
 obtain⟨_,h2,h3,_⟩:=jE hl.aN hlen v;have hin:=Fy hl hlen v;unfold pM;simp only[etas,zF hl.aN hlen,acY hl hlen hx,Qa,K3 _ (by omega:(bu l v).length<=1000000),aS]
 refine(zJ (bu l v) (by omega) (λ(s:Int×Int) i=>(s.1,s.2,i,()))
  (λs z=>if s.2<z then(if x v z z then .inr (dh (λw=>x v w z) (bu l v).reverse (if s.2<dh (λw=>x v w z) (bu l v).reverse z - 1\/dh (λw=>x v w z) (bu l v).reverse z<s.1 then dh (λw=>x v w z) (bu l v).reverse z else s.1),z,())else .inl s)
   else .inr (dh (λw=>x v w s.2) (bu l v).reverse s.1,s.2,()))
  (λs=>some (dh (λw=>x v w s.2) (bu l v).reverse s.1,s.2,())) (λi z s hi' hd hs=> ?_) (λs hd=> ?_) (bu l v).length (QI _) (low,cm)).trans ?_
 ·have hz:z∈bu l v:=by rw[bf]at hi';exact Q8 hi'
  have hb9:=Ig (λw=>x v w z) (bu l v).reverse z (λw hw=>by have:=hin w (by simpa using hw);omega) (by have:=hin z hz;omega)
  simp only[hi',hd,hs,Qk,Qa,hx]
  by_cases h1:s.2<z
  ·simp only[h1,decide_true,Qk,Qt]
   cases hxz:x v z z with
   |false=>simp
   |true=>
    generalize dh (λw=>x v w z) (bu l v).reverse z=bt at*
    have e3:c8 .i64 bt 1=bt - 1:=qC (by omega) (by omega)
    simp only[Qo,Ql,e3,Qt]
    by_cases h4:s.2<bt - 1
    ·simp[h4]
    ·by_cases h5:bt<s.1
     ·simp[h4,h5,du]
     ·simp[h4,h5,du]
  ·simp[h1]
 ·simp only[hd,Ql,Qa]
 ·rw[Qq62]
  refine(Th (low,cm) (λz=>decide (cm<z)) (λz=>x v z z) (λz=>(dh (λw=>x v w z) (bu l v).reverse (if cm<dh (λw=>x v w z) (bu l v).reverse z - 1\/dh (λw=>x v w z) (bu l v).reverse z<low then dh (λw=>x v w z) (bu l v).reverse z else low),z,()))
   (dh (λw=>x v w cm) (bu l v).reverse low,cm,()) _ _ (λz=> ?_) rfl (λa b h h'=> ?_) _ (List.pairwise_reverse.2 h2)).trans ?_
  ·by_cases h4:cm<z<;>simp[h4]
  ·simp only[Qi]at h' ⊢;omega
  ·unfold F7;cases (bu l v).reverse.find? (λn=>decide (cm<n)&&x v n n)<;>rfl
 omit hl hlen hx in
theorem YO(p q:ah)(n:Int)(v:ByteArray):wE p q n v=some (!oU p q v n):=by simp only[wE,C7,Qa,oU];cases eO p ⟨n,v⟩<;>cases eO q ⟨n,v⟩<;>rfl
theorem afC(p q:ah):qY aF t l p q=some (rF x l p q (ig x l p q)):=by
 obtain⟨_,_,h3,_⟩:=wL hl.aN hlen;obtain⟨e1,e2⟩:=Xb (x:=x) (p:=p) (q:=q) hl hlen (gG l) (false,⟨0,gy⟩) rfl;unfold qY;simp only[etas,Zw hl.aN hlen,Qa];refine(PY (gG l) (by omega) (λs v=>(bu l v).foldl (E4 x p q v) s) (fin:=λs=>some (rF x l p q (!aP s,s))) (λi v b hv hd hx' hw=> ?_) (λb hd=> ?_) ⟨0,bE⟩).trans ?_
 ·obtain⟨_,_,g3,_⟩:=jE hl.aN hlen v;simp only[hd,hx',hw,Qk,Qa,zF hl.aN hlen];refine(PY (bu l v) (by omega) (E4 x p q v) (fin:=λs=>some (Sum.inl (((i+1:Nat):Int),s,()))) (λi' n b' hv' hd' hx'' hw'=> ?_) (λb' hd'=> ?_) b)
  ·simp only[hd',hx'',hw',Qk,aS,Qa,km,YO,hx,iN];unfold E4;cases bC b' ⟨n,v⟩<;>cases oU p q v n<;>cases x v n n<;>simp
  ·simp only[hd',Ql]
 ·obtain⟨_,_,g3,_⟩:=jE hl.aN hlen b.Value;simp only[hd,Ql,c7,Qa];unfold rF
  cases aP b with
  |true=>rfl
  |false=>
   simp only[Qp,Qt,Ql,zF hl.aN hlen,Qa,aS,K3 _ (by omega:(bu l b.Value).length<=1000000)]
   refine congrArg (Option.map Sum.inr) ((zJ (bu l b.Value) (by omega) (λlo i=>(lo,i,())) (λlo z=>if lo<=z then .inl lo else if !oU p q b.Value z&&x b.Value z b.ai then .inl z else .inr (b.Value,lo,b.ai,true,())) (λlo=>some (b.Value,lo,b.ai,true,())) (λi z a hi' hd hs=> ?_) (λa hd=> ?_) (bu l b.Value).length (QI _) b.ai).trans ?_)
   ·simp only[hi',hd,hs,Qk,Qa,hx,YO]
    by_cases h1:a<=z
    ·simp[h1]
    ·cases oU p q b.Value z<;>cases x b.Value z b.ai<;>simp[h1]
   ·simp only[hd,Ql]
   ·rw[Qq62];exact E9 (λz=> !oU p q b.Value z&&x b.Value z b.ai) (λlo=>(b.Value,lo,b.ai,true,())) _ _
 ·unfold ig;rw[show(gG l).foldl (λs v=>(bu l v).foldl (E4 x p q v) s) ⟨0,bE⟩=((gG l).foldl (λs v=>(bu l v).foldl (fY x p q v) s) (false,⟨0,gy⟩)).2 from e1.symm,<-e2]
end
section
 include hy
theorem afE(v:ByteArray):qZ aF t l v=some (Et (bu l v) (y v)):=by
 obtain⟨_,h2,h3,_⟩:=jE hl.aN hlen v;unfold qZ;simp only[etas,zF hl.aN hlen,Qa,K3 _ (by omega:(bu l v).length<=1000000),aS]
 unfold Et;generalize bu l v=b at*
 suffices key:∀n:Nat,n<=b.length->aE _ (((n:Nat):Int) - 1,())=some (match(b.take n).reverse.find? (λe=>y v e e)with|some e=>(dh (λz=>y v z e) b.reverse e,e,true,())|none=>(0,0,false,()))by have:=key b.length (QI _);rw[Qq62]at this;exact this
 intro n
 induction n with
 |zero=>
  intro _;rw[show((0:Nat):Int) - 1= -1 by omega]
  have hd:decide ((0:Int)<= -1)=false:=rfl;exact bM (by simp only[hd,Ql,Qe,List.take_zero,List.reverse_nil,List.find?_nil])
 |succ n ih=>
  intro hn;have hlt:n<b.length:=by omega
  have hxn:idx b (n:Int)=some b[n]:=by rw[bf];exact Qv hlt
  have hd:decide ((0:Int)<=(n:Int))=true:=Qg (by omega)
  have hs:c8 .i64 (n:Int) 1=(n:Int) - 1:=qC (by omega) (by omega)
  rw[show((n+1:Nat):Int) - 1=(n:Int)by omega,Q7 hlt,List.reverse_append,List.reverse_singleton,List.singleton_append,List.find?_cons]
  cases hyn:y v b[n] b[n]with
  |false=>
   rw[bx (s':=((n:Int) - 1,())) (by simp only[hd,hxn,hs,hy,hyn,Qk,Qa,Qp])]
   exact ih (by omega)
  |true=>
   have hb:b=b.take n++b[n]::b.drop (n+1):=by rw[<-QM hlt,List.take_append_drop]
   have hp:(b.take n++b[n]::b.drop (n+1)).Pairwise (·<·):=hb▸h2;rw[Qq69,Q4]at hp;obtain⟨p1,⟨p2,p3⟩,p4⟩:=hp;refine bM ?_;simp only[hd,hxn,hs,hy,hyn,Qk,Ql,Qa,Qo];refine(zJ b (by omega) (λlo i=>(lo,i,())) (λlo z=>if y v z b[n]then .inl z else .inr (.inr (lo,b[n],true,()))) (λlo=>some (.inr (lo,b[n],true,()))) (λi z a hi' hd' hs'=> ?_) (λa hd'=> ?_) n (by omega) b[n]).trans ?_
   ·simp only[hi',hd',hs',Qk,Qa];cases y v z b[n]<;>simp
   ·simp only[hd',Ql,Qe]
   ·rw[Ot (λz=>y v z b[n]) (λlo=>Sum.inr (lo,b[n],true,())) _ _ (λz hz=>p4 z (List.mem_reverse.1 hz) _ (Qx ..)) (List.pairwise_reverse.2 p1)]
    have:dh (λz=>y v z b[n]) b.reverse b[n]=dh (λz=>y v z b[n]) (b.take n).reverse b[n]:=by
     have hr:b.reverse=((b.drop (n+1)).reverse++[b[n]])++(b.take n).reverse:=by rw[<-List.reverse_cons,<-List.reverse_append,<-hb]
     rw[hr];refine MK _ _ _ _ λz hz=> ?_
     rw[Qz,List.mem_reverse,Q5]at hz;rcases hz with hz|rfl
     ·exact Int.le_of_lt (p2 z hz)
     ·exact Int.le_refl _
    rw[this]
end
end
end
section
section
variable {aF : Nat} (hn : aF < 10) {t : aj} (ht : cU t) {l : List ak} (hl : td l) (hlen : l.length <= 1000)
 include hn ht hl hlen
theorem ahK(b:ah):rR aF t l b=some (pD aF t l b):=by have hin:=nF l;have hsm:=oB (aF:=aF) ht hl;simp only[rR,etas,Tc hl.aN hlen,Ba hn hl,Qa,wO hsm hn (mO hin) (mO hin)];rfl
theorem afF(b:ah):qn aF t l b=some (nG aF t l b):=by have hin:=nF l;have hsm:=oB (aF:=aF) ht hl;simp only[qn,etas,Tc hl.aN hlen,Ba hn hl,Qa,vn hsm hn (mO hin)];rfl
theorem ahY(b:ah):im ⟨aF,⟨kP aF t l⟩,(c5 l).map bK.mk⟩ b=some (pD aF t l b):=by have hin:=nF l;have hsm:=oB (aF:=aF) ht hl;rw[Oj hl.len,CL hsm hn (mO hin) (mO hin)];rfl
theorem afW(b:ah):fB ⟨aF,⟨kP aF t l⟩,(c5 l).map bK.mk⟩ b=some (nG aF t l b):=by
 have hin:=nF l;have hsm:=oB (aF:=aF) ht hl;rw[M6 hl.len,Bt hsm hn (mO hin)];rfl
 def ka(aF:Nat)(t:aj)(l:List ak)(p q:ah)(v:ByteArray):ah:=((fj l).find? (Dk (pD aF t l) p q v)).getD IJ
 def Ad(aF:Nat)(t:aj)(l:List ak)(a:ah):ah:=((fj l).find? (Ds (nG aF t l) a)).getD IJ
theorem afy(p q:ah)(v:ByteArray):tr aF t l p q v=some (ka aF t l p q v):=acR hl hlen (ahK hn ht hl hlen) p q v
theorem afA(a:ah):oh aF t l a=some (Ad aF t l a):=acS hl hlen (afF hn ht hl hlen) a
theorem afT(p q:ah)(v:ByteArray):pP aF t l p q v=some (ka aF t l p q v):=af5 hl hlen (SR hn ht hl) (ahY hn ht hl hlen) p q v
theorem afU(a:ah):mo aF t l a=some (Ad aF t l a):=agl hl hlen (SR hn ht hl) (afW hn ht hl hlen) a
end
end
end Go.Proofs.YtofedieniojipaaGreat
end
