/-
  Texts made small by a program (see NOTES). Conditions: those that each theorem names.
-/
import Derived.Test.YtofedieniojipaaGreatParticipantSaysMd
set_option linter.unusedVariables false
set_option linter.defProp false
set_option linter.unusedSimpArgs false
set_option linter.unusedSectionVars false
set_option maxHeartbeats 2000000
open Int (toNat)
open Sum (inl inr)
open List (replicate)
noncomputable section
namespace Go.TQ
@[simp] theorem aR {σ ρ:Type} (j:σ->Option ρ) (f:(σ->Option ρ)->Option ρ):aY j f=f j:=rfl
@[simp] def kY {α:Type} (b:Bool) (x y:α):(bif b then some x else some y)=some (bif b then x else y):=by cases b<;>rfl
@[simp] def akM {α:Type} (b:Bool) (x:α):(bif b then x else x)=x:=by cases b<;>rfl
def D3{α:Type}(p:Prop)[Decidable p](x y:α):(bif decide p then x else y)=if p then x else y:=by by_cases h:p<;>simp[h]
def BK{α:Type}(p:Prop)[Decidable p](x y:α):(if p then some x else some y)=some (if p then x else y):=by split<;>rfl
@[simp] def Hb {α:Type} (b:Bool) (x y:α):(bif !b then x else y)=bif b then y else x:=by cases b<;>rfl
@[simp] def CH (a b:Int) (s t:ByteArray):mu false a b s t=(decide (a=b)&&decide (s=t)):=by simp[mu]
@[simp] def adS (a b:Int) (s t:ByteArray):mu true a b s t= !(decide (a=b)&&decide (s=t)):=by simp[mu]
def Yd{α:Type}(o:Option α)(p:α->Prop):Prop:=∃x,o=some x/\p x
def Yd.bind{α β:Type}{o:Option α}{p:α->Prop}{f:α->Option β}{q:β->Prop}(h:Yd o p)(k:∀x,p x->Yd (f x) q):Yd (o.bind f) q:=by obtain⟨x,rfl,hx⟩:=h;exact k x hx
def Yd.mono{α:Type}{o:Option α}{p q:α->Prop}(h:Yd o p)(k:∀x,p x->q x):Yd o q:=by obtain⟨x,h1,hx⟩:=h;exact⟨x,h1,k x hx⟩
theorem Yd.some{α:Type}{x:α}{p:α->Prop}(h:p x):Yd (Option.some x) p:=⟨x,rfl,h⟩
def Yd.of_eq{α:Type}{o:Option α}{x:α}{p:α->Prop}(h:o=Option.some x)(hp:p x):Yd o p:=⟨x,h,hp⟩
def Yd.cond{α:Type}{b:Bool}{x y:Option α}{p:α->Prop}(h1:b=true->Yd x p)(h2:b=false->Yd y p):Yd (bif b then x else y) p:=by
 cases b
 ·exact h2 rfl
 ·exact h1 rfl
def Yd.map{α β:Type}{o:Option α}{f:α->β}{p:β->Prop}(h:Yd o λx=>p (f x)):Yd (o.map f) p:=by obtain⟨x,rfl,hx⟩:=h;exact⟨f x,rfl,hx⟩
def Yd.eq_true{o:Option Bool}(h:Yd o (·=true)):o=Option.some true:=by obtain⟨x,h1,rfl⟩:=h;exact h1
def wrap64{n:Int}(h1: -9223372036854775808<=n)(h2:n<=9223372036854775807):IntKind.i64.wrap n=n:=i64_in h1 h2
theorem bG{a b:Int}(h1: -9223372036854775808<=a+b)(h2:a+b<=9223372036854775807):aB .i64 a b=a+b:=wrap64 h1 h2
theorem nY{a b:Int}(h1: -9223372036854775808<=a - b)(h2:a - b<=9223372036854775807):cW .i64 a b=a - b:=wrap64 h1 h2
theorem bd{α:Type}(l:List α)(i:Nat):idx l (i:Int)=l[i]?:=by simp[idx]
theorem PN{α:Type}(l:List α){n:Int}(h:0<=n):idx l n=l[n.toNat]?:=by simp[idx,h]
@[simp] def aiz (n:Nat) (h:n<256):br .i64 (n:Int)=n:=wrap64 (by omega) (by omega)
@[simp] theorem bz {bytes n:Nat} (h:n*bytes<=140737488355328/\n<=1000000):bg bytes n=true:=by simp only[bg,Qm,Qi];exact⟨h.1,QK h.2 (by simp[maxLen])⟩
def wb(a:Nat)(h:a<2 ^ 62):(BitVec.ofInt 64 (a:Int)).toNat=a:=by grind
def D5(n:Nat)(h:n<2 ^ 62):IntKind.i64.wrap (n:Int)=n:=wrap64 (by omega) (by omega)
def EU(a b:Nat)(ha:a<2 ^ 62)(hb:b<2 ^ 62):Gq .i64 (a:Int) (b:Int)=((a&&&b:Nat):Int):=by show IntKind.i64.wrap (((BitVec.ofInt 64 (a:Int)&&&BitVec.ofInt 64 (b:Int)).toNat:Nat):Int)=_;rw[BitVec.toNat_and,wb a ha,wb b hb];exact D5 _ (Nat.lt_of_le_of_lt Nat.and_le_left ha)
def GJ(a b:Nat)(ha:a<2 ^ 62)(hb:b<2 ^ 62):sO .i64 (a:Int) (b:Int)=((a|||b:Nat):Int):=by
 show IntKind.i64.wrap (((BitVec.ofInt 64 (a:Int)|||BitVec.ofInt 64 (b:Int)).toNat:Nat):Int)=_
 rw[BitVec.toNat_or,wb a ha,wb b hb];exact D5 _ (Nat.or_lt_two_pow ha hb)
def ag0(s k:Nat):s&&&2 ^ k=if s.testBit k then 2 ^ k else 0:=by
 refine Nat.eq_of_testBit_eq λi=> ?_
 grind
theorem yM(k:Nat)(h:k<=60):bX .i64 1 (k:Int)=((2 ^ k:Nat):Int):=by
 show IntKind.i64.wrap (1*2 ^ min (k:Int).toNat 64)=_;rw[QV,show min k 64=k from Nat.min_eq_left (by omega),Int.one_mul]
 have:=D5 (2 ^ k) (Nat.pow_lt_pow_right (by omega) (by omega))
 simpa using this
def acW(a k:Nat)(h:k<=60):jP .i64 (a:Int) (k:Int)=((a>>>k:Nat):Int):=by
 show(a:Int).fdiv (2 ^ min (k:Int).toNat 64)=_;rw[QV,show min k 64=k from Nat.min_eq_left (by omega),Nat.shiftRight_eq_div_pow]
 grind
theorem bO{σ ρ:Type}{step:σ->Option (σ⊕ρ)}{s:σ}{r:ρ}(h:step s=some (.inr r)):aE step s=some r:=by rw[fg,h]
def bA{σ ρ:Type}{step:σ->Option (σ⊕ρ)}{s s':σ}(h:step s=some (.inl s')):aE step s=aE step s':=by rw[fg,h]
def Pg{σ ρ:Type}{step:σ->Option (σ⊕ρ)}{s:σ}(h:step s=none):aE step s=none:=by rw[fg,h]
def Yd.loop{σ ρ:Type}{step:σ->Option (σ⊕ρ)}{s:σ}{p:ρ->Prop}(h:Yd (step s) λy=>match y with| .inl s'=>Yd (aE step s') p| .inr r=>p r):Yd (aE step s) p:=by
 obtain⟨y,h1,h2⟩:=h
 cases y with
 |inl s'=>rw[bA h1];exact h2
 |inr r=>exact⟨r,bO h1,h2⟩
def Yd.join{σ ρ:Type}{j:σ->Option ρ}{f:(σ->Option ρ)->Option ρ}{p:ρ->Prop}(inv:σ->Prop)(h1:∀v,inv v->Yd (j v) p)(h2:∀j':σ->Option ρ,(∀v,inv v->Yd (j' v) p)->Yd (f j') p):Yd (aY j f) p:=h2 j h1
def Yd.inr{σ ρ:Type}{o:Option ρ}{p:σ⊕ρ->Prop}(h:Yd o λr=>p (.inr r)):Yd (Option.map inr o) p:=h.map
def fL{α σ ρ:Type}(g:α->σ->Option (σ⊕ρ))(fin:σ->Option ρ):List α->σ->Option ρ
 |[],s=>fin s
 |x::l,s=>match g x s with
  |none=>none
  |some (.inr r)=>some r
  |some (.inl s')=>fL g fin l s'
def Z2{α σ τ ρ:Type}(l:List α)(mk:Int->σ->τ){step:τ->Option (τ⊕ρ)}(g:α->σ->Option (σ⊕ρ))(fin:σ->Option ρ)
  (h1:∀(i:Nat) (x:α) (s:σ),i<l.length->l[i]?=some x->step (mk i s)=match g x s with|none=>none|some (.inr r)=>some (.inr r)|some (.inl s')=>some (.inl (mk (i+1:Nat) s')))
  (h2:∀s,step (mk l.length s)=(fin s).map inr) (s:σ):aE step (mk 0 s)=fL g fin l s:=by
 suffices h:∀(k:Nat) (i:Nat) (s:σ),i+k=l.length->aE step (mk i s)=fL g fin (l.drop i) s by
  have:=h l.length 0 s (by omega)
  simpa using this
 intro k
 induction k with
 |zero=>
  intro i s hi;obtain rfl:i=l.length:=by omega
  rw[Qq66,fL,fg,h2];cases fin s<;>rfl
 |succ k ih=>
  intro i s hi;have hlt:i<l.length:=by omega
  rw[QM hlt,fL,fg,h1 i l[i] s hlt (Qv hlt)]
  cases hg:g l[i] s with
  |none=>rfl
  |some y=>
   cases y with
   |inr r=>rfl
   |inl s'=>exact ih (i+1) s' (by omega)
def iD{α σ τ ρ:Type}(l:List α)(hl:l.length<=9223372036854775807)(mk:Int->σ->τ){step:τ->Option (τ⊕ρ)}(g:α->σ->Option (σ⊕ρ))(fin:σ->Option ρ)
  (h1:∀(i:Nat) (x:α) (s:σ),decide ((i:Int)<(l.length:Int))=true->idx l (i:Int)=some x->aB .i64 (i:Int) 1=((i+1:Nat):Int)->step (mk i s)=match g x s with|none=>none|some (.inr r)=>some (.inr r)|some (.inl s')=>some (.inl (mk (i+1:Nat) s')))
  (h2:∀s,decide ((l.length:Int)<(l.length:Int))=false->step (mk l.length s)=(fin s).map inr) (s:σ):aE step (mk 0 s)=fL g fin l s:=
 Z2 l mk g fin (λi x s hi hx=>h1 i x s (Qg (Int.ofNat_lt.2 hi)) (by rw[bd];exact hx) (bG (by omega) (by omega))) (λs=>h2 s (Qh (Qq64 _))) s
end Go.TQ
namespace Go.Proofs.YtofedieniojipaaGreat
open Go.TQ
section
def gw:ByteArray:=⟨#[]⟩
def aP(b:ah):Bool:=decide (b.ai=0)&&decide (b.Value=gw)
def bQ(a b:ByteArray):Bool:=if a.size=b.size then lI a b else decide (a.size<b.size)
def bC(a b:ah):Bool:=if a.ai=b.ai then bQ a.Value b.Value else decide (a.ai<b.ai)
def bS(a b:ah):Bool:=decide (a.Value=b.Value)
def jM(p b:ah):Bool:= !aP p&&bS p b&&decide (b.ai<=p.ai)
def et(p q b:ah):Bool:=jM p b||jM q b||(!aP q&&bC b q)
def eQ(p b:ah):Bool:= !aP p&& !bS p b&&bC b p
def cP(b:ah):Bool:=(decide (1<=b.ai)&&decide (b.ai<=1000)||decide (b.ai=1000000))&&decide (1<=b.Value.size)&&decide (b.Value.size<=200)
def Ug:∀x:List UInt8,Op.bytesLess x x=false
 |[]=>rfl
 |a::l=>by simp[Op.bytesLess,Ug l]
def Xe:∀{x y:List UInt8},x≠y->Op.bytesLess x y=true\/Op.bytesLess y x=true
 |[],[],h=>absurd rfl h
 |[],_::_,_=> .inl rfl
 |_::_,[],_=> .inr rfl
 |a::l,b::m,h=>by
  simp only[Op.bytesLess]
  by_cases hab:a=b
  ·subst hab;have:l≠m:=λe=>h (by rw[e])
   simpa using Xe this
  ·rcases Nat.lt_or_gt_of_ne (λe=>hab (UInt8.toNat_inj.1 e))with h1|h1
   ·have h2:a<b:=h1;simp[h2]
   ·have h2:b<a:=h1;simp[h2]
def D8(a:ByteArray):lI a a=false:=Ug _
@[simp] def c6 (b:ah):bx b=some (aP b):=by unfold bx aP;rw[CH];rfl
@[simp] def df (b:ah):bL b=some (aP b):=by unfold bL aP;rw[CH];rfl
@[simp] def fU (a b:ah):cm a b=some (bS a b):=rfl
@[simp] def gJ (a b:ah):cD a b=some (bS a b):=rfl
@[simp] def zn (b:ah):jx b=some (cP b):=by
 have h1:decide ((1:Int)<=(b.Value.size:Nat))=decide (1<=b.Value.size):=by rw[decide_eq_decide];omega
 have h2:decide (((b.Value.size:Nat):Int)<=200)=decide (b.Value.size<=200):=by rw[decide_eq_decide];omega
 simp only[jx,cP,h1,h2,kY,Qa,Bool.cond_false_right,Bool.cond_true_left]
@[simp] def CR (b:ah):iZ b=some (cP b):=zn b
@[simp] def AQ (a b:ByteArray):pb a b=some (bQ a b):=by simp only[pb,bQ,Hb,Int.ofNat_inj,Int.ofNat_lt,D3,BK]
@[simp] def kv (a b:ah):fH a b=some (bC a b):=by simp[fH,bC,D3,BK]
@[simp] def Dk (a b:ah):mT a b=some (jM a b):=by simp[mT,jM]
@[simp] def aaV (a b:ah):lp a b=some (jM a b):=by simp[lp,jM]
@[simp] def vn (p q b:ah):jr p q b=some (et p q b):=by simp[jr,et]
@[simp] def Dl (p b:ah):gK p b=some (eQ p b):=by simp[gK,eQ]
def zg(a b:Int):Int:=if a<b then -1 else if b<a then 1 else 0
def N6(a b:ByteArray):Int:=if lI a b then -1 else if lI a b||decide (a=b)then 0 else 1
def orL:List Int->Int
 |[]=>0
 |x::l=>if x=0 then orL l else x
@[simp] def IK (a b:Int):fe a b=some (zg a b):=by simp[fe,vM,zg,D3,BK]
@[simp] def XB (a b:ByteArray):mf a b=some (N6 a b):=by simp only[mf,sy,N6];cases h1:lI a b<;>by_cases h2:a=b<;>simp[h2]
def RD(l:List Int)(hl:l.length<=1000000):nU l=some (orL l):=by
 unfold nU;rw[iD l (by omega) (λi (_:Unit)=>(i,())) (λx _=>some (if x=0 then .inl ()else .inr x)) (λ_=>some 0) (λi x s hd hx hw=> ?_) (λs hd=> ?_) ()]
 ·induction l with
  |nil=>rfl
  |cons x l ih=>grind [fL,orL]
 ·grind
 ·simp only[hd,Ql]
@[simp] def aev (a b:Int):nU [a,b]=some (if a=0 then b else a):=by
 rw[RD _ (by simp)]
 simp only[orL]
 by_cases h:a=0<;>by_cases h':b=0<;>simp[h,h']
def xO(a b:ByteArray):Int:=if zg a.size b.size=0 then N6 a b else zg a.size b.size
def W8(a b:ah):Int:=if zg a.ai b.ai=0 then xO a.Value b.Value else zg a.ai b.ai
@[simp] def C5 (a b:ByteArray):hU a b=some (xO a b):=by simp[hU,xO]
@[simp] def aaP (a b:ah):pw a b=some (W8 a b):=by simp[pw,W8]
theorem wH(a b:Int):zg a b=0↔a=b:=by unfold zg;split<;>(try split)<;>omega
theorem Iy(a b:Int):zg a b<0↔a<b:=by unfold zg;split<;>(try split)<;>omega
theorem ad7(a b:ByteArray):N6 a b<0↔lI a b=true:=by grind [N6]
theorem wG(a b:ByteArray):decide (xO a b<0)=bQ a b:=by grind [xO,bQ,wH,ad7,Iy]
def W0(a b:ah):decide (W8 a b<0)=bC a b:=by grind [W8,bC,wH,wG,Iy]
@[simp] def ka (a b:ah):eI a b=some (bC a b):=by simp[eI,W0]
@[simp] def tU (p q b:ah):gZ p q b=some (et p q b):=by simp[gZ,et]
@[simp] def vp (p b:ah):eJ p b=some (eQ p b):=by simp[eJ,eQ]
def finite(b:ah):Bool:=cP b&&decide (b.ai<=1000)
@[simp] def Hk (b:ah):nS b=some (finite b):=by simp[nS,finite]
@[simp] def Fa (b:ah):me b=some (aP b||cP b):=by simp[me]
@[simp] def Dm (e:ak) (n:Int):qa e n=some ⟨n,e.af.Value⟩:=rfl
end
section
def Tb{rec:(aj×Unit)->Option Int}{t:aj}(hl:t.aO.length<=9223372036854775807):
  kb rec t=fL (λu m=>(rec (u,())).map λr=> .inl (bF m r)) (λm=>some (aB .i64 m 1)) t.aO 0:=by
 unfold kb;rw[iD t.aO hl (λi (m:Int)=>(m,i,())) (λu m=>(rec (u,())).map λr=> .inl (bF m r)) (λm=>some (aB .i64 m 1)) (λi x s hd hx hw=> ?_) (λs hd=> ?_) 0]
 ·simp only[hd,hx,hw,Qk,Qa,etas];cases rec (x,())<;>rfl
 ·simp only[hd,Ql]
def Xz{rec:(aj×Unit)->Option Int}{t:aj}(hl:t.aO.length<=9223372036854775807):
  lq rec t=fL (λu m=>(rec (u,())).map λr=> .inl (aB .i64 m r)) (λm=>some m) t.aO (aB .i64 t.bb.length t.aO.length):=by
 unfold lq;rw[iD t.aO hl (λi (m:Int)=>(m,i,())) (λu m=>(rec (u,())).map λr=> .inl (aB .i64 m r)) (λm=>some m) (λi x s hd hx hw=> ?_) (λs hd=> ?_) (aB .i64 t.bb.length t.aO.length)]
 ·simp only[hd,hx,hw,Qk,Qa,etas];cases rec (x,())<;>rfl
 ·simp only[hd,Ql]
def Tt(t:aj):C4 t=jS t:=rfl
def Vm(t:aj):E2 t=k8 t:=rfl
def fR(x:Int):Bool:=decide (0<=x)&&decide (x<10)
def xN(s x:Int):Bool:=decide (0<=s)&&decide (s<1024)&&fR x&&s.toNat.testBit x.toNat
theorem SZ(s:Int):gf s=some (decide (0<=s)&&decide (s<1024)):=by
 have:bX .i64 1 10=1024:=yM 10 (by omega)
 simp[gf,AT,this]
def Xk{s x:Int}(h1:0<=s)(h2:s<1024)(h3:0<=x)(h4:x<10):(Gq .i64 s (bX .i64 1 x)=0)=(s.toNat.testBit x.toNat=false):=by
 obtain⟨n,rfl⟩:=Int.eq_ofNat_of_zero_le h1;obtain⟨j,rfl⟩:=Int.eq_ofNat_of_zero_le h3;have hj:2 ^ j<=2 ^ 10:=Nat.pow_le_pow_right (by omega) (by omega)
 rw[yM j (by omega),EU n (2 ^ j) (by omega) (by omega),ag0]
 grind
@[simp] theorem qH (s x:Int):kW s x=some (xN s x):=by
 unfold kW xN fR;rw[SZ]
 by_cases h1:0<=s
 ·by_cases h2:s<1024
  ·by_cases h3:0<=x
   ·by_cases h4:x<10
    ·have h5:¬x<0:=by omega
     have:=Xk h1 h2 h3 h4;simp[h1,h2,h3,h4,h5,this]
    ·simp[h1,h2,h3,h4]
   ·simp[h1,h2,h3]
  ·simp[h1,h2]
 ·simp[h1]
def XH{s x:Int}(h1:0<=s)(h2:s<1024)(h3:0<=x)(h4:x<10):(Gq .i64 (jP .i64 s x) 1=1)=(s.toNat.testBit x.toNat=true):=by
 obtain⟨n,rfl⟩:=Int.eq_ofNat_of_zero_le h1;obtain⟨j,rfl⟩:=Int.eq_ofNat_of_zero_le h3;have hle:n>>>j<=n:=by rw[Nat.shiftRight_eq_div_pow];exact Nat.div_le_self _ _
 rw[acW n j (by omega),show(1:Int)=((1:Nat):Int)from rfl,EU _ 1 (by omega) (by omega)]
 simp only[QV,Int.ofNat_inj,Nat.testBit,eq_iff_iff];rw[Nat.and_comm];simp
@[simp] theorem mV (s x:Int):kJ s x=some (xN s x):=by
 unfold kJ eX xN fR
 by_cases h1:0<=s
 ·by_cases h2:s<1024
  ·have h2':s<=1023:=by omega
   by_cases h3:0<=x
   ·by_cases h4:x<10
    ·have h5:¬x<0:=by omega
     have:=XH h1 h2 h3 h4;simp[h1,h2,h2',h3,h4,h5,this]
    ·simp[h1,h2,h2',h3,h4]
   ·simp[h1,h2,h2',h3]
  ·have h2':¬s<=1023:=by omega
   simp[h1,h2,h2']
 ·simp[h1]
theorem ra{s:Nat}{x:Int}(h1:s<1024)(h3:0<=x)(h4:x<10):sO .i64 (s:Int) (bX .i64 1 x)=((s|||2 ^ x.toNat:Nat):Int):=by
 obtain⟨j,rfl⟩:=Int.eq_ofNat_of_zero_le h3;have hj:2 ^ j<=2 ^ 9:=Nat.pow_le_pow_right (by omega) (by omega)
 rw[yM j (by omega)]
 exact GJ s (2 ^ j) (by omega) (by omega)
def B2{s:Nat}{x:Int}(h1:s<1024)(h4:x<10):s|||2 ^ x.toNat<1024:=by
 have hj:2 ^ x.toNat<=2 ^ 9:=Nat.pow_le_pow_right (by omega) (by omega)
 exact Nat.or_lt_two_pow (n:=10) h1 (by omega)
def xb(s:Nat):List Int->Int×Int×Unit
 |[]=>(s,0,())
 |x::l=>if fR x then(if s.testBit x.toNat then(0,6,())else xb (s|||2 ^ x.toNat) l)else(0,5,())
def YE(g:Int->Int->Option (Int⊕(Int×Int×Unit)))
  (hg:∀x (s:Nat),s<1024->g x s=some (if fR x then(if s.testBit x.toNat then .inr (0,6,())else .inl ((s|||2 ^ x.toNat:Nat):Int))else .inr (0,5,()))):
  ∀(l:List Int) (s:Nat),s<1024->fL g (λs=>some (s,0,())) l s=some (xb s l)
 |[],s,_=>rfl
 |x::l,s,hs=>by
  rw[fL,hg x s hs,xb]
  cases h1:fR x with
  |false=>simp
  |true=>
   cases h2:s.testBit x.toNat with
   |true=>simp
   |false=>
    simp only[Qt,Qq,Qu];have h3:x<10:=by simp[fR]at h1;omega
    exact YE g hg l _ (B2 hs h3)
def FP(l:List Int)(hl:l.length<=9223372036854775807):tM l=some (xb 0 l):=by
 unfold tM;rw[iD l hl (λi (s:Int)=>(s,i,())) (λx s=>if fR x then(if xN s x then some (.inr (0,6,()))else some (.inl (sO .i64 s (bX .i64 1 x))))else some (.inr (0,5,()))) (λs=>some (s,0,())) (λi x s hd hx hw=> ?_) (λs hd=> ?_) 0]
 ·refine YE _ (λx s hs=> ?_) l 0 (by omega)
  grind [fR,xN,ra]
 ·grind [qH,fR,xN]
 ·simp only[hd,Ql]
def UJ(l:List Int)(hl:l.length<=9223372036854775807):AS l=some (xb 0 l):=by
 have:AS l=tM l:=by unfold AS tM;simp only[mV,qH]
 rw[this,FP l hl]
@[simp] def yu (x:Int):mI x=some (!fR x):=by simp[mI,zl,fR]
def Mt(l:List Int)(hl:l.length<=9223372036854775807):gE l=some (l.any λx=> !fR x):=by
 have key:∀(i:Nat) (k:Nat),i+k=l.length->Yd (aE (λ(v1:Int×Unit)=>bif (decide (v1.1<((List.length l:Nat):Int)))then Option.bind (idx l v1.1) λx2=>Option.bind (mI x2) λr3=>bif r3 then Option.map inr (some v1.1)else some (inl ((aB .i64 v1.1 (1:Int)),()))else Option.map inr (some (-1:Int))) ((i:Int),())) λr=>decide (0<=r)=(l.drop i).any λx=> !fR x:=by
  intro i k
  induction k generalizing i with
  |zero=>
   intro hi;refine⟨-1,bO ?_,?_⟩
   ·grind
   ·rw[List.drop_eq_nil_of_le (by omega)];rfl
  |succ k ih=>
   intro hi;have hlt:i<l.length:=by omega
   have hd:decide ((i:Int)<(l.length:Int))=true:=Qg (Int.ofNat_lt.2 hlt);have hx:idx l (i:Int)=some l[i]:=by rw[bd];exact Qv hlt
   have hw:aB .i64 (i:Int) 1=((i+1:Nat):Int):=bG (by omega) (by omega)
   rw[QM hlt,List.any_cons]
   cases h:fR l[i]with
   |true=>
    rw[bA (s':=(((i+1:Nat):Int),())) (by simp only[hd,hx,hw,Qk,Qa,yu,h];rfl)]
    exact(ih (i+1) (by omega)).mono λr hr=>by simpa using hr
   |false=>
    refine⟨i,bO (by simp only[hd,hx,Qk,Qa,yu,h];rfl),?_⟩
    simp
 obtain⟨r,h1,h2⟩:=key 0 l.length (by omega)
 unfold gE lO;simp only[Int.natCast_zero]at h1;rw[h1];simpa using h2
def tf(rec:aj->Option Int)(t:aj):Option Int:=
 if t.aI<1\/aB .i64 t.bb.length t.aO.length<t.aI then some 4
 else if(t.bb.any λx=> !fR x)then some 5
 else if(xb 0 t.bb).2.1=0 then fL (λu (_:Unit)=>(rec u).map λr=>if r=0 then .inl ()else .inr r) (λ_=>some 0) t.aO ()
 else some (xb 0 t.bb).2.1
theorem LN{rec:(aj×Unit)->Option Int}{t:aj}(hn:t.bb.length<=9223372036854775807)(hl:t.aO.length<=9223372036854775807):iK rec t=tf (λu=>rec (u,())) t:=by
 unfold iK tf;rw[Mt _ hn,FP _ hn];rw[iD t.aO hl (λi (_:Unit)=>(i,())) (λu (_:Unit)=>(rec (u,())).map λr=>if r=0 then .inl ()else .inr r) (λ_=>some 0) (λi x s hd hx hw=> ?_) (λs hd=> ?_) ()]
 ·grind
 ·simp only[hd,hx,hw,Qk,Qa,etas]
  cases rec (x,())with
  |none=>rfl
  |some r=>by_cases h:r=0<;>simp[h]
 ·simp only[hd,Ql]
theorem Tc{rec:(aj×Unit)->Option Int}{t:aj}(hn:t.bb.length<=9223372036854775807)(hl:t.aO.length<=9223372036854775807):oS rec t=tf (λu=>rec (u,())) t:=by
 unfold oS tf;rw[iD t.bb hn (λi (_:Unit)=>(i,())) (λx (_:Unit)=>some (if fR x then .inl ()else .inr 5)) (λ_=>if(xb 0 t.bb).2.1=0 then fL (λu (_:Unit)=>(rec (u,())).map λr=>if r=0 then .inl ()else .inr r) (λ_=>some 0) t.aO ()else some (xb 0 t.bb).2.1) (λi x s hd hx hw=> ?_) (λs hd=> ?_) ()]
 ·by_cases h1:t.aI<1
  ·simp[h1]
  ·by_cases h2:aB .i64 t.bb.length t.aO.length<t.aI
   ·simp[h1,h2]
   ·simp only[h1,h2,decide_false,Ql,Qa,or_self,Qu]
    have:∀(l:List Int) (fin:Unit->Option Int),fL (λx (_:Unit)=>some (if fR x then .inl ()else .inr 5)) fin l ()=if(l.any λx=> !fR x)then some 5 else fin ():=by
     intro l fin
     induction l with
     |nil=>rfl
     |cons x l ih=>grind [fL,fR]
    exact this _ _
 ·grind [fR]
 ·simp only[hd,Ql];rw[UJ _ hn,Qa];rw[iD t.aO hl (λi (_:Unit)=>(i,())) (λu (_:Unit)=>(rec (u,())).map λr=>if r=0 then .inl ()else .inr r) (λ_=>some 0) (λi x s hd hx hw=> ?_) (λs hd=> ?_) ()]
  ·grind
  ·simp only[hd,hx,hw,Qk,Qa,etas]
   cases rec (x,())with
   |none=>rfl
   |some r=>by_cases h:r=0<;>simp[h]
  ·simp only[hd,Ql]
structure c5 (t:aj):Prop where
 nodes:∀x∈t.bb,0<=x/\x<10
 nodup:t.bb.Nodup
 len:t.bb.length<=10
 inner:t.aO=[]\/∃x,0<=x/\x<10/\t.aO=[⟨1,[x],[]⟩]
 th:1<=t.aI/\t.aI<=t.bb.length+t.aO.length
theorem HR:∀(l:List Int) (s:Nat),(∀x∈l,0<=x/\x<10)->l.Nodup->(∀x∈l,s.testBit x.toNat=false)->(xb s l).2.1=0
 |[],s,_,_,_=>rfl
 |x::l,s,h1,h2,h3=>by
  rw[List.nodup_cons]at h2;have hx:=h1 x (by simp)
  have:fR x=true:=by simp[fR];omega
  rw[xb,this,h3 x (by simp)]
  simp only[Qt,Qq,Qu];refine HR l _ (λy hy=>h1 y (by simp[hy])) h2.2 λy hy=> ?_
  have hy1:=h1 y (by simp[hy])
  rw[Nat.testBit_or,h3 y (by simp[hy]),Nat.testBit_two_pow]
  have:x.toNat≠y.toNat:=λe=>by
   have:x=y:=by omega
   subst this;exact h2.1 hy
  simp[this]
theorem Xj{l:List Int}(h:∀x∈l,0<=x/\x<10):(l.any λx=> !fR x)=false:=by grind [fR]
theorem MJ{rec:aj->Option Int}{x:Int}(h0:0<=x)(h1:x<10):tf rec ⟨1,[x],[]⟩=some 0:=by
 have h2:aB .i64 (1:Nat) (0:Nat)=1:=rfl
 grind [xb,HR,fR,Xj,tf,fL]
def Ph{t:aj}(h:c5 t){rec:aj->Option Int}(hr:∀x,0<=x->x<10->rec ⟨1,[x],[]⟩=some 0):tf rec t=some 0:=by
 have hil:t.aO.length<=1:=by rcases h.inner with e|⟨x,_,_,e⟩<;>rw[e]<;>simp
 have hlen:=h.len;have h2:aB .i64 t.bb.length t.aO.length=t.bb.length+t.aO.length:=bG (by omega) (by omega)
 have h3:(xb 0 t.bb).2.1=0:=HR _ 0 h.nodes h.nodup (by simp)
 have h4:=Xj h.nodes;have h5:=h.th;unfold tf;rw[h2,Qs (by omega),h4,h3]
 simp only[Qq,Qu,Qt];rcases h.inner with e|⟨x,hx0,hx1,e⟩
 ·rw[e];rfl
 ·rw[e,fL,hr x hx0 hx1];rfl
def Gw(t:aj):∃n,SizeOf.sizeOf t=n+1:=by
 have:1<=SizeOf.sizeOf t:=by cases t;simp only[aj.mk.sizeOf_spec];omega
 exact⟨SizeOf.sizeOf t - 1,by omega⟩
def aap(n:Nat)(th:Int)(l:List Int):pa (n+1) (⟨th,l,[]⟩,())=some 1:=by
 show kb _ _=_;rw[Tb (by simp)]
 rfl
def size_leaf(n:Nat)(th:Int)(l:List Int):qz (n+1) (⟨th,l,[]⟩,())=some (aB .i64 l.length (0:Nat)):=by
 show lq _ _=_;rw[Xz (by simp)]
 rfl
def Rf{t:aj}(h:c5 t):∃d,jS t=some d/\d<=2:=by
 obtain⟨n,hn⟩:=Gw t;have hil:t.aO.length<=1:=by rcases h.inner with e|⟨x,_,_,e⟩<;>rw[e]<;>simp
 unfold jS;rw[hn];show∃d,kb (pa (n+1)) t=some d/\d<=2;rw[Tb (by omega)]
 rcases h.inner with e|⟨x,_,_,e⟩
 ·rw[e];exact⟨1,rfl,by omega⟩
 ·rw[e,fL,aap n 1 [x]];exact⟨2,rfl,by omega⟩
def Tj{t:aj}(h:c5 t):∃d,k8 t=some d/\d<=200:=by
 obtain⟨n,hn⟩:=Gw t;have hil:t.aO.length<=1:=by rcases h.inner with e|⟨x,_,_,e⟩<;>rw[e]<;>simp
 have hlen:=h.len;unfold k8;rw[hn];show∃d,lq (qz (n+1)) t=some d/\d<=200;rw[Xz (by omega),bG (by omega) (by omega)]
 rcases h.inner with e|⟨x,_,_,e⟩
 ·rw[e];exact⟨_,rfl,by simp;omega⟩
 ·rw[e,fL,size_leaf n 1 [x]];have h1:aB .i64 (([x]:List Int).length:Nat) (0:Nat)=1:=rfl;rw[h1];refine⟨_,rfl,?_⟩
  grind [bG]
def de{t:aj}(h:c5 t):bN t=some 0:=by
 obtain⟨d,h1,h2⟩:=Rf h;obtain⟨z,h3,h4⟩:=Tj h;obtain⟨n,hn⟩:=Gw t;have hil:t.aO.length<=1:=by rcases h.inner with e|⟨x,_,_,e⟩<;>rw[e]<;>simp
 have hlen:=h.len
 have h5:mi t=some 0:=by
  unfold mi;rw[hn];show iK (fP (n+1)) t=some 0;rw[LN (by omega) (by omega)]
  refine Ph h λx hx0 hx1=> ?_
  show iK (fP n) ⟨1,[x],[]⟩=some 0
  grind [LN,MJ]
 have h6:¬4<d:=by omega
 have h7:¬200<z:=by omega
 simp[bN,h1,h3,h5,h6,h7]
def dx{t:aj}(h:c5 t):cJ t=some 0:=by
 obtain⟨d,h1,h2⟩:=Rf h;obtain⟨z,h3,h4⟩:=Tj h;obtain⟨n,hn⟩:=Gw t;have hil:t.aO.length<=1:=by rcases h.inner with e|⟨x,_,_,e⟩<;>rw[e]<;>simp
 have hlen:=h.len
 have h5:uZ t=some 0:=by
  unfold uZ;rw[hn];show oS (rq (n+1)) t=some 0;rw[Tc (by omega) (by omega)]
  refine Ph h λx hx0 hx1=> ?_
  show oS (rq n) ⟨1,[x],[]⟩=some 0
  grind [Tc,MJ]
 have h6:¬4<d:=by omega
 have h7:¬200<z:=by omega
 simp[cJ,Tt,Vm,h1,h3,h5,h6,h7]
end
section
structure nK (s:dX):Prop where
 len:s.L.length<=800
 lo:0<=s.At
 hi:s.At<=800
def aiL(l:List Int):Yd (DP l) λs=>nK s:=by
 have h:dt (l.length:Int) 800=((min l.length 800:Nat):Int):=by unfold dt;split<;>omega
 have h2:cF 0 ((min l.length 800:Nat):Int) l.length=true:=by grind [cF]
 unfold DP;rw[h,h2];refine Yd.some ⟨?_,by simp,by simp⟩
 grind
def afo(x n:Int)(hn:1<=n): -n<x.tmod n/\x.tmod n<n:=by
 have h2:=Int.emod_nonneg x (show n≠0 by omega)
 have h3:=Int.emod_lt_of_pos x (show 0<n by omega)
 rw[Int.tmod_eq_emod];split
 ·omega
 ·rw[Int.natAbs_of_nonneg (by omega)];omega
def sJ{s:dX}(h:nK s){n:Int}(hn:n<=1000000000):Yd (cj s n) λp=>nK p.2/\0<=p.1/\(1<=n->p.1<n)/\(n<1->p.1=0):=by
 unfold cj;simp only[aR];refine Yd.cond (λh1=> ?_) (λh1=> ?_)
 ·grind [Yd.some]
 ·simp only[Qj,Int.not_le]at h1;refine Yd.cond (λh2=> ?_) (λh2=> ?_)
  ·grind [Yd.some]
  ·simp only[Qj,Int.not_lt]at h2;obtain⟨hl,hlo,hhi⟩:=h;have e1:aB .i64 s.At 1=s.At+1:=bG (by omega) (by omega)
   have e2:cW .i64 (s.At+1) 1=s.At:=by rw[nY (by omega) (by omega)];omega
   rw[e1,e2];have hlt:s.At.toNat<s.L.length:=by omega
   rw[PN _ hlo,Qv hlt,Qa,Qs (by omega),Qs (by omega)]
   have hb:=afo s.L[s.At.toNat] n h2;have e3:Zx .i64 s.L[s.At.toNat] n=s.L[s.At.toNat].tmod n:=rfl;rw[e3];generalize s.L[s.At.toNat].tmod n=y at hb;have e4:aB .i64 y n=y+n:=bG (by omega) (by omega)
   rw[e4];have h5:Zx .i64 (y+n) n=(y+n) % n:=Int.tmod_eq_emod_of_nonneg (by omega)
   rw[h5];exact Yd.some ⟨⟨hl,by simp;omega,by simp;omega⟩,Int.emod_nonneg _ (by omega),λ_=>Int.emod_lt_of_pos _ (by omega),λ_=>by omega⟩
def mQ{s:dX}(h:nK s){a b:Int}(h1:0<=a)(h2:a<=b+1)(h3:b<=1000000):Yd (cx s a b) λp=>nK p.2/\a<=p.1/\(a<=b->p.1<=b)/\(b<a->p.1=a):=by
 unfold cx;have e1:cW .i64 b a=b - a:=nY (by omega) (by omega)
 have e2:aB .i64 (b - a) 1=b - a+1:=bG (by omega) (by omega)
 rw[e1,e2];refine(sJ h (by omega)).bind λp ⟨h4,h5,h6,h7⟩=> ?_
 grind [aB,bG,Yd.some]
def ahc{s:dX}(h:nK s){l:List ByteArray}(h1:1<=l.length)(h2:l.length<=1000):Yd (vJ s l) λp=>nK p.2/\p.1∈l:=by
 unfold vJ;refine(sJ h (by omega)).bind λp ⟨h4,h5,h6,_⟩=> ?_
 grind [PN,Yd.some]
def Rv(v:ByteArray):Prop:=v∈[(ByteArray.mk #[97]),(ByteArray.mk #[98]),(ByteArray.mk #[99]),(ByteArray.mk #[97,97])]
def Rv.size{v:ByteArray}(h:Rv v):1<=v.size/\v.size<=2:=by simp only[Rv,QA,QR,or_false]at h;rcases h with rfl|rfl|rfl|rfl<;>exact⟨by decide,by decide⟩
def BV{s:dX}(h:nK s):Yd (im s) λp=>nK p.2/\Rv p.1:=by unfold im;exact(ahc h (by simp) (by simp)).bind λp hp=>Yd.some hp
def acM{s:dX}(h:nK s):Yd (tL s) λp=>nK p.2/\1<=p.1.ai/\p.1.ai<=6/\Rv p.1.Value:=by
 unfold tL;refine(mQ h (by omega) (by omega) (by omega)).bind λp ⟨h1,h2,h3,_⟩=> ?_
 refine(BV h1).bind λq ⟨h4,h5⟩=> ?_
 exact Yd.some ⟨h4,h2,h3 (by omega),h5⟩
def EX{s:dX}(h:nK s){n:Nat}(hn1:1<=n)(hn:n<=10):Yd (js s n) λp=>nK p.2/\c5 p.1/\(∀x∈p.1.bb,x<n)/\p.1.bb≠[]:=by
 unfold js;simp only[aR]
 let I (i:Nat) (s:dX) (t:aj) (ns:List Int) (is:List aj):Prop:=nK s/\t.aI=0/\(∀x∈ns,0<=x/\x<i)/\ns.Nodup/\ns.length<=i/\is=[]
 suffices key:∀(k i:Nat) (s:dX) (t:aj) (ns:List Int) (is:List aj),i+k=n->I i s t ns is->Yd (aE _ ((i:Int),s,t,ns,is,())) _ from key n 0 s _ _ _ (by omega) ⟨h,rfl,by simp,by simp,by simp,rfl⟩
 intro k
 induction k with
 |zero=>
  intro i s t ns is hi ⟨h1,h2,h3,h4,h5,h6⟩;obtain rfl:i=n:=by omega
  subst h6;have hd:decide ((i:Int)<(i:Int))=false:=Qh (Qq64 _);refine Yd.loop ?_;simp only[hd,Ql];refine Yd.inr ?_
  have fin:∀(s:dX) (ns:List Int) (is:List aj) (th:Int),nK s->(∀x∈ns,0<=x/\x<i)->ns.Nodup->ns.length<=10->ns≠[]->(is=[]\/∃x,0<=x/\x<10/\is=[⟨1,[x],[]⟩])->1<=th->th<=ns.length+is.length->
    nK s/\c5 ⟨th,ns,is⟩/\(∀x∈ns,x<(i:Int))/\ns≠[]:=by
   intro s ns is th a1 a2 a3 a4 a5 a6 a7 a8;exact⟨a1,⟨λx hx=>by have:=a2 x hx;exact⟨this.1,by omega⟩,a3,a4,a6,a7,a8⟩,λx hx=>(a2 x hx).2,a5⟩
  have tail:∀(s:dX) (ns:List Int) (is:List aj),nK s->(∀x∈ns,0<=x/\x<i)->ns.Nodup->ns.length<=10->ns≠[]->(is=[]\/∃x,0<=x/\x<10/\is=[⟨1,[x],[]⟩])->
    Yd (Option.bind (cx s (Vy .i64 (aB .i64 (aB .i64 ((List.length ns:Nat):Int) ((List.length is:Nat):Int)) (1:Int)) (2:Int)) (aB .i64 ((List.length ns:Nat):Int) ((List.length is:Nat):Int))) λp9=>
     Option.bind (cj p9.2 (6:Int)) λp12=>
     bif (decide (p12.1=(5:Int)))then some ((aj.mk (1:Int) ns is),p12.2)else some ((aj.mk p9.1 ns is),p12.2)) λp=>nK p.2/\c5 p.1/\(∀x∈p.1.bb,x<(i:Int))/\p.1.bb≠[]:=by
   intro s ns is a1 a2 a3 a4 a5 a6;have hp:1<=ns.length:=by cases ns with|nil=>exact absurd rfl a5|cons x l=>simp
   have hil:is.length<=1:=by rcases a6 with e|⟨x,_,_,e⟩<;>rw[e]<;>simp
   have e1:aB .i64 ((List.length ns:Nat):Int) ((List.length is:Nat):Int)=ns.length+is.length:=bG (by omega) (by omega)
   have e2:aB .i64 ((ns.length:Int)+is.length) 1=ns.length+is.length+1:=bG (by omega) (by omega)
   have e3:Vy .i64 ((ns.length:Int)+is.length+1) 2=(ns.length+is.length+1) / 2:=by
    show IntKind.i64.wrap (Int.tdiv _ _)=_;rw[Int.tdiv_eq_ediv_of_nonneg (by omega)]
    exact wrap64 (by omega) (by omega)
   rw[e1,e2,e3];refine(mQ a1 (by omega) (by omega) (by omega)).bind λp ⟨b1,b2,b3,_⟩=> ?_
   refine(sJ b1 (by omega)).bind λq ⟨c1,_⟩=> ?_
   have b4:=b3 (by omega)
   refine Yd.cond (λ_=>Yd.some (fin q.2 ns is 1 c1 a2 a3 a4 a5 a6 (by omega) (by omega))) (λ_=>Yd.some (fin q.2 ns is p.1 c1 a2 a3 a4 a5 a6 (by omega) (by omega)))
  have mid:∀(s:dX) (ns:List Int),nK s->(∀x∈ns,0<=x/\x<i)->ns.Nodup->ns.length<=10->ns≠[]->
    Yd (Option.bind (cj s (4:Int)) λp13=>
     bif (decide (p13.1=(3:Int)))then
     Option.bind (cj p13.2 (i:Int)) λp14=>
     bif bg 56 (List.length ([]:List aj)+List.length [(aj.mk (1:Int) [p14.1] ([]:List aj))])then
     (Option.bind (cx p14.2 (Vy .i64 (aB .i64 (aB .i64 ((List.length ns:Nat):Int) ((List.length (([]:List aj)++[(aj.mk (1:Int) [p14.1] ([]:List aj))]):Nat):Int)) (1:Int)) (2:Int)) (aB .i64 ((List.length ns:Nat):Int) ((List.length (([]:List aj)++[(aj.mk (1:Int) [p14.1] ([]:List aj))]):Nat):Int))) λp9=>
     Option.bind (cj p9.2 (6:Int)) λp12=>
     bif (decide (p12.1=(5:Int)))then some ((aj.mk (1:Int) ns (([]:List aj)++[(aj.mk (1:Int) [p14.1] ([]:List aj))])),p12.2)else some ((aj.mk p9.1 ns (([]:List aj)++[(aj.mk (1:Int) [p14.1] ([]:List aj))])),p12.2))
     else none
     else
     (Option.bind (cx p13.2 (Vy .i64 (aB .i64 (aB .i64 ((List.length ns:Nat):Int) ((List.length ([]:List aj):Nat):Int)) (1:Int)) (2:Int)) (aB .i64 ((List.length ns:Nat):Int) ((List.length ([]:List aj):Nat):Int))) λp9=>
     Option.bind (cj p9.2 (6:Int)) λp12=>
     bif (decide (p12.1=(5:Int)))then some ((aj.mk (1:Int) ns []),p12.2)else some ((aj.mk p9.1 ns []),p12.2))) λp=>nK p.2/\c5 p.1/\(∀x∈p.1.bb,x<(i:Int))/\p.1.bb≠[]:=by
   intro s ns a1 a2 a3 a4 a5;refine(sJ a1 (by omega)).bind λp ⟨b1,b2,b3,_⟩=> ?_
   refine Yd.cond (λ_=> ?_) (λ_=> ?_)
   ·refine(sJ b1 (by omega)).bind λq ⟨c1,c2,c3,_⟩=> ?_
    have c4:=c3 (by omega)
    rw[bz (by simp)]
    exact tail q.2 ns _ c1 a2 a3 a4 a5 (.inr ⟨q.1,c2,by omega,rfl⟩)
   ·exact tail p.2 ns [] b1 a2 a3 a4 a5 (.inl rfl)
  refine Yd.cond (λhz=> ?_) (λhz=> ?_)
  ·refine(sJ h1 (by omega)).bind λp ⟨b1,b2,b3,_⟩=> ?_
   have b4:=b3 (by omega)
   exact mid p.2 [p.1] b1 (by simp;omega) (by simp) (by simp) (by simp)
  ·grind
 |succ k ih=>
  intro i s t ns is hi ⟨h1,h2,h3,h4,h5,h6⟩;have hd:decide ((i:Int)<(n:Int))=true:=Qg (by omega)
  have hw:aB .i64 (i:Int) 1=((i+1:Nat):Int):=bG (by omega) (by omega)
  refine Yd.loop ?_;simp only[hd,Qk,hw];refine(sJ h1 (by omega)).bind λp ⟨b1,b2,b3,_⟩=> ?_
  refine Yd.cond (λ_=> ?_) (λ_=> ?_)
  ·rw[bz (by simp;omega)]
   refine Yd.some (ih (i+1) p.2 _ _ _ (by omega) ⟨b1,h2,?_,?_,by simp;omega,h6⟩)
   ·grind
   ·grind
  ·refine Yd.some (ih (i+1) p.2 _ _ _ (by omega) ⟨b1,h2,?_,h4,by omega,h6⟩)
   intro x hx;have:=h3 x hx;omega
end
section
def at_(e:ak)(n:Int):ah:=⟨n,e.af.Value⟩
def DU(e:ak):Bool:=aP e.aD||(!aP e.ao&&bC e.aD e.ao&& !bS e.aD e.ao)
def gW(e:ak):Bool:=
 finite e.af&&(aP e.ao||cP e.ao)&&(aP e.aD||cP e.aD)&&DU e&&decide (0<=e.aZ)&&decide (e.aZ<=e.bq)&&decide (e.bq<=e.af.ai)
  &&(decide (e.bq=0)||et e.ao e.aD (at_ e e.bq))&&(decide (e.aZ=0)||(!eQ e.ao (at_ e e.aZ)&& !eQ e.aD (at_ e e.aZ)))
def uJ(e:ak):Bool:=decide (1<=e.aZ)&&decide (e.aZ<=e.bq)&&decide (e.bq<=1000)
def wE(e:ak):Bool:=finite e.af&&cP e.ao&&bS e.ao e.af&&aP e.aD&&uJ e&&decide (e.bq<=e.ao.ai)
def Cc(e:ak):Bool:=cP e.af&&aP e.ao&&aP e.aD&&uJ e
def Ax(e:ak):Bool:=decide (0<=e.al)&&decide (e.al<10)&&decide (1<=e.aL)&&decide (e.aL<=1000000)&&decide (1<=e.aH)&&decide (e.aH<=1000000)
def gV(tv:Int)(e:ak):Bool:=
 Ax e&&decide (tv=0)&&(if e.bu=1 then gW e else if e.bu=2 then wE e else if e.bu=3 then Cc e else false)
def dlt(a b:Int):decide (a<b)= !decide (b<=a):=by by_cases h:a<b<;>simp[h]<;>omega
def UK(e:ak):pI e=some (gW e):=by
 unfold pI gW DU at_
 simp only[c6,ka,fU,Hk,Fa,Dm,vp,tU,Qa,kY,aR,dlt,Hb];cases finite e.af<;>cases (aP e.ao||cP e.ao)<;>cases (aP e.aD||cP e.aD)<;>simp
 grind
def AZ{e:ak}{tv:Int}(hT:bN e.aa=some tv):dH e=some (gV tv e):=by
 unfold dH gV Ax;simp[UK,hT,dlt,wE,Cc,uJ]
 grind
def uE{e:ak}{tv:Int}(hT:cJ e.aa=some tv):dp e=some (gV tv e):=by
 unfold dp gV Ax;simp[hT,dlt,wE,Cc,uJ,gW,finite,DU,at_]
 have h9:decide (e.al<=9)= !decide (10<=e.al):=by by_cases h:e.al<=9<;>simp[h]<;>omega
 rw[h9];generalize (decide (0<=e.al)&& !decide (10<=e.al)&&decide (1<=e.aL)&&decide (e.aL<=1000000)&&decide (1<=e.aH)&&decide (e.aH<=1000000)&&decide (tv=0))=hd
 by_cases k1:e.bu=1
 ·simp only[k1,decide_true,Qk,Qt]
  grind
 ·grind
def Ly(e:ak)(v:ByteArray)(lo hi:Int):Bool:=decide (1<=lo)&&decide (lo<=hi)&&decide (e.af.Value=v)&&decide (e.aZ<=lo)
def vP(e:ak)(v:ByteArray)(lo hi:Int):Bool:=Ly e v lo hi&&(!decide (e.bu=1)||(!decide (e.aZ=0)&&decide (hi<=e.bq)))
def iM(e:ak)(v:ByteArray)(lo hi:Int):Bool:=Ly e v lo hi&&(decide (e.bu=3)||(decide (e.bu=2)&&decide (hi<=e.bq)))
def s6(e:ak)(b:ah):Bool:= !aP b&&(if e.bu=1 then jM e.af b else bS e.af b)
def eC(e:ak)(b:ah):Bool:= !aP b&&(if e.bu=1 then et e.ao e.aD b else if e.bu=2 then jM e.ao b else bS e.af b)
def fG(e:ak):Int:=if e.bu=3 then 1000000 else e.af.ai
@[simp] def Gs (r:bK) (v:ByteArray) (lo hi:Int):jh r v lo hi=some (vP r.ay v lo hi):=by simp[jh,kM,vP,Ly]
@[simp] def wY (r:bK) (v:ByteArray) (lo hi:Int):iC r v lo hi=some (iM r.ay v lo hi):=by simp[iC,kM,iM,Ly]
@[simp] def Fb (r:bK) (b:ah):iY r b=some (s6 r.ay b):=by simp only[iY,s6];cases hz:aP b<;>by_cases h:r.ay.bu=1<;>simp[h,hz]
@[simp] def vN (r:bK) (b:ah):ir r b=some (eC r.ay b):=by simp only[ir,eC];cases hz:aP b<;>by_cases h:r.ay.bu=1<;>by_cases h2:r.ay.bu=2<;>simp[h,h2,hz]
@[simp] def aew (r:bK):mG r=some (fG r.ay):=by simp[mG,fG,D3,BK]
section
variable {e : ak} {tv : Int} (hT : bN e.aa = some tv)
 include hT
theorem Xx:kD e=some (if gV tv e then fG e else 0):=by simp only[kD,etas,AZ hT,Qa];cases gV tv e<;>simp
end
def xY(n:Nat):List Int:=(List.range n).map λi:Nat=>(i:Int)
def U6(n:Nat):xY (n+1)=xY n++[(n:Int)]:=by simp[xY,List.range_succ]
@[simp] def aiY (n:Nat):(xY n).length=n:=by simp[xY]
def ahf(n:Nat)(hn:n<=1000)(k:Int):ve n k=some ⟨k,xY n,[]⟩:=by
 unfold ve
 suffices key:∀(m i:Nat) (t:aj),i+m=n->t.aI=k->t.aO=[]->aE (λ(v1:Int×aj×(List Int)×Unit)=>
   bif (decide (v1.1<(n:Int)))then
   bif bg 8 (List.length v1.2.2.1+List.length [v1.1])then
   some (inl ((aB .i64 v1.1 (1:Int)),(aj.mk v1.2.1.aI ([]:List Int) v1.2.1.aO),(v1.2.2.1++[v1.1]),()))
   else none
   else
   Option.map inr (some (aj.mk v1.2.1.aI v1.2.2.1 v1.2.1.aO))) ((i:Int),t,xY i,())=some ⟨k,xY n,[]⟩from key n 0 _ (by omega) rfl rfl
 intro m
 induction m with
 |zero=>grind [bO]
 |succ m ih=>
  intro i t hi h1 h2;have hd:decide ((i:Int)<(n:Int))=true:=Qg (by omega)
  have hw:aB .i64 (i:Int) 1=((i+1:Nat):Int):=bG (by omega) (by omega)
  rw[bA (s':=(((i+1:Nat):Int),⟨t.aI,[],t.aO⟩,xY (i+1),()))]
  ·exact ih (i+1) _ (by omega) h1 h2
  ·simp only[hd,hw,Qk];rw[bz (by simp;omega)]
   simp[U6]
def T3(n:Nat)(hn:n<=10)(k:Int)(h1:1<=k)(h2:k<=n):c5 ⟨k,xY n,[]⟩:=by
 refine⟨λx hx=> ?_,?_,by simpa using hn,.inl rfl,h1,by simpa using h2⟩
 ·grind [xY]
 ·show(xY n).Nodup;exact List.Pairwise.map _ (λa b h e=>h (by omega)) List.nodup_range
structure RF (aF aK n:Int) (e:ak):Prop where
 aF:e.al=aF
 aK:e.aL=aK
 seq:1<=e.aH/\e.aH<=9
 aN:c5 e.aa
 nodes:∀x∈e.aa.bb,x<n
 ne:e.aa.bb≠[]
 val:Rv e.af.Value
 valid:gV 0 e=true
def Js{b:ah}(h1:1<=b.ai)(h2:b.ai<=1000)(h3:Rv b.Value):cP b=true:=by
 have:=h3.size
 grind [cP]
def Ye{s:dX}(h:nK s){aF aK:Int}(hn0:0<=aF)(hn1:aF<10)(hs0:1<=aK)(hs1:aK<=1000000){n:Nat}(hn2:1<=n)(hn:n<=10):
  Yd (qR s aF aK n) λp=>nK p.2/\RF aF aK n p.1:=by
 unfold qR;refine(mQ h (by omega) (by omega) (by omega)).bind λp1 ⟨a1,a2,a3,_⟩=> ?_
 have a4:=a3 (by omega)
 refine(EX a1 hn2 hn).bind λp2 ⟨b1,b2,b3,b4⟩=> ?_
 refine(BV b1).bind λp3 ⟨c1,c2⟩=> ?_
 have c3:=c2.size;have hv:∀k:Int,1<=k->k<=1000->cP ⟨k,p3.1⟩=true:=λk h1 h2=>Js h1 h2 c2
 simp only[etas]
 have hd:∀e:ak,e.al=aF->e.aL=aK->e.aH=p1.1->Ax e=true:=by grind [Ax]
 refine Yd.join (λv=>nK v.1/\RF aF aK n v.2.1) (λv hv=>Yd.some hv) λj5 hj5=> ?_
 refine(sJ c1 (by omega)).bind λp6 ⟨d1,_⟩=> ?_
 refine Yd.join (λv=>nK v.1/\v.2.1=ak.mk aF aK p1.1 p2.1 0 ⟨0,gw⟩ ⟨0,gw⟩ ⟨0,gw⟩ 0 0) (λv ⟨hv1,hv2⟩=> ?_) λj8 hj8=> ?_
 ·
  refine Yd.join (λv=>nK v.1/\RF aF aK n v.2.1) (λv hv=>hj5 _ hv) λj10 hj10=> ?_
  refine(mQ hv1 (by omega) (by omega) (by omega)).bind λp11 ⟨e1,e2,e3,_⟩=> ?_
  have e4:=e3 (by omega)
  simp only[hv2];refine Yd.join (λv=>nK v.1/\v.2.1.al=aF/\v.2.1.aL=aK/\v.2.1.aH=p1.1/\v.2.1.aa=p2.1/\v.2.1.bu=1/\v.2.1.af=⟨p11.1,p3.1⟩/\(aP v.2.1.ao=true\/cP v.2.1.ao=true)) (λv ⟨f0,f1,f2,f3,f4,f5,f6,f7⟩=> ?_) λj13 hj13=> ?_
  ·rw[f6];have g1:aB .i64 p11.1 1=p11.1+1:=bG (by omega) (by omega)
   simp only[g1];refine(sJ f0 (by omega)).bind λp14 ⟨k1,k2,k3,_⟩=> ?_
   have k4:=k3 (by omega)
   have g2:aB .i64 p14.1 1=p14.1+1:=bG (by omega) (by omega)
   simp only[g2];refine(sJ k1 (by omega)).bind λp15 ⟨l1,l2,l3,_⟩=> ?_
   have hTr:∀t,t=p2.1->cJ t=some 0:=λt ht=>by rw[ht];exact dx b2
   have done:∀e:ak,e.al=aF->e.aL=aK->e.aH=p1.1->e.aa=p2.1->e.af=⟨p11.1,p3.1⟩->gV 0 e=true->RF aF aK n e:=by intro e h1 h2 h3 h4 h5 h6;exact⟨h1,h2,by rw[h3];exact⟨a2,a4⟩,by rw[h4];exact b2,by rw[h4];exact b3,by rw[h4];exact b4,by rw[h5];exact c2,h6⟩
   refine Yd.join (λw=>w.1.al=aF/\w.1.aL=aK/\w.1.aH=p1.1/\w.1.aa=p2.1/\w.1.bu=1/\w.1.af=⟨p11.1,p3.1⟩/\(aP w.1.ao=true\/cP w.1.ao=true)/\(gV 0 w.1=true\/w.1.aZ=0)) (λw ⟨m1,m2,m3,m4,m5,m6,m7,m8⟩=> ?_) λj17 hj17=> ?_
   ·refine Yd.join (λw=>w.1.al=aF/\w.1.aL=aK/\w.1.aH=p1.1/\w.1.aa=p2.1/\w.1.bu=1/\w.1.af=⟨p11.1,p3.1⟩/\(aP w.1.ao=true\/cP w.1.ao=true)/\(gV 0 w.1=true\/w.1.aZ=0/\w.1.bq=0)) (λw ⟨o1,o2,o3,o4,o5,o6,o7,o8⟩=> ?_) λj19 hj19=> ?_
    ·rw[uE (hTr _ o4)];simp only[Qa,Hb];refine Yd.cond (λhx=>hj10 _ ⟨l1,done _ o1 o2 o3 o4 o6 hx⟩) (λhx=>hj10 _ ⟨l1,done _ o1 o2 o3 o4 o6 ?_⟩)
     rcases o8 with o8|⟨o8,o9⟩
     ·rw[o8]at hx;cases hx
     ·have q1:finite w.1.af=true:=by rw[o6];simp[finite,hv p11.1 e2 (by omega)];omega
      have q2:aP (ah.mk 0 bE)=true:=by decide+kernel
      have q3:(aP w.1.ao||cP w.1.ao)=true:=by simpa using o7
      have q4:=hd w.1 o1 o2 o3;have q5:0<=w.1.af.ai:=by rw[o6];show 0<=p11.1;omega
      simp only[gV,Ax,gW,DU,o5,o8,o9,q1,q2,q3,Qt]at q4 ⊢;simp[q4,q5]
    ·rw[uE (hTr _ m4)];simp only[Qa,Hb];refine Yd.cond (λhx=>hj19 _ ⟨m1,m2,m3,m4,m5,m6,m7,.inl hx⟩) (λhx=>hj19 _ ⟨m1,m2,m3,m4,m5,m6,m7,.inr ⟨?_,rfl⟩⟩)
     rcases m8 with m8|m8
     ·rw[m8]at hx;cases hx
     ·exact m8
   ·rw[uE (e:=ak.mk v.2.1.al v.2.1.aL v.2.1.aH v.2.1.aa v.2.1.bu ⟨p11.1,p3.1⟩ v.2.1.ao v.2.1.aD p15.1 p14.1) (tv:=0) (hTr _ f4)];simp only[Qa,Hb];refine Yd.cond (λhx=>hj17 _ ⟨f1,f2,f3,f4,f5,rfl,f7,.inl hx⟩) (λhx=>hj17 _ ⟨f1,f2,f3,f4,f5,rfl,f7,.inr rfl⟩)
  ·refine(sJ e1 (by omega)).bind λp23 ⟨k1,_⟩=> ?_
   refine Yd.cond (λ_=> ?_) (λ_=> ?_)
   ·refine(acM k1).bind λp24 ⟨l1,l2,l3,l4⟩=> ?_
    refine(sJ l1 (by omega)).bind λp25 ⟨m1,_⟩=> ?_
    have hvl:=Js (b:=p24.1) l2 (by omega) l4
    refine Yd.cond (λ_=> ?_) (λ_=> ?_)
    ·refine(acM m1).bind λp26 ⟨o1,_⟩=> ?_
     exact hj13 _ ⟨o1,rfl,rfl,rfl,rfl,rfl,rfl,.inr hvl⟩
    ·exact hj13 _ ⟨m1,rfl,rfl,rfl,rfl,rfl,rfl,.inr hvl⟩
   ·have z0:aP (ah.mk 0 gw)=true:=by decide+kernel
    exact hj13 _ ⟨k1,rfl,rfl,rfl,rfl,rfl,rfl,.inl z0⟩
 ·have z0:aP (ah.mk 0 bE)=true:=by decide+kernel
  refine Yd.cond (λ_=> ?_) (λ_=> ?_)
  ·refine(mQ d1 (by omega) (by omega) (by omega)).bind λp27 ⟨e1,e2,e3,_⟩=> ?_
   refine(mQ e1 (by omega) (by omega) (by omega)).bind λp28 ⟨f1,f2,f3,_⟩=> ?_
   refine(sJ f1 (by omega)).bind λp29 ⟨k1,k2,k3,_⟩=> ?_
   refine(sJ k1 (by omega)).bind λp30 ⟨l1,l2,l3,_⟩=> ?_
   have e4:=e3 (by omega)
   have f4:=f3 (by omega)
   have k4:=k3 (by omega)
   have l4:=l3 (by omega)
   have g1:aB .i64 p28.1 p29.1=p28.1+p29.1:=bG (by omega) (by omega)
   have g2:aB .i64 (p28.1+p29.1) p30.1=p28.1+p29.1+p30.1:=bG (by omega) (by omega)
   simp only[g1,g2];refine hj5 _ ⟨l1,⟨rfl,rfl,⟨a2,a4⟩,b2,b3,b4,c2,?_⟩⟩;have q4:=hd ⟨aF,aK,p1.1,p2.1,2,⟨p27.1,p3.1⟩,⟨p28.1+p29.1+p30.1,p3.1⟩,⟨0,bE⟩,p28.1,p28.1+p29.1⟩ rfl rfl rfl;have q5:=hv p27.1 e2 (by omega)
   have q6:=hv (p28.1+p29.1+p30.1) (by omega) (by omega)
   have r1:p27.1<=1000:=by omega
   have r2:p28.1<=p28.1+p29.1:=by omega
   have r3:p28.1+p29.1<=1000:=by omega
   have r4:p28.1+p29.1<=p28.1+p29.1+p30.1:=by omega
   simp[gV,q4,wE,finite,q5,q6,bS,z0,uJ,r1,f2,r3,r4];omega
  ·refine Yd.cond (λ_=> ?_) (λ_=> ?_)
   ·refine(sJ d1 (by omega)).bind λp31 ⟨e1,_⟩=> ?_
    refine Yd.cond (λ_=> ?_) (λ_=>hj8 _ ⟨e1,rfl⟩)
    refine(mQ e1 (by omega) (by omega) (by omega)).bind λp32 ⟨f1,f2,f3,_⟩=> ?_
    refine(mQ f1 (by omega) (by omega) (by omega)).bind λp33 ⟨k1,k2,k3,_⟩=> ?_
    refine(sJ k1 (by omega)).bind λp34 ⟨l1,l2,l3,_⟩=> ?_
    have f4:=f3 (by omega)
    have k4:=k3 (by omega)
    have l4:=l3 (by omega)
    have g1:aB .i64 p33.1 p34.1=p33.1+p34.1:=bG (by omega) (by omega)
    simp only[g1];refine hj5 _ ⟨l1,⟨rfl,rfl,⟨a2,a4⟩,b2,b3,b4,c2,?_⟩⟩
    grind [gV,Cc,uJ]
   ·exact hj8 _ ⟨d1,rfl⟩
end
section
inductive cQ:aj->Prop where
 |mk (t:aj) (h1:t.bb.length<=1000000) (h2:t.aO.length<=1000000) (h3:∀u∈t.aO,cQ u):cQ t
def cQ.nodes{t:aj}:cQ t->t.bb.length<=1000000| .mk _ h _ _=>h
def cQ.len{t:aj}:cQ t->t.aO.length<=1000000| .mk _ _ h _=>h
def cQ.inner{t:aj}:cQ t->∀u∈t.aO,cQ u| .mk _ _ _ h=>h
def qt{t u:aj}(h:u∈t.aO):SizeOf.sizeOf u<SizeOf.sizeOf t:=by
 have h1:=List.sizeOf_lt_of_mem h
 cases t with
 |mk th ns is=>grind
def c5.sm{t:aj}(h:c5 t):cQ t:=by
 have:=h.len;refine .mk t (by omega) ?_ λu hu=> ?_
 ·rcases h.inner with e|⟨x,_,_,e⟩<;>rw[e]<;>simp
 ·rcases h.inner with e|⟨x,_,_,e⟩
  ·rw[e]at hu;cases hu
  ·rw[e]at hu;simp only[Q5]at hu;subst hu;exact .mk _ (by simp) (by simp) (by simp)
@[simp] def ad9 (l:List Int) (h:l.length<=1000000):kI l=some l:=by
 unfold kI;rw[bz (by simp;omega)]
 cases l with
 |nil|cons x l=>simp
def aeu{n:Nat}:∀{t:aj},SizeOf.sizeOf t<n->cQ t->xt n (t,())=some t:=by
 induction n with
 |zero=>intro t h;omega
 |succ n ih=>
  intro t hs hm;show xB (xt n) t=some t;unfold xB;have hl:=hm.len;rw[ad9 _ hm.nodes,Qa]
  suffices key:∀(k i:Nat) (t':aj),i+k=t.aO.length->t'.aI=t.aI->t'.bb=t.bb->aE (λ(v2:Int×aj×(List aj)×Unit)=>
    bif (decide (v2.1<((List.length t.aO:Nat):Int)))then
    Option.bind (idx t.aO v2.1) λx3=>
    Option.bind (xt n ((aj.mk x3.aI x3.bb x3.aO),())) λr4=>
    bif bg 56 (List.length v2.2.2.1+List.length [(aj.mk r4.aI r4.bb r4.aO)])then
    some (inl ((aB .i64 v2.1 (1:Int)),(aj.mk v2.2.1.aI v2.2.1.bb ([]:List aj)),(v2.2.2.1++[(aj.mk r4.aI r4.bb r4.aO)]),()))
    else none
    else
    Option.map inr (some (aj.mk v2.2.1.aI v2.2.1.bb v2.2.2.1))) ((i:Int),t',t.aO.take i,())=some t by
   have:=key t.aO.length 0 ⟨t.aI,t.bb,[]⟩ (by omega) rfl rfl
   simpa using this
  intro k
  induction k with
  |zero=>grind [bO,aj.eta]
  |succ k ihk=>
   intro i t' hi h1 h2;have hlt:i<t.aO.length:=by omega
   have hd:decide ((i:Int)<(t.aO.length:Int))=true:=Qg (by omega)
   have hx:idx t.aO (i:Int)=some t.aO[i]:=by rw[bd];exact Qv hlt
   have hw:aB .i64 (i:Int) 1=((i+1:Nat):Int):=bG (by omega) (by omega)
   have hmem:t.aO[i]∈t.aO:=Q0 hlt;have hr:=ih (t:=t.aO[i]) (by have:=qt hmem;omega) (hm.inner _ hmem)
   rw[bA (s':=(((i+1:Nat):Int),⟨t'.aI,t'.bb,[]⟩,t.aO.take (i+1),()))]
   ·exact ihk (i+1) _ (by omega) h1 h2
   ·simp only[hd,Qk,hx,hw,Qa,etas,hr];rw[bz (by simp;omega),Q7 hlt]
    rfl
@[simp] def jm {t:aj} (h:cQ t):ec t=some t:=aeu (by omega) h
def Ca{α σ ρ:Type}{g:α->σ->Option (σ⊕ρ)}{fin:σ->Option ρ}(hf:∀s,∃r,fin s=some r):∀(l:List α),(∀x∈l,∀s,∃y,g x s=some y)->∀s,∃r,fL g fin l s=some r
 |[],_,s=>hf s
 |x::l,h,s=>by
  obtain⟨y,hy⟩:=h x (by simp) s
  rw[fL,hy]
  cases y with
  |inr r=>exact⟨r,rfl⟩
  |inl s'=>exact Ca hf l (λx hx=>h x (by simp[hx])) s'
theorem MO{α σ ρ:Type}{g g':α->σ->Option (σ⊕ρ)}{fin:σ->Option ρ}:∀(l:List α),(∀x∈l,∀s,g x s=g' x s)->∀s,fL g fin l s=fL g' fin l s
 |[],_,s=>rfl
 |x::l,h,s=>by
  rw[fL,fL,h x (by simp) s]
  cases g' x s with
  |none=>rfl
  |some y=>
   cases y with
   |inr r=>rfl
   |inl s'=>exact MO l (λx hx=>h x (by simp[hx])) s'
def MT{n:Nat}:∀{t:aj},SizeOf.sizeOf t<n->cQ t->∃d,pa n (t,())=some d:=by
 induction n with
 |zero=>intro t h;omega
 |succ n ih=>
  intro t hs hm;show∃d,kb (pa n) t=some d;have hl:=hm.len;rw[Tb (by omega)]
  refine Ca (λs=>⟨_,rfl⟩) _ (λu hu s=> ?_) _
  obtain⟨d,hd⟩:=ih (t:=u) (by have:=qt hu;omega) (hm.inner u hu)
  exact⟨_,by rw[hd];rfl⟩
def Oq{n:Nat}:∀{t:aj},SizeOf.sizeOf t<n->cQ t->∃d,qz n (t,())=some d:=by
 induction n with
 |zero=>intro t h;omega
 |succ n ih=>
  intro t hs hm;show∃d,lq (qz n) t=some d;have hl:=hm.len;rw[Xz (by omega)]
  refine Ca (λs=>⟨_,rfl⟩) _ (λu hu s=> ?_) _
  obtain⟨d,hd⟩:=ih (t:=u) (by have:=qt hu;omega) (hm.inner u hu)
  exact⟨_,by rw[hd];rfl⟩
def J6{rec:aj->Option Int}{t:aj}(h:∀u∈t.aO,∃r,rec u=some r):∃r,tf rec t=some r:=by
 unfold tf;split
 ·exact⟨_,rfl⟩
 ·split
  ·exact⟨_,rfl⟩
  ·split
   ·refine Ca (λs=>⟨_,rfl⟩) _ (λu hu s=> ?_) _
    obtain⟨r,hr⟩:=h u hu;exact⟨_,by rw[hr];rfl⟩
   ·exact⟨_,rfl⟩
theorem VV{rec rec':aj->Option Int}{t:aj}(h:∀u∈t.aO,rec u=rec' u):tf rec t=tf rec' t:=by grind [tf,MO]
def XV{n:Nat}:∀{t:aj},SizeOf.sizeOf t<n->cQ t->∃d,fP n (t,())=some d/\rq n (t,())=some d:=by
 induction n with
 |zero=>intro t h;omega
 |succ n ih=>
  intro t hs hm;show∃d,iK (fP n) t=some d/\oS (rq n) t=some d;have hl:=hm.len;have hn:=hm.nodes;rw[LN (by omega) (by omega),Tc (by omega) (by omega)]
  have hih:∀u∈t.aO,∃r,fP n (u,())=some r/\rq n (u,())=some r:=λu hu=>ih (t:=u) (by have:=qt hu;omega) (hm.inner u hu)
  obtain⟨r,hr⟩:=J6 (rec:=λu=>fP n (u,())) (t:=t) λu hu=>by obtain⟨r,h1,_⟩:=hih u hu;exact⟨r,h1⟩
  grind [VV]
def agc{n:Nat}:∀{t:aj},SizeOf.sizeOf t<n->cQ t->∃d,fP n (t,())=some d:=by
 induction n with
 |zero=>intro t h;omega
 |succ n ih=>
  intro t hs hm;show∃d,iK (fP n) t=some d;have hl:=hm.len;have hn:=hm.nodes;rw[LN (by omega) (by omega)]
  exact J6 (rec:=λu=>fP n (u,())) (t:=t) λu hu=>ih (t:=u) (by have:=qt hu;omega) (hm.inner u hu)
theorem afj{t:aj}(h:cQ t):∃v,bN t=some v:=by
 obtain⟨d,hd⟩:∃d,jS t=some d:=MT (by omega) h
 obtain⟨z,hz⟩:∃z,k8 t=some z:=Oq (by omega) h
 obtain⟨l,hl1⟩:∃l,mi t=some l:=agc (by omega) h
 simp[bN,hd,hz,hl1]
theorem Zi{t:aj}(h:cQ t):∃v,bN t=some v/\cJ t=some v:=by
 obtain⟨d,hd⟩:∃d,jS t=some d:=MT (by omega) h
 obtain⟨z,hz⟩:∃z,k8 t=some z:=Oq (by omega) h
 obtain⟨l,hl1,hl2⟩:∃l,mi t=some l/\uZ t=some l:=XV (by omega) h
 simp[bN,cJ,Tt,Vm,hd,hz,hl1,hl2]
 def Hs(t:aj):Int:=(bN t).getD 1
def K6{t:aj}(h:cQ t):bN t=some (Hs t):=by grind [afj,Hs]
def Bn{t:aj}(h:cQ t):cJ t=some (Hs t):=by grind [Zi,Hs]
def vQ{t:aj}(h:c5 t):Hs t=0:=by rw[Hs,de h];rfl
 def bc(e:ak):Bool:=gV (Hs e.aa) e
def sG{e:ak}(h:cQ e.aa):dH e=some (bc e):=AZ (K6 h)
def ke{e:ak}(h:cQ e.aa):dp e=some (bc e):=uE (Bn h)
def qu(s:Nat)(x:Int):Bool:=fR x&&s.testBit x.toNat
theorem uq{s:Nat}(h:s<1024)(x:Int):xN s x=qu s x:=by grind [xN,qu]
mutual
def mB(s:Nat):aj->Bool
 |⟨th,ns,is⟩=>decide (th<=((ns.countP (qu s)+zT s is:Nat):Int))
def zT(s:Nat):List aj->Nat
 |[]=>0
 |t::l=>(if mB s t then 1 else 0)+zT s l
end
def RQ(s:Nat)(t:aj):mB s t=decide (t.aI<=((t.bb.countP (qu s)+zT s t.aO:Nat):Int)):=by cases t;rw[mB]
def Iw(s:Nat)(hs:s<1024)(fin:Int->Option Bool):∀(l:List Int) (n:Nat),n+l.length<=9000000->
  fL (λx (m:Int)=>some (.inl (if xN s x then aB .i64 m 1 else m))) fin l n=fin ((n+l.countP (qu s):Nat):Int)
 |[],n,_=>by simp[fL]
 |x::l,n,h=>by
  simp at h;rw[fL,uq hs,List.countP_cons]
  cases hx:qu s x with
  |false=>simp only[Qq,Qu,Nat.add_zero];exact Iw s hs fin l n (by omega)
  |true=>
   simp only[Qt];rw[bG (by omega) (by omega)]
   rw[show(n:Int)+1=((n+1:Nat):Int)by omega,Iw s hs fin l (n+1) (by omega)]
   congr 2;omega
def Nf(s:Nat)(rec:aj->Option Bool)(fin:Int->Option Bool):∀(l:List aj) (n:Nat),n+l.length<=9000000->(∀u∈l,rec u=some (mB s u))->
  fL (λu (m:Int)=>(rec u).map λr=> .inl (if r then aB .i64 m 1 else m)) fin l n=fin ((n+zT s l:Nat):Int)
 |[],n,_,_=>by simp[fL,zT]
 |u::l,n,h,hr=>by
  simp at h;rw[fL,hr u (by simp),zT]
  cases hx:mB s u with
  |false=>simp only[Qe,Qq,Qu,Nat.zero_add];exact Nf s rec fin l n (by omega) λu hu=>hr u (by simp[hu])
  |true=>
   simp only[Qe,Qt];rw[bG (by omega) (by omega)]
   rw[show(n:Int)+1=((n+1:Nat):Int)by omega,Nf s rec fin l (n+1) (by omega) λu hu=>hr u (by simp[hu])]
   congr 2;omega
def ajU{rec:(aj×Int×Unit)->Option Bool}{t:aj}{s:Nat}(hs:s<1024)(hm:cQ t)(hr:∀u∈t.aO,rec (u,(s:Int),())=some (mB s u)):kc rec t s=some (mB s t):=by
 unfold kc;have hn:=hm.nodes;have hl:=hm.len;have hv:eX (s:Int)=some true:=by unfold eX;simp;omega
 rw[hv];simp only[Qa,Qo,Ql,aR];rw[iD t.bb (by omega) (λi (m:Int)=>(m,i,())) (λx (m:Int)=>some (.inl (if xN s x then aB .i64 m 1 else m))) (λm=>fL (λu (m:Int)=>(rec (u,(s:Int),())).map λr=> .inl (if r then aB .i64 m 1 else m)) (λm=>some (decide (t.aI<=m))) t.aO m) (λi x m hd hx hw=> ?_) (λm hd=> ?_) 0]
 ·rw[show(0:Int)=((0:Nat):Int)from rfl,Iw s hs _ t.bb 0 (by omega)]
  rw[Nf s (λu=>rec (u,(s:Int),())) _ t.aO _ (by have:=List.countP_le_length (p:=qu s) (l:=t.bb);omega) hr,RQ]
  simp
 ·grind [mV,xN]
 ·simp only[hd,Ql];rw[iD t.aO (by omega) (λi (m:Int)=>(m,i,())) (λu (m:Int)=>(rec (u,(s:Int),())).map λr=> .inl (if r then aB .i64 m 1 else m)) (λm=>some (decide (t.aI<=m))) (λi x m hd hx hw=> ?_) (λm hd=> ?_) m]
  ·simp only[hd,hx,hw,Qk,Qa,etas]
   cases rec (x,(s:Int),())with
   |none=>rfl
   |some r=>cases r<;>rfl
  ·simp only[hd,Ql]
def ajQ{s:Nat}(hs:s<1024){n:Nat}:∀{t:aj},SizeOf.sizeOf t<n->cQ t->sR n (t,(s:Int),())=some (mB s t):=by
 induction n with
 |zero=>intro t h;omega
 |succ n ih=>intro t hz hm;show kc (sR n) t s=some (mB s t);exact ajU hs hm λu hu=>ih (t:=u) (by have:=qt hu;omega) (hm.inner u hu)
def CY{s:Nat}(hs:s<1024){t:aj}(hm:cQ t):jT t s=some (mB s t):=ajQ hs (by omega) hm
def ZD(t:aj)(s:Int):jT t s=jd t s:=by
 have hB:∀(rec:(aj×Int×Unit)->Option Bool) (t:aj) (s:Int),kc rec t s=oD rec t s:=by grind [kc,oD,eX,gf,SZ,mV,qH]
 grind [jT,jd,sR,zI]
def KW{s:Nat}(hs:s<1024){t:aj}(hm:cQ t):jd t s=some (mB s t):=by rw[<-ZD];exact CY hs hm
def ab1{s s':Nat}(h:∀k,s.testBit k=true->s'.testBit k=true)(x:Int)(hx:qu s x=true):qu s' x=true:=by grind [qu]
mutual
def To{s s':Nat}(h:∀k,s.testBit k=true->s'.testBit k=true):∀(t:aj),mB s t=true->mB s' t=true
 |⟨th,ns,is⟩,ht=>by
  rw[mB,Qi]at ht ⊢;have h1:=Tp h is;have h2:ns.countP (qu s)<=ns.countP (qu s'):=List.countP_mono_left λx _ hx=>ab1 h x hx
  omega
def Tp{s s':Nat}(h:∀k,s.testBit k=true->s'.testBit k=true):∀(l:List aj),zT s l<=zT s' l
 |[]=>by simp[zT]
 |t::l=>by
  have h1:=Tp h l;have h2:=To h t;rw[zT,zT]
  cases hs:mB s t with
  |false=>simp;omega
  |true=>rw[h2 hs];simp;omega
end
end
section
def afw(s:Int):eX s=some (decide (0<=s)&&decide (s<1024)):=by unfold eX;simp;congr 1;rw[decide_eq_decide];omega
def Dp{s:Nat}(h:s<1024):gf (s:Int)=some true:=by rw[SZ];simp;omega
def yd{s:Nat}(h:s<1024):eX (s:Int)=some true:=by rw[afw];simp;omega
def MX(a b:Nat)(ha:a<2 ^ 62)(hb:b<2 ^ 62):∃c:Nat,BU .i64 (a:Int) (b:Int)=(c:Int)/\c<=a/\∀k,c.testBit k=(a.testBit k&& !b.testBit k):=by
 refine⟨((BitVec.ofInt 64 (a:Int)&&& ~~~ BitVec.ofInt 64 (b:Int)).toNat),?_,?_,λk=> ?_⟩
 ·have hle:(BitVec.ofInt 64 (a:Int)&&& ~~~ BitVec.ofInt 64 (b:Int)).toNat<=a:=by
   rw[BitVec.toNat_and,wb a ha];exact Nat.and_le_left
  show IntKind.i64.wrap (((BitVec.ofInt 64 (a:Int)&&& ~~~ BitVec.ofInt 64 (b:Int)).toNat:Nat):Int)=_;exact D5 _ (by omega)
 ·rw[BitVec.toNat_and,wb a ha];exact Nat.and_le_left
 ·have h1:∀i (x:Nat),x<2 ^ 62->(BitVec.ofInt 64 (x:Int)).getLsbD i=x.testBit i:=by
   intro i x hx;rw[<-BitVec.testBit_toNat,wb x hx]
  rw[BitVec.testBit_toNat,BitVec.getLsbD_and,BitVec.getLsbD_not,h1 k a ha,h1 k b hb]
  by_cases hk:k<64
  ·simp[hk]
  ·have:a.testBit k=false:=Nat.testBit_lt_two_pow (QJ ha (Nat.pow_le_pow_right (by omega) (by omega)))
   simp[this]
def DZ{a b:Nat}(h:∀k,a.testBit k=b.testBit k):a=b:=Nat.eq_of_testBit_eq h
def Rn{s k:Nat}(hs:s<1024)(hk:s.testBit k=true):k<10:=by
 rcases Nat.lt_or_ge k 10 with h|h
 ·exact h
 ·have:s.testBit k=false:=Nat.testBit_lt_two_pow (QJ hs (show 2 ^ 10<=2 ^ k from Nat.pow_le_pow_right (by omega) h))
  rw[this]at hk;cases hk
def Lr{s:Nat}(h:∀k,s.testBit k=true->k<10):s<1024:=by
 rcases Nat.lt_or_ge s 1024 with h1|h1
 ·exact h1
 ·obtain⟨k,hk1,hk2⟩:=Nat.exists_ge_and_testBit_of_ge_two_pow (n:=10) h1;have:=h k hk2;omega
theorem ze(s k:Nat):qu s (k:Int)=(decide (k<10)&&s.testBit k):=by
 have h1:decide ((k:Int)<10)=decide (k<10):=by rw[decide_eq_decide];omega
 have h2:decide (0<=(k:Int))=true:=Qg (by omega)
 simp only[qu,fR,h1,h2,Bool.true_and,QV]
def Is(i:Nat)(s:Nat):List bh->Nat
 |[]=>s
 |m::l=>Is (i+1) (if m.ft&&decide (i<10)then s|||2 ^ i else s) l
def kj(l:List bh):Nat:=Is 0 0 l
def Ub:∀(l:List bh) (i s k:Nat),(Is i s l).testBit k=(s.testBit k||(decide (i<=k)&&decide (k<10)&&((l[k - i]?).any (·.ft))))
 |[],i,s,k=>by simp[Is]
 |m::l,i,s,k=>by
  rw[Is,Ub l (i+1)]
  by_cases hk:k=i
  ·subst hk;have h1:¬(k+1<=k):=by omega
   cases hm:m.ft<;>by_cases hi:k<10<;>simp[hm,hi,h1,Nat.testBit_or]
  ·have h2:i<=k↔i+1<=k:=by omega
   have h3:∀b:Bool,(if(b&&decide (i<10))=true then s|||2 ^ i else s).testBit k=s.testBit k:=by
    intro b;split
    ·rw[Nat.testBit_or,Nat.testBit_two_pow];have:¬i=k:=λe=>hk e.symm
     simp[this]
    ·rfl
   rw[h3]
   by_cases hik:i+1<=k
   ·have h4:(m::l)[k - i]?=l[k - (i+1)]?:=by
     rw[show k - i=(k - (i+1))+1 by omega,List.getElem?_cons_succ]
    rw[h4];have:i<=k:=by omega
    simp[this,hik]
   ·have:¬i<=k:=by omega
    simp[this,hik]
def Ua(l:List bh)(k:Nat):(kj l).testBit k=(decide (k<10)&&((l[k]?).any (·.ft))):=by rw[kj,Ub];simp
def EM(l:List bh):kj l<1024:=Lr λk hk=>by rw[Ua]at hk;simp at hk;exact hk.1
def T9(step:(Int×Int×Unit)->Option ((Int×Int×Unit)⊕Int))(l:List bh)
  (h1:∀(i:Nat) (m:bh) (s:Nat),l[i]?=some m->s<1024->step ((s:Int),(i:Int),())=some (.inl (((if m.ft&&decide (i<10)then s|||2 ^ i else s:Nat):Int),((i+1:Nat):Int),())))
  (h2:∀s:Int,step (s,(l.length:Int),())=some (.inr s)):aE step (0,0,())=some ((kj l:Nat):Int):=by
 suffices key:∀(k i s:Nat),i+k=l.length->s<1024->aE step ((s:Int),(i:Int),())=some ((Is i s (l.drop i):Nat):Int)by
  have:=key l.length 0 0 (by omega) (by omega)
  simpa[kj]using this
 intro k
 induction k with
 |zero=>
  intro i s hi hs;obtain rfl:i=l.length:=by omega
  rw[bO (h2 s),Qq66];rfl
 |succ k ih=>
  intro i s hi hs;have hlt:i<l.length:=by omega
  rw[QM hlt,Is,bA (h1 i l[i] s (Qv hlt) hs)];refine ih (i+1) _ (by omega) ?_
  split
  ·rename_i hc;simp only[Qm,Qi]at hc;have:=B2 (x:=(i:Int)) hs (by omega)
   simpa using this
  ·exact hs
def M1{c:bf}(h:c.bn.length<=1000000):ju c=some ((kj c.bn:Nat):Int):=by
 unfold ju;refine T9 _ _ (λi m s hm hs=> ?_) (λs=> ?_)
 ·have hlt:i<c.bn.length:=(Qw.1 hm).1;have hd:decide ((i:Int)<(c.bn.length:Int))=true:=Qg (by omega)
  have hw:aB .i64 (i:Int) 1=((i+1:Nat):Int):=bG (by omega) (by omega)
  have hx:idx c.bn (i:Int)=some m:=by rw[bd];exact hm
  have h0:¬(i:Int)<0:=by omega
  simp only[hd,hx,hw,Qk,Qa,aR,h0,Qu]
  cases m.ft with
  |false=>simp
  |true=>
   by_cases h10:i<10
   ·have:(i:Int)<10:=by omega
    have ho:=ra (x:=(i:Int)) hs (by omega) (by omega)
    simp only[QV]at ho;simp[this,h10,ho]
   ·have:¬(i:Int)<10:=by omega
    simp[this,h10]
 ·have hd:decide ((c.bn.length:Int)<(c.bn.length:Int))=false:=Qh (Qq64 _);simp only[hd,Ql,Qe]
def Ef{c:bf}(h:c.bn.length<=1000000):mU c=some ((kj c.bn:Nat):Int):=by
 unfold mU;refine T9 _ _ (λi m s hm hs=> ?_) (λs=> ?_)
 ·have hlt:i<c.bn.length:=(Qw.1 hm).1;have hd:decide ((i:Int)<(c.bn.length:Int))=true:=Qg (by omega)
  have hw:aB .i64 (i:Int) 1=((i+1:Nat):Int):=bG (by omega) (by omega)
  have hx:idx c.bn (i:Int)=some m:=by rw[bd];exact hm
  have h0:¬(i:Int)<0:=by omega
  simp only[hd,hx,hw,Qk,Qa,aR,h0,Qu]
  by_cases h10:i<10
  ·have:(i:Int)<10:=by omega
   have ho:=ra (x:=(i:Int)) hs (by omega) (by omega)
   simp only[QV]at ho;cases m.ft<;>simp[this,h10,ho]
  ·have:¬(i:Int)<10:=by omega
   cases m.ft<;>simp[this,h10]
 ·have hd:decide ((c.bn.length:Int)<(c.bn.length:Int))=false:=Qh (Qq64 _);simp only[hd,Ql,Qe]
structure Bi (c:bf):Prop where
 len:c.bn.length<=1000000
 aN:∀m∈c.bn,cQ m.aa
def pO(l:List bh)(k:Nat):aj:=((l[k]?).map (·.aa)).getD ⟨0,[],[]⟩
def uN(l:List bh)(k:Nat):Bool:=(kj l).testBit k
def Au{l:List bh}{k:Nat}(h:uN l k=true):k<10/\∃m,l[k]?=some m/\m.ft=true:=by rw[uN,Ua]at h;simp only[Qm,Qi,Option.any_eq_true]at h;obtain⟨h1,m,h2,h3⟩:=h;exact⟨h1,m,h2,h3⟩
def BY{l:List bh}{k:Nat}{m:bh}(h:l[k]?=some m):pO l k=m.aa:=by rw[pO,h];rfl
def DV(s v:Nat):Nat:=(1023^^^s)|||2 ^ v
def BS(l:List bh)(v s:Nat):Bool:=uN l v&& !mB (DV s v) (pO l v)
def aeE(k:Nat):(1023:Nat).testBit k=decide (k<10):=by rw[show(1023:Nat)=2 ^ 10 - 1 from rfl,Nat.testBit_two_pow_sub_one]
def Dv{s:Nat}(hs:s<1024)(v k:Nat):(DV s v).testBit k=(decide (k<10)&& !s.testBit k||decide (v=k)):=by
 rw[DV,Nat.testBit_or,Nat.testBit_xor,aeE,Nat.testBit_two_pow]
 by_cases hk:k<10
 ·simp[hk]
 ·have:s.testBit k=false:=by
   cases h:s.testBit k with
   |false=>rfl
   |true=>exact absurd (Rn hs h) hk
  simp[hk,this]
def TM{s v:Nat}(hs:s<1024)(hv:v<10):DV s v<1024:=Lr λk hk=>by rw[Dv hs]at hk;simp at hk;omega
def XQ{s v:Nat}(hs:s<1024)(hv:v<10):sO .i64 (BU .i64 1023 (s:Int)) (bX .i64 1 (v:Int))=((DV s v:Nat):Int):=by
 obtain⟨c,h1,h2,h3⟩:=MX 1023 s (by omega) (by omega)
 have h1':BU .i64 1023 (s:Int)=(c:Int):=h1;rw[h1',yM v (by omega),GJ c (2 ^ v) (by omega) (Nat.pow_lt_pow_right (by omega) (by omega))]
 congr 1;refine DZ λk=> ?_
 rw[Dv hs,Nat.testBit_or,h3,aeE,Nat.testBit_two_pow]
def ZW{s v:Nat}(hs:s<1024)(hv:v<10):sO .i64 (cW .i64 1023 (s:Int)) (bX .i64 1 (v:Int))=((DV s v:Nat):Int):=by
 have h1:cW .i64 1023 (s:Int)=((1023 - s:Nat):Int):=by rw[nY (by omega) (by omega)];omega
 rw[h1,yM v (by omega),GJ _ (2 ^ v) (by omega) (Nat.pow_lt_pow_right (by omega) (by omega))]
 congr 1;refine DZ λk=> ?_
 rw[Dv hs,Nat.testBit_or,Nat.testBit_two_pow]
 have h2:(1023 - s).testBit k=(decide (k<10)&& !s.testBit k):=by
  have:=Nat.testBit_two_pow_sub_succ (x:=s) (n:=10) (by omega) k
  rw[show 2 ^ 10 - (s+1)=1023 - s by omega]at this
  exact this
 rw[h2]
def Uo{c:bf}(hc:Bi c){v s:Nat}(hs:s<1024):po c v s=some (BS c.bn v s):=by
 unfold po BS;rw[Dp hs,M1 hc.len];simp only[Qa,Qo,Ql,qH,uq (EM _),ze]
 cases hd:uN c.bn v with
 |false=>
  have:(decide (v<10)&&(kj c.bn).testBit v)=false:=by rw[show(kj c.bn).testBit v=uN c.bn v from rfl,hd];simp
  simp[this]
 |true=>
  obtain⟨h10,m,hm,hdm⟩:=Au hd
  have:(decide (v<10)&&(kj c.bn).testBit v)=true:=by rw[show(kj c.bn).testBit v=uN c.bn v from rfl,hd];simp[h10]
  rw[bd,hm,XQ hs h10];have h0:¬(v:Int)<0:=by omega
  have hmem:m∈c.bn:=Q8 hm;simp only[this,Qo,Ql,Qa,h0,Qu,etas,KW (TM hs h10) (hc.aN m hmem),BY hm,Bool.true_and]
def OM{c:bf}(hc:Bi c){v s:Nat}(hs:s<1024):pX c v s=some (BS c.bn v s):=by
 unfold pX BS;rw[yd hs,Ef hc.len];simp only[Qa,Qo,Ql,mV,uq (EM _),ze]
 cases hd:uN c.bn v with
 |false=>
  have:(decide (v<10)&&(kj c.bn).testBit v)=false:=by rw[show(kj c.bn).testBit v=uN c.bn v from rfl,hd];simp
  simp[this]
 |true=>
  obtain⟨h10,m,hm,hdm⟩:=Au hd
  have:(decide (v<10)&&(kj c.bn).testBit v)=true:=by rw[show(kj c.bn).testBit v=uN c.bn v from rfl,hd];simp[h10]
  rw[bd,hm,ZW hs h10];have h0:¬(v:Int)<0:=by omega
  have hmem:m∈c.bn:=Q8 hm;simp only[this,Qo,Ql,Qa,h0,Qu,etas,CY (TM hs h10) (hc.aN m hmem),BY hm,Bool.true_and]
end
section
def oW(s:Nat):List Int:=(xY 10).filter (qu s)
theorem aga{n:Nat}{x:Int}:x∈xY n↔∃k:Nat,k<n/\x=k:=by grind [xY]
def Dz{s:Nat}{x:Int}:x∈oW s↔∃k:Nat,k<10/\x=k/\s.testBit k=true:=by grind [oW,aga,ze]
theorem O8(step:(Int×List Int×Unit)->Option ((Int×List Int×Unit)⊕List Int))(s:Nat)
  (h1:∀(i:Nat) (acc:List Int),i<10->acc.length<=i->step ((i:Int),acc,())=some (.inl (((i+1:Nat):Int),(if qu s i then acc++[(i:Int)]else acc),())))
  (h2:∀acc,step (((10:Nat):Int),acc,())=some (.inr acc)):aE step (0,[],())=some (oW s):=by
 suffices key:∀(k i:Nat) (acc:List Int),i+k=10->acc=(xY i).filter (qu s)->aE step ((i:Int),acc,())=some (oW s)from key 10 0 [] rfl rfl
 intro k
 induction k with
 |zero=>
  intro i acc hi ha;obtain rfl:i=10:=by omega
  rw[bO (h2 acc),ha];rfl
 |succ k ih=>
  intro i acc hi ha;have hlen:acc.length<=i:=by rw[ha];exact QK (List.length_filter_le _ _) (by simp)
  rw[bA (h1 i acc (by omega) hlen)]
  refine ih (i+1) _ (by omega) ?_
  rw[U6,List.filter_append,<-ha];cases hh:qu s i<;>simp[hh]
def Xu{s:Nat}(hs:s<1024):ss (s:Int)=some (oW s):=by grind [ss,O8,aB,bG,aR,qH,uq,bz,qu]
def JL{s:Nat}(hs:s<1024):rD (s:Int)=some (oW s):=by grind [rD,O8,aB,bG,aR,mV,uq,bz,qu]
def Hj(l:List bh)(s r:Nat):Prop:=∀k,r.testBit k=true->s.testBit k=true/\uN l k=true/\mB r (pO l k)=true
structure AI (l:List bh) (s q:Nat):Prop where
 inside:Hj l s q
 max:∀r,Hj l s r->∀k,r.testBit k=true->q.testBit k=true
def AI.unique{l:List bh}{s q q':Nat}(h:AI l s q)(h':AI l s q'):q=q':=by
 refine DZ λk=> ?_
 rw[QW];exact⟨h'.max q h.inside k,h.max q' h'.inside k⟩
def AI.lt{l:List bh}{s q:Nat}(h:AI l s q):q<1024:=Lr λk hk=>(Au (h.inside k hk).2.1).1
def qc(l:List bh)(s:Nat):Option Int:=(oW s).find? λx=> !mB s (pO l x.toNat)
def CU{l:List bh}{s:Nat}{x:Int}(h:qc l s=some x):∃k:Nat,x=k/\k<10/\s.testBit k=true/\mB s (pO l k)=false:=by have h1:=List.mem_of_find?_eq_some h;have h2:=List.find?_some h;obtain⟨k,hk,rfl,hb⟩:=Dz.1 h1;simp at h2;exact⟨k,rfl,hk,hb,h2⟩
def Up{l:List bh}{s:Nat}(hs:s<1024)(h:qc l s=none):∀k,s.testBit k=true->mB s (pO l k)=true:=by intro k hk;have:=List.find?_eq_none.1 h (k:Int) (Dz.2 ⟨k,Rn hs hk,rfl,hk⟩);simpa using this
def afq:∀s,s<1024->∀k,k<10->s.testBit k=true->s - 2 ^ k=s^^^2 ^ k:=by decide+kernel
def Gx{s k:Nat}(hs:s<1024)(hk:s.testBit k=true):2 ^ k<=s/\∀j,(s - 2 ^ k).testBit j=(s.testBit j&& !decide (k=j)):=by
 have hle:2 ^ k<=s:=Nat.ge_two_pow_of_testBit hk;refine⟨hle,?_⟩;have hx:s - 2 ^ k=s^^^2 ^ k:=afq s hs k (Rn hs hk) hk
 grind
structure qb (l:List bh) (s0 s:Nat):Prop where
 lt:s<1024
 sub:∀k,s.testBit k=true->s0.testBit k=true/\uN l k=true
 max:∀r,Hj l s0 r->∀k,r.testBit k=true->s.testBit k=true
def qb.first(l:List bh){s:Nat}(hs:s<1024):qb l s (s&&&kj l):=by
 refine⟨Nat.lt_of_le_of_lt Nat.and_le_left hs,λk hk=> ?_,λr hr k hk=> ?_⟩
 ·rw[Nat.testBit_and,Qm]at hk;exact hk
 ·rw[Nat.testBit_and,Qm];exact⟨(hr k hk).1,(hr k hk).2.1⟩
def qb.next{l:List bh}{s0 s k:Nat}(h:qb l s0 s)(hk:s.testBit k=true)(hu:mB s (pO l k)=false):qb l s0 (s - 2 ^ k):=by
 obtain⟨h1,h2⟩:=Gx h.lt hk;refine⟨Nat.lt_of_le_of_lt (Nat.sub_le _ _) h.lt,λj hj=> ?_,λr hr j hj=> ?_⟩
 ·rw[h2]at hj;simp at hj;exact h.sub j hj.1
 ·rw[h2,h.max r hr j hj]
  have:k≠j:=by
   intro e;subst e;have:=To (λi hi=>h.max r hr i hi) _ (hr k hj).2.2
   rw[hu]at this;cases this
  simp[this]
def qb.done{l:List bh}{s0 s:Nat}(h:qb l s0 s)(hn:qc l s=none):AI l s0 s:=
 ⟨λk hk=>⟨(h.sub k hk).1,(h.sub k hk).2,Up h.lt hn k hk⟩,h.max⟩
def T4{l:List Int}{ρ:Type}{f:Int->Bool}{hit:Int->ρ}{fin:Unit->Option ρ}{g:Int->Unit->Option (Unit⊕ρ)}(hg:∀x∈l,∀s,g x s=some (if f x then .inr (hit x)else .inl ())):
  fL g fin l ()=match l.find? f with|some x=>some (hit x)|none=>fin ():=by
 induction l with
 |nil=>rfl
 |cons x l ih=>grind [fL]
def Ae(s:Nat):(oW s).length<=10:=QK (List.length_filter_le _ _) (by simp)
def Zk{c:bf}(hc:Bi c){s:Nat}(hs:s<1024)(hsub:∀k,s.testBit k=true->uN c.bn k=true):
  pk c s=some (match qc c.bn s with|some x=>(x,true,())|none=>(0,false,())):=by
 unfold pk;rw[Xu hs,Qa];have hlen:=Ae s;rw[iD (oW s) (by omega) (λi (_:Unit)=>(i,())) (λx (_:Unit)=>(pn c x s).map λr=>if r then .inl ()else .inr (x,true,())) (λ_=>some (0,false,())) (λi x u hd hx hw=> ?_) (λu hd=> ?_) ()]
 ·rw[T4 (f:=λx=> !mB s (pO c.bn x.toNat)) (hit:=λx=>(x,true,()))]
  ·grind [qc,oW]
  ·intro x hx u;obtain⟨k,hk,rfl,hb⟩:=Dz.1 hx;obtain⟨_,m,hm,_⟩:=Au (hsub k hb);unfold pn;rw[bd,hm];simp only[Qa,etas,KW hs (hc.aN m (Q8 hm)),Qe,QV,BY hm];cases mB s m.aa<;>rfl
 ·simp only[hd,hx,hw,Qk,Qa]
  cases pn c x s with
  |none=>rfl
  |some r=>cases r<;>rfl
 ·simp only[hd,Ql]
def aaG{s k:Nat}(hs:s<1024)(hk:s.testBit k=true):BU .i64 (s:Int) (bX .i64 1 (k:Int))=((s - 2 ^ k:Nat):Int):=by
 have h10:=Rn hs hk;obtain⟨c,h1,_,h3⟩:=MX s (2 ^ k) (by omega) (Nat.pow_lt_pow_right (by omega) (by omega))
 rw[yM k (by omega),h1]
 congr 1;refine DZ λj=> ?_
 rw[h3,(Gx hs hk).2,Nat.testBit_two_pow]
def Yc{c:bf}(hc:Bi c){s:Nat}(hs:s<1024):Yd (lG c s) λq=>∃n:Nat,q=n/\AI c.bn s n:=by
 unfold lG vo;rw[Dp hs,M1 hc.len];simp only[Qa,Qo,Ql];have hdl:=EM c.bn;rw[EU s (kj c.bn) (by omega) (by omega)]
 suffices key:∀(n t:Nat) (out:List Int),t<n->qb c.bn s t->out.length+t<=1024->Yd (aE (λ(v3:Int×(List Int)×Unit)=>
   Option.bind (pk c v3.1) λr4=>
   bif (!r4.2.1)then
   Option.map inr (some (v3.1,v3.2.1,()))
   else
   bif bg 8 (List.length v3.2.1+List.length [r4.1])then
   if r4.1<0 then none else
   some (inl ((BU .i64 v3.1 (bX .i64 (1:Int) r4.1)),(v3.2.1++[r4.1]),()))
   else none) ((t:Int),out,())) λp=>∃n:Nat,p.1=n/\AI c.bn s n by
  have hfirst:=qb.first c.bn hs
  have hb:=hfirst.lt;refine(key 1024 (s&&&kj c.bn) [] hb hfirst (by simp;omega)).bind λp hp=>Yd.some hp
 intro n
 induction n with
 |zero=>intro t out h;omega
 |succ n ih=>
  intro t out ht hinv hout;refine Yd.loop ?_;rw[Zk hc hinv.lt λk hk=>(hinv.sub k hk).2]
  simp only[Qa]
  cases hu:qc c.bn t with
  |none=>exact Yd.some ⟨t,rfl,hinv.done hu⟩
  |some x=>
   obtain⟨k,rfl,hk10,hkb,hks⟩:=CU hu;have h0:¬(k:Int)<0:=by omega
   have hlb:=(Gx hinv.lt hkb).1;have hp:0<2 ^ k:=Nat.pow_pos (by omega)
   simp only[Qo,Ql];rw[bz (by simp;omega),Qs h0,aaG hinv.lt hkb]
   exact Yd.some (ih (t - 2 ^ k) _ (by omega) (hinv.next hkb hks) (by simp;omega))
theorem ab2{c:bf}(hc:Bi c){s:Nat}(hs:s<1024):∃q,AI c.bn s q:=by
 suffices key:∀(n t:Nat),t<n->qb c.bn s t->∃q,AI c.bn s q from key _ _ (Nat.lt_succ_self _) (qb.first c.bn hs)
 intro n
 induction n with
 |zero=>intro t h;omega
 |succ n ih=>
  intro t ht hinv
  cases hu:qc c.bn t with
  |none=>exact⟨t,hinv.done hu⟩
  |some x=>
   obtain⟨k,rfl,_,hkb,hks⟩:=CU hu;have hp:0<2 ^ k:=Nat.pow_pos (by omega)
   have:=(Gx hinv.lt hkb).1;exact ih (t - 2 ^ k) (by omega) (hinv.next hkb hks)
open Classical in
 def gq(l:List bh)(s:Nat):Nat:=if h:∃q,AI l s q then Classical.choose h else 0
def Il{c:bf}(hc:Bi c){s:Nat}(hs:s<1024):AI c.bn s (gq c.bn s):=by grind [ab2,gq]
def MZ{c:bf}(hc:Bi c){s:Nat}(hs:s<1024):lG c s=some ((gq c.bn s:Nat):Int):=by obtain⟨q,h1,n,rfl,h2⟩:=Yc hc hs;rw[h1,h2.unique (Il hc hs)]
def xZ(s:Nat):List Int->Nat
 |[]=>s
 |x::l=>xZ (s - 2 ^ x.toNat) l
def Oi(s:Nat):∀(l:List Int) (x:Int),xZ s (l++[x])=xZ s l - 2 ^ x.toNat
 |[],x=>rfl
 |y::l,x=>by rw[List.cons_append,xZ,Oi _ l x,xZ]
def LI(s:Nat):List Int->Prop
 |[]=>True
 |x::l=>(∃k:Nat,x=k/\k<10/\2 ^ k<=s)/\LI (s - 2 ^ x.toNat) l
def Ul{s:Nat}:∀{l:List Int} {k:Nat},LI s l->k<10->2 ^ k<=xZ s l->LI s (l++[(k:Int)])
 |[],k,_,h1,h2=>⟨⟨k,rfl,h1,h2⟩,trivial⟩
 |_::_,_,h,h1,h2=>⟨h.1,Ul h.2 h1 h2⟩
theorem Vc{t k:Nat}(hk:k<10)(h:2 ^ k<=t)(ht:t<1024):cW .i64 (t:Int) (bX .i64 1 (k:Int))=((t - 2 ^ k:Nat):Int):=by grind [yM,nY]
def ahh{c:bf}(hc:Bi c){s:Nat}(hs:s<1024):Yd (qQ c s) λout=>LI (s&&&kj c.bn) out/\AI c.bn s (xZ (s&&&kj c.bn) out)/\out.length<=1024:=by
 unfold qQ;rw[yd hs,Ef hc.len];simp only[Qa,Qo,Ql];have hdl:=EM c.bn;rw[EU s (kj c.bn) (by omega) (by omega)]
 generalize hs0:s&&&kj c.bn=s0
 suffices key:∀(n t:Nat) (b:Bool) (out:List Int),t<n->qb c.bn s t->(b=false->qc c.bn t=none)->out.length+t<=1024->LI s0 out->xZ s0 out=t->
   Yd (aE (λ(v3:Int×Bool×(List Int)×Unit)=>
    bif v3.2.1 then
    Option.bind (rD v3.1) λr4=>
    aE (λ(v5:Int×Bool×Int×(List Int)×Unit)=>
    bif (decide (v5.2.2.1<((List.length r4:Nat):Int)))then
    Option.bind (idx r4 v5.2.2.1) λx6=>
    Option.bind (idx c.bn x6) λx7=>
    Option.bind (jT (aj.mk x7.aa.aI x7.aa.bb x7.aa.aO) v5.1) λr8=>
    bif (!r8)then
    if x6<0 then none else
    bif bg 8 (List.length v5.2.2.2.1+List.length [x6])then
    Option.map inr (some (inl ((cW .i64 v5.1 (bX .i64 (1:Int) x6)),true,(v5.2.2.2.1++[x6]),())))
    else none
    else
    some (inl (v5.1,v5.2.1,(aB .i64 v5.2.2.1 (1:Int)),v5.2.2.2.1,()))
    else
    Option.map inr (some (inl (v5.1,v5.2.1,v5.2.2.2.1,())))) (v3.1,false,(0:Int),v3.2.2.1,())
    else
    Option.map inr (some v3.2.2.1)) ((t:Int),b,out,())) λout=>LI s0 out/\AI c.bn s (xZ s0 out)/\out.length<=1024 by
  have hfirst:=qb.first c.bn hs
  rw[hs0]at hfirst;have hb:=hfirst.lt;exact key 1024 s0 true [] hb hfirst (λh=>by cases h) (by simp;omega) trivial rfl
 intro n
 induction n with
 |zero=>intro t b out h;omega
 |succ n ih=>
  intro t b out ht hinv hb hout hso hsub;refine Yd.loop ?_
  cases b with
  |false=>
   simp only[Ql];refine Yd.inr (Yd.some ⟨hso,?_,by omega⟩)
   rw[hsub];exact hinv.done (hb rfl)
  |true=>
   simp only[Qk];rw[JL hinv.lt,Qa];have hlen:=Ae t;rw[iD (oW t) (by omega) (λi (_:Unit)=>((t:Int),false,i,out,())) (λx (_:Unit)=>some (if !mB t (pO c.bn x.toNat)then .inr (inl ((cW .i64 (t:Int) (bX .i64 (1:Int) x)),true,(out++[x]),()))else .inl ())) (λ_=>some (inl ((t:Int),false,out,()))) (λi x u hd hx hw=> ?_) (λu hd=> ?_) ()]
   ·rw[T4 (f:=λx=> !mB t (pO c.bn x.toNat)) (hit:=λx=>inl ((cW .i64 (t:Int) (bX .i64 (1:Int) x)),true,(out++[x]),())) (λx hx u=>rfl)]
    cases hu:qc c.bn t with
    |none=>
     rw[qc]at hu;rw[hu];refine Yd.some ?_;refine Yd.loop ?_;simp only[Ql];refine Yd.inr (Yd.some ⟨hso,?_,by omega⟩)
     rw[hsub];exact hinv.done hu
    |some x=>
     obtain⟨k,rfl,hk10,hkb,hks⟩:=CU hu;rw[qc]at hu;rw[hu];have hlb:=(Gx hinv.lt hkb).1;have hp:0<2 ^ k:=Nat.pow_pos (by omega)
     simp only;rw[Vc hk10 hlb hinv.lt];refine Yd.some (ih (t - 2 ^ k) true _ (by omega) (hinv.next hkb hks) (λh=>by cases h) (by simp;omega) (Ul hso hk10 (by rw[hsub];exact hlb)) (by rw[Oi,hsub];rfl))
   ·have hmem:x∈oW t:=by
     rw[bd]at hx;exact Q8 hx
    obtain⟨k,hk10,rfl,hkb⟩:=Dz.1 hmem;obtain⟨_,m,hm,_⟩:=Au (hinv.sub k hkb).2;have h0:¬(k:Int)<0:=by omega
    simp only[hd,hx,hw,Qk,Qa,bd c.bn,hm,etas,CY hinv.lt (hc.aN m (Q8 hm)),h0,Qu,QV,BY hm];rw[bz (by simp;omega)]
    cases mB t m.aa<;>rfl
   ·simp only[hd,Ql]
def Ee{c:bf}(hc:Bi c){s:Nat}(hs:s<1024):lg c s=some ((gq c.bn s:Nat):Int):=by
 unfold lg;rw[yd hs,Ef hc.len];simp only[Qa,Qo,Ql];have hdl:=EM c.bn;rw[EU s (kj c.bn) (by omega) (by omega)]
 obtain⟨out,h1,h2,h3,h4⟩:=ahh hc hs;rw[h1,Qa];rw[iD out (by omega) (λi (t:Int)=>(t,i,())) (λx (t:Int)=>if x<0 then none else some (.inl (cW .i64 t (bX .i64 1 x)))) (λt=>some t) (λi x u hd hx hw=> ?_) (λu hd=> ?_) _]
 ·rw[<-h3.unique (Il hc hs)];have hlt:s&&&kj c.bn<1024:=Nat.lt_of_le_of_lt Nat.and_le_left hs;generalize s&&&kj c.bn=t at h2 hlt;clear h1 h3 h4
  induction out generalizing t with
  |nil=>rfl
  |cons x l ih=>
   obtain⟨⟨k,rfl,hk,hle⟩,h2⟩:=h2
   grind [fL,Vc,xZ]
 ·grind
 ·simp only[hd,Ql]
end
section
structure tw (l:List ak):Prop where
 len:l.length<=100000
 aN:∀e∈l,cQ e.aa
def kG{e:ak}(h:bc e=true):0<=e.al/\e.al<10:=by simp only[bc,gV,Ax,Qm,Qi]at h;exact⟨h.1.1.1.1.1.1.1,h.1.1.1.1.1.1.2⟩
def jk:bh:=⟨false,⟨0,[],[]⟩⟩
 def fF(ms:List bh)(e:ak):List bh:=
 if bc e&& !((ms[e.al.toNat]?).any (·.ft))then ms.set e.al.toNat ⟨true,e.aa⟩else ms
 def kP(aF:Nat)(t:aj)(l:List ak):List bh:=l.foldl fF ((replicate 10 jk).set aF ⟨true,t⟩)
def zR(ms:List bh)(e:ak):(fF ms e).length=ms.length:=by
 unfold fF;split
 ·rw[QY]
 ·rfl
def Gt:∀(l:List ak) (ms:List bh),(l.foldl fF ms).length=ms.length
 |[],_=>rfl
 |e::l,ms=>by rw[QU,Gt l,zR]
def Jr(aF:Nat)(t:aj)(l:List ak):(kP aF t l).length=10:=by rw[kP,Gt,QY,List.length_replicate]
def UW{ms:List bh}(hl:ms.length=10){n:Int}(h0:0<=n)(h1:n<10):∃m,ms[n.toNat]?=some m/\idx ms n=some m:=by
 have:n.toNat<ms.length:=by omega
 exact⟨ms[n.toNat],Qv this,by rw[PN _ h0];exact Qv this⟩
def Zb{aF:Nat}(hn:aF<10){t:aj}(ht:cQ t){l:List ak}(hl:tw l):tK aF t l=some ⟨kP aF t l⟩:=by
 unfold tK
 have h1:(decide ((10:Int)<=10)&&decide ((0:Int)<=10)&&bg 64 (toNat 10))=true:=by rw[bz (by decide)];rfl
 have h2:¬(aF:Int)<0:=by omega
 have h3:¬(10:Int)<=aF:=by omega
 rw[h1];simp only[Qk,h2,h3,decide_false,Ql,Qa,etas,jm ht,aR];obtain⟨m,hm1,hm2⟩:=UW (ms:=replicate 10 jk) (by simp) (n:=(aF:Int)) (by omega) (by omega)
 have e10:replicate (toNat 10) (bh.mk false (aj.mk 0 [] []))=replicate 10 jk:=rfl;rw[e10,hm2,hm1,Qa,Qa];have hlen:=hl.len
 suffices key:∀(k i:Nat) (ms:List bh) (c:bf),i+k=l.length->ms.length=10->aE _ ((i:Int),c,ms,())=some (bf.mk ((l.drop i).foldl fF ms))by
  have:=key l.length 0 ((replicate 10 jk).set aF ⟨true,t⟩) ⟨[]⟩ (by omega) (by simp)
  simpa[kP]using this
 intro k
 induction k with
 |zero=>
  intro i ms c hi hms;obtain rfl:i=l.length:=by omega
  refine bO ?_;have hd:decide ((l.length:Int)<(l.length:Int))=false:=Qh (Qq64 _);simp only[hd,Ql,Qq66,List.foldl_nil]
 |succ k ih=>
  intro i ms c hi hms;have hlt:i<l.length:=by omega
  have hd:decide ((i:Int)<(l.length:Int))=true:=Qg (by omega)
  have hw:aB .i64 (i:Int) 1=((i+1:Nat):Int):=bG (by omega) (by omega)
  have hx:idx l (i:Int)=some l[i]:=by rw[bd];exact Qv hlt
  have hsm:=hl.aN _ (Q0 hlt);rw[QM hlt,QU];refine Eq.trans (bA (s':=(((i+1:Nat):Int),⟨[]⟩,fF ms l[i],())) ?_) (ih (i+1) _ _ (by omega) (by rw[zR];exact hms))
  simp only[hd,hx,hw,Qk,Qa,sG hsm];unfold fF
  cases hv:bc l[i]with
  |false=>simp
  |true=>obtain⟨h4,h5⟩:=kG hv;obtain⟨m,hm1,hm2⟩:=UW hms h4 h5;simp only[Qk,hm1,hm2,Qa,jm hsm,Option.any_some,Bool.true_and];cases m.ft<;>simp
def Bq{aF:Nat}(hn:aF<10){t:aj}{l:List ak}(hl:tw l):jq aF t l=some ⟨kP aF t l⟩:=by
 unfold jq
 have h1:(decide ((10:Int)<=10)&&decide ((0:Int)<=10)&&bg 64 (toNat 10))=true:=by rw[bz (by decide)];rfl
 have h2:¬(aF:Int)<0:=by omega
 have h3:¬(9:Int)<aF:=by omega
 rw[h1];simp only[Qk,h2,h3,decide_false,Ql,Qa,etas,aR];obtain⟨m,hm1,hm2⟩:=UW (ms:=replicate 10 jk) (by simp) (n:=(aF:Int)) (by omega) (by omega)
 have e10:replicate (toNat 10) (bh.mk false (aj.mk 0 [] []))=replicate 10 jk:=rfl;rw[e10,hm2,hm1,Qa,Qa];have hlen:=hl.len
 suffices key:∀(k i:Nat) (ms:List bh) (c:bf),i+k=l.length->ms.length=10->aE _ ((i:Int),c,ms,())=some (bf.mk ((l.drop i).foldl fF ms))by
  have:=key l.length 0 ((replicate 10 jk).set aF ⟨true,t⟩) ⟨[]⟩ (by omega) (by simp)
  simpa[kP]using this
 intro k
 induction k with
 |zero=>
  intro i ms c hi hms;obtain rfl:i=l.length:=by omega
  refine bO ?_;have hd:decide ((l.length:Int)<(l.length:Int))=false:=Qh (Qq64 _);simp only[hd,Ql,Qq66,List.foldl_nil]
 |succ k ih=>
  intro i ms c hi hms;have hlt:i<l.length:=by omega
  have hd:decide ((i:Int)<(l.length:Int))=true:=Qg (by omega)
  have hw:aB .i64 (i:Int) 1=((i+1:Nat):Int):=bG (by omega) (by omega)
  have hx:idx l (i:Int)=some l[i]:=by rw[bd];exact Qv hlt
  have hsm:=hl.aN _ (Q0 hlt);rw[QM hlt,QU];refine Eq.trans (bA (s':=(((i+1:Nat):Int),⟨[]⟩,fF ms l[i],())) ?_) (ih (i+1) _ _ (by omega) (by rw[zR];exact hms))
  simp only[hd,hx,hw,Qk,Qa,ke hsm];unfold fF
  cases hv:bc l[i]with
  |false=>simp
  |true=>obtain⟨h4,h5⟩:=kG hv;obtain⟨m,hm1,hm2⟩:=UW hms h4 h5;simp only[Qk,hm1,hm2,Qa,Option.any_some,Bool.true_and];cases m.ft<;>simp
def oE{aF:Nat}{t:aj}(ht:cQ t){l:List ak}(hl:tw l):Bi ⟨kP aF t l⟩:=by
 refine⟨by rw[Jr];omega,?_⟩
 have key:∀(l:List ak) (ms:List bh),(∀e∈l,cQ e.aa)->(∀m∈ms,cQ m.aa)->∀m∈l.foldl fF ms,cQ m.aa:=by
  intro l
  induction l with
  |nil=>intro ms _ h;exact h
  |cons e l ih=>
   intro ms he h;rw[QU];refine ih _ (λe' h'=>he e' (by simp[h'])) λm hm=> ?_
   unfold fF at hm;split at hm
   ·rcases List.mem_or_eq_of_mem_set hm with hm|rfl
    ·exact h m hm
    ·exact he e (by simp)
   ·exact h m hm
 refine key l _ hl.aN λm hm=> ?_
 rcases List.mem_or_eq_of_mem_set hm with hm|rfl
 ·rw[List.eq_of_mem_replicate hm];exact .mk _ (by simp[jk]) (by simp[jk]) (by simp[jk])
 ·exact ht
 def c8(l:List ak):List ak:=l.filter bc
def acL{l:List ak}(hl:tw l):sw l=some ((c8 l).map bK.mk):=by
 unfold sw;have hlen:=hl.len;simp only[aR]
 suffices key:∀(k i:Nat) (acc:List bK),i+k=l.length->acc=(c8 (l.take i)).map bK.mk->aE _ ((i:Int),acc,())=some ((c8 l).map bK.mk)from key l.length 0 [] (by omega) rfl
 intro k
 induction k with
 |zero=>
  intro i acc hi ha;obtain rfl:i=l.length:=by omega
  refine bO ?_;have hd:decide ((l.length:Int)<(l.length:Int))=false:=Qh (Qq64 _);simp only[hd,Ql,Qe,ha,Qq62]
 |succ k ih=>
  intro i acc hi ha;have hlt:i<l.length:=by omega
  have hd:decide ((i:Int)<(l.length:Int))=true:=Qg (by omega)
  have hw:aB .i64 (i:Int) 1=((i+1:Nat):Int):=bG (by omega) (by omega)
  have hx:idx l (i:Int)=some l[i]:=by rw[bd];exact Qv hlt
  have hsm:=hl.aN _ (Q0 hlt)
  have hal:acc.length<=i:=by rw[ha,QC];exact QK (List.length_filter_le _ _) (by rw[List.length_take];omega)
  refine Eq.trans (bA (s':=(((i+1:Nat):Int),(if bc l[i]then acc++[bK.mk l[i]]else acc),())) ?_) (ih (i+1) _ (by omega) ?_)
  ·simp only[hd,hx,hw,Qk,Qa,etas,sG hsm];rw[bz (by simp;omega)]
   cases bc l[i]<;>simp
  ·rw[Q7 hlt,c8,List.filter_append,ha];cases hv:bc l[i]<;>simp[c8,hv]
def ff(p:ak->Bool):List ak->Nat
 |[]=>0
 |e::l=>(if p e then 2 ^ e.al.toNat else 0)|||ff p l
def Bk(p:ak->Bool)(k:Nat):∀(l:List ak),(ff p l).testBit k=l.any λe=>p e&&decide (e.al.toNat=k)
 |[]=>by simp[ff]
 |e::l=>by rw[ff,Nat.testBit_or,Bk p k l,List.any_cons];cases p e<;>simp[Nat.testBit_two_pow]
def xr(l:List ak):Prop:=∀e∈l,0<=e.al/\e.al<10
def nC(l:List ak):xr (c8 l):=λ_ he=>kG (List.mem_filter.1 he).2
def Dt(l:List ak):(c8 l).length<=l.length:=List.length_filter_le _ _
def mM{p:ak->Bool}{l:List ak}(h:xr l):ff p l<1024:=Lr λk hk=>by rw[Bk,List.any_eq_true]at hk;obtain⟨e,he,h1⟩:=hk;simp only[Qm,Qi]at h1;have:=h e he;omega
def Hm(p:ak->Bool)(l:List ak)(hin:xr l)(step:(Int×Int×Unit)->Option ((Int×Int×Unit)⊕Int))
  (h1:∀(i:Nat) (e:ak) (s:Int),l[i]?=some e->step (s,(i:Int),())=if p e then(if e.al<0 then none else some (.inl (sO .i64 s (bX .i64 1 e.al),((i+1:Nat):Int),())))else some (.inl (s,((i+1:Nat):Int),())))
  (h2:∀s:Int,step (s,(l.length:Int),())=some (.inr s)):aE step (0,0,())=some ((ff p l:Nat):Int):=by
 suffices key:∀(k i s:Nat),i+k=l.length->s<1024->aE step ((s:Int),(i:Int),())=some ((s|||ff p (l.drop i):Nat):Int)by
  have:=key l.length 0 0 (by omega) (by omega)
  simpa using this
 intro k
 induction k with
 |zero=>
  intro i s hi hs;obtain rfl:i=l.length:=by omega
  rw[bO (h2 s),Qq66,ff];simp
 |succ k ih=>
  intro i s hi hs;have hlt:i<l.length:=by omega
  have hm:=hin l[i] (Q0 hlt);rw[QM hlt,ff];have hst:=h1 i l[i] s (Qv hlt)
  cases hp:p l[i]with
  |false=>
   rw[hp]at hst;rw[bA hst,ih (i+1) s (by omega) hs]
   simp
  |true=>
   rw[hp,Qr rfl,Qs (by omega),ra hs hm.1 hm.2]at hst
   rw[bA hst,ih (i+1) _ (by omega) (B2 hs hm.2)]
   simp[Nat.or_assoc]
def MY{v:bf}{aF:Int}{l:List ak}(hl:l.length<=1000000)(hin:xr l)(b:ah):jO ⟨aF,v,l.map bK.mk⟩ b=some ((ff (eC · b) l:Nat):Int):=by
 unfold jO;refine Hm (eC · b) l hin _ (λi e s he=> ?_) (λs=> ?_)
 ·have hlt:i<l.length:=(Qw.1 he).1;have hd:decide ((i:Int)<(((l.map bK.mk).length:Nat):Int))=true:=Qg (by rw[QC];omega)
  have hw:aB .i64 (i:Int) 1=((i+1:Nat):Int):=bG (by omega) (by omega)
  have hx:idx (l.map bK.mk) (i:Int)=some ⟨e⟩:=by rw[bd,QT,he];rfl
  simp only[hd,hx,hw,Qk,Qa,etas,mJ,vN,aR];cases eC e b<;>simp
 ·have hd:decide ((l.length:Int)<(((l.map bK.mk).length:Nat):Int))=false:=Qh (by rw[QC];exact Qq64 _)
  simp only[hd,Ql,Qe]
def aaM{v:bf}{aF:Int}{l:List ak}(hl:l.length<=1000000)(hin:xr l)(b:ah):gQ ⟨aF,v,l.map bK.mk⟩ b b=some ((ff (λe=>s6 e b||eC e b) l:Nat):Int):=by
 unfold gQ;refine Hm (λe=>s6 e b||eC e b) l hin _ (λi e s he=> ?_) (λs=> ?_)
 ·have hlt:i<l.length:=(Qw.1 he).1;have hd:decide ((i:Int)<(((l.map bK.mk).length:Nat):Int))=true:=Qg (by rw[QC];omega)
  have hw:aB .i64 (i:Int) 1=((i+1:Nat):Int):=bG (by omega) (by omega)
  have hx:idx (l.map bK.mk) (i:Int)=some ⟨e⟩:=by rw[bd,QT,he];rfl
  simp only[hd,hx,hw,Qk,Qa,etas,ak.eta,jW,mJ,sN,vN,Fb,aR,kY,Bool.cond_true_left];cases (s6 e b||eC e b)<;>simp
 ·have hd:decide ((l.length:Int)<(((l.map bK.mk).length:Nat):Int))=false:=Qh (by rw[QC];exact Qq64 _)
  simp only[hd,Ql,Qe]
 def rS(ms:List bh)(v dy accepts:Nat):Bool:=BS ms v accepts||(gq ms (dy|||accepts)).testBit v
def C2{c:bf}(hc:Bi c){v dy accepts:Nat}(hv:v<10)(h1:dy<1024)(h2:accepts<1024):iR c v dy accepts=some (rS c.bn v dy accepts):=by
 unfold iR rS;have h3:dy|||accepts<1024:=Nat.or_lt_two_pow (n:=10) h1 h2
 rw[Dp h1,Dp h2,Uo hc h2,GJ dy accepts (by omega) (by omega),MZ hc h3]
 simp[uq (Il hc h3).lt,ze,hv]
def BL{c:bf}(hc:Bi c){v accepts:Nat}(hv:v<10)(h2:accepts<1024):fq c v accepts=some ((gq c.bn accepts).testBit v):=by
 unfold fq;rw[MZ hc h2];simp[uq (Il hc h2).lt,ze,hv]
 def pL(aF:Nat)(t:aj)(l:List ak)(b:ah):Bool:=
 rS (kP aF t l) aF (ff (λe=>s6 e b||eC e b) (c8 l)) (ff (eC · b) (c8 l))
 def nD(aF:Nat)(t:aj)(l:List ak)(b:ah):Bool:=
 (gq (kP aF t l) (ff (eC · b) (c8 l))).testBit aF
def S9{aF:Nat}(hn:aF<10){t:aj}(ht:cQ t){l:List ak}(hl:tw l):fW aF t l=some ⟨aF,⟨kP aF t l⟩,(c8 l).map bK.mk⟩:=by unfold fW;simp only[etas,Zb hn ht hl,acL hl,Qa]
end
section
def ael{α:Type}{l l':List α}(h:l.Perm l')(p:α->Bool):l.any p=l'.any p:=by rw[QW,List.any_eq_true,List.any_eq_true];exact⟨λ⟨x,h1,h2⟩=>⟨x,h.mem_iff.1 h1,h2⟩,λ⟨x,h1,h2⟩=>⟨x,h.mem_iff.2 h1,h2⟩⟩
def aaW{l l':List ak}(h:l.Perm l')(p:ak->Bool):ff p l=ff p l':=DZ λk=>by rw[Bk,Bk,ael h]
def XJ{l l':List ak}(h:l.Perm l'):(c8 l).Perm (c8 l'):=h.filter _
def Cl(l:List ak):Prop:=∀a∈l,∀b∈l,a.al=b.al->a=b
def Cl.perm{l l':List ak}(h:Cl l)(hp:l.Perm l'):Cl l':=λa ha b hb=>h a (hp.mem_iff.2 ha) b (hp.mem_iff.2 hb)
 def qg(l:List ak)(k:Nat):Option ak:=l.find? λe=>bc e&&decide (e.al.toNat=k)
def F1{l:List ak}{k:Nat}{e:ak}(h:qg l k=some e):e∈l/\bc e=true/\e.al=k:=by unfold qg at h;have h1:=List.mem_of_find?_eq_some h;have h2:=List.find?_some h;simp only[Qm,Qi]at h2;have:=kG h2.1;exact⟨h1,h2.1,by omega⟩
def O7{l:List ak}(ha:Cl l){k:Nat}{e:ak}(h1:e∈l)(h2:bc e=true)(h3:e.al=k):qg l k=some e:=by
 cases h:qg l k with
 |none=>unfold qg at h;rw[List.find?_eq_none]at h;have:=h e h1;simp[h2,h3]at this
 |some e'=>obtain⟨g1,g2,g3⟩:=F1 h;rw[ha e' g1 e h1 (by omega)]
def XR{l l':List ak}(ha:Cl l)(h:l.Perm l')(k:Nat):qg l k=qg l' k:=by
 cases h1:qg l k with
 |some e=>obtain⟨g1,g2,g3⟩:=F1 h1;exact(O7 (ha.perm h) (h.mem_iff.1 g1) g2 g3).symm
 |none=>
  cases h2:qg l' k with
  |none=>rfl
  |some e=>obtain⟨g1,g2,g3⟩:=F1 h2;rw[O7 ha (h.mem_iff.2 g1) g2 g3]at h1;cases h1
def Te:∀(l:List ak) (ms:List bh),ms.length=10->(∀m∈ms,m.ft=false->m=jk)->∀k,k<10->(l.foldl fF ms)[k]?=some (match ms[k]? with
  |some m=>if m.ft then m else(match qg l k with
   |some e=>⟨true,e.aa⟩
   |none=>jk)
  |none=>jk)
 |[],ms,hl,hn,k,hk=>by
  have hk':k<ms.length:=by omega
  rw[List.foldl_nil,Qv hk']
  cases hd:ms[k].ft with
  |true=>simp[hd]
  |false=>have:=hn _ (Q0 hk') hd;simp[qg,this]
 |e::l,ms,hl,hn,k,hk=>by
  have hk':k<ms.length:=by omega
  rw[QU];have hlen:(fF ms e).length=10:=by rw[zR];exact hl
  have hn':∀m∈fF ms e,m.ft=false->m=jk:=by
   unfold fF;split
   ·intro m hm hd;rcases List.mem_or_eq_of_mem_set hm with hm|rfl
    ·exact hn m hm hd
    ·cases hd
   ·exact hn
  rw[Te l (fF ms e) hlen hn' k hk];congr 1
  have hof:qg (e::l) k=if(bc e&&decide (e.al.toNat=k))=true then some e else qg l k:=by unfold qg;rw[List.find?_cons];cases bc e&&decide (e.al.toNat=k)<;>rfl
  rw[hof];unfold fF
  by_cases hv:bc e=true
  ·have hnode:=kG hv;have hi:e.al.toNat<ms.length:=by omega
   rw[hv,Bool.true_and,Bool.true_and]
   by_cases hke:e.al.toNat=k
   ·subst hke;rw[Qv hi]
    cases hd:ms[e.al.toNat].ft with
    |true=>simp[hd,Qv hi]
    |false=>simp[hd,hi]
   ·have hne:decide (e.al.toNat=k)=false:=Qh hke
    have hset:∀c:Bool,(if c=true then ms.set e.al.toNat ⟨true,e.aa⟩else ms)[k]?=ms[k]?:=λc=>by
     cases c
     ·rfl
     ·rw[Qr rfl,List.getElem?_set_ne hke]
    rw[hne,hset];simp
  ·have hv':bc e=false:=by simpa using hv
   simp[hv']
def Jq{aF:Nat}(hn:aF<10)(t:aj)(l:List ak){k:Nat}(hk:k<10):(kP aF t l)[k]?=some (if k=aF then⟨true,t⟩else match qg l k with
  |some e=>⟨true,e.aa⟩
  |none=>jk):=by
 rw[kP,Te l _ (by simp) (λm hm hd=> ?_) k hk]
 ·by_cases h:k=aF
  ·subst h;simp[hn]
  ·rw[List.getElem?_set_ne (λe=>h e.symm),List.getElem?_replicate,Qr hk]
   simp[h,jk]
 ·rcases List.mem_or_eq_of_mem_set hm with hm|rfl
  ·exact(List.mem_replicate.1 hm).2
  ·cases hd
def Zg{aF:Nat}(hn:aF<10)(t:aj){l l':List ak}(ha:Cl l)(h:l.Perm l'):kP aF t l=kP aF t l':=by
 refine List.ext_getElem? λk=> ?_
 by_cases hk:k<10
 ·rw[Jq hn t l hk,Jq hn t l' hk,XR ha h]
 ·rw[Qq72 (by rw[Jr];omega),Qq72 (by rw[Jr];omega)]
end
section
def KQ{τ ρ:Type}(n:Nat)(mk:Int->τ){step:τ->Option (τ⊕ρ)}{fin:Option ρ}(h1:∀i:Nat,i<n->step (mk (i:Int))=some (.inl (mk ((i+1:Nat):Int))))(h2:step (mk (n:Int))=Option.map inr fin):aE step (mk 0)=fin:=by
 suffices key:∀(k i:Nat),i+k=n->aE step (mk (i:Int))=fin from key n 0 (by omega)
 intro k
 induction k with
 |zero=>
  intro i hi;obtain rfl:i=n:=by omega
  rw[fg,h2];cases fin<;>rfl
 |succ k ih=>exact λi hi=>(bA (h1 i (by omega))).trans (ih (i+1) (by omega))
def ahA(s:List Int)(h:s.length<=1000000):wX s s=some true:=by
 unfold wX;simp only[decide_true,Qo,Ql];refine KQ s.length (λi=>(i,())) (λi hi=> ?_) ?_
 ·have hd:decide ((i:Int)<(s.length:Int))=true:=Qg (by omega)
  have hw:aB .i64 (i:Int) 1=((i+1:Nat):Int):=bG (by omega) (by omega)
  have hx:idx s (i:Int)=some s[i]:=by rw[bd];exact Qv hi
  simp only[hd,hx,hw,Qk,Qa,decide_true,Qo,Ql]
 ·have hd:decide ((s.length:Int)<(s.length:Int))=false:=Qh (Qq64 _);simp only[hd,Ql]
def aiN{n:Nat}:∀{t:aj},SizeOf.sizeOf t<n->cQ t->wO n (t,t,())=some true:=by
 induction n with
 |zero=>intro t h;omega
 |succ n ih=>
  intro t hs hm;show tV (wO n) t t=some true;have hl:=hm.len;have hns:=hm.nodes;unfold tV;simp only[decide_true,Qo,Ql,ahA _ hns,Qa];refine KQ t.aO.length (λi=>(i,())) (λi hi=> ?_) ?_
  ·have hd:decide ((i:Int)<(t.aO.length:Int))=true:=Qg (by omega)
   have hw:aB .i64 (i:Int) 1=((i+1:Nat):Int):=bG (by omega) (by omega)
   have hx:idx t.aO (i:Int)=some t.aO[i]:=by rw[bd];exact Qv hi
   have hu:=Q0 hi;have:=ih (t:=t.aO[i]) (by have:=qt hu;omega) (hm.inner _ hu)
   simp only[hd,hx,hw,Qk,Qa,etas,this,Qo,Ql]
  ·have hd:decide ((t.aO.length:Int)<(t.aO.length:Int))=false:=Qh (Qq64 _);simp only[hd,Ql]
def ahz{t:aj}(h:cQ t):iz t t=some true:=aiN (by omega) h
def aa7{ρ:Type}(n:Nat)(hn:n<=1000000){fin:Option ρ}{step:Int×Unit->Option ((Int×Unit)⊕ρ)}
  (h1:∀i:Nat,i<n->decide ((i:Int)<((n:Nat):Int))=true->aB .i64 (i:Int) 1=((i+1:Nat):Int)->step ((i:Int),())=some (.inl (((i+1:Nat):Int),())))
  (h2:decide (((n:Nat):Int)<((n:Nat):Int))=false->step ((n:Int),())=Option.map inr fin):aE step (0,())=fin:=
 KQ n (λi=>(i,())) (λi hi=>h1 i hi (Qg (by omega)) (bG (by omega) (by omega))) (h2 (Qh (Qq64 _)))
end
section
def Ip:List UInt8->Nat
 |[]=>0
 |a::l=>a.toNat*256 ^ l.length+Ip l
def LC:∀l:List UInt8,Ip l<256 ^ l.length
 |[]=>by simp[Ip]
 |a::l=>by have h1:=LC l;have h2:a.toNat<256:=a.toNat_lt;rw[Ip,QE,Nat.pow_succ];have h3:(a.toNat+1)*256 ^ l.length<=256*256 ^ l.length:=Qq63 _ h2;rw[Qq73,Nat.one_mul,Nat.mul_comm 256]at h3;omega
def acA:∀{x y:List UInt8},x.length=y.length->Op.bytesLess x y=true->Ip x<Ip y
 |[],[],_,h=>by simp[Op.bytesLess]at h
 |[],_::_,hl,_=>by simp at hl
 |_::_,[],hl,_=>by simp at hl
 |a::x,b::y,hl,h=>by
  simp only[QE,Nat.add_right_cancel_iff]at hl;simp only[Op.bytesLess,Qn,Qi,Qm,beq_iff_eq]at h;rw[Ip,Ip,hl];rcases h with h|⟨rfl,h⟩
  ·have h1:=LC x;rw[hl]at h1;have h2:a.toNat<b.toNat:=UInt8.lt_iff_toNat_lt.1 h;have h3:(a.toNat+1)*256 ^ y.length<=b.toNat*256 ^ y.length:=Qq63 _ h2;rw[Qq73,Nat.one_mul]at h3;omega
  ·have:=acA hl h;omega
def WV:Nat:=256 ^ 201
def SQ(v:ByteArray):Nat:=v.size*256 ^ 200+Ip v.toList
def toList_len(v:ByteArray):v.toList.length=v.size:=by rw[Lib.toList_data];cases v;simp[ByteArray.size]
def abo{a b:Nat}(h:a<=b):(256:Nat) ^ a<=256 ^ b:=Nat.pow_le_pow_right (by omega) h
def YZ{v:ByteArray}(h:v.size<=200):SQ v<WV:=by
 have h1:=LC v.toList;rw[toList_len]at h1;have h2:=abo h;have h3:v.size*256 ^ 200<=200*256 ^ 200:=Qq63 _ h;have h4:WV=256*256 ^ 200:=by rw[WV,Nat.pow_succ,Nat.mul_comm]
 unfold SQ;rw[h4];generalize (256:Nat) ^ 200=Z at*;omega
def abR{a b:ByteArray}(hb:b.size<=200)(h:bQ a b=true):SQ a<SQ b:=by
 unfold bQ at h;unfold SQ
 by_cases hs:a.size=b.size
 ·rw[Qr hs]at h;have:=acA (x:=a.toList) (y:=b.toList) (by rw[toList_len,toList_len,hs]) h
  rw[hs];omega
 ·rw[Qs hs,Qi]at h;have h1:=LC a.toList;rw[toList_len]at h1;have h2:=abo (show a.size<=200 by omega)
  have h3:(a.size+1)*256 ^ 200<=b.size*256 ^ 200:=Qq63 _ h;rw[Qq73,Nat.one_mul]at h3;generalize (256:Nat) ^ 200=Z at*;omega
def Sm(b:ah):Prop:=0<=b.ai/\b.ai<=1000/\b.Value.size<=200
def pB(b:ah):Nat:=b.ai.toNat*WV+SQ b.Value
def WB:Nat:=1001*WV
def tr{b:ah}(h:Sm b):pB b<WB:=by
 obtain⟨h1,h2,h3⟩:=h;have h4:=YZ h3;unfold pB WB;have h5:b.ai.toNat*WV<=1000*WV:=Qq63 _ (by omega)
 generalize WV=Z at*;omega
def zD{a b:ah}(ha:Sm a)(hb:Sm b)(h:bC a b=true):pB a<pB b:=by
 unfold bC at h;unfold pB
 by_cases hc:a.ai=b.ai
 ·rw[Qr hc]at h;have:=abR hb.2.2 h;rw[hc];omega
 ·rw[Qs hc,Qi]at h;have h1:=YZ ha.2.2;have h2:=ha.1;have h3:(a.ai.toNat+1)*WV<=b.ai.toNat*WV:=Qq63 _ (by omega)
  rw[Qq73,Nat.one_mul]at h3;generalize WV=Z at*;omega
def Yd.down{σ ρ:Type}{step:σ->Option (σ⊕ρ)}{p:ρ->Prop}(inv:σ->Prop)(μ:σ->Nat)(h:∀s,inv s->Yd (step s) λy=>match y with| .inl s'=>inv s'/\μ s'<μ s| .inr r=>p r){s:σ}(hs:inv s):Yd (aE step s) p:=by
 suffices key:∀(n:Nat) (s:σ),μ s<n->inv s->Yd (aE step s) p from key _ s (Nat.lt_succ_self _) hs
 intro n
 induction n with
 |zero=>intro s h0;omega
 |succ n ih=>
  intro s hn hi;refine Yd.loop ((h s hi).mono λy hy=> ?_)
  cases y with
  |inl s'=>exact ih s' (by have:=hy.2;omega) hy.1
  |inr r=>exact hy
end
section
def cg:ah:=⟨0,gw⟩
def fE(m:ae):Int:=if(!aP m.ax&&bS m.ax m.af)=true then m.ax.ai else 0
def cY(m:ae):ak:=
 if m.aQ=1 then⟨m.al,m.aL,m.aH,m.aa,m.aQ,m.af,m.ao,m.aD,m.aZ,fE m⟩
 else if m.aQ=2 then⟨m.al,m.aL,m.aH,m.aa,m.aQ,m.af,m.ao,cg,m.aZ,m.bq⟩
 else⟨m.al,m.aL,m.aH,m.aa,m.aQ,m.af,cg,cg,m.aZ,m.bq⟩
def wB(m:ae):(cY m).al=m.al:=by unfold cY;split<;>(try split)<;>rfl
def FF(m:ae):(cY m).aL=m.aL:=by unfold cY;split<;>(try split)<;>rfl
def WG(m:ae):(cY m).aH=m.aH:=by unfold cY;split<;>(try split)<;>rfl
def rU(m:ae):(cY m).aa=m.aa:=by unfold cY;split<;>(try split)<;>rfl
def acd(m:ae):(cY m).bu=m.aQ:=by unfold cY;split<;>(try split)<;>rfl
def AD(m:ae):ij m=some (cY m):=by
 unfold ij cY fE;simp only[aR,etas,df,gJ,Qa]
 by_cases h1:m.aQ=1
 ·rw[Qg h1,Qr h1];cases aP m.ax<;>cases bS m.ax m.af<;>rfl
 ·rw[Qh h1,Qs h1]
  by_cases h2:m.aQ=2
  ·rw[Qg h2,Qr h2];rfl
  ·rw[Qh h2,Qs h2];rfl
def jj(m:ae):ak:={cY m with aH:=bF (cY m).aH 1}
def Av(e:ak):List ak->List ak
 |[]=>[e]
 |x::l=>if e.al<x.al then e::x::l else x::Av e l
def FC(e:ak):∀l,(Av e l).Perm (l++[e])
 |[]=> .refl _
 |x::l=>by
  unfold Av;split
  ·exact(List.perm_append_singleton e (x::l)).symm
  ·exact(FC e l).cons x
def bP(m:ae):List ak:=if aP m.af=true then m.au else Av (jj m) m.au
def Rt{m:ae}(h:m.au.length<=1000):lQ m=some (bP m):=by
 unfold lQ bP;simp only[etas,df,AD,Qa]
 cases aP m.af with
 |true=>rfl
 |false=>
  simp only[Ql,Qq,Qu];have hown:ak.mk (cY m).al (cY m).aL (bF (cY m).aH 1) (cY m).aa (cY m).bu (cY m).af (cY m).ao (cY m).aD (cY m).aZ (cY m).bq=jj m:=rfl;have hnode:(cY m).al=(jj m).al:=rfl;rw[hown,hnode];generalize jj m=e
  suffices key:∀(k i:Nat) (b:Bool) (o:List ak),i+k=m.au.length->o.length<=i+(bif b then 1 else 0)->aE _ (b,(i:Int),o,())=some (o++if b=true then m.au.drop i else Av e (m.au.drop i))from(key m.au.length 0 false [] (by omega) (by simp)).trans (by simp)
  intro k
  induction k with
  |zero=>
   intro i b o hi ho;obtain rfl:i=m.au.length:=by omega
   have hd:decide ((m.au.length:Int)<(m.au.length:Int))=false:=Qh (Qq64 _);refine bO ?_;rw[Qq66];simp only[hd,Ql,aR]
   cases b with
   |true=>simp
   |false=>
    simp only[Ql]at ho;rw[bz (by simp;omega)]
    simp[Av]
  |succ k ih=>
   intro i b o hi ho;have hlt:i<m.au.length:=by omega
   have hd:decide ((i:Int)<(m.au.length:Int))=true:=Qg (by omega)
   have hw:aB .i64 (i:Int) 1=((i+1:Nat):Int):=bG (by omega) (by omega)
   have hx:idx m.au (i:Int)=some m.au[i]:=by rw[bd];exact Qv hlt
   rw[QM hlt]
   cases b with
   |true=>
    simp only[Qk]at ho;have:=ih (i+1) true (o++[m.au[i]]) (by omega) (by simp;omega)
    simp only[Qt]at this ⊢;rw[show o++m.au[i]::m.au.drop (i+1)=(o++[m.au[i]])++m.au.drop (i+1)by simp]
    refine Eq.trans (bA ?_) this;simp only[hd,hx,hw,Qk,aR,Qa,Qo,Ql];rw[bz (by simp;omega),Qk]
   |false=>
    simp only[Ql]at ho
    by_cases hn:e.al<m.au[i].al
    ·have:=ih (i+1) true (o++[e]++[m.au[i]]) (by omega) (by simp;omega)
     simp only[Qt,Qq,Qu]at this ⊢;rw[Av,Qr hn,show o++e::m.au[i]::m.au.drop (i+1)=(o++[e]++[m.au[i]])++m.au.drop (i+1)by simp]
     refine Eq.trans (bA ?_) this;simp only[hd,hx,hw,Qk,aR,Qa,Qp,Qg hn];rw[bz (by simp;omega),Qk,bz (by simp;omega),Qk]
    ·have:=ih (i+1) false (o++[m.au[i]]) (by omega) (by simp;omega)
     simp only[Qq,Qu]at this ⊢;rw[Av,Qs hn,show o++m.au[i]::Av e (m.au.drop (i+1))=(o++[m.au[i]])++Av e (m.au.drop (i+1))by simp]
     refine Eq.trans (bA ?_) this;simp only[hd,hx,hw,Qk,aR,Qa,Qp,Qh hn,Ql];rw[bz (by simp;omega),Qk]
def HC(a b:ah):Bool:=decide (a.ai=b.ai)&&decide (a.Value=b.Value)
def Tq{a b:ah}:HC a b=true↔a=b:=by cases a;cases b;simp[HC]
def Fl(a b:ae):Bool:=decide (a.aQ=b.aQ)&&HC a.af b.af&&HC a.ao b.ao&&HC a.aD b.aD&&HC a.ax b.ax&&decide (a.aZ=b.aZ)&&decide (a.bq=b.bq)
def ad5(a b:Bool):(bif a then b else false)=(a&&b):=by cases a<;>rfl
def ahy(a b:ae):nM a b=some (Fl a b):=by unfold nM Fl HC;simp only[CH,Qa,kY,ad5]
end
section
def yw(v:ByteArray)(n:Int)(x:ah):Int:=
 if(cP x&&eQ x ⟨n,v⟩)=true then(if eQ x ⟨x.ai,v⟩=true then x.ai+1 else x.ai)else n
def lM(v:ByteArray)(n:Int)(p q:ah):Int:=yw v (yw v (bF n 1) p) q
def VT(v:ByteArray)(n:Int)(p q:ah):tI v n p q=some (lM v n p q):=by
 unfold tI lM;generalize bF n 1=k
 have hst:∀(i:Nat) (x:ah) (k:Int),i<2->[p,q][i]?=some x->
   (λ(v1:Int×Int×Unit)=>
    bif (decide (v1.2.1<(2:Int)))then
    aY (λ(v2:Int×Unit)=>some (inl (v2.1,(aB .i64 v1.2.1 (1:Int)),v2.2))) λj3=>
    Option.bind (idx [p,q] v1.2.1) λx4=>
    Option.bind (jx x4) λr5=>
    Option.bind (bif r5 then Option.bind (gK x4 (ah.mk v1.1 v)) λr6=>some r6 else some false) λb7=>
    bif b7 then Option.bind (gK x4 (ah.mk x4.ai v)) λr8=>bif r8 then j3 ((aB .i64 x4.ai (1:Int)),())else j3 (x4.ai,())
    else j3 (v1.1,())
    else(Option.map inr (some v1.1):Option ((Int×Int×Unit)⊕Int))) (k,(i:Int),())=some (inl (yw v k x,((i+1:Nat):Int),())):=by
  intro i x k hi hx;have hd:decide ((i:Int)<2)=true:=Qg (by omega)
  have hw:aB .i64 (i:Int) 1=((i+1:Nat):Int):=bG (by omega) (by omega)
  have hx':idx [p,q] (i:Int)=some x:=by rw[bd];exact hx
  simp only[hd,hw,hx',Qk,aR,Qa,zn,Dl];unfold yw
  cases hv:cP x with
  |false=>simp
  |true=>
   have hc:aB .i64 x.ai 1=x.ai+1:=by
    have:1<=x.ai/\x.ai<=1000000:=by simp only[cP,Qm,Qn,Qi]at hv;omega
    exact bG (by omega) (by omega)
   cases h1:eQ x ⟨k,v⟩with
   |false=>simp
   |true=>cases h2:eQ x ⟨x.ai,v⟩<;>simp[hc]
 refine(bA (hst 0 p k (by omega) rfl)).trans ((bA (hst 1 q _ (by omega) rfl)).trans (bO ?_))
 rfl
def adQ(b:ah):tF b=some (if 1000<b.ai then⟨1000,b.Value⟩else b):=by
 unfold tF
 by_cases h:1000<b.ai
 ·simp[h]
 ·simp[h]
end
section
def Z3{lo k:Int}{v:ByteArray}{p:ah}(h:lo<=k)(hl:bC ⟨k,v⟩ p=true):bC ⟨lo,v⟩ p=true:=by
 unfold bC at hl ⊢;simp only at hl ⊢
 by_cases h1:lo=k
 ·rw[h1];exact hl
 ·have h2:lo<p.ai:=by
   split at hl
   ·omega
   ·simp only[Qi]at hl;omega
  rw[Qs (by omega)]
  simpa using h2
def Ya{lo k:Int}{v:ByteArray}{p:ah}(h:lo<=k)(ha:eQ p ⟨lo,v⟩=false):eQ p ⟨k,v⟩=false:=by
 cases hk:eQ p ⟨k,v⟩with
 |false=>rfl
 |true=>simp only[eQ,Qm,bS]at hk;simp only[eQ,bS,hk.1.1,hk.1.2,Z3 h hk.2]at ha;cases ha
def lU(p b:ah):jM p b=true↔aP p=false/\p.Value=b.Value/\b.ai<=p.ai:=by simp[jM,bS,and_assoc]
def Pf{b:ah}(h:1<=b.ai):aP b=false:=by
 have:¬b.ai=0:=by omega
 simp[aP,this]
end
section
def afa{n:Nat}(h:n<1000000):br .u64 (n:Int)=n:=by unfold br IntKind.wrap;simp[IntKind.signed,IntKind.bits];omega
def vE(b p:ah)(j:Nat)(t:aj):ak:=⟨j,1,1,t,1,b,p,⟨0,bE⟩,0,0⟩
structure Xv (b:ah):Prop where
 lo:1<=b.ai
 hi:b.ai<=6
 val:Rv b.Value
def Xv.valid{b:ah}(h:Xv b):cP b=true:=Js h.lo (by have:=h.hi;omega) h.val
def Xv.nz{b:ah}(h:Xv b):aP b=false:=Pf h.lo
def Zv{l:List ak}(h:∀e∈l,bc e=true):c8 l=l:=List.filter_eq_self.2 h
end
section
def A6(b p:ah)(ts:List aj)(q n:Nat)(l:List ak):Prop:=
 l.length<=n/\(∀e∈l,∃i t,i<n/\q.testBit i=true/\ts[i]?=some t/\e=vE b p i t)/\∀i t,i<n->q.testBit i=true->ts[i]?=some t->vE b p i t∈l
def A6.nil(b p:ah)(ts:List aj)(q:Nat):A6 b p ts q 0 []:=⟨by simp,by simp,λi t h=>by omega⟩
def A6.skip{b p:ah}{ts:List aj}{q n:Nat}{l:List ak}(h:A6 b p ts q n l)(hq:q.testBit n=false):A6 b p ts q (n+1) l:=by
 obtain⟨h1,h2,h3⟩:=h;refine⟨by omega,λe he=> ?_,λi t hi hb ht=> ?_⟩
 ·obtain⟨i,t,a,b,c⟩:=h2 e he;exact⟨i,t,by omega,b,c⟩
 ·rcases Nat.lt_or_ge i n with h|h
  ·exact h3 i t h hb ht
  ·obtain rfl:i=n:=by omega
   rw[hq]at hb;cases hb
def A6.take{b p:ah}{ts:List aj}{q n:Nat}{l:List ak}(h:A6 b p ts q n l)(hq:q.testBit n=true){t:aj}(ht:ts[n]?=some t):A6 b p ts q (n+1) (l++[vE b p n t]):=by
 obtain⟨h1,h2,h3⟩:=h;refine⟨by simp;omega,λe he=> ?_,λi t' hi hb ht'=> ?_⟩
 ·rcases Qz.1 he with he|he
  ·obtain⟨i,t,a,b,c⟩:=h2 e he;exact⟨i,t,by omega,b,c⟩
  ·simp only[Q5]at he;exact⟨n,t,by omega,hq,ht,he⟩
 ·rcases Nat.lt_or_ge i n with h|h
  ·exact Qz.2 (.inl (h3 i t' h hb ht'))
  ·obtain rfl:i=n:=by omega
   rw[ht]at ht';injection ht' with ht'
   subst ht';exact Qz.2 (.inr (by simp))
section
variable {b p : ah} (hb : Xv b) (hp : aP p = true \/ cP p = true) {ts : List aj} (hts : ∀ t ∈ ts, c5 t) {q : Nat} {l : List ak} (hlen : ts.length <= 5) (hc : A6 b p ts q ts.length l)
 include hb hp hts hlen hc
end
end
section
section
variable {α : Type}
structure SWO (lt:α->α->Bool):Prop where
 asymm:∀x y,lt x y=true->lt y x=false
 trans:∀x y z,lt y x=false->lt z y=false->lt z x=false
end
end
section
section
variable {α : Type}
 def WW(eq ne:α->α->Bool)(z:α)(K:Int)(n:Nat)(v6:Int×Int×(List α)×Unit):Option ((Int×Int×(List α)×Unit)⊕((Int×(List α)×Unit)⊕List α)):=
 bif (decide (v6.2.1<((List.length ((v6.2.2.1.drop (toNat K)).take (toNat (n:Int) - toNat K)):Nat):Int)))then
 aY (λ(v7:Int×(List α)×Unit)=>
 some (inl (v7.1,(aB .i64 v6.2.1 (1:Int)),v7.2.1,()))) λj8=>
 Option.bind (idx ((v6.2.2.1.drop (toNat K)).take (toNat (n:Int) - toNat K)) v6.2.1) λx9=>
 Option.bind (v6.2.2.1[((toNat K)+toNat v6.2.1)]?) λx10=>
 Option.bind (idx ((v6.2.2.1.drop (toNat K)).take (toNat (n:Int) - toNat K)) (cW .i64 v6.2.1 (1:Int))) λx11=>
 Option.bind (v6.2.2.1[((toNat K)+toNat (cW .i64 v6.2.1 (1:Int)))]?) λx12=>
 bif (ne x10 x12)then
 Option.bind (idx ((v6.2.2.1.drop (toNat K)).take (toNat (n:Int) - toNat K)) v6.2.1) λx13=>
 Option.bind (v6.2.2.1[((toNat K)+toNat v6.2.1)]?) λx14=>
 Option.bind (idx v6.2.2.1 v6.1) λx15=>
 Option.bind (v6.2.2.1[(toNat v6.1)]?) λx16=>
 j8 ((aB .i64 v6.1 (1:Int)),(v6.2.2.1.set (toNat v6.1) x14),())
 else
 j8 (v6.1,v6.2.2.1,())
 else
 Option.map inr (bif cF v6.1 ((List.length v6.2.2.1):Int) (List.length v6.2.2.1)then
 bif cF (0:Int) v6.1 (List.length (v6.2.2.1.take (toNat v6.1)++replicate (toNat ((List.length v6.2.2.1):Int) - toNat v6.1) z++v6.2.2.1.drop ((toNat v6.1)+(toNat ((List.length v6.2.2.1):Int) - toNat v6.1))))then
 Option.map inr (some ((v6.2.2.1.take (toNat v6.1)++replicate (toNat ((List.length v6.2.2.1):Int) - toNat v6.1) z++v6.2.2.1.drop ((toNat v6.1)+(toNat ((List.length v6.2.2.1):Int) - toNat v6.1))).take (toNat v6.1 - toNat (0:Int))))
 else none
 else none)
 def Rh(eq ne:α->α->Bool)(z:α)(v1:Int×(List α)×Unit):Option ((Int×(List α)×Unit)⊕List α):=
 bif (decide (v1.1<((List.length v1.2.1:Nat):Int)))then
 Option.bind (idx v1.2.1 v1.1) λx2=>
 Option.bind (v1.2.1[(toNat v1.1)]?) λx3=>
 Option.bind (idx v1.2.1 (cW .i64 v1.1 (1:Int))) λx4=>
 Option.bind (v1.2.1[(toNat (cW .i64 v1.1 (1:Int)))]?) λx5=>
 bif (eq x3 x5)then
 bif cF v1.1 ((List.length v1.2.1):Int) (List.length v1.2.1)then
 aE (WW eq ne z v1.1 (List.length v1.2.1)) (v1.1,(1:Int),v1.2.1,())
 else none
 else
 some (inl ((aB .i64 v1.1 (1:Int)),v1.2.1,()))
 else
 Option.map inr (some v1.2.1)
 def NR(eq ne:α->α->Bool)(z:α)(s:List α):Option (List α):=
 bif (decide (((List.length s:Nat):Int)<(2:Int)))then
 some s
 else
 aE (Rh eq ne z) ((1:Int),s,())
def U4(d:List α){K n m:Nat}(hm:m<n - K):idx ((d.drop K).take (n - K)) (m:Int)=d[K+m]?:=by grind [bd]
variable [DecidableEq α]
def tt(acc:List α)(x:α):List α:=if acc.getLast?=some x then acc else acc++[x]
def dd(l:List α):List α:=l.foldl tt []
theorem Y4(l:List α)(x:α):dd (l++[x])=tt (dd l) x:=by simp[dd,List.foldl_append]
theorem agP(l:List α):(dd l).getLast?=l.getLast?:=by
 suffices h:∀r:List α,(dd r.reverse).getLast?=r.reverse.getLast? by
  have:=h l.reverse
  rwa [List.reverse_reverse]at this
 intro r
 induction r with
 |nil=>rfl
 |cons x r ih=>grind [Y4,tt]
def Y3{s:List α}{k:Nat}{x:α}(h:s[k]?=some x):dd (s.take (k+1))=tt (dd (s.take k)) x:=by obtain⟨hl,hx⟩:=Qw.1 h;rw[Q7 hl,hx,Y4]
def TT{s:List α}{k:Nat}{x:α}(h:s[k]?=some x):(dd (s.take (k+1))).getLast?=some x:=by grind [agP]
variable {eq ne : α -> α -> Bool} {z : α}
def N4(hne:∀x y,ne x y= !decide (x=y)){s:List α}{K:Nat}(hn:s.length<1000000000):∀(r i k2:Nat) (d:List α),k2+r=s.length - K->1<=k2->i<=K+k2 - 1->d.length=s.length->d.take i=dd (s.take (K+k2))->(∀j,K+k2 - 1<=j->d[j]?=s[j]?)->
  aE (WW eq ne z (K:Int) s.length) ((i:Int),(k2:Int),d,())=some (.inr (dd s))
 |0,i,k2,d,hr,h1,hi,hd,ht,hs=>by
  have hKn:K+k2=s.length:=by omega
  refine bO ?_;have e1:(((d.drop K).take (s.length - K)).length)=s.length - K:=by simp;omega
  have e2:decide ((k2:Int)<((s.length - K:Nat):Int))=false:=Qh (by omega)
  have e3:∀n,cF (i:Int) (d.length:Int) n=decide (d.length<=n):=by
   intro n;have:i<=d.length:=by omega
   simp only[cF];have h1:decide ((0:Int)<=(i:Int))=true:=Qg (by omega)
   have h2:decide ((i:Int)<=(d.length:Int))=true:=Qg (by omega)
   rw[h1,h2,Bool.and_self,Bool.true_and,decide_eq_decide];omega
  have e4:(d.take i++replicate (d.length - i) z++d.drop (i+(d.length - i))).length=d.length:=by simp;omega
  have e5:cF (0:Int) (i:Int) d.length=true:=by simp only[cF,Qm,Qi];omega
  have e6:(d.take i++replicate (d.length - i) z++d.drop (i+(d.length - i))).take (i - 0)=dd s:=by rw[Nat.sub_zero,QL,List.take_append_of_le_length (by simp;omega),List.take_take,Nat.min_self,ht,hKn,Qq62]
  simp only[WW,QV,e1,e2,Ql,e3,QI,decide_true,Qk,e4,e5,Int.toNat_zero,e6,Qe]
 |r+1,i,k2,d,hr,h1,hi,hd,ht,hs=>by
  have hKn:K+k2<s.length:=by omega
  obtain⟨x,hx⟩:∃x,s[K+k2]?=some x:=⟨_,Qv hKn⟩;obtain⟨y,hy⟩:∃y,s[K+(k2 - 1)]?=some y:=⟨_,Qv (by omega)⟩
  have e1:(((d.drop K).take (s.length - K)).length)=s.length - K:=by simp;omega
  have e2:decide ((k2:Int)<((s.length - K:Nat):Int))=true:=Qg (by omega)
  have e3:cW .i64 (k2:Int) 1=((k2 - 1:Nat):Int):=by rw[nY (by omega) (by omega)];omega
  have e4:aB .i64 (k2:Int) 1=((k2+1:Nat):Int):=bG (by omega) (by omega)
  have e5:aB .i64 (i:Int) 1=((i+1:Nat):Int):=bG (by omega) (by omega)
  have hdx:d[K+k2]?=some x:=by rw[hs _ (by omega),hx]
  have hdy:d[K+(k2 - 1)]?=some y:=by rw[hs _ (by omega),hy]
  have hv1:=U4 d (K:=K) (n:=s.length) (m:=k2) (by omega)
  have hv2:=U4 d (K:=K) (n:=s.length) (m:=k2 - 1) (by omega)
  obtain⟨w,hw⟩:∃w,d[i]?=some w:=⟨_,Qv (by omega)⟩
  have hstep:=Y3 hx
  have hlast:(dd (s.take (K+k2))).getLast?=some y:=by
   have:=TT hy
   rwa [show K+(k2 - 1)+1=K+k2 by omega]at this
  rw[tt,hlast]at hstep;have hil:i<d.length:=by omega
  by_cases hxy:x=y
  ·refine Eq.trans (bA (s':=((i:Int),((k2+1:Nat):Int),d,())) ?_) (N4 hne hn r i (k2+1) d (by omega) (by omega) (by omega) hd ?_ λj hj=>hs j (by omega))
   ·simp only[WW,QV,e1,e2,Qk,aR,hv1,hdx,Qa,e3,hv2,hdy,hne,hxy,decide_true,Qo,Ql,e4]
   ·rw[show K+(k2+1)=K+k2+1 by omega,hstep,Qr (by rw[hxy]),ht]
  ·refine Eq.trans (bA (s':=(((i+1:Nat):Int),((k2+1:Nat):Int),d.set i x,())) ?_) (N4 hne hn r (i+1) (k2+1) (d.set i x) (by omega) (by omega) (by omega) (by rw[QY];exact hd) ?_ λj hj=> ?_)
   ·simp only[WW,QV,e1,e2,Qk,aR,hv1,hdx,Qa,e3,hv2,hdy,hne,hxy,decide_false,Qp,e4,e5,bd,hw]
   ·rw[show K+(k2+1)=K+k2+1 by omega,hstep,Qs (λe=>hxy (by injection e with e;exact e.symm)),<-ht,Q7 (by rw[QY];exact hil)]
    congr 1
    ·rw[List.take_set_of_le (QI _)]
    ·simp
   ·rw[List.getElem?_set,Qs (by omega)]
    exact hs j (by omega)
def WU(heq:∀x y,eq x y=decide (x=y))(hne:∀x y,ne x y= !decide (x=y)){s:List α}(hn:s.length<1000000000):∀(r k:Nat),k+r=s.length->1<=k->dd (s.take k)=s.take k->aE (Rh eq ne z) ((k:Int),s,())=some (dd s)
 |0,k,hr,h1,h=>by
  refine bO ?_;have hk:k=s.length:=by omega
  have e2:decide ((k:Int)<(s.length:Int))=false:=Qh (by omega)
  rw[hk,Qq62]at h;simp only[Rh,e2,Ql,Qe,h]
 |r+1,k,hr,h1,h=>by
  have hk:k<s.length:=by omega
  obtain⟨x,hx⟩:∃x,s[k]?=some x:=⟨_,Qv hk⟩;obtain⟨y,hy⟩:∃y,s[k - 1]?=some y:=⟨_,Qv (by omega)⟩
  have e2:decide ((k:Int)<(s.length:Int))=true:=Qg (by omega)
  have e3:cW .i64 (k:Int) 1=((k - 1:Nat):Int):=by rw[nY (by omega) (by omega)];omega
  have e4:aB .i64 (k:Int) 1=((k+1:Nat):Int):=bG (by omega) (by omega)
  have hstep:=Y3 hx
  have hlast:(dd (s.take k)).getLast?=some y:=by
   have:=TT hy
   rwa [show k - 1+1=k by omega]at this
  rw[tt,hlast]at hstep
  by_cases hxy:x=y
  ·rw[Qr (by rw[hxy])]at hstep
   have e5:cF (k:Int) (s.length:Int) s.length=true:=by simp only[cF,Qm,Qi];omega
   have hin:=N4 (eq:=eq) (z:=z) (K:=k) hne hn (s.length - k - 1) k 1 s (by omega) (by omega) (by omega) rfl (by rw[hstep,h]) (λ_ _=>rfl)
   refine bO ?_;simp only[Rh,e2,Qk,bd,QV,hx,hy,e3,Qa,heq,hxy,decide_true,e5];exact hin
  ·rw[Qs (λe=>hxy (by injection e with e;exact e.symm))]at hstep
   refine Eq.trans (bA (s':=(((k+1:Nat):Int),s,())) ?_) (WU heq hne hn r (k+1) (by omega) (by omega) ?_)
   ·simp only[Rh,e2,Qk,bd,QV,hx,hy,e3,Qa,heq,hxy,decide_false,Ql,e4]
   ·obtain⟨hl,hx'⟩:=Qw.1 hx;rw[hstep,h,Q7 hl,hx']
def DJ(heq:∀x y,eq x y=decide (x=y))(hne:∀x y,ne x y= !decide (x=y))(s:List α)(hn:s.length<1000000000):NR eq ne z s=some (dd s):=by
 unfold NR
 by_cases h:s.length<2
 ·have e:decide ((s.length:Int)<2)=true:=Qg (by omega)
  rw[e,Qk]
  match s,h with
  |[],_|[x],_=>rfl
 ·have e:decide ((s.length:Int)<2)=false:=Qh (by omega)
  rw[e,Ql];refine WU heq hne hn (s.length - 1) 1 (by omega) (by omega) ?_
  cases s with
  |nil|cons x l=>rfl
def aaq(acc:List α)(x:α):∀y,y∈tt acc x↔y∈acc\/y=x:=by grind [tt]
def JZ:∀(l acc:List α) (y:α),y∈l.foldl tt acc↔y∈acc\/y∈l
 |[],acc,y=>by simp
 |x::l,acc,y=>by rw[QU,JZ l,aaq];simp[or_assoc]
def aia(l:List α)(y:α):y∈dd l↔y∈l:=by rw[dd,JZ];simp
def WR(l:List α):(dd l).length<=l.length:=by
 suffices h:∀(l acc:List α),(l.foldl tt acc).length<=acc.length+l.length by simpa[dd]using h l []
 intro l
 induction l with
 |nil=>intro acc;simp
 |cons x l ih=>grind [tt]
def ack{lt:α->α->Bool}(ho:SWO lt)(hto:∀x y,lt x y=false->lt y x=false->x=y){l:List α}(hl:l.Pairwise (λa b=>lt b a=false)):(dd l).Pairwise (λa b=>lt a b=true):=by
 suffices h:∀(l acc:List α),(acc++l).Pairwise (λa b=>lt b a=false)->acc.Pairwise (λa b=>lt a b=true)->(l.foldl tt acc).Pairwise (λa b=>lt a b=true)from h l [] (by simpa using hl) .nil
 intro l
 induction l with
 |nil=>intro acc _ h;exact h
 |cons x l ih=>
  intro acc h1 h2;rw[QU];unfold tt;split
  ·rename_i hlast;refine ih acc ?_ h2
   grind
  ·rename_i hlast;refine ih _ (by simpa using h1) ?_
   rw[Qq69]at h1 ⊢;refine⟨h2,by simp,λa ha b hb=> ?_⟩
   rw[Q5.1 hb];have hax:lt x a=false:=h1.2.2 a ha x (by simp)
   cases hc:lt a x with
   |true=>rfl
   |false=>
    exfalso;have e:=hto a x hc hax;subst e
    obtain⟨y,hy⟩:∃y,acc.getLast?=some y:=by
     cases hg:acc.getLast? with
     |none=>rw[List.getLast?_eq_none_iff.1 hg]at ha;cases ha
     |some y=>exact⟨y,rfl⟩
    obtain⟨pre,rfl⟩:∃pre,acc=pre++[y]:=by have:=List.getLast?_eq_some_iff.1 hy;exact this
    rcases Qz.1 ha with ha|ha
    ·rw[Qq69]at h2;have h3:=h2.2.2 a ha y (by simp)
     have h4:=h1.2.2 y (by simp) a (by simp)
     rw[h3]at h4;cases h4
    ·rw[Q5.1 ha]at hlast;exact hlast hy
end
end
section
def ad3(s:List Int):qA s=NR (λx y=>decide (x=y)) (λx y=> !decide (x=y)) 0 s:=rfl
 def ki(v:ByteArray)(e:ak):Bool:=bc e&&decide (e.af.Value=v)&& !decide (e.aZ=0)
 def ends(v:ByteArray)(l:List ak):List Int:=l.flatMap λe=>if ki v e then[e.aZ,e.bq]else[]
def Er{v:ByteArray}{l:List ak}{x:Int}:x∈ends v l↔∃e∈l,ki v e=true/\(x=e.aZ\/x=e.bq):=by
 simp only[ends,QQ];constructor
 ·rintro⟨e,he,hx⟩;split at hx
  ·rename_i h;exact⟨e,he,h,by simpa using hx⟩
  ·cases hx
 ·rintro⟨e,he,h,hx⟩;exact⟨e,he,by rw[Qr h];simpa using hx⟩
end
section
def KT{v:bf}{aF:Int}{l:List ak}(hl:l.length<=1000000)(hin:xr l)(val:ByteArray)(lo hi:Int):jN ⟨aF,v,l.map bK.mk⟩ val lo hi=some ((ff (iM · val lo hi) l:Nat):Int):=by
 unfold jN;refine Hm (iM · val lo hi) l hin _ (λi e s he=> ?_) (λs=> ?_)
 ·have hlt:i<l.length:=(Qw.1 he).1;have hd:decide ((i:Int)<(((l.map bK.mk).length:Nat):Int))=true:=Qg (by rw[QC];omega)
  have hw:aB .i64 (i:Int) 1=((i+1:Nat):Int):=bG (by omega) (by omega)
  have hx:idx (l.map bK.mk) (i:Int)=some ⟨e⟩:=by rw[bd,QT,he];rfl
  simp only[hd,hx,hw,Qk,Qa,etas,nT,wY,aR];cases iM e val lo hi<;>simp
 ·have hd:decide ((l.length:Int)<(((l.map bK.mk).length:Nat):Int))=false:=Qh (by rw[QC];exact Qq64 _)
  simp only[hd,Ql,Qe]
def Yb{v:bf}{aF:Int}{l:List ak}(hl:l.length<=1000000)(hin:xr l)(val:ByteArray)(lo hi:Int):gP ⟨aF,v,l.map bK.mk⟩ val lo hi val lo hi=some ((ff (λe=>vP e val lo hi||iM e val lo hi) l:Nat):Int):=by
 unfold gP;refine Hm (λe=>vP e val lo hi||iM e val lo hi) l hin _ (λi e s he=> ?_) (λs=> ?_)
 ·have hlt:i<l.length:=(Qw.1 he).1;have hd:decide ((i:Int)<(((l.map bK.mk).length:Nat):Int))=true:=Qg (by rw[QC];omega)
  have hw:aB .i64 (i:Int) 1=((i+1:Nat):Int):=bG (by omega) (by omega)
  have hx:idx (l.map bK.mk) (i:Int)=some ⟨e⟩:=by rw[bd,QT,he];rfl
  simp only[hd,hx,hw,Qk,Qa,etas,ak.eta,jV,nT,zq,wY,Gs,aR,kY,Bool.cond_true_left];cases (vP e val lo hi||iM e val lo hi)<;>simp
 ·have hd:decide ((l.length:Int)<(((l.map bK.mk).length:Nat):Int))=false:=Qh (by rw[QC];exact Qq64 _)
  simp only[hd,Ql,Qe]
 def JA(aF:Nat)(t:aj)(l:List ak):gN:=⟨aF,⟨kP aF t l⟩,(c8 l).map bK.mk⟩
 def nI(aF:Nat)(t:aj)(l:List ak)(val:ByteArray)(lo hi:Int):Bool:=
 rS (kP aF t l) aF (ff (λe=>vP e val lo hi||iM e val lo hi) (c8 l)) (ff (iM · val lo hi) (c8 l))
 def wD(aF:Nat)(t:aj)(l:List ak)(val:ByteArray)(lo hi:Int):Bool:=
 (gq (kP aF t l) (ff (iM · val lo hi) (c8 l))).testBit aF
section
variable {aF : Nat} (hn : aF < 10) {t : aj} (ht : cQ t) {l : List ak} (hl : tw l)
 include hn ht hl
theorem Vn(val:ByteArray)(lo hi:Int):iG (JA aF t l) val lo hi=some (nI aF t l val lo hi):=by
 have hlen:=hl.len;have hrl:=Dt l;have hin:=nC l
 simp only[JA,iG,qK,lh,Qa,Yb (by omega:(c8 l).length<=1000000) hin,KT (by omega:(c8 l).length<=1000000) hin,
  C2 (oE ht hl) hn (mM hin) (mM hin),nI]
theorem afp(val:ByteArray)(lo hi:Int):oQ (JA aF t l) val lo hi=some (wD aF t l val lo hi):=by have hlen:=hl.len;have hrl:=Dt l;have hin:=nC l;simp only[JA,oQ,qK,mW,Qa,KT (by omega:(c8 l).length<=1000000) hin,BL (oE ht hl) hn (mM hin),wD]
theorem look_eq:fW aF t l=some (JA aF t l):=S9 hn ht hl
end
def dm(q:Int->Bool):List Int->Int->Int
 |[],lo=>lo
 |e::l,lo=>if lo<=e then dm q l lo else if q e then dm q l e else lo
def D2{p:Int->Option Bool}{q:Int->Bool}(h:∀e,p e=some (q e)):∀(l:List Int) (lo:Int),ob (λ(m5:Nat) (e6:Int) (v4:Int×Unit)=>
  bif (decide (v4.1<=e6))then some (inl (v4.1,()))else
  Option.bind (p e6) λr7=>bif (!r7)then Option.map inr (some v4.1)else some (inl (e6,()))) (λv8=>some v8.1) l (lo,())=some (dm q l lo)
 |[],lo=>rfl
 |e::l,lo=>by
  rw[ob,dm]
  by_cases hle:lo<=e
  ·rw[Qr hle];simp only[hle,decide_true,Qk];exact D2 h l lo
  ·rw[Qs hle];simp only[hle,decide_false,Ql,h,Qa]
   cases hq:q e with
   |true=>simp only[Qo,Ql,Qt];have:=D2 h l e;simp only[h,Qa]at this;exact this
   |false=>rfl
def flat(n:Nat)(k:Int):aj:=⟨k,xY n,[]⟩
structure IJ (n:Nat) (k:Int) (l:List ak):Prop where
 n10:n<=10
 k1:1<=k
 kn:k<=n
 valid:∀e∈l,bc e=true
 aN:∀e∈l,e.aa=flat n k
 few:l.length<=1000
 all:∀i,i<n->∃e∈l,e.al.toNat=i
def IJ.ib{n:Nat}{k:Int}{l:List ak}(h:IJ n k l):c5 (flat n k):=T3 n h.n10 k h.k1 h.kn
def IJ.sm{n:Nat}{k:Int}{l:List ak}(h:IJ n k l):tw l:=⟨by have:=h.few;omega,λe he=>by rw[h.aN e he];exact h.ib.sm⟩
def IJ.c8{n:Nat}{k:Int}{l:List ak}(h:IJ n k l):Go.Proofs.YtofedieniojipaaGreat.c8 l=l:=Zv h.valid
def cE(n:Nat)(k:Int)(c:Int)(v:ByteArray)(lo hi:Nat->Int)(i:Nat):ak:=⟨i,1,1,flat n k,2,⟨c,v⟩,⟨c,v⟩,⟨0,bE⟩,lo i,hi i⟩
end
section
def EI(b:List Int)(sure:Int->Int->Bool):Int×Int×Bool×Unit:=
 match b.reverse.find? (λe=>sure e e)with
 |some e=>(dm (λx=>sure x e) b.reverse e,e,true,())
 |none=>(0,0,false,())
def YU{p:Int->Option Bool}{q:Int->Bool}{d:Int->Option Int}{f:Int->Int}(hp:∀e,p e=some (q e))(hd:∀e,d e=some (f e)):∀r:List Int,ob (λ(m5:Nat) (e6:Int) (v4:Int×Int×Bool×Unit)=>
  Option.bind (p e6) λr7=>bif r7 then Option.bind (d e6) λr8=>Option.map inr (some (r8,e6,true,()))else some (inl (v4.1,v4.2.1,v4.2.2.1,()))) (λ(v9:Int×Int×Bool×Unit)=>some ((0:Int),(0:Int),false,())) r ((0:Int),(0:Int),false,())=
  some (match r.find? q with|some e=>(f e,e,true,())|none=>(0,0,false,()))
 |[]=>rfl
 |e::r=>by
  have ih:=YU hp hd r;rw[ob,List.find?_cons];simp only[hp,hd,Qa,Qe]at ih ⊢
  cases q e with
  |true=>rfl
  |false=>simp only[Ql];exact ih
section
variable {aF : Nat} (hn : aF < 10) {t : aj} (ht : cQ t) {l : List ak} (hl : tw l)
 include hn ht hl
end
section
variable {n : Nat} {k c : Int} {v : ByteArray} {lo hi : Nat -> Int} (h : IJ n k ((List.range n).map (cE n k c v lo hi))) {i : Nat} (hi' : i < n)
 include h hi'
end
end
section
section
variable {α : Type}
structure yt (lt:α->α->Bool):Prop where
 irrefl:∀x,lt x x=false
 trans:∀x y z,lt x y=true->lt y z=true->lt x z=true
 total:∀x y,lt x y=false->lt y x=false->x=y
variable {lt : α -> α -> Bool}
def yt.asymm(h:yt lt){x y:α}(hxy:lt x y=true):lt y x=false:=by
 cases hc:lt y x with
 |false=>rfl
 |true=>have:=h.trans x y x hxy hc;rw[h.irrefl]at this;cases this
def yt.ntrans(h:yt lt){x y z:α}(h1:lt x y=false)(h2:lt y z=false):lt x z=false:=by
 cases hc:lt x z with
 |false=>rfl
 |true=>
  cases hyx:lt y x with
  |false=>rw[h.total x y h1 hyx,h2]at hc;cases hc
  |true=>have:=h.trans y x z hyx hc;rw[h2]at this;cases this
def yt.kit(h:yt lt):Go.Sort.SWO lt:=⟨h.irrefl,h.trans,λ_ _ _=>h.ntrans⟩
def yt.own(h:yt lt):SWO lt:=⟨λ_ _=>h.asymm,λ_ _ _ h1 h2=>h.ntrans h2 h1⟩
def yt.flip(h:yt lt):yt λa b=>lt b a:=⟨h.irrefl,λx y z h1 h2=>h.trans z y x h2 h1,λx y h1 h2=>h.total x y h2 h1⟩
def yt.unique(h:yt lt):∀{a b:List α},a.Pairwise (λx y=>lt x y=true)->b.Pairwise (λx y=>lt x y=true)->(∀x,x∈a↔x∈b)->a=b
 |[],[],_,_,_=>rfl
 |[],y::b,_,_,h'=>by have:=(h' y).2 (by simp);cases this
 |x::a,[],_,_,h'=>by have:=(h' x).1 (by simp);cases this
 |x::a,y::b,ha,hb,h'=>by
  rw[Q4]at ha hb
  have hxy:x=y:=by
   have h1:=(h' x).1 (by simp)
   have h2:=(h' y).2 (by simp)
   rcases QA.1 h1 with h1|h1
   ·exact h1
   ·rcases QA.1 h2 with h2|h2
    ·exact h2.symm
    ·have q1:=ha.1 y h2;have q2:=hb.1 x h1;rw[h.asymm q1]at q2;cases q2
  subst hxy;congr 1;refine h.unique ha.2 hb.2 λz=>⟨λhz=> ?_,λhz=> ?_⟩
  ·rcases QA.1 ((h' z).1 (by simp[hz]))with e|e
   ·subst e;have:=ha.1 z hz;rw[h.irrefl]at this;cases this
   ·exact e
  ·rcases QA.1 ((h' z).2 (by simp[hz]))with e|e
   ·subst e;have:=hb.1 z hz;rw[h.irrefl]at this;cases this
   ·exact e
def yt.Zn[DecidableEq α](h:yt lt){cmp:α->α->Option Int}{c:α->α->Int}(hc:∀x y,cmp x y=some (c x y))(hlt:∀x y,decide (c x y<0)=lt x y)(s:List α)(hs:s.length<1000000000):
  ∃t,CV cmp s=some ((),t)/\t.length=s.length/\(dd t).Pairwise (λx y=>lt x y=true)/\∀x,x∈dd t↔x∈s:=by
 have hcf:KL cmp=c:=funext λx=>funext λy=>by unfold KL;rw[hc];rfl
 have hl:Go.Proofs.ltOf (KL cmp)=lt:=by rw[hcf];exact funext λx=>funext λy=>hlt x y
 have hok:afd cmp:=⟨λx y=>by rw[hcf];exact hc x y,by rw[hl];exact h.kit,λx y h1 h2=>by rw[hl]at h1 h2;exact h.total x y h1 h2⟩
 refine⟨s.mergeSort λx y=> !lt y x,?_,List.length_mergeSort s,ack h.own h.total ?_,λx=>by rw[aia,List.mem_mergeSort]⟩
 ·unfold CV;rw[Qr ⟨hok,by omega⟩,hl]
 ·refine(List.pairwise_mergeSort (le:=λx y=> !lt y x) (λa b c h1 h2=> ?_) (λa b=> ?_) s).imp λ{a b} hab=>by simpa using hab
  ·simp only[Bool.not_eq_true']at h1 h2 ⊢;exact h.ntrans h2 h1
  ·cases hab:lt a b with
   |false=>simp
   |true=>rw[h.asymm hab];rfl
end
def La:yt λa b:Int=>decide (a<b):=
 ⟨λx=>Qh (Qq64 x),λx y z h1 h2=>by simp only[Qi]at*;omega,λx y h1 h2=>by simp only[Qj]at*;omega⟩
def Xd:∀{x y z:List UInt8},Op.bytesLess x y=true->Op.bytesLess y z=true->Op.bytesLess x z=true
 |[],[],_,h,_=>by simp[Op.bytesLess]at h
 |_::_,[],_,h,_=>by simp[Op.bytesLess]at h
 |[],_::_,[],_,h=>by simp[Op.bytesLess]at h
 |[],_::_,_::_,_,_=>rfl
 |_::_,_::_,[],_,h=>by simp[Op.bytesLess]at h
 |a::x,b::y,c::z,h,h'=>by
  simp only[Op.bytesLess,Qn,Qi,Qm,beq_iff_eq]at h h' ⊢;rcases h with h|⟨rfl,h⟩
  ·rcases h' with h'|⟨rfl,h'⟩
   ·exact .inl (UInt8.lt_trans h h')
   ·exact .inl h
  ·rcases h' with h'|⟨rfl,h'⟩
   ·exact .inl h'
   ·exact .inr ⟨rfl,Xd h h'⟩
def XF{a b c:ByteArray}(h:lI a b=true)(h':lI b c=true):lI a c=true:=Xd h h'
def XG{a b:ByteArray}(h:a≠b):lI a b=true\/lI b a=true:=
 Xe λe=>h (by
  rw[Lib.toList_data,Lib.toList_data]at e;cases a;cases b;rename_i x y;cases x;cases y
  simp_all)
def jA:yt bQ:=by
 refine⟨λx=>by rw[bQ,Qr rfl,D8],λx y z h1 h2=> ?_,λx y h1 h2=> ?_⟩
 ·unfold bQ at*
  by_cases e1:x.size=y.size
  ·rw[Qr e1]at h1
   by_cases e2:y.size=z.size
   ·rw[Qr e2]at h2;rw[Qr (e1.trans e2)];exact XF h1 h2
   ·rw[Qs e2]at h2;rw[Qs (by omega),e1]
    exact h2
  ·rw[Qs e1,Qi]at h1
   by_cases e2:y.size=z.size
   ·rw[Qs (by omega),<-e2]
    exact Qg h1
   ·rw[Qs e2,Qi]at h2;rw[Qs (by omega)]
    exact Qg (by omega)
 ·unfold bQ at*
  by_cases e1:x.size=y.size
  ·rw[Qr e1]at h1;rw[Qr e1.symm]at h2;refine Classical.byContradiction λhne=> ?_
   rcases XG hne with h|h
   ·rw[h]at h1;cases h1
   ·rw[h]at h2;cases h2
  ·rw[Qs e1,Qj]at h1;rw[Qs (λe=>e1 e.symm),Qj]at h2
   omega
def Fg:yt bC:=by
 refine⟨λx=>by rw[bC,Qr rfl,jA.irrefl],λx y z h1 h2=> ?_,λx y h1 h2=> ?_⟩
 ·unfold bC at*
  by_cases e1:x.ai=y.ai
  ·rw[Qr e1]at h1
   by_cases e2:y.ai=z.ai
   ·rw[Qr e2]at h2;rw[Qr (e1.trans e2)];exact jA.trans _ _ _ h1 h2
   ·rw[Qs e2]at h2;rw[Qs (by omega),e1]
    exact h2
  ·rw[Qs e1,Qi]at h1
   by_cases e2:y.ai=z.ai
   ·rw[Qs (by omega),<-e2]
    exact Qg h1
   ·rw[Qs e2,Qi]at h2;rw[Qs (by omega)]
    exact Qg (by omega)
 ·unfold bC at*
  by_cases e1:x.ai=y.ai
  ·rw[Qr e1]at h1;rw[Qr e1.symm]at h2;have:=jA.total _ _ h1 h2;cases x;cases y
   simp_all
  ·rw[Qs e1,Qj]at h1;rw[Qs (λe=>e1 e.symm),Qj]at h2
   omega
end
section
structure RE (n:Nat) (l:List ak):Prop where
 of:∀e∈l,∃i:Nat,i<n/\RF i 1 n e
 Hd:l.Pairwise λa b=>a.al<b.al
 len:l.length<=n
def RE.valid{n:Nat}{l:List ak}(h:RE n l):∀e∈l,bc e=true:=λe he=>by obtain⟨i,_,hi⟩:=h.of e he;rw[bc,vQ hi.aN];exact hi.valid
def RE.sm{n:Nat}{l:List ak}(h:RE n l)(hn:n<=1000):tw l:=⟨by have:=h.len;omega,λe he=>by
 obtain⟨i,_,hi⟩:=h.of e he
 exact hi.aN.sm⟩
def Hj.mono{l:List bh}{s s' r:Nat}(h:∀k,s.testBit k=true->s'.testBit k=true)(hi:Hj l s r):Hj l s' r:=λk hk=>⟨h k (hi k hk).1,(hi k hk).2⟩
section
variable {aF : Nat} {t : aj} (ht : cQ t) {l : List ak} (hl : tw l) {v : ByteArray} {lo hi k : Int} (h1 : lo <= k) (h2 : k <= hi)
 include ht hl h1 h2
end
end
section
section
variable {α : Type}
 def vd(p:α->Option Bool)(a0:List α)(v1:Int×Unit):Option ((Int×Unit)⊕Int):=
 bif (decide (v1.1<((List.length a0:Nat):Int)))then
  Option.bind (idx a0 v1.1) λx2=>Option.bind (p x2) λr3=>bif r3 then Option.map inr (some v1.1)else some (inl ((aB .i64 v1.1 (1:Int)),()))
 else Option.map inr (some (-1:Int))
 def ab3(p:α->Option Bool)(a0:List α):Option Int:=aE (vd p a0) ((0:Int),())
 def G5(p:α->Option Bool)(z:α)(v2:Int×Int×(List α)×Unit):Option ((Int×Int×(List α)×Unit)⊕List α):=
 bif (decide (v2.2.1<((List.length v2.2.2.1:Nat):Int)))then
  aY (λ(v3:Int×(List α)×Unit)=>some (inl (v3.1,(aB .i64 v2.2.1 (1:Int)),v3.2.1,()))) λj4=>
  Option.bind (idx v2.2.2.1 v2.2.1) λx5=>Option.bind (v2.2.2.1[(toNat v2.2.1)]?) λx6=>Option.bind (p x6) λr7=>
  bif (!r7)then
   Option.bind (idx v2.2.2.1 v2.1) λx8=>Option.bind (v2.2.2.1[(toNat v2.1)]?) λx9=>j4 ((aB .i64 v2.1 (1:Int)),(v2.2.2.1.set (toNat v2.1) x6),())
  else j4 (v2.1,v2.2.2.1,())
 else
  Option.map inr (bif cF v2.1 ((List.length v2.2.2.1):Int) (List.length v2.2.2.1)then
   bif cF (0:Int) v2.1 (List.length (v2.2.2.1.take (toNat v2.1)++replicate (toNat ((List.length v2.2.2.1):Int) - toNat v2.1) z++v2.2.2.1.drop ((toNat v2.1)+(toNat ((List.length v2.2.2.1):Int) - toNat v2.1))))then
    some ((v2.2.2.1.take (toNat v2.1)++replicate (toNat ((List.length v2.2.2.1):Int) - toNat v2.1) z++v2.2.2.1.drop ((toNat v2.1)+(toNat ((List.length v2.2.2.1):Int) - toNat v2.1))).take (toNat v2.1 - toNat (0:Int)))
   else none
  else none)
 def YR(p:α->Option Bool)(z:α)(s:List α):Option (List α):=
 Option.bind (ab3 p s) λr1=>bif (decide (r1=(-1:Int)))then some s else aE (G5 p z) (r1,(aB .i64 r1 (1:Int)),s,())
def Gi{q:α->Bool}{s:List α}{j:Nat}{x:α}(h:s[j]?=some x):(s.take (j+1)).filter q=(s.take j).filter q++if q x then[x]else[]:=by obtain⟨hl,hx⟩:=Qw.1 h;rw[Q7 hl,List.filter_append,hx];congr 1;cases hq:q x<;>simp[hq]
variable {p : α -> Option Bool} {q : α -> Bool} (hp : ∀ x, p x = some (q x)) {z : α}
 include hp
theorem Wr{s:List α}(hs:s.length<1000000000):∀(k i:Nat),i+k=s.length->(s.take i).filter (λx=> !q x)=s.take i->
  (∃m:Nat,∃x,aE (vd p s) ((i:Int),())=some (m:Int)/\(s.take m).filter (λx=> !q x)=s.take m/\s[m]?=some x/\q x=true)\/(aE (vd p s) ((i:Int),())=some (-1)/\s.filter (λx=> !q x)=s)
 |0,i,hi,hf=>by
  have hd:decide ((i:Int)<(s.length:Int))=false:=Qh (by omega)
  refine .inr ⟨bO ?_,?_⟩
  ·simp only[vd,hd,Ql,Qe]
  ·rwa [show i=s.length by omega,Qq62]at hf
 |k+1,i,hi,hf=>by
  have hd:decide ((i:Int)<(s.length:Int))=true:=Qg (by omega)
  have hw:aB .i64 (i:Int) 1=((i+1:Nat):Int):=bG (by omega) (by omega)
  obtain⟨x,hx⟩:∃x,s[i]?=some x:=⟨_,Qv (by omega)⟩
  cases hq:q x with
  |true=>refine .inl ⟨i,x,bO ?_,hf,hx,hq⟩;simp only[vd,hd,Qk,bd,hx,Qa,hp,hq,Qe]
  |false=>
   have hstep:aE (vd p s) ((i:Int),())=aE (vd p s) (((i+1:Nat):Int),()):=bA (by simp only[vd,hd,Qk,bd,hx,Qa,hp,hq,Ql,hw])
   rw[hstep];refine Wr hs k (i+1) (by omega) ?_
   rw[Gi hx,hf,hq];obtain⟨hl,hx'⟩:=Qw.1 hx;rw[Q7 hl,hx'];rfl
theorem NX{s:List α}(hs:s.length<1000000000):∀(r i j:Nat) (d:List α),j+r=s.length->i<j->d.length=s.length->d.take i=(s.take j).filter (λx=> !q x)->(∀m,j<=m->d[m]?=s[m]?)->
  aE (G5 p z) ((i:Int),(j:Int),d,())=some (s.filter λx=> !q x)
 |0,i,j,d,hr,hij,hd,ht,hm=>by
  have e2:decide ((j:Int)<(d.length:Int))=false:=Qh (by omega)
  refine bO ?_
  have e3:∀n,cF (i:Int) (d.length:Int) n=decide (d.length<=n):=by
   intro n;simp only[cF];have h1:decide ((0:Int)<=(i:Int))=true:=Qg (by omega)
   have h2:decide ((i:Int)<=(d.length:Int))=true:=Qg (by omega)
   rw[h1,h2,Bool.and_self,Bool.true_and,decide_eq_decide];omega
  have e4:(d.take i++replicate (d.length - i) z++d.drop (i+(d.length - i))).length=d.length:=by simp;omega
  have e5:cF (0:Int) (i:Int) d.length=true:=by simp only[cF,Qm,Qi];omega
  have e6:(d.take i++replicate (d.length - i) z++d.drop (i+(d.length - i))).take (i - 0)=s.filter λx=> !q x:=by rw[Nat.sub_zero,QL,List.take_append_of_le_length (by simp;omega),List.take_take,Nat.min_self,ht,show j=s.length by omega,Qq62]
  simp only[G5,e2,Ql,QV,e3,QI,decide_true,Qk,e4,e5,Int.toNat_zero,e6,Qe]
 |r+1,i,j,d,hr,hij,hd,ht,hm=>by
  have e2:decide ((j:Int)<(d.length:Int))=true:=Qg (by omega)
  have ej:aB .i64 (j:Int) 1=((j+1:Nat):Int):=bG (by omega) (by omega)
  have ei:aB .i64 (i:Int) 1=((i+1:Nat):Int):=bG (by omega) (by omega)
  obtain⟨x,hx⟩:∃x,s[j]?=some x:=⟨_,Qv (by omega)⟩
  obtain⟨y,hy⟩:∃y,d[i]?=some y:=⟨_,Qv (by omega)⟩
  have hdx:d[j]?=some x:=by rw[hm j (QI _),hx]
  have hstep:=Gi (q:=λx=> !q x) hx
  cases hq:q x with
  |true=>
   rw[hq]at hstep;refine(bA (s':=((i:Int),((j+1:Nat):Int),d,())) ?_).trans (NX hs r i (j+1) d (by omega) (by omega) hd (by rw[hstep,ht];simp) λm h=>hm m (by omega))
   simp only[G5,e2,Qk,aR,bd,QV,hdx,Qa,hp,hq,Qo,Ql,ej]
  |false=>
   rw[hq]at hstep;refine(bA (s':=(((i+1:Nat):Int),((j+1:Nat):Int),d.set i x,())) ?_).trans (NX hs r (i+1) (j+1) (d.set i x) (by omega) (by omega) (by rw[QY];exact hd) ?_ λm h=> ?_)
   ·simp only[G5,e2,Qk,aR,bd,QV,hdx,hy,Qa,hp,hq,Qp,ej,ei]
   ·rw[hstep,<-ht,Q7 (by rw[QY];omega),List.take_set_of_le (QI _)]
    simp
   ·rw[List.getElem?_set,Qs (by omega)]
    exact hm m (by omega)
theorem aab(s:List α)(hs:s.length<1000000000):YR p z s=some (s.filter λx=> !q x):=by
 rw[YR,ab3];rcases Wr hp hs s.length 0 (by omega) (by simp)with⟨m,x,h1,h2,h3,h4⟩|⟨h1,h2⟩
 ·have hm:m<s.length:=(Qw.1 h3).1;have h1':aE (vd p s) ((0:Int),())=some (m:Int):=h1;have e:decide ((m:Int)= -1)=false:=Qh (by omega)
  rw[h1',Qa,e,Ql,show aB .i64 (m:Int) 1=((m+1:Nat):Int)from bG (by omega) (by omega)]
  refine NX hp hs (s.length - (m+1)) m (m+1) s (by omega) (by omega) rfl ?_ λ_ _=>rfl
  rw[Gi h3,h2,h4];simp
 ·have h1':aE (vd p s) ((0:Int),())=some (-1):=h1;rw[h1',Qa,h2];rfl
end
def Ix{α β ρ:Type}(l:List α)(hl:l.length<=1000000)(f:α->List β)(hf:∀x∈l,(f x).length<=3){step:Int×List β×Unit->Option ((Int×List β×Unit)⊕ρ)}{fin:List β->Option ρ}
  (h1:∀(i:Nat) (x:α) (acc:List β),x∈l->decide ((i:Int)<(l.length:Int))=true->idx l (i:Int)=some x->aB .i64 (i:Int) 1=((i+1:Nat):Int)->(∀bytes n:Nat,bytes<=40->n<=3->acc.length<=3000000->bg bytes (acc.length+n)=true)->acc.length<=3000000->step ((i:Int),acc,())=some (.inl (((i+1:Nat):Int),acc++f x,())))
  (h2:∀acc,decide ((l.length:Int)<(l.length:Int))=false->step ((l.length:Int),acc,())=Option.map inr (fin acc)):aE step ((0:Int),([]:List β),())=fin (l.flatMap f):=by
 suffices key:∀(k i:Nat) (acc:List β),i+k=l.length->acc=(l.take i).flatMap f->acc.length<=3*i->aE step ((i:Int),acc,())=fin (l.flatMap f)from key l.length 0 [] (by omega) (by simp) (by simp)
 intro k
 induction k with
 |zero=>
  intro i acc hi ha hal;obtain rfl:i=l.length:=by omega
  rw[Qq62]at ha;rw[fg,h2 acc (Qh (Qq64 _)),ha];cases fin (l.flatMap f)<;>rfl
 |succ k ih=>
  intro i acc hi ha hal;have hlt:i<l.length:=by omega
  have hx:l[i]?=some l[i]:=Qv hlt;have:=hf _ (Q0 hlt);refine(bA (h1 i l[i] acc (Q0 hlt) (Qg (by omega)) (by rw[bd];exact hx) (bG (by omega) (by omega)) (λbytes n hb hn ha=> ?_) (by omega))).trans (ih (i+1) _ (by omega) ?_ (by rw[QB];omega))
  ·simp only[bg,Qm,Qi];exact⟨QK (Nat.mul_le_mul (show acc.length+n<=3000003 by omega) hb) (show 3000003*40<=140737488355328 by decide),QK (show acc.length+n<=3000003 by omega) (by simp[maxLen])⟩
  ·rw[Q7 hlt,List.flatMap_append,ha];simp
instance:Inhabited ah:=⟨⟨0,bE⟩⟩
instance:DecidableEq ah:=λa b=>decidable_of_iff (a.ai=b.ai/\a.Value=b.Value) (by cases a;cases b;simp)
def afm(s:List ah)(hs:s.length<1000000000):∃b,fc s=some b/\b.Pairwise (λx y=>bC y x=true)/\b.length<=s.length/\∀x,x∈b↔x∈s:=by
 obtain⟨t,h1,h2,h3,h4⟩:=Fg.flip.Zn (cmp:=oB) (c:=λx y=>W8 y x) (λx y=>by simp[oB]) (λx y=>W0 y x) s hs
 have hc:=DJ (eq:=λx y:ah=>mu false x.ai y.ai x.Value y.Value) (ne:=λx y=>mu true x.ai y.ai x.Value y.Value) (z:=ah.mk 0 bE) (λx y=>by
  rw[CH,QW];cases x;cases y;simp) (λx y=>by
  rw[adS];congr 1;rw[QW];cases x;cases y
  simp) t (by omega)
 refine⟨dd t,?_,h3,by have:=WR t;omega,h4⟩
 have h1':gr s=some ((),t):=h1;have hc':iP t=some (dd t):=hc;simp only[fc,h1',hc',Qa]
def afk(s:List ByteArray)(hs:s.length<1000000000):∃b,gk s=some b/\b.Pairwise (λx y=>bQ x y=true)/\b.length<=s.length/\∀x,x∈b↔x∈s:=by
 obtain⟨t,h1,h2,h3,h4⟩:=jA.Zn (cmp:=hU) (c:=xO) (λx y=>C5 x y) wG s hs
 have hc:=DJ (eq:=λx y:ByteArray=>decide (x=y)) (ne:=λx y=> !decide (x=y)) (z:=bE) (λ_ _=>rfl) (λ_ _=>rfl) t (by omega)
 refine⟨dd t,?_,h3,by have:=WR t;omega,h4⟩
 have h1':jo s=some ((),t):=h1;have hc':eR t=some (dd t):=hc;simp only[gk,h1',hc',Qa]
def ad8(a b:Int):decide (zg a b<0)=decide (a<b):=by rw[decide_eq_decide];exact Iy a b
def afl(s:List Int)(hs:s.length<1000000000):∃b,gY s=some b/\b.Pairwise (·<·)/\b.length<=s.length/\∀x,x∈b↔x∈s:=by
 obtain⟨t,h1,h2,h3,h4⟩:=La.Zn (cmp:=fe) (c:=zg) (λx y=>IK x y) ad8 s hs
 have hc:=DJ (eq:=λx y:Int=>decide (x=y)) (ne:=λx y=> !decide (x=y)) (z:=0) (λ_ _=>rfl) (λ_ _=>rfl) t (by omega)
 refine⟨dd t,?_,h3.imp λh=>of_decide_eq_true h,by have:=WR t;omega,h4⟩
 have h1':lW s=some ((),t):=h1;simp only[gY,h1',Qa,ad3,hc]
 def said(e:ak):List ah:=if bc e then(if e.bu=1 then[e.af,e.ao,e.aD]else if e.bu=2 then[e.ao,at_ e 1000000]else[at_ e 1000000])else[]
def HD(e:ak):(said e).length<=3:=by
 unfold said;split
 ·split
  ·simp
  ·split<;>simp
 ·simp
def wz{α β:Type}(f:α->List β)(hf:∀x,(f x).length<=3):∀l:List α,(l.flatMap f).length<=3*l.length
 |[]=>by simp
 |x::l=>by have:=wz f hf l;have:=hf x;rw[List.flatMap_cons,QB,QE];omega
section
variable {l : List ak} (hl : ∀ e ∈ l, cQ e.aa) (hlen : l.length <= 1000)
 include hl hlen
theorem aaU:∃b,iS l=some b/\b.Pairwise (λx y=>bC y x=true)/\b.length<=3000/\∀x,x∈b↔∃e∈l,x∈said e/\aP x=false:=by
 have hd:=aab (p:=bx) (q:=aP) c6 (z:=ah.mk 0 bE) (l.flatMap said) (by have:=wz said HD l;omega)
 obtain⟨b,h1,h2,hbl,h3⟩:=afm ((l.flatMap said).filter λx=> !aP x) (by have:=wz said HD l;have:=List.length_filter_le (λx=> !aP x) (l.flatMap said);omega)
 refine⟨b,?_,h2,by have:=wz said HD l;have:=List.length_filter_le (λx=> !aP x) (l.flatMap said);omega,λx=> ?_⟩
 ·unfold iS;refine(Ix l (by omega) said (λe _=>HD e) (fin:=λacc=>Option.bind (eE acc) λr8=>Option.bind (fc r8) λr9=>some r9) (λi e acc he hd hx hw hok hal=> ?_) (λacc hd=> ?_)).trans ?_
  ·have o1:=hok 24 3 (by omega) (by omega) hal
   have o2:=hok 24 2 (by omega) (by omega) hal
   have o3:=hok 24 1 (by omega) (by omega) hal
   simp only[hd,hx,hw,Qk,aR,Qa,etas,sG (hl e he),Dm,QE,QZ,o1,o2,o3,Nat.zero_add,Nat.reduceAdd];unfold said at_
   cases bc e<;>by_cases k1:e.bu=1<;>by_cases k2:e.bu=2<;>simp[k1,k2]
  ·simp only[hd,Ql]
  ·have hd':eE (l.flatMap said)=_:=hd;simp only[hd',h1,Qa]
 ·rw[h3,List.mem_filter,QQ];constructor
  ·rintro⟨⟨e,he,hx⟩,hz⟩;exact⟨e,he,hx,by simpa using hz⟩
  ·rintro⟨e,he,hx,hz⟩;exact⟨⟨e,he,hx⟩,by simpa using hz⟩
theorem acI:∃b,lF l=some b/\b.Pairwise (λx y=>bQ x y=true)/\b.length<=3000/\∀x,x∈b↔∃e∈l,bc e=true/\x=e.af.Value:=by
 have hf:∀e:ak,(if bc e then[e.af.Value]else[]).length<=3:=λe=>by split<;>simp
 obtain⟨b,h1,h2,hbl,h3⟩:=afk (l.flatMap λe=>if bc e then[e.af.Value]else[]) (by have:=wz _ hf l;omega)
 refine⟨b,?_,h2,by have:=wz _ hf l;omega,λx=> ?_⟩
 ·unfold lF;refine(Ix l (by omega) (λe=>if bc e then[e.af.Value]else[]) (λe _=>hf e) (fin:=λacc=>Option.bind (gk acc) λr6=>some r6) (λi e acc he hd hx hw hok hal=> ?_) (λacc hd=> ?_)).trans ?_
  ·have o3:=hok 16 1 (by omega) (by omega) hal
   simp only[hd,hx,hw,Qk,aR,Qa,etas,sG (hl e he),QE,QZ,o3,Nat.zero_add];cases bc e<;>simp
  ·simp only[hd,Ql]
  ·simp only[h1,Qa]
 ·rw[h3,QQ];constructor
  ·rintro⟨e,he,hx⟩;split at hx
   ·rename_i hv;exact⟨e,he,hv,by simpa using hx⟩
   ·cases hx
  ·rintro⟨e,he,hv,hx⟩;exact⟨e,he,by rw[Qr hv];simpa using hx⟩
theorem aaT(v:ByteArray):∃b,gl l v=some b/\b.Pairwise (·<·)/\b.length<=3000/\∀x,x∈b↔x∈ends v l:=by
 have hf:∀e:ak,(if ki v e then[e.aZ,e.bq]else[]).length<=3:=λe=>by split<;>simp
 obtain⟨b,h1,h2,hbl,h3⟩:=afl (ends v l) (by have:=wz _ hf l;unfold ends;omega)
 refine⟨b,?_,h2,by have:=wz _ hf l;unfold ends at hbl;omega,h3⟩
 unfold gl;refine(Ix l (by omega) (λe=>if ki v e then[e.aZ,e.bq]else[]) (λe _=>hf e) (fin:=λacc=>Option.bind (gY acc) λr6=>some r6) (λi e acc he hd hx hw hok hal=> ?_) (λacc hd=> ?_)).trans ?_
 ·have o3:=hok 8 2 (by omega) (by omega) hal
  simp only[hd,hx,hw,Qk,aR,Qa,etas,sG (hl e he),QE,QZ,o3,Nat.zero_add,Nat.reduceAdd];unfold ki;cases bc e<;>cases decide (e.af.Value=v)<;>cases decide (e.aZ=0)<;>simp
 ·simp only[hd,Ql]
 ·exact(congrArg (λo=>Option.bind o λr6=>some r6) h1)
end
end
section
def agb{e:ak}(hv:bc e=true):e.bu=1/\0<=e.aZ/\e.aZ<=e.bq\/e.bu≠1/\1<=e.aZ/\e.aZ<=e.bq:=by
 unfold bc gV at hv;rw[Qm]at hv;have h:=hv.2
 by_cases k1:e.bu=1
 ·rw[Qr k1]at h;simp only[gW,Qm,Qi]at h;omega
 ·rw[Qs k1]at h
  by_cases k2:e.bu=2
  ·rw[Qr k2]at h;simp only[wE,uJ,Qm,Qi]at h;omega
  ·rw[Qs k2]at h
   by_cases k3:e.bu=3
   ·rw[Qr k3]at h;simp only[Cc,uJ,Qm,Qi]at h;omega
   ·rw[Qs k3]at h;cases h
end
section
def IT:ah:=⟨0,gw⟩
def DH{α τ:Type}(l:List α)(hl:l.length<=1000000)(mk:Int->τ)(P:α->Bool)(z:α){step:τ->Option (τ⊕α)}
  (h1:∀(i:Nat) (x:α),decide ((i:Int)<(l.length:Int))=true->idx l (i:Int)=some x->aB .i64 (i:Int) 1=((i+1:Nat):Int)->step (mk (i:Int))=some (bif P x then .inr x else .inl (mk ((i+1:Nat):Int))))
  (h2:decide ((l.length:Int)<(l.length:Int))=false->step (mk (l.length:Int))=some (.inr z)):aE step (mk 0)=some ((l.find? P).getD z):=by
 suffices key:∀(k i:Nat),i+k=l.length->aE step (mk (i:Int))=some (((l.drop i).find? P).getD z)from key l.length 0 (by omega)
 intro k
 induction k with
 |zero=>
  intro i hi;obtain rfl:i=l.length:=by omega
  rw[bO (h2 (Qh (Qq64 _))),Qq66];rfl
 |succ k ih=>
  intro i hi;have hlt:i<l.length:=by omega
  have hs:=h1 i l[i] (Qg (by omega)) (by rw[bd];exact Qv hlt) (bG (by omega) (by omega))
  rw[QM hlt,List.find?_cons]
  cases hP:P l[i]with
  |true=>rw[hP]at hs;rw[bO hs];rfl
  |false=>rw[hP]at hs;rw[bA hs];exact ih (i+1) (by omega)
 def fj(l:List ak):List ah:=(iS l).getD []
section
variable {l : List ak} (hl : ∀ e ∈ l, cQ e.aa) (hlen : l.length <= 1000)
 include hl hlen
theorem pM:iS l=some (fj l)/\(fj l).Pairwise (λx y=>bC y x=true)/\(fj l).length<=3000/\∀x,x∈fj l↔∃e∈l,x∈said e/\aP x=false:=by
 obtain⟨b,h1,h2,h3,h4⟩:=aaU hl hlen;have:fj l=b:=by rw[fj,h1];rfl
 rw[this];exact⟨h1,h2,h3,h4⟩
end
def rl(b:ah):ah:=if 1000<=b.ai then⟨1000000,b.Value⟩else b
def aam(b:ah):jU b=some (rl b):=by unfold jU rl;simp only[aR,D3,BK]
def Vw{e:ak}(h:cQ e.aa)(b:ah):np e b=some (bc e&&eC e b):=by
 simp only[np,etas,ke h,Qa,df,gJ,vn]
 cases hv:bc e with
 |false=>simp
 |true=>
  cases hz:aP b with
  |true=>simp[eC,hz]
  |false=>
   by_cases k1:e.bu=1
   ·simp[eC,hz,k1]
   ·by_cases k3:e.bu=3
    ·simp[eC,hz,k3]
    ·by_cases k2:e.bu=2
     ·have hp:aP e.aD=true:=by
       unfold bc gV at hv;rw[Qm,Qs k1,Qr k2]at hv;simp only[wE,Qm]at hv;exact hv.2.1.1.2
      simp[eC,hz,k2,et,jM,hp]
     ·unfold bc gV at hv;rw[Qs k1,Qs k2,Qs k3]at hv;simp at hv
end
section
 def gF(l:List ak):List ByteArray:=(lF l).getD []
 def bw(l:List ak)(v:ByteArray):List Int:=(gl l v).getD []
section
variable {l : List ak} (hl : ∀ e ∈ l, cQ e.aa) (hlen : l.length <= 1000)
 include hl hlen
theorem w5:lF l=some (gF l)/\(gF l).Pairwise (λx y=>bQ x y=true)/\(gF l).length<=3000/\∀x,x∈gF l↔∃e∈l,bc e=true/\x=e.af.Value:=by
 obtain⟨b,h1,h2,h3,h4⟩:=acI hl hlen;have:gF l=b:=by rw[gF,h1];rfl
 rw[this];exact⟨h1,h2,h3,h4⟩
theorem jH(v:ByteArray):gl l v=some (bw l v)/\(bw l v).Pairwise (·<·)/\(bw l v).length<=3000/\∀x,x∈bw l v↔x∈ends v l:=by
 obtain⟨b,h1,h2,h3,h4⟩:=aaT hl hlen v;have:bw l v=b:=by rw[bw,h1];rfl
 rw[this];exact⟨h1,h2,h3,h4⟩
end
def FM{l:List ak}(hl:tw l)(hlen:l.length<=1000)(v:ByteArray):∀x∈bw l v,1<=x/\x<=1000:=by
 obtain⟨_,_,_,h⟩:=jH hl.aN hlen v;intro x hx;obtain⟨e,he,hb,hy⟩:=Er.1 ((h x).1 hx);simp only[ki,Qm,Bool.not_eq_true',Qj]at hb;have hv:=hb.1.1;have h0:=hb.2;unfold bc gV at hv;rw[Qm]at hv;have hv:=hv.2
 by_cases k1:e.bu=1
 ·rw[Qr k1]at hv;simp only[gW,finite,Qm,Qi]at hv;omega
 ·rw[Qs k1]at hv
  by_cases k2:e.bu=2
  ·rw[Qr k2]at hv;simp only[wE,uJ,Qm,Qi]at hv;omega
  ·rw[Qs k2]at hv
   by_cases k3:e.bu=3
   ·rw[Qr k3]at hv;simp only[Cc,uJ,Qm,Qi]at hv;omega
   ·rw[Qs k3]at hv;cases hv
def P9{α A B ρ:Type}(l:List α)(hl:l.length<=1000000)(f:A×B->α->A×B){step:A×Int×B×Unit->Option ((A×Int×B×Unit)⊕ρ)}{fin:A×B->Option ρ}
  (h1:∀(i:Nat) (x:α) (a:A) (b:B),x∈l->decide ((i:Int)<(l.length:Int))=true->idx l (i:Int)=some x->aB .i64 (i:Int) 1=((i+1:Nat):Int)->step (a,(i:Int),b,())=some (.inl ((f (a,b) x).1,((i+1:Nat):Int),(f (a,b) x).2,())))
  (h2:∀a b,decide ((l.length:Int)<(l.length:Int))=false->step (a,(l.length:Int),b,())=Option.map inr (fin (a,b))) (a:A) (b:B):aE step (a,(0:Int),b,())=fin (l.foldl f (a,b)):=by
 suffices key:∀(k i:Nat) (a:A) (b:B),i+k=l.length->aE step (a,(i:Int),b,())=fin ((l.drop i).foldl f (a,b))from key l.length 0 a b (by omega)
 intro k
 induction k with
 |zero=>
  intro i a b hi;obtain rfl:i=l.length:=by omega
  rw[fg,h2 a b (Qh (Qq64 _)),Qq66,List.foldl_nil];cases fin (a,b)<;>rfl
 |succ k ih=>
  intro i a b hi;have hlt:i<l.length:=by omega
  rw[bA (h1 i l[i] a b (Q0 hlt) (Qg (by omega)) (by rw[bd];exact Qv hlt) (bG (by omega) (by omega))),ih (i+1) _ _ (by omega),QM hlt,QU]
def o0(p q:ah)(v:ByteArray)(n:Int):Bool:=eQ p ⟨n,v⟩||eQ q ⟨n,v⟩
def RC(v:ByteArray)(n:Int)(p q:ah):qL v n p q=some (o0 p q v n):=by
 simp only[qL,vp,Qa,kY,Bool.cond_true_left,o0]
 def Gk(b:List Int)(ready:Int->Int->Bool)(low cn:Int):Int×Int:=
 match b.reverse.find? (λn=>decide (cn<n)&&ready n n)with
 |none=>(dm (λx=>ready x cn) b.reverse low,cn)
 |some n=>
  let bottom:=dm (λx=>ready x n) b.reverse n
  (dm (λx=>ready x n) b.reverse (if cn<bottom - 1\/bottom<low then bottom else low),n)
 def D1(S:gN)(b:List Int)(v:ByteArray)(m8:Nat)(e9:Int)(v7:Int×Int×Unit):Option ((Int×Int×Unit)⊕(Int×Int×Unit)):=
 Option.bind (bif (decide (e9<=v7.2.1))then some true else Option.bind (iG S v e9 e9) λr10=>some (!r10)) λb11=>
 bif b11 then some (inl (v7.1,v7.2.1,()))else
 Option.bind (kO b e9 S v e9) λr12=>
 aY (λ(v13:Int×Unit)=>Option.map inr (Option.bind (iH b v13.1 S v e9) λr5=>some (r5,e9,()))) λj14=>
 Option.bind (bif (decide (v7.2.1<(cW .i64 r12 (1:Int))))then some true else some (decide (r12<v7.1))) λb15=>
 bif b15 then j14 (r12,())else j14 (v7.1,())
 def ab7(S:gN)(b:List Int)(v:ByteArray)(v16:Int×Int×Unit):Option (Int×Int×Unit):=Option.bind (iH b v16.1 S v v16.2.1) λr5=>some (r5,v16.2.1,())
section
variable {aF : Nat} (hn : aF < 10) {t : aj} (ht : cQ t) {l : List ak} (hl : tw l)
 include hn ht hl
end
end
section
section
variable {α : Type} [DecidableEq α] {lt : α -> α -> Bool}
def dV(lt:α->α->Bool)(x:α):List α->List α
 |[]=>[x]
 |y::l=>if lt y x then y::dV lt x l else if y=x then y::l else x::y::l
def HV(x:α):∀(l:List α) (z:α),z∈dV lt x l↔z=x\/z∈l
 |[],z=>by simp[dV]
 |y::l,z=>by
  rw[dV];split
  ·rw[QA,HV x l z,QA];constructor
   ·rintro(h|h|h)
    ·exact .inr (.inl h)
    ·exact .inl h
    ·exact .inr (.inr h)
   ·rintro(h|h|h)
    ·exact .inr (.inl h)
    ·exact .inl h
    ·exact .inr (.inr h)
  ·split
   ·rename_i h;rw[QA];constructor
    ·exact .inr
    ·rintro(h1|h1)
     ·exact .inl (h1.trans h.symm)
     ·exact h1
   ·rw[QA]
def yt.dV(h:yt lt)(x:α):∀{l:List α},l.Pairwise (λa b=>lt a b=true)->(Go.Proofs.YtofedieniojipaaGreat.dV lt x l).Pairwise (λa b=>lt a b=true)
 |[],_=>by rw[Go.Proofs.YtofedieniojipaaGreat.dV];exact List.pairwise_singleton _ _
 |y::l,hp=>by
  rw[Q4]at hp;rw[Go.Proofs.YtofedieniojipaaGreat.dV];split
  ·rename_i hy;rw[Q4];refine⟨λz hz=> ?_,h.dV x hp.2⟩
   rcases(HV x l z).1 hz with rfl|hz
   ·exact hy
   ·exact hp.1 z hz
  ·rename_i hy;split
   ·exact Q4.2 hp
   ·rename_i hne
    have hxy:lt x y=true:=by
     cases hc:lt x y with
     |true=>rfl
     |false=>exact absurd (h.total y x (by simpa using hy) hc) hne
    rw[Q4,Q4];refine⟨λz hz=> ?_,hp⟩
    rcases QA.1 hz with rfl|hz
    ·exact hxy
    ·exact h.trans _ _ _ hxy (hp.1 z hz)
def wx(x:α):∀l:List α,(dV lt x l).length<=l.length+1
 |[]=>by simp[dV]
 |y::l=>by
  have:=wx x l;rw[dV];split
  ·simp;omega
  ·split<;>simp
def SE(x:α):∀(l:List α) (i:Nat),(∀j,j<i->∃y,l[j]?=some y/\lt y x=true)->(∀y,l[i]?=some y->lt y x=false)->dV lt x l=if l[i]?=some x then l else l.take i++x::l.drop i
 |[],i,h1,h2=>by
  cases i with
  |zero=>simp[dV]
  |succ i=>obtain⟨y,hy,_⟩:=h1 0 (by omega);simp at hy
 |y::l,i,h1,h2=>by
  cases i with
  |zero=>
   have hy:=h2 y rfl;rw[dV,hy,Qs (by simp)]
   by_cases h:y=x
   ·simp[h]
   ·simp[h]
  |succ i=>
   obtain⟨y',hy',hlt⟩:=h1 0 (by omega)
   simp only[List.getElem?_cons_zero,Qf]at hy';subst hy'
   rw[dV,Qr hlt,SE x l i (λj hj=>by
    obtain⟨z,hz,h⟩:=h1 (j+1) (by omega)
    exact⟨z,by simpa using hz,h⟩) (λz hz=>h2 z (by simpa using hz))]
   simp only[List.getElem?_cons_succ,List.take_succ_cons,List.drop_succ_cons];split<;>simp
def Kr(h:yt lt):∀(xs l:List α),l.Pairwise (λa b=>lt a b=true)->(xs.foldl (λl x=>dV lt x l) l).Pairwise (λa b=>lt a b=true)/\∀z,z∈xs.foldl (λl x=>dV lt x l) l↔z∈xs\/z∈l
 |[],l,hp=>⟨hp,by simp⟩
 |x::xs,l,hp=>by
  obtain⟨h1,h2⟩:=Kr h xs _ (h.dV x hp);rw[QU];refine⟨h1,λz=> ?_⟩
  rw[h2,HV,QA];constructor
  ·rintro(a|a|a)
   ·exact .inl (.inr a)
   ·exact .inl (.inl a)
   ·exact .inr a
  ·rintro((a|a)|a)
   ·exact .inr (.inl a)
   ·exact .inl a
   ·exact .inr (.inr a)
def PL:∀(xs l:List α),(xs.foldl (λl x=>dV lt x l) l).length<=l.length+xs.length
 |[],l=>by simp
 |x::xs,l=>by have:=PL xs (dV lt x l);have:=wx (lt:=lt) x l;rw[QU,QE];omega
end
def ua{α:Type}(l:List α)(i:Nat):(l.take (toNat (i:Int))).drop (toNat (0:Int))=l.take i:=by simp
def yL{α:Type}(l:List α)(i:Nat):(l.take (toNat (l.length:Int))).drop (toNat (i:Int))=l.drop i:=by simp
def D9{i n:Nat}(h:i<=n):cF (0:Int) (i:Int) n=true:=by simp only[cF,Qm,Qi];omega
def Ea{i n:Nat}(h:i<=n):cF (i:Int) (n:Int) n=true:=by simp only[cF,Qm,Qi];omega
def jl{bytes n:Nat}(h:bytes<=200)(hn:n<=1000000):bg bytes n=true:=
 bz ⟨QK (Nat.mul_le_mul hn h) (by decide),hn⟩
def U2{α ρ:Type}(l:List α)(hl:l.length<=1000000)(P:α->Bool){step:Int×Unit->Option ((Int×Unit)⊕ρ)}{r:Nat->Option ρ}
  (h1:∀(i:Nat) (y:α),l[i]?=some y->decide ((i:Int)<(l.length:Int))=true->idx l (i:Int)=some y->P y=true->aB .i64 (i:Int) 1=((i+1:Nat):Int)->step ((i:Int),())=some (.inl (((i+1:Nat):Int),())))
  (h2:∀(i:Nat) (y:α),l[i]?=some y->decide ((i:Int)<(l.length:Int))=true->idx l (i:Int)=some y->P y=false->step ((i:Int),())=Option.map inr (r i))
  (h3:decide ((l.length:Int)<(l.length:Int))=false->step ((l.length:Int),())=Option.map inr (r l.length)):
  ∃i,i<=l.length/\(∀j,j<i->∃y,l[j]?=some y/\P y=true)/\(∀y,l[i]?=some y->P y=false)/\aE step ((0:Int),())=r i:=by
 suffices key:∀(k i:Nat),i+k=l.length->(∀j,j<i->∃y,l[j]?=some y/\P y=true)->∃m,m<=l.length/\(∀j,j<m->∃y,l[j]?=some y/\P y=true)/\(∀y,l[m]?=some y->P y=false)/\aE step ((i:Int),())=r m from key l.length 0 (by omega) (λj hj=>absurd hj (Nat.not_lt_zero _))
 intro k
 induction k with
 |zero=>
  intro i hi hj;obtain rfl:i=l.length:=by omega
  refine⟨l.length,QI _,hj,λy hy=>by simp at hy,?_⟩
  rw[fg,h3 (Qh (Qq64 _))];cases r l.length<;>rfl
 |succ k ih=>
  intro i hi hj;have hx:l[i]?=some l[i]:=Qv (by omega)
  have hd:decide ((i:Int)<(l.length:Int))=true:=Qg (by omega)
  cases hP:P l[i]with
  |true=>
   rw[bA (h1 i _ hx hd (by rw[bd];exact hx) hP (bG (by omega) (by omega)))]
   refine ih (i+1) (by omega) λj hj'=> ?_
   rcases Nat.lt_or_ge j i with h|h
   ·exact hj j h
   ·obtain rfl:j=i:=by omega
    exact⟨_,hx,hP⟩
  |false=>
   refine⟨i,by omega,hj,λy hy=> ?_,?_⟩
   ·rw[hx]at hy;injection hy with hy
    rw[<-hy];exact hP
   ·rw[fg,h2 i _ hx hd (by rw[bd];exact hx) hP]
    cases r i<;>rfl
def Kp{α ρ:Type}[DecidableEq α]{lt:α->α->Bool}(l:List α)(hl:l.length<=1000000)(x:α){step:Int×Unit->Option ((Int×Unit)⊕ρ)}{k:List α->Option ρ}
  (h1:∀(i:Nat) (y:α),decide ((i:Int)<(l.length:Int))=true->idx l (i:Int)=some y->lt y x=true->aB .i64 (i:Int) 1=((i+1:Nat):Int)->step ((i:Int),())=some (.inl (((i+1:Nat):Int),())))
  (h2:∀(i:Nat) (y:α),i<l.length->decide ((i:Int)<(l.length:Int))=true->decide ((i:Int)=(l.length:Int))=false->idx l (i:Int)=some y->lt y x=false->step ((i:Int),())=Option.map inr (k (if y=x then l else l.take i++x::l.drop i)))
  (h3:decide ((l.length:Int)<(l.length:Int))=false->decide ((l.length:Int)=(l.length:Int))=true->step ((l.length:Int),())=Option.map inr (k (l++[x]))):aE step ((0:Int),())=k (dV lt x l):=by
 obtain⟨i,hi,g1,g2,g3⟩:=U2 l hl (λy=>lt y x) (step:=step) (r:=λi=>k (if l[i]?=some x then l else l.take i++x::l.drop i)) (λi y hy hd hx hP hw=>h1 i y hd hx hP hw) (λi y hy hd hx hP=>by
   have hlt:=(Qw.1 hy).1;rw[h2 i y hlt hd (Qh (by omega)) hx hP,hy]
   by_cases hyx:y=x
   ·simp[hyx]
   ·have:¬(some y=some x):=λh=>hyx (by injection h)
    rw[Qs hyx,Qs this]) (λhd=>by
   rw[h3 hd (Qg rfl),Qs (by simp),Qq62,Qq66])
 rw[g3,SE x l i g1 g2]
def agj(l:List ah)(hl:l.length<=900000)(b:ah):wW l b=some (if aP b then l else dV (λx y=>bC y x) b l):=by
 unfold wW;rw[df,Qa]
 cases hz:aP b with
 |true=>rfl
 |false=>
  simp only[Ql,aR]
  have he:∀y:ah,(decide (y.ai=b.ai)&&decide (y.Value=b.Value))=decide (y=b):=λy=>by rw[QW];cases y;cases b;simp
  refine Kp (lt:=λx y=>bC y x) l (by omega) b (k:=λt=>some t) (λi y hd hx hlt hw=> ?_) (λi y hi hd hde hx hlt=> ?_) (λhd hde=> ?_)
  ·simp only[hd,hx,hw,Qk,Qa,kv,hlt]
  ·have e1:=ua l i;have e2:=yL l i;simp only[hd,hx,Qk,Qa,kv,hlt,Ql,CH,e1,e2,D9 (show i<=l.length by omega),Ea (show i<=l.length by omega),he]
   rw[jl (by omega) (by simp;omega),jl (by omega) (by simp;omega),jl (by omega) (by simp;omega)]
   by_cases hyb:y=b<;>simp[hyb]
  ·have e1:=ua l l.length;have e2:=yL l l.length;simp only[hd,Ql,e1,e2,D9 (QI l.length),Ea (QI l.length),Qk];rw[jl (by omega) (by simp;omega),jl (by omega) (by simp;omega),jl (by omega) (by simp;omega)]
   simp
def FE{α σ ρ:Type}(l:List α)(hl:l.length<=1000000)(f:σ->α->σ)(Inv:Nat->σ->Prop){step:σ×Int×Unit->Option ((σ×Int×Unit)⊕ρ)}{fin:σ->Option ρ}
  (hI:∀i s x,x∈l->Inv i s->Inv (i+1) (f s x))
  (h1:∀(i:Nat) (x:α) (s:σ),Inv i s->i<=l.length->x∈l->decide ((i:Int)<(l.length:Int))=true->idx l (i:Int)=some x->aB .i64 (i:Int) 1=((i+1:Nat):Int)->step (s,(i:Int),())=some (.inl (f s x,((i+1:Nat):Int),())))
  (h2:∀s,decide ((l.length:Int)<(l.length:Int))=false->step (s,(l.length:Int),())=Option.map inr (fin s)) (s:σ) (hs:Inv 0 s):aE step (s,(0:Int),())=fin (l.foldl f s):=by
 suffices key:∀(k i:Nat) (s:σ),i+k=l.length->Inv i s->aE step (s,(i:Int),())=fin ((l.drop i).foldl f s)from key l.length 0 s (by omega) hs
 intro k
 induction k with
 |zero=>
  intro i s hi hs;obtain rfl:i=l.length:=by omega
  rw[fg,h2 s (Qh (Qq64 _)),Qq66,List.foldl_nil];cases fin s<;>rfl
 |succ k ih=>
  intro i s hi hs;have hlt:i<l.length:=by omega
  rw[bA (h1 i l[i] s hs (by omega) (Q0 hlt) (Qg (by omega)) (by rw[bd];exact Qv hlt) (bG (by omega) (by omega))),ih (i+1) _ (by omega) (hI i s _ (Q0 hlt) hs),QM hlt,QU]
 def vw(e:ak):List ah:=if bc e then(if e.bu=1 then[e.af,e.ao,e.aD]else[e.ao,at_ e 1000000])else[]
def OC{e:ak}{x:ah}(hz:aP x=false):x∈vw e↔x∈said e:=by
 unfold vw said
 cases hv:bc e with
 |false=>simp
 |true=>
  by_cases k1:e.bu=1
  ·simp[k1]
  ·by_cases k2:e.bu=2
   ·simp[k2]
   ·have hp:aP e.ao=true:=by
     unfold bc gV at hv;rw[Qm,Qs k1,Qs k2]at hv;have h:=hv.2
     by_cases k3:e.bu=3
     ·rw[Qr k3]at h;simp only[Cc,Qm]at h;exact h.1.1.2
     ·rw[Qs k3]at h;cases h
    simp only[Qt,k1,k2,Qu,QA,QR,or_false];constructor
    ·rintro(h|h)
     ·rw[h,hp]at hz;cases hz
     ·exact h
    ·exact .inr
def xg(l:List ah)(b:ah):List ah:=if aP b then l else dV (λx y=>bC y x) b l
def MN:∀(xs l:List ah),xs.foldl xg l=(xs.filter λb=> !aP b).foldl (λl x=>dV (λx y=>bC y x) x l) l
 |[],l=>rfl
 |x::xs,l=>by rw[QU,MN xs,List.filter_cons];cases hz:aP x<;>simp[xg,hz]
def TW(l:List ah)(b:ah):(xg l b).length<=l.length+1:=by
 unfold xg;split
 ·omega
 ·exact wx b l
section
variable {l : List ak} (hl : ∀ e ∈ l, cQ e.aa) (hlen : l.length <= 1000)
 include hl hlen
theorem MC:om l=some (fj l):=by
 have hfold:∀xs:List ah,xs.length<=3->∀s:List ah,(xs.foldl xg s).length<=s.length+xs.length:=by
  intro xs _
  induction xs with
  |nil=>intro s;simp
  |cons x xs ih=>
   intro s;have:=ih (by simp at*;omega) (xg s x)
   have:=TW s x;rw[QU,QE];omega
 have hr3:∀e,(vw e).length<=3:=λe=>by
  unfold vw;split
  ·split<;>simp
  ·simp
 have hF:om l=some (l.foldl (λs e=>(vw e).foldl xg s) []):=by
  unfold om;refine FE l (by omega) (λs e=>(vw e).foldl xg s) (λi s=>s.length<=3*i) (fin:=λs=>some s) (λi s x _ hs=> ?_) (λi e s hs hi he hd hx hw=> ?_) (λs hd=> ?_) [] (by simp)
  ·have:=hfold (vw x) (hr3 x) s;have:=hr3 x;show(List.foldl xg s (vw x)).length<=3*(i+1);omega
  ·simp only[hd,hx,hw,Qk,aR,Qa,etas,ke (hl e he)]
   have inner:∀L:List ah,L.length<=3->aE (λ(v8:(List ah)×Int×Unit)=>
     bif (decide (v8.2.1<((List.length L:Nat):Int)))then Option.bind (idx L v8.2.1) λx9=>Option.bind (wW v8.1 x9) λr10=>some (inl (r10,(aB .i64 v8.2.1 (1:Int)),()))
     else Option.map inr (some (inl (v8.1,((i+1:Nat):Int),()):((List ah)×Int×Unit)⊕(List ah)))) (s,(0:Int),())=some (inl (L.foldl xg s,((i+1:Nat):Int),())):=by
    intro L hL;refine FE L (by omega) xg (λk t=>t.length<=s.length+k) (fin:=λt=>some (inl (t,((i+1:Nat):Int),()))) (λk t x _ ht=> ?_) (λk x t ht hk hx' hd' hxx hw'=> ?_) (λt hd'=> ?_) s (by simp)
    ·have:=TW t x;omega
    ·simp only[hd',hxx,hw',Qk,Qa,agj t (by omega)]
     rfl
    ·simp only[hd',Ql]
   cases hv:bc e with
   |false=>simp[vw,hv]
   |true=>
    by_cases k1:e.bu=1
    ·have i3:=inner [e.af,e.ao,e.aD] (by simp)
     simp only[Qo,Ql,k1,decide_true,i3,vw,hv,Qt]
    ·have i2:=inner [e.ao,⟨1000000,e.af.Value⟩] (by simp)
     simp only[Qo,Qp,Ql,Qk,k1,decide_false,i2,vw,hv,Qt,Qu,at_]
  ·simp only[hd,Ql]
 obtain⟨_,h2,_,h4⟩:=pM hl hlen;have hflat:l.foldl (λs e=>(vw e).foldl xg s) []=(l.flatMap vw).foldl xg []:=by rw[List.foldl_flatMap]
 rw[hF,hflat,MN];obtain⟨h5,h6⟩:=Kr Fg.flip ((l.flatMap vw).filter λb=> !aP b) [] .nil
 congr 1;refine Fg.flip.unique h5 h2 λx=> ?_
 rw[h6,h4];simp only[List.mem_filter,QQ,QR,or_false,Bool.not_eq_true'];constructor
 ·rintro⟨⟨e,he,hx⟩,hz⟩;exact⟨e,he,(OC hz).1 hx,hz⟩
 ·rintro⟨e,he,hx,hz⟩;exact⟨⟨e,he,(OC hz).2 hx⟩,hz⟩
end
section
variable {l : List ak} (hl : ∀ e ∈ l, cQ e.aa) (hlen : l.length <= 1000)
 include hl hlen
theorem ZC:tH l=some (gF l):=by
 have hF:tH l=some (l.foldl (λs e=>if bc e then dV bQ e.af.Value s else s) []):=by
  unfold tH;refine FE l (by omega) (λs e=>if bc e then dV bQ e.af.Value s else s) (λi s=>s.length<=i) (fin:=λs=>some s) (λi s x _ hs=> ?_) (λi e s hs hi he hd hx hw=> ?_) (λs hd=> ?_) [] (by simp)
  ·show(if bc x then dV bQ x.af.Value s else s).length<=i+1
   have:=wx (lt:=bQ) x.af.Value s;split<;>omega
  ·simp only[hd,hx,hw,Qk,aR,Qa,etas,ke (hl e he)]
   cases hv:bc e with
   |false=>simp
   |true=>
    simp only[Qo,Ql,Qt];refine Kp (lt:=bQ) s (by omega) e.af.Value (k:=λt=>some (inl (t,((i+1:Nat):Int),()))) (λj y hd' hx' hlt hw'=> ?_) (λj y hj hd' hde hx' hlt=> ?_) (λhd' hde=> ?_)
    ·simp only[hd',hx',hw',Qk,Qa,AQ,hlt]
    ·have e1:=ua s j;have e2:=yL s j;simp only[hd',hx',hde,Qk,Ql,Qa,AQ,hlt,e1,e2,D9 (show j<=s.length by omega),Ea (show j<=s.length by omega)]
     rw[jl (by omega) (by simp;omega),jl (by omega) (by simp;omega),jl (by omega) (by simp;omega)]
     by_cases hyx:y=e.af.Value<;>simp[hyx]
    ·have e1:=ua s s.length;have e2:=yL s s.length;simp only[hd',Qk,Ql,e1,e2,D9 (QI s.length),Ea (QI s.length)];rw[jl (by omega) (by simp;omega),jl (by omega) (by simp;omega),jl (by omega) (by simp;omega)]
     simp
  ·simp only[hd,Ql]
 obtain⟨_,h2,_,h4⟩:=w5 hl hlen
 have hflat:l.foldl (λs e=>if bc e then dV bQ e.af.Value s else s) []=(l.flatMap λe=>if bc e then[e.af.Value]else[]).foldl (λl x=>dV bQ x l) []:=by
  rw[List.foldl_flatMap];congr 1
  funext s e
  split<;>rfl
 rw[hF,hflat];obtain⟨h5,h6⟩:=Kr jA (l.flatMap λe=>if bc e then[e.af.Value]else[]) [] .nil
 congr 1;refine jA.unique h5 h2 λx=> ?_
 rw[h6,h4];simp only[QQ,QR,or_false];constructor
 ·rintro⟨e,he,hx⟩;split at hx
  ·rename_i hv;exact⟨e,he,hv,by simpa using hx⟩
  ·cases hx
 ·rintro⟨e,he,hv,hx⟩;exact⟨e,he,by rw[Qr hv];simpa using hx⟩
theorem zZ(v:ByteArray):jJ l v=some (bw l v):=by
 have hF:jJ l v=some (l.foldl (λs e=>if ki v e then dV (λa b=>decide (a<b)) e.bq (dV (λa b=>decide (a<b)) e.aZ s)else s) []):=by
  unfold jJ;refine FE l (by omega) (λs e=>if ki v e then dV (λa b=>decide (a<b)) e.bq (dV (λa b=>decide (a<b)) e.aZ s)else s) (λi s=>s.length<=2*i) (fin:=λs=>some s) (λi s x _ hs=> ?_) (λi e s hs hi he hd hx hw=> ?_) (λs hd=> ?_) [] (by simp)
  ·show(if ki v x then dV (λa b=>decide (a<b)) x.bq (dV (λa b=>decide (a<b)) x.aZ s)else s).length<=2*(i+1)
   have h1:=wx (lt:=λa b:Int=>decide (a<b)) x.aZ s
   have h2:=wx (lt:=λa b:Int=>decide (a<b)) x.bq (dV (λa b=>decide (a<b)) x.aZ s)
   split<;>omega
  ·simp only[hd,hx,hw,Qk,aR,Qa,etas,ke (hl e he)]
   have inner:∀(t:List Int) (x:Int) (z:Int),t.length<=3000->aE (λ(v12:Int×Unit)=>
     Option.bind (bif (decide (v12.1<((List.length t:Nat):Int)))then Option.bind (idx t v12.1) λx13=>some (decide (x13<x))else some false) λb14=>
     bif b14 then some (inl ((aB .i64 v12.1 (1:Int)),()))else
     Option.map inr (Option.bind (bif (decide (v12.1=((List.length t:Nat):Int)))then some true else Option.bind (idx t v12.1) λx15=>some (!decide (x15=x))) λb16=>
     bif b16 then
     bif cF (0:Int) v12.1 (List.length t)then
     bif bg 8 (List.length ((t.take (toNat v12.1)).drop (toNat (0:Int))))then
     bif bg 8 (List.length ((t.take (toNat v12.1)).drop (toNat (0:Int)))+List.length [x])then
     bif cF v12.1 (t.length:Int) (List.length t)then
     bif bg 8 (List.length (((t.take (toNat v12.1)).drop (toNat (0:Int)))++[x])+List.length ((t.take (toNat (t.length:Int))).drop (toNat v12.1)))then
     some (inl (((((t.take (toNat v12.1)).drop (toNat (0:Int)))++[x])++((t.take (toNat (t.length:Int))).drop (toNat v12.1))),z,()):((List Int)×Int×Unit)⊕(((List Int)×Int×Unit)⊕(List Int)))
     else none else none else none else none else none
     else some (inl (t,z,())))) ((0:Int),())=some (inl (dV (λa b=>decide (a<b)) x t,z,())):=by
    intro t x z ht;refine Kp (lt:=λa b:Int=>decide (a<b)) t (by omega) x (k:=λt=>some (inl (t,z,()))) (λj y hd' hx' hlt hw'=> ?_) (λj y hj hd' hde hx' hlt=> ?_) (λhd' hde=> ?_)
    ·simp only[hd',hx',hw',Qk,Qa,hlt]
    ·have e1:=ua t j;have e2:=yL t j;simp only[hd',hx',hde,Qk,Ql,Qa,hlt,e1,e2,D9 (show j<=t.length by omega),Ea (show j<=t.length by omega)]
     rw[jl (by omega) (by simp;omega),jl (by omega) (by simp;omega),jl (by omega) (by simp;omega)]
     by_cases hyx:y=x<;>simp[hyx]
    ·have e1:=ua t t.length;have e2:=yL t t.length;simp only[hd',Qk,Ql,Qa,e1,e2,D9 (QI t.length),Ea (QI t.length)];rw[jl (by omega) (by simp;omega),jl (by omega) (by simp;omega),jl (by omega) (by simp;omega)]
     simp
   have hw1:aB .i64 (0:Int) 1=1:=rfl;have hw2:aB .i64 (1:Int) 1=2:=rfl;have hd0:decide ((0:Int)<2)=true:=rfl;have hd1:decide ((1:Int)<2)=true:=rfl;have hd2:decide ((2:Int)<2)=false:=rfl;have hx0:idx [e.aZ,e.bq] 0=some e.aZ:=rfl;have hx1:idx [e.aZ,e.bq] 1=some e.bq:=rfl;have hl1:=wx (lt:=λa b:Int=>decide (a<b)) e.aZ s
   unfold ki
   cases hv:bc e with
   |false=>simp
   |true=>
    by_cases hvv:e.af.Value=v
    ·by_cases hlo:e.aZ=0
     ·simp[hvv,hlo]
     ·simp only[Qo,Ql,hvv,decide_true,hlo,decide_false,Bool.and_self,Qp,Qa,Qt];refine(bA (s':=(dV (λa b=>decide (a<b)) e.aZ s,(1:Int),())) ?_).trans ((bA (s':=(dV (λa b=>decide (a<b)) e.bq (dV (λa b=>decide (a<b)) e.aZ s),(2:Int),())) ?_).trans (bO ?_))
      ·simp only[hd0,hx0,hw1,Qk,Qa];exact inner s e.aZ 1 (by omega)
      ·simp only[hd1,hx1,hw2,Qk,Qa];exact inner _ e.bq 2 (by omega)
      ·simp only[hd2,Ql,Qe]
    ·simp[hvv]
  ·simp only[hd,Ql]
 obtain⟨_,h2,_,h4⟩:=jH hl hlen v
 have hflat:l.foldl (λs e=>if ki v e then dV (λa b=>decide (a<b)) e.bq (dV (λa b=>decide (a<b)) e.aZ s)else s) []=(ends v l).foldl (λl x=>dV (λa b=>decide (a<b)) x l) []:=by
  rw[ends,List.foldl_flatMap];congr 1
  funext s e
  split<;>rfl
 rw[hF,hflat];obtain⟨h5,h6⟩:=Kr La (ends v l) [] .nil;congr 1;refine La.unique h5 (h2.imp λh=>Qg h) λx=> ?_
 rw[h6,h4];simp
end
end
section
def kinds{e:ak}(hv:bc e=true):e.bu=1\/e.bu=2\/e.bu=3:=by
 unfold bc gV at hv;rw[Qm]at hv;have h:=hv.2
 by_cases k1:e.bu=1
 ·exact .inl k1
 ·by_cases k2:e.bu=2
  ·exact .inr (.inl k2)
  ·by_cases k3:e.bu=3
   ·exact .inr (.inr k3)
   ·rw[Qs k1,Qs k2,Qs k3]at h;cases h
def ZA{e:ak}(h:cQ e.aa)(b:ah):pF e b=some (bc e&&s6 e b):=by
 simp only[pF,etas,ke h,Qa,df,gJ,Dk]
 cases hv:bc e with
 |false=>simp
 |true=>
  cases hz:aP b with
  |true=>simp[s6,hz]
  |false=>by_cases k1:e.bu=1<;>simp[s6,hz,k1]
def Vx{e:ak}(h:cQ e.aa)(v:ByteArray)(lo hi:Int):oo e v lo hi=some (bc e&&iM e v lo hi):=by
 simp only[oo,etas,ke h,Qa,kY,iM,Ly]
 cases hv:bc e with
 |false=>simp
 |true=>
  have hk:=kinds hv
  by_cases a1:lo<1<;>by_cases a2:hi<lo<;>by_cases a3:e.af.Value=v<;>by_cases a4:lo<e.aZ<;>by_cases k1:e.bu=1<;>by_cases k3:e.bu=3<;>simp_all<;>grind
def ZB{e:ak}(h:cQ e.aa)(v:ByteArray)(lo hi:Int):qP e v lo hi=some (bc e&&vP e v lo hi):=by
 simp only[qP,etas,ke h,Qa,kY,vP,Ly]
 cases hv:bc e with
 |false=>simp
 |true=>
  have hl:=agb hv
  by_cases a1:lo<1<;>by_cases a2:hi<lo<;>by_cases a3:e.af.Value=v<;>by_cases a4:lo<e.aZ<;>by_cases k1:e.bu=1<;>by_cases a5:e.aZ=0<;>simp_all<;>grind
def xX(p:ak->Bool):∀l:List ak,ff (λe=>bc e&&p e) l=ff p (c8 l)
 |[]=>rfl
 |e::l=>by have ih:=xX p l;rw[ff,ih];cases hv:bc e<;>simp[c8,hv,ff]
def BW(l:List ak)(hlen:l.length<=1000)(p:ak->Bool)(hp:∀e∈l,p e=true->0<=e.al/\e.al<10):gu l (l.map p)=some ((ff p l:Nat):Int):=by
 unfold gu
 suffices key:∀(k i s:Nat),i+k=l.length->s<1024->aE _ ((s:Int),(i:Int),())=some ((s|||ff p (l.drop i):Nat):Int)by
  have:=key l.length 0 0 (by omega) (by omega)
  rw[Nat.zero_or,List.drop_zero]at this;exact this
 intro k
 induction k with
 |zero=>
  intro i s hi hs;obtain rfl:i=l.length:=by omega
  have hd:decide ((l.length:Int)<(l.length:Int))=false:=Qh (Qq64 _);rw[bO (r:=(s:Int)) (by simp only[hd,Ql,Qe]),Qq66,ff]
  simp
 |succ k ih=>
  intro i s hi hs;have hlt:i<l.length:=by omega
  have hd:decide ((i:Int)<(l.length:Int))=true:=Qg (by omega)
  have hd2:decide ((i:Int)<(((l.map p).length:Nat):Int))=true:=Qg (by rw[QC];omega)
  have hw:aB .i64 (i:Int) 1=((i+1:Nat):Int):=bG (by omega) (by omega)
  have hx:idx l (i:Int)=some l[i]:=by rw[bd];exact Qv hlt
  have hx2:idx (l.map p) (i:Int)=some (p l[i]):=by rw[bd,QT,Qv hlt];rfl
  rw[QM hlt,ff]
  cases hpe:p l[i]with
  |false=>
   rw[bA (s':=((s:Int),((i+1:Nat):Int),())) (by simp only[hd,hd2,hx,hx2,hw,hpe,Qk,Ql,aR,Qa]),ih (i+1) s (by omega) hs]
   simp
  |true=>
   obtain⟨h0,h1⟩:=hp _ (Q0 hlt) hpe
   have hc:br .u64 l[i].al=l[i].al:=by
    obtain⟨n,hn⟩:∃n:Nat,l[i].al=n:=⟨l[i].al.toNat,by omega⟩
    rw[hn];exact afa (by omega)
   have hn0:¬l[i].al<0:=by omega
   have d1:decide ((0:Int)<=l[i].al)=true:=Qg h0;have d2:decide (l[i].al<=(9:Int))=true:=Qg (by omega)
   rw[bA (s':=(((s|||2 ^ l[i].al.toNat:Nat):Int),((i+1:Nat):Int),())) (by
    simp only[hd,hd2,hx,hx2,hw,hpe,Qk,aR,Qa,d1,d2,hc,hn0,Qu]
    rw[ra hs h0 h1]),ih (i+1) _ (by omega) (B2 hs h1)]
   simp[Nat.or_assoc]
def Va{ρ:Type}(l:List ak)(hl:l.length<=1000)(p q:ak->Bool){step:Int×List Bool×List Bool×Unit->Option ((Int×List Bool×List Bool×Unit)⊕ρ)}{fin:List Bool->List Bool->Option ρ}
  (h1:∀(i:Nat) (e:ak) (vs as_:List Bool),e∈l->decide ((i:Int)<(l.length:Int))=true->idx l (i:Int)=some e->aB .i64 (i:Int) 1=((i+1:Nat):Int)->(∀x:Bool,bg 1 (vs.length+[x].length)=true)->(∀x:Bool,bg 1 (as_.length+[x].length)=true)->step ((i:Int),vs,as_,())=some (.inl (((i+1:Nat):Int),vs++[p e],as_++[q e],())))
  (h2:∀vs as_,decide ((l.length:Int)<(l.length:Int))=false->step ((l.length:Int),vs,as_,())=Option.map inr (fin vs as_)):aE step ((0:Int),[],[],())=fin (l.map p) (l.map q):=by
 suffices key:∀(k i:Nat),i+k=l.length->aE step ((i:Int),(l.take i).map p,(l.take i).map q,())=fin (l.map p) (l.map q)from key l.length 0 (by omega)
 intro k
 induction k with
 |zero=>
  intro i hi;obtain rfl:i=l.length:=by omega
  rw[fg,h2 _ _ (Qh (Qq64 _)),Qq62];cases fin (l.map p) (l.map q)<;>rfl
 |succ k ih=>
  intro i hi;have hlt:i<l.length:=by omega
  rw[bA (h1 i l[i] _ _ (Q0 hlt) (Qg (by omega)) (by rw[bd];exact Qv hlt) (bG (by omega) (by omega)) (λx=>jl (by omega) (by simp;omega)) (λx=>jl (by omega) (by simp;omega))),<-ih (i+1) (by omega),Q7 hlt,List.map_append,List.map_append]
  rfl
def Hp{p:ak->Bool}{l:List ak}:∀e∈l,(bc e&&p e)=true->0<=e.al/\e.al<10:=λe _ h=>by rw[Qm]at h;exact kG h.1
section
variable {l : List ak} (hl : ∀ e ∈ l, cQ e.aa) (hlen : l.length <= 1000)
 include hl hlen
theorem Tm(b:ah):wV l b=some (((ff (λe=>s6 e b||eC e b) (c8 l):Nat):Int),((ff (eC · b) (c8 l):Nat):Int),()):=by
 unfold wV;refine(Va l hlen (λe=>bc e&&(s6 e b||eC e b)) (λe=>bc e&&eC e b) (fin:=λvs as_=>Option.bind (gu l vs) λr6=>Option.bind (gu l as_) λr7=>some (r6,r7,())) (λi e vs as_ he hd hx hw o1 o2=> ?_) (λvs as_ hd=> ?_)).trans ?_
 ·simp only[hd,hx,hw,Qk,Qa,etas,Vw (hl e he),ZA (hl e he),kY,o1,o2];cases bc e<;>cases s6 e b<;>cases eC e b<;>rfl
 ·simp only[hd,Ql]
 ·rw[BW l hlen _ Hp,BW l hlen _ Hp,Qa,Qa,xX,xX]
theorem Tl(v:ByteArray)(lo hi:Int):wS l v lo hi=some (((ff (λe=>vP e v lo hi||iM e v lo hi) (c8 l):Nat):Int),((ff (iM · v lo hi) (c8 l):Nat):Int),()):=by
 unfold wS;refine(Va l hlen (λe=>bc e&&(vP e v lo hi||iM e v lo hi)) (λe=>bc e&&iM e v lo hi) (fin:=λvs as_=>Option.bind (gu l vs) λr6=>Option.bind (gu l as_) λr7=>some (r6,r7,())) (λi e vs as_ he hd hx hw o1 o2=> ?_) (λvs as_ hd=> ?_)).trans ?_
 ·simp only[hd,hx,hw,Qk,Qa,etas,Vx (hl e he),ZB (hl e he),kY,o1,o2];cases bc e<;>cases vP e v lo hi<;>cases iM e v lo hi<;>rfl
 ·simp only[hd,Ql]
 ·rw[BW l hlen _ Hp,BW l hlen _ Hp,Qa,Qa,xX,xX]
end
def w8{c:bf}(hc:Bi c){v a b:Nat}(hv:v<10)(h1:a<1024)(h2:b<1024):ou c v a b=some (rS c.bn v a b):=by
 unfold ou rS;have h3:a|||b<1024:=Nat.or_lt_two_pow (n:=10) h1 h2
 rw[yd h1,yd h2,OM hc h2,GJ a b (by omega) (by omega),Ee hc h3]
 simp[uq (Il hc h3).lt,ze,hv]
def vx{c:bf}(hc:Bi c){v b:Nat}(hv:v<10)(h2:b<1024):ik c v b=some ((gq c.bn b).testBit v):=by unfold ik;rw[Ee hc h2];simp[uq (Il hc h2).lt,ze,hv]
end
section
def Ou{c:bf}{aF:Int}{l:List ak}(hlen:l.length<=100000)(b:ah):il ⟨aF,c,(c8 l).map bK.mk⟩ b=iR c aF ((ff (λe=>s6 e b||eC e b) (c8 l):Nat):Int) ((ff (eC · b) (c8 l):Nat):Int):=by have hrl:=Dt l;have hin:=nC l;simp only[il,pc,lj,Qa,Option.bind_fun_some,aaM (by omega:(c8 l).length<=1000000) hin,MY (by omega:(c8 l).length<=1000000) hin]
def Nd{c:bf}{aF:Int}{l:List ak}(hlen:l.length<=100000)(b:ah):fB ⟨aF,c,(c8 l).map bK.mk⟩ b=fq c aF ((ff (eC · b) (c8 l):Nat):Int):=by have hrl:=Dt l;have hin:=nC l;simp only[fB,Qa,Option.bind_fun_some,MY (by omega:(c8 l).length<=1000000) hin]
def aba(b:ah):mS b=some (rl b):=by unfold mS rl;simp only[aR,D3,BK]
def Dy(x:ah->Bool)(p q:ah)(v:ByteArray)(b:ah):Bool:=(decide (v=gw)||decide (b.Value=v))&& !et (rl p) (rl q) b&&x b
def DG(y:ah->Bool)(a b:ah):Bool:=bC a b&&decide (b.ai<=1000)&&y b
section
variable {aF : Int} {t : aj} {l : List ak} (hl : tw l) (hlen : l.length <= 1000) {c : bf} {x y : ah -> Bool}
 include hl hlen
theorem af8(hL:fW aF t l=some ⟨aF,c,(c8 l).map bK.mk⟩)(hx:∀b,il ⟨aF,c,(c8 l).map bK.mk⟩ b=some (x b))(p q:ah)(v:ByteArray):pY aF t l p q v=some (((fj l).find? (Dy x p q v)).getD IT):=by
 obtain⟨h1,_,h3,_⟩:=pM hl.aN hlen;unfold pY;simp only[etas,hL,h1,Qa];refine DH (fj l) (by omega) (λi=>(i,ah.mk (0:Int) bE,())) (Dy x p q v) IT (λi b hd hx' hw=> ?_) (λhd=> ?_)
 ·simp only[hd,hx',hw,Qk,aR,Qa,aam,tU,hx];unfold Dy gw;cases decide (v=bE)<;>cases decide (b.Value=v)<;>cases et (rl p) (rl q) b<;>cases x b<;>simp
 ·simp only[hd,Ql,Qe];rfl
theorem ac0(hx:∀b,sk aF t l b=some (x b))(p q:ah)(v:ByteArray):tG aF t l p q v=some (((fj l).find? (Dy x p q v)).getD IT):=by
 obtain⟨h1,_,h3,_⟩:=pM hl.aN hlen;unfold tG;simp only[etas,MC hl.aN hlen,Qa];refine DH (fj l) (by omega) (λi=>(i,ah.mk (0:Int) bE,())) (Dy x p q v) IT (λi b hd hx' hw=> ?_) (λhd=> ?_)
 ·simp only[hd,hx',hw,Qk,aR,Qa,aba,vn,hx];unfold Dy gw;cases decide (v=bE)<;>cases decide (b.Value=v)<;>cases et (rl p) (rl q) b<;>cases x b<;>simp
 ·simp only[hd,Ql,Qe];rfl
theorem agm(hL:fW aF t l=some ⟨aF,c,(c8 l).map bK.mk⟩)(hy:∀b,fB ⟨aF,c,(c8 l).map bK.mk⟩ b=some (y b))(a:ah):mm aF t l a=some (((fj l).find? (DG y a)).getD IT):=by
 obtain⟨h1,_,h3,_⟩:=pM hl.aN hlen;unfold mm;simp only[etas,hL,h1,Qa];refine DH (fj l) (by omega) (λi=>(i,ah.mk (0:Int) bE,())) (DG y a) IT (λi b hd hx' hw=> ?_) (λhd=> ?_)
 ·simp only[hd,hx',hw,Qk,aR,Qa,ka,pc,hy];unfold DG;cases bC a b<;>cases decide (b.ai<=1000)<;>cases y b<;>simp
 ·simp only[hd,Ql,Qe];rfl
theorem ac1(hy:∀b,qB aF t l b=some (y b))(a:ah):oi aF t l a=some (((fj l).find? (DG y a)).getD IT):=by
 obtain⟨h1,_,h3,_⟩:=pM hl.aN hlen;unfold oi;simp only[etas,MC hl.aN hlen,Qa];refine DH (fj l) (by omega) (λi=>(i,ah.mk (0:Int) bE,())) (DG y a) IT (λi b hd hx' hw=> ?_) (λhd=> ?_)
 ·simp only[hd,hx',hw,Qk,Qa,kv,hy];unfold DG;cases bC a b<;>cases decide (b.ai<=1000)<;>cases y b<;>simp
 ·simp only[hd,Ql,Qe];rfl
end
end
section
def ji{A ρ:Type}(g:A->Int->A⊕ρ)(fin:A->Option ρ):List Int->A->Option ρ
 |[],a=>fin a
 |x::l,a=>match g a x with
  | .inl a'=>ji g fin l a'
  | .inr r=>some r
def Aa{A σ ρ:Type}(b:List Int)(hb:b.length<=1000000)(st:A->Int->σ)(g:A->Int->A⊕ρ)(fin:A->Option ρ){step:σ->Option (σ⊕ρ)}
  (h1:∀(i:Nat) (x:Int) (a:A),idx b (i:Int)=some x->decide ((0:Int)<=(i:Int))=true->cW .i64 (i:Int) 1=(i:Int) - 1->step (st a (i:Int))=some (match g a x with| .inl a'=> .inl (st a' ((i:Int) - 1))| .inr r=> .inr r))
  (h2:∀a,decide ((0:Int)<=(-1:Int))=false->step (st a (-1))=Option.map inr (fin a)):∀n:Nat,n<=b.length->∀a:A,aE step (st a ((n:Int) - 1))=ji g fin (b.take n).reverse a
 |0,_,a=>by
  rw[show((0:Nat):Int) - 1= -1 by omega,fg,h2 a rfl,List.take_zero,List.reverse_nil,ji]
  cases fin a<;>rfl
 |n+1,hn,a=>by
  have hlt:n<b.length:=by omega
  have hs:=h1 n b[n] a (by rw[bd];exact Qv hlt) (Qg (by omega)) (nY (by omega) (by omega))
  rw[show((n+1:Nat):Int) - 1=(n:Int)by omega,Q7 hlt,List.reverse_append,List.reverse_singleton,List.singleton_append,ji]
  cases hg:g a b[n]with
  |inl a'=>rw[hg]at hs;rw[bA hs,Aa b hb st g fin h1 h2 n (by omega) a']
  |inr r=>rw[hg]at hs;rw[bO hs]
def K9(b:List Int)(hb:b.length<=1000000):cW .i64 (b.length:Int) 1=(b.length:Int) - 1:=nY (by omega) (by omega)
def Fm{ρ:Type}(q:Int->Bool)(f:Int->ρ):∀(l:List Int) (lo:Int),ji (λlo x=>if lo<=x then .inl lo else if q x then .inl x else .inr (f lo)) (λlo=>some (f lo)) l lo=some (f (dm q l lo))
 |[],lo=>rfl
 |x::l,lo=>by
  rw[ji,dm]
  by_cases h1:lo<=x
  ·rw[Qr h1,Qr h1];exact Fm q f l lo
  ·rw[Qs h1,Qs h1]
   cases hq:q x with
   |true=>rw[Qr rfl,Qr rfl];exact Fm q f l x
   |false=>rw[Qs (by simp),Qs (by simp)]
def Tr{A ρ:Type}(s:A)(c p:Int->Bool)(f:Int->ρ)(d:ρ)(g:A->Int->A⊕ρ)(fin:A->Option ρ)(hg:∀z,g s z=if c z then(if p z then .inr (f z)else .inl s)else .inr d)(hfin:fin s=some d)(hc:∀a b,b<a->c b=true->c a=true):
  ∀r:List Int,r.Pairwise (λa b=>b<a)->ji g fin r s=some (match r.find? (λn=>c n&&p n)with|some n=>f n|none=>d)
 |[],_=>hfin
 |z::r,h=>by
  rw[ji,hg,List.find?_cons];rw[Q4]at h
  cases hz:c z with
  |false=>
   have:r.find? (λn=>c n&&p n)=none:=by rw[List.find?_eq_none];intro n hn hcn;rw[Qm]at hcn;rw[hc z n (h.1 n hn) hcn.1]at hz;cases hz
   simp[this]
  |true=>
   cases hp:p z with
   |true=>simp
   |false=>simp only[Qt,Bool.true_and];exact Tr s c p f d g fin hg hfin hc r h.2
def OA{ρ:Type}(q:Int->Bool)(f:Int->ρ):∀(r:List Int) (lo:Int),(∀z∈r,z<lo)->r.Pairwise (λa b=>b<a)->ji (λlo z=>if q z then .inl z else .inr (f lo)) (λlo=>some (f lo)) r lo=some (f (dm q r lo))
 |[],lo,_,_=>rfl
 |z::r,lo,h,hs=>by
  rw[Q4]at hs;have hz:=h z (by simp)
  have h0:¬lo<=z:=by omega
  rw[ji,dm,Qs h0]
  cases hq:q z with
  |true=>rw[Qr rfl,Qr rfl];exact OA q f r z hs.1 hs.2
  |false=>rw[Qs (by simp),Qs (by simp)]
def P8{α B ρ:Type}(l:List α)(hl:l.length<=1000000)(f:B->α->B){step:Int×B×Unit->Option ((Int×B×Unit)⊕ρ)}{fin:B->Option ρ}
  (h1:∀(i:Nat) (x:α) (b:B),x∈l->decide ((i:Int)<(l.length:Int))=true->idx l (i:Int)=some x->aB .i64 (i:Int) 1=((i+1:Nat):Int)->step ((i:Int),b,())=some (.inl (((i+1:Nat):Int),f b x,())))
  (h2:∀b,decide ((l.length:Int)<(l.length:Int))=false->step ((l.length:Int),b,())=Option.map inr (fin b)) (b:B):aE step ((0:Int),b,())=fin (l.foldl f b):=by
 suffices key:∀(k i:Nat) (b:B),i+k=l.length->aE step ((i:Int),b,())=fin ((l.drop i).foldl f b)from key l.length 0 b (by omega)
 intro k
 induction k with
 |zero=>
  intro i b hi;obtain rfl:i=l.length:=by omega
  rw[fg,h2 b (Qh (Qq64 _)),Qq66,List.foldl_nil];cases fin b<;>rfl
 |succ k ih=>
  intro i b hi;have hlt:i<l.length:=by omega
  rw[bA (h1 i l[i] b (Q0 hlt) (Qg (by omega)) (by rw[bd];exact Qv hlt) (bG (by omega) (by omega))),ih (i+1) _ (by omega),QM hlt,QU]
def MS(q:Int->Bool):∀(l r:List Int) (lo:Int),(∀x∈l,lo<=x)->dm q (l++r) lo=dm q r lo
 |[],r,lo,_=>rfl
 |x::l,r,lo,h=>by
  rw[List.cons_append,dm,Qr (h x (by simp))]
  exact MS q l r lo λy hy=>h y (by simp[hy])
def Ir(q:Int->Bool):∀(r:List Int) (lo:Int),(∀x∈r,0<=x/\x<=1000000)->0<=lo/\lo<=1000000->0<=dm q r lo/\dm q r lo<=1000000
 |[],lo,_,h=>h
 |x::r,lo,hx,h=>by
  rw[dm];split
  ·exact Ir q r lo (λy hy=>hx y (by simp[hy])) h
  ·split
   ·exact Ir q r x (λy hy=>hx y (by simp[hy])) (hx x (by simp))
   ·exact h
 def fY(x:ByteArray->Int->Int->Bool)(p q:ah)(v:ByteArray)(s:Bool×ah)(n:Int):Bool×ah:=
 if bC s.2 ⟨n,v⟩&& !o0 p q v n&&x v n n then(true,⟨n,v⟩)else s
 def ic(x:ByteArray->Int->Int->Bool)(l:List ak)(p q:ah):Bool×ah:=
 (gF l).foldl (λs v=>(bw l v).foldl (fY x p q v) s) (false,⟨0,gw⟩)
 def rR(x:ByteArray->Int->Int->Bool)(l:List ak)(p q:ah)(s:Bool×ah):ByteArray×Int×Int×Bool×Unit:=
 if s.1 then(s.2.Value,dm (λn=> !o0 p q s.2.Value n&&x s.2.Value n s.2.ai) (bw l s.2.Value).reverse s.2.ai,s.2.ai,true,())else(gw,0,0,false,())
section
variable {S : gN} {x y : ByteArray -> Int -> Int -> Bool} (hx : ∀ v lo hi, iG S v lo hi = some (x v lo hi)) (hy : ∀ v lo hi, oQ S v lo hi = some (y v lo hi))
section
 include hx
theorem adV(b:List Int)(lo:Int)(p q z:ah):kx b lo p q z S=some (dm (λn=> !o0 p q z.Value n&&x z.Value n z.ai) b.reverse lo):=by
 have:=D2 (p:=λe=>oC e p q z S) (q:=λn=> !o0 p q z.Value n&&x z.Value n z.ai) (λe=>by
  simp only[oC,RC,hx,Qa,kY]
  cases o0 p q z.Value e<;>simp) b.reverse lo
 simp only[kx,cq,aR,Qa];exact this
theorem adU(b:List Int)(lo:Int)(v:ByteArray)(hi:Int):kO b lo S v hi=some (dm (λz=>x v z hi) b.reverse lo):=by
 have:=D2 (p:=λe=>s5 e S v hi) (q:=λz=>x v z hi) (λe=>by simp only[s5,hx,Qa]) b.reverse lo
 simp only[kO,cq,aR,Qa];exact this
theorem WK(b:List Int)(lo:Int)(v:ByteArray)(hi:Int):iH b lo S v hi=some (dm (λz=>x v z hi) b.reverse lo):=by
 have:=D2 (p:=λe=>s4 e S v hi) (q:=λz=>x v z hi) (λe=>by simp only[s4,hx,Qa]) b.reverse lo
 simp only[iH,cq,aR,Qa];exact this
theorem T6(b:List Int)(v:ByteArray)(low cn:Int)(hb:∀x∈b,0<=x/\x<=1000000):∀r:List Int,(∀x∈r,x∈b)->ob (D1 S b v) (ab7 S b v) r (low,cn,())=
  some (match r.find? (λn=>decide (cn<n)&&x v n n)with
   |none=>(dm (λz=>x v z cn) b.reverse low,cn,())
   |some n=>(dm (λz=>x v z n) b.reverse (if cn<dm (λz=>x v z n) b.reverse n - 1\/dm (λz=>x v z n) b.reverse n<low then dm (λz=>x v z n) b.reverse n else low),n,()))
 |[],_=>by simp only[ob,ab7,WK hx,Qa,List.find?_nil]
 |e::r,hr=>by
  have ih:=T6 b v low cn hb r (λx hx=>hr x (by simp[hx]))
  rw[List.find?_cons,ob]
  by_cases hle:e<=cn
  ·have h2:decide (cn<e)=false:=Qh (by omega)
   have h1:decide (e<=cn)=true:=Qg hle;have hst:D1 S b v r.length e (low,cn,())=some (.inl (low,cn,())):=by simp only[D1,h1,Qk,Qa]
   rw[hst,h2,Bool.false_and];exact ih
  ·have h2:decide (cn<e)=true:=Qg (by omega)
   have h1:decide (e<=cn)=false:=Qh hle;rw[h2,Bool.true_and]
   cases hr':x v e e with
   |false=>
    have hst:D1 S b v r.length e (low,cn,())=some (.inl (low,cn,())):=by simp only[D1,h1,Ql,hx,hr',Qp,Qa,Qk]
    rw[hst];exact ih
   |true=>
    have hb9:=Ir (λz=>x v z e) b.reverse e (λz hz=>hb z (by simpa using hz)) (hb e (hr e (by simp)))
    simp only[D1,h1,Ql,hx,hr',Qo,adU hx,WK hx,Qa,aR,kY,Bool.cond_true_left,Qe];generalize dm (λz=>x v z e) b.reverse e=bt at*
    have e3:cW .i64 bt 1=bt - 1:=nY (by omega) (by omega)
    rw[e3]
    by_cases hc:cn<bt - 1\/bt<low
    ·have:(decide (cn<bt - 1)||decide (bt<low))=true:=by rw[Qn];simpa using hc
     rw[this,Qr hc];rfl
    ·have:(decide (cn<bt - 1)||decide (bt<low))=false:=by
      rw[<-QX,Qn];simpa using hc
     rw[this,Qs hc];rfl
end
section
 include hy
theorem agH(b:List Int)(lo:Int)(v:ByteArray)(hi:Int):kN b lo S v hi=some (dm (λz=>y v z hi) b.reverse lo):=by
 have:=D2 (p:=λe=>uG e S v hi) (q:=λz=>y v z hi) (λe=>by simp only[uG,hy,Qa]) b.reverse lo
 simp only[kN,cq,aR,Qa];exact this
end
variable {aF : Int} {t : aj} {l : List ak} (hl : tw l) (hlen : l.length <= 1000) (hL : fW aF t l = some S)
 include hl hlen hL
section
 include hx
theorem aiQ(p q:ah):tP aF t l p q=some (rR x l p q (ic x l p q)):=by
 obtain⟨h1,_,h3,_⟩:=w5 hl.aN hlen;unfold tP;simp only[etas,hL,h1,Qa];refine(P9 (gF l) (by omega) (λs v=>(bw l v).foldl (fY x p q v) s) (fin:=λs=>some (rR x l p q s)) (λi v a b hv hd hx' hw=> ?_) (λa b hd=> ?_) false ⟨0,bE⟩)
 ·obtain⟨g1,_,g3,_⟩:=jH hl.aN hlen v;simp only[hd,hx',hw,Qk,Qa,g1];refine(P9 (bw l v) (by omega) (fY x p q v) (fin:=λs=>some (inl (s.1,((i+1:Nat):Int),s.2,()))) (λi' n a' b' hv' hd' hx'' hw'=> ?_) (λa' b' hd'=> ?_) a b)
  ·simp only[hd',hx'',hw',Qk,aR,Qa,ka,RC,hx,kY];unfold fY;cases bC b' ⟨n,v⟩<;>cases o0 p q v n<;>cases x v n n<;>simp
  ·simp only[hd',Ql]
 ·simp only[hd,Ql];obtain⟨g1,_,g3,_⟩:=jH hl.aN hlen b.Value;unfold rR;cases a
  ·rfl
  ·simp only[Qo,Ql,g1,Qa,adV hx,Qt]
theorem ahg(v:ByteArray)(low cn:Int):sx aF t l v low cn=some ((Gk (bw l v) (x v) low cn).1,(Gk (bw l v) (x v) low cn).2,()):=by
 obtain⟨h1,_,_,_⟩:=jH hl.aN hlen v;have hin:=FM hl hlen v;unfold sx;simp only[etas,hL,h1,Qa,cq];refine(T6 hx (bw l v) v low cn (λx hx=>by have:=hin x hx;omega) (bw l v).reverse (by simp)).trans ?_
 unfold Gk;cases (bw l v).reverse.find? (λn=>decide (cn<n)&&x v n n)<;>rfl
end
section
 include hy
theorem aiR(v:ByteArray):tQ aF t l v=some (EI (bw l v) (y v)):=by
 obtain⟨h1,_,_,_⟩:=jH hl.aN hlen v
 have:=YU (p:=λe=>oQ S v e e) (q:=λe=>y v e e) (d:=λe=>kN (bw l v) e S v e) (f:=λe=>dm (λz=>y v z e) (bw l v).reverse e)
  (λe=>hy v e e) (λe=>agH hy (bw l v) e v e) (bw l v).reverse
 simp only[tQ,etas,hL,h1,cq,Qa,EI];exact this
end
end
 def Fh(x:ByteArray->Int->Int->Bool)(p q:ah)(v:ByteArray)(s:ah)(n:Int):ah:=if bC s ⟨n,v⟩&& !o0 p q v n&&x v n n then⟨n,v⟩else s
def Xf{x:ByteArray->Int->Int->Bool}{p q:ah}(v:ByteArray):∀(b:List Int),(∀n∈b,1<=n)->∀s:Bool×ah,s.1= !aP s.2->
  (b.foldl (fY x p q v) s).2=b.foldl (Fh x p q v) s.2/\(b.foldl (fY x p q v) s).1= !aP (b.foldl (fY x p q v) s).2
 |[],_,s,h=>⟨rfl,h⟩
 |n::b,hb,s,h=>by
  rw[QU,QU];have hn:=hb n (by simp)
  have h1:(fY x p q v s n).2=Fh x p q v s.2 n:=by unfold fY Fh;split<;>rfl
  have h2:(fY x p q v s n).1= !aP (fY x p q v s n).2:=by
   unfold fY;split
   ·have:decide (n=0)=false:=Qh (by omega)
    simp[aP,this]
   ·exact h
  rw[<-h1];exact Xf v b (λn hn=>hb n (by simp[hn])) _ h2
def Xg{x:ByteArray->Int->Int->Bool}{p q:ah}{l:List ak}(hl:tw l)(hlen:l.length<=1000):∀(vs:List ByteArray) (s:Bool×ah),s.1= !aP s.2->
  (vs.foldl (λs v=>(bw l v).foldl (fY x p q v) s) s).2=vs.foldl (λs v=>(bw l v).foldl (Fh x p q v) s) s.2/\(vs.foldl (λs v=>(bw l v).foldl (fY x p q v) s) s).1= !aP (vs.foldl (λs v=>(bw l v).foldl (fY x p q v) s) s).2
 |[],s,h=>⟨rfl,h⟩
 |v::vs,s,h=>by
  rw[QU,QU];obtain⟨h1,h2⟩:=Xf (x:=x) (p:=p) (q:=q) v (bw l v) (λn hn=>(FM hl hlen v n hn).1) s h
  rw[<-h1];exact Xg hl hlen vs _ h2
section
variable {aF : Int} {t : aj} {l : List ak} (hl : tw l) (hlen : l.length <= 1000) {x y : ByteArray -> Int -> Int -> Bool} (hx : ∀ v lo hi, ku aF t l v lo hi = some (x v lo hi)) (hy : ∀ v lo hi, mR aF t l v lo hi = some (y v lo hi))
 include hl hlen
section
 include hx
theorem ac7(v:ByteArray)(lo hi:Int):wU aF t l v lo hi=some (dm (λz=>x v z hi) (bw l v).reverse lo):=by
 obtain⟨_,_,h3,_⟩:=jH hl.aN hlen v;unfold wU;simp only[etas,zZ hl.aN hlen,Qa,K9 _ (by omega:(bw l v).length<=1000000),aR]
 refine(Aa (bw l v) (by omega) (λlo i=>(lo,i,())) (λlo z=>if lo<=z then .inl lo else if x v z hi then .inl z else .inr lo) (λlo=>some lo) (λi z a hi' hd hs=> ?_) (λa hd=> ?_) (bw l v).length (QI _) lo).trans ?_
 ·simp only[hi',hd,hs,Qk,Qa,hx]
  by_cases h1:a<=z
  ·simp[h1]
  ·cases x v z hi<;>simp[h1]
 ·simp only[hd,Ql]
 ·rw[Qq62];exact Fm (λz=>x v z hi) (λlo=>lo) _ _
theorem adi(v:ByteArray)(low cn:Int):pU aF t l v low cn=some ((Gk (bw l v) (x v) low cn).1,(Gk (bw l v) (x v) low cn).2,()):=by
 obtain⟨_,h2,h3,_⟩:=jH hl.aN hlen v;have hin:=FM hl hlen v;unfold pU;simp only[etas,zZ hl.aN hlen,ac7 hl hlen hx,Qa,K9 _ (by omega:(bw l v).length<=1000000),aR]
 refine(Aa (bw l v) (by omega) (λ(s:Int×Int) i=>(s.1,s.2,i,()))
  (λs z=>if s.2<z then(if x v z z then .inr (dm (λw=>x v w z) (bw l v).reverse (if s.2<dm (λw=>x v w z) (bw l v).reverse z - 1\/dm (λw=>x v w z) (bw l v).reverse z<s.1 then dm (λw=>x v w z) (bw l v).reverse z else s.1),z,())else .inl s)
   else .inr (dm (λw=>x v w s.2) (bw l v).reverse s.1,s.2,()))
  (λs=>some (dm (λw=>x v w s.2) (bw l v).reverse s.1,s.2,())) (λi z s hi' hd hs=> ?_) (λs hd=> ?_) (bw l v).length (QI _) (low,cn)).trans ?_
 ·have hz:z∈bw l v:=by rw[bd]at hi';exact Q8 hi'
  have hb9:=Ir (λw=>x v w z) (bw l v).reverse z (λw hw=>by have:=hin w (by simpa using hw);omega) (by have:=hin z hz;omega)
  simp only[hi',hd,hs,Qk,Qa,hx]
  by_cases h1:s.2<z
  ·simp only[h1,decide_true,Qk,Qt]
   cases hxz:x v z z with
   |false=>simp
   |true=>
    generalize dm (λw=>x v w z) (bw l v).reverse z=bt at*
    have e3:cW .i64 bt 1=bt - 1:=nY (by omega) (by omega)
    simp only[Qo,Ql,e3,Qt]
    by_cases h4:s.2<bt - 1
    ·simp[h4]
    ·by_cases h5:bt<s.1
     ·simp[h4,h5,dt]
     ·simp[h4,h5,dt]
  ·simp[h1]
 ·simp only[hd,Ql,Qa]
 ·rw[Qq62]
  refine(Tr (low,cn) (λz=>decide (cn<z)) (λz=>x v z z) (λz=>(dm (λw=>x v w z) (bw l v).reverse (if cn<dm (λw=>x v w z) (bw l v).reverse z - 1\/dm (λw=>x v w z) (bw l v).reverse z<low then dm (λw=>x v w z) (bw l v).reverse z else low),z,()))
   (dm (λw=>x v w cn) (bw l v).reverse low,cn,()) _ _ (λz=> ?_) rfl (λa b h h'=> ?_) _ (List.pairwise_reverse.2 h2)).trans ?_
  ·by_cases h4:cn<z<;>simp[h4]
  ·simp only[Qi]at h' ⊢;omega
  ·unfold Gk;cases (bw l v).reverse.find? (λn=>decide (cn<n)&&x v n n)<;>rfl
 omit hl hlen hx in
theorem YT(p q:ah)(n:Int)(v:ByteArray):wT p q n v=some (!o0 p q v n):=by simp only[wT,Dl,Qa,o0];cases eQ p ⟨n,v⟩<;>cases eQ q ⟨n,v⟩<;>rfl
theorem afH(p q:ah):rA aF t l p q=some (rR x l p q (ic x l p q)):=by
 obtain⟨_,_,h3,_⟩:=w5 hl.aN hlen;obtain⟨e1,e2⟩:=Xg (x:=x) (p:=p) (q:=q) hl hlen (gF l) (false,⟨0,gw⟩) rfl;unfold rA;simp only[etas,ZC hl.aN hlen,Qa];refine(P8 (gF l) (by omega) (λs v=>(bw l v).foldl (Fh x p q v) s) (fin:=λs=>some (rR x l p q (!aP s,s))) (λi v b hv hd hx' hw=> ?_) (λb hd=> ?_) ⟨0,bE⟩).trans ?_
 ·obtain⟨_,_,g3,_⟩:=jH hl.aN hlen v;simp only[hd,hx',hw,Qk,Qa,zZ hl.aN hlen];refine(P8 (bw l v) (by omega) (Fh x p q v) (fin:=λs=>some (inl (((i+1:Nat):Int),s,()))) (λi' n b' hv' hd' hx'' hw'=> ?_) (λb' hd'=> ?_) b)
  ·simp only[hd',hx'',hw',Qk,aR,Qa,kv,YT,hx,kY];unfold Fh;cases bC b' ⟨n,v⟩<;>cases o0 p q v n<;>cases x v n n<;>simp
  ·simp only[hd',Ql]
 ·obtain⟨_,_,g3,_⟩:=jH hl.aN hlen b.Value;simp only[hd,Ql,df,Qa];unfold rR
  cases aP b with
  |true=>rfl
  |false=>
   simp only[Qp,Qt,Ql,zZ hl.aN hlen,Qa,aR,K9 _ (by omega:(bw l b.Value).length<=1000000)]
   refine congrArg (Option.map inr) ((Aa (bw l b.Value) (by omega) (λlo i=>(lo,i,())) (λlo z=>if lo<=z then .inl lo else if !o0 p q b.Value z&&x b.Value z b.ai then .inl z else .inr (b.Value,lo,b.ai,true,())) (λlo=>some (b.Value,lo,b.ai,true,())) (λi z a hi' hd hs=> ?_) (λa hd=> ?_) (bw l b.Value).length (QI _) b.ai).trans ?_)
   ·simp only[hi',hd,hs,Qk,Qa,hx,YT]
    by_cases h1:a<=z
    ·simp[h1]
    ·cases o0 p q b.Value z<;>cases x b.Value z b.ai<;>simp[h1]
   ·simp only[hd,Ql]
   ·rw[Qq62];exact Fm (λz=> !o0 p q b.Value z&&x b.Value z b.ai) (λlo=>(b.Value,lo,b.ai,true,())) _ _
 ·unfold ic;rw[show(gF l).foldl (λs v=>(bw l v).foldl (Fh x p q v) s) ⟨0,bE⟩=((gF l).foldl (λs v=>(bw l v).foldl (fY x p q v) s) (false,⟨0,gw⟩)).2 from e1.symm,<-e2]
end
section
 include hy
theorem afJ(v:ByteArray):rB aF t l v=some (EI (bw l v) (y v)):=by
 obtain⟨_,h2,h3,_⟩:=jH hl.aN hlen v;unfold rB;simp only[etas,zZ hl.aN hlen,Qa,K9 _ (by omega:(bw l v).length<=1000000),aR]
 unfold EI;generalize bw l v=b at*
 suffices key:∀n:Nat,n<=b.length->aE _ (((n:Nat):Int) - 1,())=some (match(b.take n).reverse.find? (λe=>y v e e)with|some e=>(dm (λz=>y v z e) b.reverse e,e,true,())|none=>(0,0,false,()))by have:=key b.length (QI _);rw[Qq62]at this;exact this
 intro n
 induction n with
 |zero=>
  intro _;rw[show((0:Nat):Int) - 1= -1 by omega]
  have hd:decide ((0:Int)<= -1)=false:=rfl;exact bO (by simp only[hd,Ql,Qe,List.take_zero,List.reverse_nil,List.find?_nil])
 |succ n ih=>
  intro hn;have hlt:n<b.length:=by omega
  have hxn:idx b (n:Int)=some b[n]:=by rw[bd];exact Qv hlt
  have hd:decide ((0:Int)<=(n:Int))=true:=Qg (by omega)
  have hs:cW .i64 (n:Int) 1=(n:Int) - 1:=nY (by omega) (by omega)
  rw[show((n+1:Nat):Int) - 1=(n:Int)by omega,Q7 hlt,List.reverse_append,List.reverse_singleton,List.singleton_append,List.find?_cons]
  cases hyn:y v b[n] b[n]with
  |false=>
   rw[bA (s':=((n:Int) - 1,())) (by simp only[hd,hxn,hs,hy,hyn,Qk,Qa,Qp])]
   exact ih (by omega)
  |true=>
   have hb:b=b.take n++b[n]::b.drop (n+1):=by rw[<-QM hlt,List.take_append_drop]
   have hp:(b.take n++b[n]::b.drop (n+1)).Pairwise (·<·):=hb▸h2;rw[Qq69,Q4]at hp;obtain⟨p1,⟨p2,p3⟩,p4⟩:=hp;refine bO ?_;simp only[hd,hxn,hs,hy,hyn,Qk,Ql,Qa,Qo];refine(Aa b (by omega) (λlo i=>(lo,i,())) (λlo z=>if y v z b[n]then .inl z else .inr (.inr (lo,b[n],true,()))) (λlo=>some (.inr (lo,b[n],true,()))) (λi z a hi' hd' hs'=> ?_) (λa hd'=> ?_) n (by omega) b[n]).trans ?_
   ·simp only[hi',hd',hs',Qk,Qa];cases y v z b[n]<;>simp
   ·simp only[hd',Ql,Qe]
   ·rw[OA (λz=>y v z b[n]) (λlo=>inr (lo,b[n],true,())) _ _ (λz hz=>p4 z (List.mem_reverse.1 hz) _ (Qx ..)) (List.pairwise_reverse.2 p1)]
    have:dm (λz=>y v z b[n]) b.reverse b[n]=dm (λz=>y v z b[n]) (b.take n).reverse b[n]:=by
     have hr:b.reverse=((b.drop (n+1)).reverse++[b[n]])++(b.take n).reverse:=by rw[<-List.reverse_cons,<-List.reverse_append,<-hb]
     rw[hr];refine MS _ _ _ _ λz hz=> ?_
     rw[Qz,List.mem_reverse,Q5]at hz;rcases hz with hz|rfl
     ·exact Int.le_of_lt (p2 z hz)
     ·exact Int.le_refl _
    rw[this]
end
end
end
section
section
variable {aF : Nat} (hn : aF < 10) {t : aj} (ht : cQ t) {l : List ak} (hl : tw l) (hlen : l.length <= 1000)
 include hn ht hl hlen
theorem ahM(b:ah):sk aF t l b=some (pL aF t l b):=by have hin:=nC l;have hsm:=oE (aF:=aF) ht hl;simp only[sk,etas,Tm hl.aN hlen,Bq hn hl,Qa,w8 hsm hn (mM hin) (mM hin)];rfl
theorem afK(b:ah):qB aF t l b=some (nD aF t l b):=by have hin:=nC l;have hsm:=oE (aF:=aF) ht hl;simp only[qB,etas,Tm hl.aN hlen,Bq hn hl,Qa,vx hsm hn (mM hin)];rfl
theorem ah0(b:ah):il ⟨aF,⟨kP aF t l⟩,(c8 l).map bK.mk⟩ b=some (pL aF t l b):=by have hin:=nC l;have hsm:=oE (aF:=aF) ht hl;rw[Ou hl.len,C2 hsm hn (mM hin) (mM hin)];rfl
theorem af0(b:ah):fB ⟨aF,⟨kP aF t l⟩,(c8 l).map bK.mk⟩ b=some (nD aF t l b):=by
 have hin:=nC l;have hsm:=oE (aF:=aF) ht hl;rw[Nd hl.len,BL hsm hn (mM hin)];rfl
 def kg(aF:Nat)(t:aj)(l:List ak)(p q:ah)(v:ByteArray):ah:=((fj l).find? (Dy (pL aF t l) p q v)).getD IT
 def Aw(aF:Nat)(t:aj)(l:List ak)(a:ah):ah:=((fj l).find? (DG (nD aF t l) a)).getD IT
theorem afD(p q:ah)(v:ByteArray):tG aF t l p q v=some (kg aF t l p q v):=ac0 hl hlen (ahM hn ht hl hlen) p q v
theorem afF(a:ah):oi aF t l a=some (Aw aF t l a):=ac1 hl hlen (afK hn ht hl hlen) a
theorem afX(p q:ah)(v:ByteArray):pY aF t l p q v=some (kg aF t l p q v):=af8 hl hlen (S9 hn ht hl) (ah0 hn ht hl hlen) p q v
theorem afY(a:ah):mm aF t l a=some (Aw aF t l a):=agm hl hlen (S9 hn ht hl) (af0 hn ht hl hlen) a
end
end
end Go.Proofs.YtofedieniojipaaGreat
end
