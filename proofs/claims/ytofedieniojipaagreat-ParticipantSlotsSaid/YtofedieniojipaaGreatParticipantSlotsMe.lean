/-
  Texts made small by a program (see NOTES). Conditions: those that each theorem names.
-/
import Derived.Test.YtofedieniojipaaGreatParticipantSlotsMd
set_option linter.unusedVariables false
set_option linter.defProp false
set_option linter.unusedSimpArgs false
set_option linter.unusedSectionVars false
set_option maxHeartbeats 2000000
noncomputable section
namespace Go.TQ
@[simp] theorem aS {σ ρ:Type} (j:σ->Option ρ) (f:(σ->Option ρ)->Option ρ):aY j f=f j:=rfl
@[simp] def ib {α:Type} (b:Bool) (x y:α):(bif b then some x else some y)=some (bif b then x else y):=by cases b<;>rfl
@[simp] def ako {α:Type} (b:Bool) (x:α):(bif b then x else x)=x:=by cases b<;>rfl
def DC{α:Type}(p:Prop)[Decidable p](x y:α):(bif decide p then x else y)=if p then x else y:=by
 by_cases h:p<;>simp[h]
def Bj{α:Type}(p:Prop)[Decidable p](x y:α):(if p then some x else some y)=some (if p then x else y):=by split<;>rfl
@[simp] def GO {α:Type} (b:Bool) (x y:α):(bif !b then x else y)=bif b then y else x:=by cases b<;>rfl
@[simp] def Cf (a b:Int) (s t:ByteArray):mj false a b s t=(decide (a=b)&&decide (s=t)):=by simp[mj]
@[simp] def ads (a b:Int) (s t:ByteArray):mj true a b s t= !(decide (a=b)&&decide (s=t)):=by simp[mj]
def Yd{α:Type}(o:Option α)(p:α->Prop):Prop:=∃x,o=some x/\p x
def Yd.bind{α β:Type}{o:Option α}{p:α->Prop}{f:α->Option β}{q:β->Prop}(h:Yd o p)(k:∀x,p x->Yd (f x) q):Yd (o.bind f) q:=by
 obtain⟨x,rfl,hx⟩:=h;exact k x hx
def Yd.mono{α:Type}{o:Option α}{p q:α->Prop}(h:Yd o p)(k:∀x,p x->q x):Yd o q:=by
 obtain⟨x,h1,hx⟩:=h;exact⟨x,h1,k x hx⟩
theorem Yd.some{α:Type}{x:α}{p:α->Prop}(h:p x):Yd (Option.some x) p:=⟨x,rfl,h⟩
def Yd.of_eq{α:Type}{o:Option α}{x:α}{p:α->Prop}(h:o=Option.some x)(hp:p x):Yd o p:=⟨x,h,hp⟩
def Yd.cond{α:Type}{b:Bool}{x y:Option α}{p:α->Prop}(h1:b=true->Yd x p)(h2:b=false->Yd y p):Yd (bif b then x else y) p:=by
 cases b
 ·exact h2 rfl
 ·exact h1 rfl
def Yd.map{α β:Type}{o:Option α}{f:α->β}{p:β->Prop}(h:Yd o λx=>p (f x)):Yd (o.map f) p:=by
 obtain⟨x,rfl,hx⟩:=h;exact⟨f x,rfl,hx⟩
def Yd.eq_true{o:Option Bool}(h:Yd o (·=true)):o=Option.some true:=by
 obtain⟨x,h1,rfl⟩:=h;exact h1
def wrap64{n:Int}(h1: -9223372036854775808<=n)(h2:n<=9223372036854775807):IntKind.i64.wrap n=n:=i64_in h1 h2
theorem bH{a b:Int}(h1: -9223372036854775808<=a+b)(h2:a+b<=9223372036854775807):aA .i64 a b=a+b:=wrap64 h1 h2
theorem nT{a b:Int}(h1: -9223372036854775808<=a - b)(h2:a - b<=9223372036854775807):cQ .i64 a b=a - b:=wrap64 h1 h2
theorem bf{α:Type}(l:List α)(i:Nat):idx l (i:Int)=l[i]?:=by simp[idx]
theorem Pr{α:Type}(l:List α){n:Int}(h:0<=n):idx l n=l[n.toNat]?:=by simp[idx,h]
@[simp] def aie (n:Nat) (h:n<256):br .i64 (n:Int)=n:=wrap64 (by omega) (by omega)
@[simp] theorem bC {bytes n:Nat} (h:n*bytes<=140737488355328/\n<=1000000):bl bytes n=true:=by
 simp only[bl,Qm,Qi];exact⟨h.1,QK h.2 (by simp[maxLen])⟩
def vN(a:Nat)(h:a<2 ^ 62):(BitVec.ofInt 64 (a:Int)).toNat=a:=by
 grind
def DE(n:Nat)(h:n<2 ^ 62):IntKind.i64.wrap (n:Int)=n:=wrap64 (by omega) (by omega)
def Eu(a b:Nat)(ha:a<2 ^ 62)(hb:b<2 ^ 62):F1 .i64 (a:Int) (b:Int)=((a&&&b:Nat):Int):=by
 show IntKind.i64.wrap (((BitVec.ofInt 64 (a:Int)&&&BitVec.ofInt 64 (b:Int)).toNat:Nat):Int)=_;rw[BitVec.toNat_and,vN a ha,vN b hb];exact DE _ (Nat.lt_of_le_of_lt Nat.and_le_left ha)
def Gl(a b:Nat)(ha:a<2 ^ 62)(hb:b<2 ^ 62):sx .i64 (a:Int) (b:Int)=((a|||b:Nat):Int):=by
 show IntKind.i64.wrap (((BitVec.ofInt 64 (a:Int)|||BitVec.ofInt 64 (b:Int)).toNat:Nat):Int)=_
 rw[BitVec.toNat_or,vN a ha,vN b hb];exact DE _ (Nat.or_lt_two_pow ha hb)
def agF(s k:Nat):s&&&2 ^ k=if s.testBit k then 2 ^ k else 0:=by
 refine Nat.eq_of_testBit_eq λi=> ?_
 grind
theorem ym(k:Nat)(h:k<=60):bW .i64 1 (k:Int)=((2 ^ k:Nat):Int):=by
 show IntKind.i64.wrap (1*2 ^ min (k:Int).toNat 64)=_;rw[QV,show min k 64=k from Nat.min_eq_left (by omega),Int.one_mul]
 have:=DE (2 ^ k) (Nat.pow_lt_pow_right (by omega) (by omega))
 simpa using this
def acu(a k:Nat)(h:k<=60):jH .i64 (a:Int) (k:Int)=((a>>>k:Nat):Int):=by
 show(a:Int).fdiv (2 ^ min (k:Int).toNat 64)=_;rw[QV,show min k 64=k from Nat.min_eq_left (by omega),Nat.shiftRight_eq_div_pow]
 grind
theorem bM{σ ρ:Type}{step:σ->Option (σ⊕ρ)}{s:σ}{r:ρ}(h:step s=some (.inr r)):aD step s=some r:=by rw[ff,h]
def bw{σ ρ:Type}{step:σ->Option (σ⊕ρ)}{s s':σ}(h:step s=some (.inl s')):aD step s=aD step s':=by rw[ff,h]
def OT{σ ρ:Type}{step:σ->Option (σ⊕ρ)}{s:σ}(h:step s=none):aD step s=none:=by rw[ff,h]
def Yd.loop{σ ρ:Type}{step:σ->Option (σ⊕ρ)}{s:σ}{p:ρ->Prop}(h:Yd (step s) λy=>match y with| .inl s'=>Yd (aD step s') p| .inr r=>p r):Yd (aD step s) p:=by
 obtain⟨y,h1,h2⟩:=h
 cases y with
 |inl s'=>rw[bw h1];exact h2
 |inr r=>exact⟨r,bM h1,h2⟩
def Yd.join{σ ρ:Type}{j:σ->Option ρ}{f:(σ->Option ρ)->Option ρ}{p:ρ->Prop}(inv:σ->Prop)(h1:∀v,inv v->Yd (j v) p)(h2:∀j':σ->Option ρ,(∀v,inv v->Yd (j' v) p)->Yd (f j') p):Yd (aY j f) p:=h2 j h1
def Yd.inr{σ ρ:Type}{o:Option ρ}{p:σ⊕ρ->Prop}(h:Yd o λr=>p (.inr r)):Yd (Option.map Sum.inr o) p:=h.map
def fK{α σ ρ:Type}(g:α->σ->Option (σ⊕ρ))(fin:σ->Option ρ):List α->σ->Option ρ
 |[],s=>fin s
 |x::l,s=>match g x s with
  |none=>none
  |some (.inr r)=>some r
  |some (.inl s')=>fK g fin l s'
def ZC{α σ τ ρ:Type}(l:List α)(mk:Int->σ->τ){step:τ->Option (τ⊕ρ)}(g:α->σ->Option (σ⊕ρ))(fin:σ->Option ρ)
  (h1:∀(i:Nat) (x:α) (s:σ),i<l.length->l[i]?=some x->step (mk i s)=match g x s with|none=>none|some (.inr r)=>some (.inr r)|some (.inl s')=>some (.inl (mk (i+1:Nat) s')))
  (h2:∀s,step (mk l.length s)=(fin s).map Sum.inr) (s:σ):aD step (mk 0 s)=fK g fin l s:=by
 suffices h:∀(k:Nat) (i:Nat) (s:σ),i+k=l.length->aD step (mk i s)=fK g fin (l.drop i) s by
  have:=h l.length 0 s (by omega)
  simpa using this
 intro k
 induction k with
 |zero=>
  intro i s hi;obtain rfl:i=l.length:=by omega
  rw[Qq66,fK,ff,h2];cases fin s<;>rfl
 |succ k ih=>
  intro i s hi;have hlt:i<l.length:=by omega
  rw[QM hlt,fK,ff,h1 i l[i] s hlt (Qv hlt)]
  cases hg:g l[i] s with
  |none=>rfl
  |some y=>
   cases y with
   |inr r=>rfl
   |inl s'=>exact ih (i+1) s' (by omega)
def iB{α σ τ ρ:Type}(l:List α)(hl:l.length<=9223372036854775807)(mk:Int->σ->τ){step:τ->Option (τ⊕ρ)}(g:α->σ->Option (σ⊕ρ))(fin:σ->Option ρ)
  (h1:∀(i:Nat) (x:α) (s:σ),decide ((i:Int)<(l.length:Int))=true->idx l (i:Int)=some x->aA .i64 (i:Int) 1=((i+1:Nat):Int)->step (mk i s)=match g x s with|none=>none|some (.inr r)=>some (.inr r)|some (.inl s')=>some (.inl (mk (i+1:Nat) s')))
  (h2:∀s,decide ((l.length:Int)<(l.length:Int))=false->step (mk l.length s)=(fin s).map Sum.inr) (s:σ):aD step (mk 0 s)=fK g fin l s:=
 ZC l mk g fin (λi x s hi hx=>h1 i x s (Qg (Int.ofNat_lt.2 hi)) (by rw[bf];exact hx) (bH (by omega) (by omega))) (λs=>h2 s (Qh (Qq64 _))) s
end Go.TQ
namespace Go.Proofs.YtofedieniojipaaGreat
open Go.TQ
section
def gw:ByteArray:=⟨#[]⟩
def aP(b:ah):Bool:=decide (b.ai=0)&&decide (b.Value=gw)
def bO(a b:ByteArray):Bool:=if a.size=b.size then lz a b else decide (a.size<b.size)
def bB(a b:ah):Bool:=if a.ai=b.ai then bO a.Value b.Value else decide (a.ai<b.ai)
def bQ(a b:ah):Bool:=decide (a.Value=b.Value)
def jE(p b:ah):Bool:= !aP p&&bQ p b&&decide (b.ai<=p.ai)
def dY(p q b:ah):Bool:=jE p b||jE q b||(!aP q&&bB b q)
def eN(p b:ah):Bool:= !aP p&& !bQ p b&&bB b p
def cO(b:ah):Bool:=(decide (1<=b.ai)&&decide (b.ai<=1000)||decide (b.ai=1000000))&&decide (1<=b.Value.size)&&decide (b.Value.size<=200)
def TL:∀x:List UInt8,Op.bytesLess x x=false
 |[]=>rfl
 |a::l=>by simp[Op.bytesLess,TL l]
def WE:∀{x y:List UInt8},x≠y->Op.bytesLess x y=true\/Op.bytesLess y x=true
 |[],[],h=>absurd rfl h
 |[],_::_,_=> .inl rfl
 |_::_,[],_=> .inr rfl
 |a::l,b::m,h=>by
  simp only[Op.bytesLess]
  by_cases hab:a=b
  ·subst hab;have:l≠m:=λe=>h (by rw[e])
   simpa using WE this
  ·rcases Nat.lt_or_gt_of_ne (λe=>hab (UInt8.toNat_inj.1 e))with h1|h1
   ·have h2:a<b:=h1;simp[h2]
   ·have h2:b<a:=h1;simp[h2]
def DH(a:ByteArray):lz a a=false:=TL _
@[simp] def dm (b:ah):bA b=some (aP b):=by unfold bA aP;rw[Cf];rfl
@[simp] def c6 (b:ah):bL b=some (aP b):=by unfold bL aP;rw[Cf];rfl
@[simp] def fT (a b:ah):cj a b=some (bQ a b):=rfl
@[simp] def gJ (a b:ah):cz a b=some (bQ a b):=rfl
@[simp] def yM (b:ah):jq b=some (cO b):=by
 have h1:decide ((1:Int)<=(b.Value.size:Nat))=decide (1<=b.Value.size):=by rw[decide_eq_decide];omega
 have h2:decide (((b.Value.size:Nat):Int)<=200)=decide (b.Value.size<=200):=by rw[decide_eq_decide];omega
 simp only[jq,cO,h1,h2,ib,Qa,Bool.cond_false_right,Bool.cond_true_left]
@[simp] def Cp (b:ah):iT b=some (cO b):=yM b
@[simp] def Aq (a b:ByteArray):oS a b=some (bO a b):=by
 simp only[oS,bO,GO,Int.ofNat_inj,Int.ofNat_lt,DC,Bj]
@[simp] def kg (a b:ah):fH a b=some (bB a b):=by
 simp[fH,bB,DC,Bj]
@[simp] def CW (a b:ah):mP a b=some (jE a b):=by simp[mP,jE]
@[simp] def aaw (a b:ah):k8 a b=some (jE a b):=by simp[k8,jE]
@[simp] def uY (p q b:ah):jk p q b=some (dY p q b):=by simp[jk,dY]
@[simp] def CX (p b:ah):gK p b=some (eN p b):=by simp[gK,eN]
def yG(a b:Int):Int:=if a<b then -1 else if b<a then 1 else 0
def NK(a b:ByteArray):Int:=if lz a b then -1 else if lz a b||decide (a=b)then 0 else 1
def orL:List Int->Int
 |[]=>0
 |x::l=>if x=0 then orL l else x
@[simp] def Ip (a b:Int):fb a b=some (yG a b):=by
 simp[fb,vx,yG,DC,Bj]
@[simp] def Xc (a b:ByteArray):lX a b=some (NK a b):=by
 simp only[lX,rY,NK];cases h1:lz a b<;>by_cases h2:a=b<;>simp[h2]
def Rh(l:List Int)(hl:l.length<=1000000):nP l=some (orL l):=by
 unfold nP;rw[iB l (by omega) (λi (_:Unit)=>(i,())) (λx _=>some (if x=0 then .inl ()else .inr x)) (λ_=>some 0) (λi x s hd hx hw=> ?_) (λs hd=> ?_) ()]
 ·induction l with
  |nil=>rfl
  |cons x l ih=>
   grind [fK,orL]
 ·grind
 ·simp only[hd,Ql]
@[simp] def ad5 (a b:Int):nP [a,b]=some (if a=0 then b else a):=by
 rw[Rh _ (by simp)]
 simp only[orL]
 by_cases h:a=0<;>by_cases h':b=0<;>simp[h,h']
def xo(a b:ByteArray):Int:=if yG a.size b.size=0 then NK a b else yG a.size b.size
def Ww(a b:ah):Int:=if yG a.ai b.ai=0 then xo a.Value b.Value else yG a.ai b.ai
@[simp] def CH (a b:ByteArray):hU a b=some (xo a b):=by simp[hU,xo]
@[simp] def aaq (a b:ah):o0 a b=some (Ww a b):=by simp[o0,Ww]
theorem we(a b:Int):yG a b=0↔a=b:=by unfold yG;split<;>(try split)<;>omega
theorem H9(a b:Int):yG a b<0↔a<b:=by unfold yG;split<;>(try split)<;>omega
theorem adG(a b:ByteArray):NK a b<0↔lz a b=true:=by
 grind [NK]
theorem wc(a b:ByteArray):decide (xo a b<0)=bO a b:=by
 grind [xo,bO,we,adG,H9]
def Wv(a b:ah):decide (Ww a b<0)=bB a b:=by
 grind [Ww,bB,we,wc,H9]
@[simp] def jR (a b:ah):eD a b=some (bB a b):=by simp[eD,Wv]
@[simp] def tB (p q b:ah):gZ p q b=some (dY p q b):=by simp[gZ,dY]
@[simp] def u0 (p b:ah):eE p b=some (eN p b):=by simp[eE,eN]
def finite(b:ah):Bool:=cO b&&decide (b.ai<=1000)
@[simp] def GX (b:ah):nN b=some (finite b):=by simp[nN,finite]
@[simp] def EL (b:ah):lW b=some (aP b||cO b):=by simp[lW]
@[simp] def CY (e:ak) (n:Int):pP e n=some ⟨n,e.ae.Value⟩:=rfl
end
section
def Sx{rec:(aj×Unit)->Option Int}{t:aj}(hl:t.aO.length<=9223372036854775807):
  jS rec t=fK (λu m=>(rec (u,())).map λr=> .inl (bF m r)) (λm=>some (aA .i64 m 1)) t.aO 0:=by
 unfold jS;rw[iB t.aO hl (λi (m:Int)=>(m,i,())) (λu m=>(rec (u,())).map λr=> .inl (bF m r)) (λm=>some (aA .i64 m 1)) (λi x s hd hx hw=> ?_) (λs hd=> ?_) 0]
 ·simp only[hd,hx,hw,Qk,Qa,etas];cases rec (x,())<;>rfl
 ·simp only[hd,Ql]
def Xa{rec:(aj×Unit)->Option Int}{t:aj}(hl:t.aO.length<=9223372036854775807):
  k9 rec t=fK (λu m=>(rec (u,())).map λr=> .inl (aA .i64 m r)) (λm=>some m) t.aO (aA .i64 t.bb.length t.aO.length):=by
 unfold k9;rw[iB t.aO hl (λi (m:Int)=>(m,i,())) (λu m=>(rec (u,())).map λr=> .inl (aA .i64 m r)) (λm=>some m) (λi x s hd hx hw=> ?_) (λs hd=> ?_) (aA .i64 t.bb.length t.aO.length)]
 ·simp only[hd,hx,hw,Qk,Qa,etas];cases rec (x,())<;>rfl
 ·simp only[hd,Ql]
def SS(t:aj):CG t=jJ t:=rfl
def UW(t:aj):ED t=kU t:=rfl
def fP(x:Int):Bool:=decide (0<=x)&&decide (x<10)
def xn(s x:Int):Bool:=decide (0<=s)&&decide (s<1024)&&fP x&&s.toNat.testBit x.toNat
theorem Sr(s:Int):gf s=some (decide (0<=s)&&decide (s<1024)):=by
 have:bW .i64 1 10=1024:=ym 10 (by omega)
 simp[gf,Av,this]
def WL{s x:Int}(h1:0<=s)(h2:s<1024)(h3:0<=x)(h4:x<10):(F1 .i64 s (bW .i64 1 x)=0)=(s.toNat.testBit x.toNat=false):=by
 obtain⟨n,rfl⟩:=Int.eq_ofNat_of_zero_le h1;obtain⟨j,rfl⟩:=Int.eq_ofNat_of_zero_le h3;have hj:2 ^ j<=2 ^ 10:=Nat.pow_le_pow_right (by omega) (by omega)
 rw[ym j (by omega),Eu n (2 ^ j) (by omega) (by omega),agF]
 grind
@[simp] theorem qn (s x:Int):kP s x=some (xn s x):=by
 unfold kP xn fP;rw[Sr]
 by_cases h1:0<=s
 ·by_cases h2:s<1024
  ·by_cases h3:0<=x
   ·by_cases h4:x<10
    ·have h5:¬x<0:=by omega
     have:=WL h1 h2 h3 h4;simp[h1,h2,h3,h4,h5,this]
    ·simp[h1,h2,h3,h4]
   ·simp[h1,h2,h3]
  ·simp[h1,h2]
 ·simp[h1]
def Xi{s x:Int}(h1:0<=s)(h2:s<1024)(h3:0<=x)(h4:x<10):(F1 .i64 (jH .i64 s x) 1=1)=(s.toNat.testBit x.toNat=true):=by
 obtain⟨n,rfl⟩:=Int.eq_ofNat_of_zero_le h1;obtain⟨j,rfl⟩:=Int.eq_ofNat_of_zero_le h3;have hle:n>>>j<=n:=by rw[Nat.shiftRight_eq_div_pow];exact Nat.div_le_self _ _
 rw[acu n j (by omega),show(1:Int)=((1:Nat):Int)from rfl,Eu _ 1 (by omega) (by omega)]
 simp only[QV,Int.ofNat_inj,Nat.testBit,eq_iff_iff];rw[Nat.and_comm];simp
@[simp] theorem mR (s x:Int):kC s x=some (xn s x):=by
 unfold kC eU xn fP
 by_cases h1:0<=s
 ·by_cases h2:s<1024
  ·have h2':s<=1023:=by omega
   by_cases h3:0<=x
   ·by_cases h4:x<10
    ·have h5:¬x<0:=by omega
     have:=Xi h1 h2 h3 h4;simp[h1,h2,h2',h3,h4,h5,this]
    ·simp[h1,h2,h2',h3,h4]
   ·simp[h1,h2,h2',h3]
  ·have h2':¬s<=1023:=by omega
   simp[h1,h2,h2']
 ·simp[h1]
theorem qL{s:Nat}{x:Int}(h1:s<1024)(h3:0<=x)(h4:x<10):sx .i64 (s:Int) (bW .i64 1 x)=((s|||2 ^ x.toNat:Nat):Int):=by
 obtain⟨j,rfl⟩:=Int.eq_ofNat_of_zero_le h3;have hj:2 ^ j<=2 ^ 9:=Nat.pow_le_pow_right (by omega) (by omega)
 rw[ym j (by omega)]
 exact Gl s (2 ^ j) (by omega) (by omega)
def Bz{s:Nat}{x:Int}(h1:s<1024)(h4:x<10):s|||2 ^ x.toNat<1024:=by
 have hj:2 ^ x.toNat<=2 ^ 9:=Nat.pow_le_pow_right (by omega) (by omega)
 exact Nat.or_lt_two_pow (n:=10) h1 (by omega)
def wM(s:Nat):List Int->Int×Int×Unit
 |[]=>(s,0,())
 |x::l=>if fP x then(if s.testBit x.toNat then(0,6,())else wM (s|||2 ^ x.toNat) l)else(0,5,())
def Yh(g:Int->Int->Option (Int⊕(Int×Int×Unit)))
  (hg:∀x (s:Nat),s<1024->g x s=some (if fP x then(if s.testBit x.toNat then .inr (0,6,())else .inl ((s|||2 ^ x.toNat:Nat):Int))else .inr (0,5,()))):
  ∀(l:List Int) (s:Nat),s<1024->fK g (λs=>some (s,0,())) l s=some (wM s l)
 |[],s,_=>rfl
 |x::l,s,hs=>by
  rw[fK,hg x s hs,wM]
  cases h1:fP x with
  |false=>simp
  |true=>
   cases h2:s.testBit x.toNat with
   |true=>simp
   |false=>
    simp only[Qt,Qq,Qu];have h3:x<10:=by simp[fP]at h1;omega
    exact Yh g hg l _ (Bz hs h3)
def Fs(l:List Int)(hl:l.length<=9223372036854775807):tr l=some (wM 0 l):=by
 unfold tr;rw[iB l hl (λi (s:Int)=>(s,i,())) (λx s=>if fP x then(if xn s x then some (.inr (0,6,()))else some (.inl (sx .i64 s (bW .i64 1 x))))else some (.inr (0,5,()))) (λs=>some (s,0,())) (λi x s hd hx hw=> ?_) (λs hd=> ?_) 0]
 ·refine Yh _ (λx s hs=> ?_) l 0 (by omega)
  grind [fP,xn,qL]
 ·grind [qn,fP,xn]
 ·simp only[hd,Ql]
def Ui(l:List Int)(hl:l.length<=9223372036854775807):Au l=some (wM 0 l):=by
 have:Au l=tr l:=by
  unfold Au tr;simp only[mR,qn]
 rw[this,Fs l hl]
@[simp] def xV (x:Int):mC x=some (!fP x):=by simp[mC,yL,fP]
def L8(l:List Int)(hl:l.length<=9223372036854775807):gE l=some (l.any λx=> !fP x):=by
 have key:∀(i:Nat) (k:Nat),i+k=l.length->Yd (aD (λ(v1:Int×Unit)=>bif (decide (v1.1<((List.length l:Nat):Int)))then Option.bind (idx l v1.1) λx2=>Option.bind (mC x2) λr3=>bif r3 then Option.map Sum.inr (some v1.1)else some (Sum.inl ((aA .i64 v1.1 (1:Int)),()))else Option.map Sum.inr (some (-1:Int))) ((i:Int),())) λr=>decide (0<=r)=(l.drop i).any λx=> !fP x:=by
  intro i k
  induction k generalizing i with
  |zero=>
   intro hi;refine⟨-1,bM ?_,?_⟩
   ·grind
   ·rw[List.drop_eq_nil_of_le (by omega)];rfl
  |succ k ih=>
   intro hi;have hlt:i<l.length:=by omega
   have hd:decide ((i:Int)<(l.length:Int))=true:=Qg (Int.ofNat_lt.2 hlt);have hx:idx l (i:Int)=some l[i]:=by rw[bf];exact Qv hlt
   have hw:aA .i64 (i:Int) 1=((i+1:Nat):Int):=bH (by omega) (by omega)
   rw[QM hlt,List.any_cons]
   cases h:fP l[i]with
   |true=>
    rw[bw (s':=(((i+1:Nat):Int),())) (by simp only[hd,hx,hw,Qk,Qa,xV,h];rfl)]
    exact(ih (i+1) (by omega)).mono λr hr=>by simpa using hr
   |false=>
    refine⟨i,bM (by simp only[hd,hx,Qk,Qa,xV,h];rfl),?_⟩
    simp
 obtain⟨r,h1,h2⟩:=key 0 l.length (by omega)
 unfold gE lG;simp only[Int.natCast_zero]at h1;rw[h1];simpa using h2
def sS(rec:aj->Option Int)(t:aj):Option Int:=
 if t.aI<1\/aA .i64 t.bb.length t.aO.length<t.aI then some 4
 else if(t.bb.any λx=> !fP x)then some 5
 else if(wM 0 t.bb).2.1=0 then fK (λu (_:Unit)=>(rec u).map λr=>if r=0 then .inl ()else .inr r) (λ_=>some 0) t.aO ()
 else some (wM 0 t.bb).2.1
theorem Lr{rec:(aj×Unit)->Option Int}{t:aj}(hn:t.bb.length<=9223372036854775807)(hl:t.aO.length<=9223372036854775807):iH rec t=sS (λu=>rec (u,())) t:=by
 unfold iH sS;rw[L8 _ hn,Fs _ hn];rw[iB t.aO hl (λi (_:Unit)=>(i,())) (λu (_:Unit)=>(rec (u,())).map λr=>if r=0 then .inl ()else .inr r) (λ_=>some 0) (λi x s hd hx hw=> ?_) (λs hd=> ?_) ()]
 ·grind
 ·simp only[hd,hx,hw,Qk,Qa,etas]
  cases rec (x,())with
  |none=>rfl
  |some r=>by_cases h:r=0<;>simp[h]
 ·simp only[hd,Ql]
theorem Sy{rec:(aj×Unit)->Option Int}{t:aj}(hn:t.bb.length<=9223372036854775807)(hl:t.aO.length<=9223372036854775807):oF rec t=sS (λu=>rec (u,())) t:=by
 unfold oF sS;rw[iB t.bb hn (λi (_:Unit)=>(i,())) (λx (_:Unit)=>some (if fP x then .inl ()else .inr 5)) (λ_=>if(wM 0 t.bb).2.1=0 then fK (λu (_:Unit)=>(rec (u,())).map λr=>if r=0 then .inl ()else .inr r) (λ_=>some 0) t.aO ()else some (wM 0 t.bb).2.1) (λi x s hd hx hw=> ?_) (λs hd=> ?_) ()]
 ·by_cases h1:t.aI<1
  ·simp[h1]
  ·by_cases h2:aA .i64 t.bb.length t.aO.length<t.aI
   ·simp[h1,h2]
   ·simp only[h1,h2,decide_false,Ql,Qa,or_self,Qu]
    have:∀(l:List Int) (fin:Unit->Option Int),fK (λx (_:Unit)=>some (if fP x then .inl ()else .inr 5)) fin l ()=if(l.any λx=> !fP x)then some 5 else fin ():=by
     intro l fin
     induction l with
     |nil=>rfl
     |cons x l ih=>
      grind [fK,fP]
    exact this _ _
 ·grind [fP]
 ·simp only[hd,Ql];rw[Ui _ hn,Qa];rw[iB t.aO hl (λi (_:Unit)=>(i,())) (λu (_:Unit)=>(rec (u,())).map λr=>if r=0 then .inl ()else .inr r) (λ_=>some 0) (λi x s hd hx hw=> ?_) (λs hd=> ?_) ()]
  ·grind
  ·simp only[hd,hx,hw,Qk,Qa,etas]
   cases rec (x,())with
   |none=>rfl
   |some r=>by_cases h:r=0<;>simp[h]
  ·simp only[hd,Ql]
structure dq (t:aj):Prop where
 nodes:∀x∈t.bb,0<=x/\x<10
 nodup:t.bb.Nodup
 len:t.bb.length<=10
 inner:t.aO=[]\/∃x,0<=x/\x<10/\t.aO=[⟨1,[x],[]⟩]
 th:1<=t.aI/\t.aI<=t.bb.length+t.aO.length
theorem Hs:∀(l:List Int) (s:Nat),(∀x∈l,0<=x/\x<10)->l.Nodup->(∀x∈l,s.testBit x.toNat=false)->(wM s l).2.1=0
 |[],s,_,_,_=>rfl
 |x::l,s,h1,h2,h3=>by
  rw[List.nodup_cons]at h2;have hx:=h1 x (by simp)
  have:fP x=true:=by simp[fP];omega
  rw[wM,this,h3 x (by simp)]
  simp only[Qt,Qq,Qu];refine Hs l _ (λy hy=>h1 y (by simp[hy])) h2.2 λy hy=> ?_
  have hy1:=h1 y (by simp[hy])
  rw[Nat.testBit_or,h3 y (by simp[hy]),Nat.testBit_two_pow]
  have:x.toNat≠y.toNat:=λe=>by
   have:x=y:=by omega
   subst this;exact h2.1 hy
  simp[this]
theorem WK{l:List Int}(h:∀x∈l,0<=x/\x<10):(l.any λx=> !fP x)=false:=by
 grind [fP]
theorem Mo{rec:aj->Option Int}{x:Int}(h0:0<=x)(h1:x<10):sS rec ⟨1,[x],[]⟩=some 0:=by
 have h2:aA .i64 (1:Nat) (0:Nat)=1:=rfl
 grind [wM,Hs,fP,WK,sS,fK]
def OU{t:aj}(h:dq t){rec:aj->Option Int}(hr:∀x,0<=x->x<10->rec ⟨1,[x],[]⟩=some 0):sS rec t=some 0:=by
 have hil:t.aO.length<=1:=by rcases h.inner with e|⟨x,_,_,e⟩<;>rw[e]<;>simp
 have hlen:=h.len;have h2:aA .i64 t.bb.length t.aO.length=t.bb.length+t.aO.length:=bH (by omega) (by omega)
 have h3:(wM 0 t.bb).2.1=0:=Hs _ 0 h.nodes h.nodup (by simp)
 have h4:=WK h.nodes;have h5:=h.th;unfold sS;rw[h2,Qs (by omega),h4,h3]
 simp only[Qq,Qu,Qt];rcases h.inner with e|⟨x,hx0,hx1,e⟩
 ·rw[e];rfl
 ·rw[e,fK,hr x hx0 hx1];rfl
def F9(t:aj):∃n,SizeOf.sizeOf t=n+1:=by
 have:1<=SizeOf.sizeOf t:=by
  cases t;simp only[aj.mk.sizeOf_spec];omega
 exact⟨SizeOf.sizeOf t - 1,by omega⟩
def ZZ(n:Nat)(th:Int)(l:List Int):oQ (n+1) (⟨th,l,[]⟩,())=some 1:=by
 show jS _ _=_;rw[Sx (by simp)]
 rfl
def size_leaf(n:Nat)(th:Int)(l:List Int):qg (n+1) (⟨th,l,[]⟩,())=some (aA .i64 l.length (0:Nat)):=by
 show k9 _ _=_;rw[Xa (by simp)]
 rfl
def PL{t:aj}(h:dq t):∃d,jJ t=some d/\d<=2:=by
 obtain⟨n,hn⟩:=F9 t;have hil:t.aO.length<=1:=by rcases h.inner with e|⟨x,_,_,e⟩<;>rw[e]<;>simp
 unfold jJ;rw[hn];show∃d,jS (oQ (n+1)) t=some d/\d<=2;rw[Sx (by omega)]
 rcases h.inner with e|⟨x,_,_,e⟩
 ·rw[e];exact⟨1,rfl,by omega⟩
 ·rw[e,fK,ZZ n 1 [x]];exact⟨2,rfl,by omega⟩
def SJ{t:aj}(h:dq t):∃d,kU t=some d/\d<=200:=by
 obtain⟨n,hn⟩:=F9 t;have hil:t.aO.length<=1:=by rcases h.inner with e|⟨x,_,_,e⟩<;>rw[e]<;>simp
 have hlen:=h.len;unfold kU;rw[hn];show∃d,k9 (qg (n+1)) t=some d/\d<=200;rw[Xa (by omega),bH (by omega) (by omega)]
 rcases h.inner with e|⟨x,_,_,e⟩
 ·rw[e];exact⟨_,rfl,by simp;omega⟩
 ·rw[e,fK,size_leaf n 1 [x]];have h1:aA .i64 (([x]:List Int).length:Nat) (0:Nat)=1:=rfl;rw[h1];refine⟨_,rfl,?_⟩
  grind [bH]
def eJ{t:aj}(h:dq t):bS t=some 0:=by
 obtain⟨d,h1,h2⟩:=PL h;obtain⟨z,h3,h4⟩:=SJ h;obtain⟨n,hn⟩:=F9 t;have hil:t.aO.length<=1:=by rcases h.inner with e|⟨x,_,_,e⟩<;>rw[e]<;>simp
 have hlen:=h.len
 have h5:l0 t=some 0:=by
  unfold l0;rw[hn];show iH (fN (n+1)) t=some 0;rw[Lr (by omega) (by omega)]
  refine OU h λx hx0 hx1=> ?_
  show iH (fN n) ⟨1,[x],[]⟩=some 0
  grind [Lr,Mo]
 have h6:¬4<d:=by omega
 have h7:¬200<z:=by omega
 simp[bS,h1,h3,h5,h6,h7]
def dH{t:aj}(h:dq t):cI t=some 0:=by
 obtain⟨d,h1,h2⟩:=PL h;obtain⟨z,h3,h4⟩:=SJ h;obtain⟨n,hn⟩:=F9 t;have hil:t.aO.length<=1:=by rcases h.inner with e|⟨x,_,_,e⟩<;>rw[e]<;>simp
 have hlen:=h.len
 have h5:uI t=some 0:=by
  unfold uI;rw[hn];show oF (qS (n+1)) t=some 0;rw[Sy (by omega) (by omega)]
  refine OU h λx hx0 hx1=> ?_
  show oF (qS n) ⟨1,[x],[]⟩=some 0
  grind [Sy,Mo]
 have h6:¬4<d:=by omega
 have h7:¬200<z:=by omega
 simp[cI,SS,UW,h1,h3,h5,h6,h7]
end
section
structure nG (s:dR):Prop where
 len:s.L.length<=800
 lo:0<=s.At
 hi:s.At<=800
def air(l:List Int):Yd (Dp l) λs=>nG s:=by
 have h:dt (l.length:Int) 800=((min l.length 800:Nat):Int):=by unfold dt;split<;>omega
 have h2:cD 0 ((min l.length 800:Nat):Int) l.length=true:=by
  grind [cD]
 unfold Dp;rw[h,h2];refine Yd.some ⟨?_,by simp,by simp⟩
 grind
def aeY(x n:Int)(hn:1<=n): -n<x.tmod n/\x.tmod n<n:=by
 have h2:=Int.emod_nonneg x (show n≠0 by omega)
 have h3:=Int.emod_lt_of_pos x (show 0<n by omega)
 rw[Int.tmod_eq_emod];split
 ·omega
 ·rw[Int.natAbs_of_nonneg (by omega)];omega
def sq{s:dR}(h:nG s){n:Int}(hn:n<=1000000000):Yd (cg s n) λp=>nG p.2/\0<=p.1/\(1<=n->p.1<n)/\(n<1->p.1=0):=by
 unfold cg;simp only[aS];refine Yd.cond (λh1=> ?_) (λh1=> ?_)
 ·grind [Yd.some]
 ·simp only[Qj,Int.not_le]at h1;refine Yd.cond (λh2=> ?_) (λh2=> ?_)
  ·grind [Yd.some]
  ·simp only[Qj,Int.not_lt]at h2;obtain⟨hl,hlo,hhi⟩:=h;have e1:aA .i64 s.At 1=s.At+1:=bH (by omega) (by omega)
   have e2:cQ .i64 (s.At+1) 1=s.At:=by rw[nT (by omega) (by omega)];omega
   rw[e1,e2];have hlt:s.At.toNat<s.L.length:=by omega
   rw[Pr _ hlo,Qv hlt,Qa,Qs (by omega),Qs (by omega)]
   have hb:=aeY s.L[s.At.toNat] n h2;have e3:Y8 .i64 s.L[s.At.toNat] n=s.L[s.At.toNat].tmod n:=rfl;rw[e3];generalize s.L[s.At.toNat].tmod n=y at hb;have e4:aA .i64 y n=y+n:=bH (by omega) (by omega)
   rw[e4];have h5:Y8 .i64 (y+n) n=(y+n) % n:=Int.tmod_eq_emod_of_nonneg (by omega)
   rw[h5];exact Yd.some ⟨⟨hl,by simp;omega,by simp;omega⟩,Int.emod_nonneg _ (by omega),λ_=>Int.emod_lt_of_pos _ (by omega),λ_=>by omega⟩
def lO{s:dR}(h:nG s){a b:Int}(h1:0<=a)(h2:a<=b+1)(h3:b<=1000000):Yd (ct s a b) λp=>nG p.2/\a<=p.1/\(a<=b->p.1<=b)/\(b<a->p.1=a):=by
 unfold ct;have e1:cQ .i64 b a=b - a:=nT (by omega) (by omega)
 have e2:aA .i64 (b - a) 1=b - a+1:=bH (by omega) (by omega)
 rw[e1,e2];refine(sq h (by omega)).bind λp ⟨h4,h5,h6,h7⟩=> ?_
 grind [aA,bH,Yd.some]
def agR{s:dR}(h:nG s){l:List ByteArray}(h1:1<=l.length)(h2:l.length<=1000):Yd (vt s l) λp=>nG p.2/\p.1∈l:=by
 unfold vt;refine(sq h (by omega)).bind λp ⟨h4,h5,h6,_⟩=> ?_
 grind [Pr,Yd.some]
def P8(v:ByteArray):Prop:=v∈[(ByteArray.mk #[97]),(ByteArray.mk #[98]),(ByteArray.mk #[99]),(ByteArray.mk #[97,97])]
def P8.size{v:ByteArray}(h:P8 v):1<=v.size/\v.size<=2:=by
 simp only[P8,QA,QR,or_false]at h;rcases h with rfl|rfl|rfl|rfl<;>exact⟨by decide,by decide⟩
def Bs{s:dR}(h:nG s):Yd (im s) λp=>nG p.2/\P8 p.1:=by
 unfold im;exact(agR h (by simp) (by simp)).bind λp hp=>Yd.some hp
def aci{s:dR}(h:nG s):Yd (tq s) λp=>nG p.2/\1<=p.1.ai/\p.1.ai<=6/\P8 p.1.Value:=by
 unfold tq;refine(lO h (by omega) (by omega) (by omega)).bind λp ⟨h1,h2,h3,_⟩=> ?_
 refine(Bs h1).bind λq ⟨h4,h5⟩=> ?_
 exact Yd.some ⟨h4,h2,h3 (by omega),h5⟩
def Ii{s:dR}(h:nG s){n:Nat}(hn1:1<=n)(hn:n<=10):Yd (kZ s n) λp=>nG p.2/\dq p.1/\(∀x∈p.1.bb,x<n)/\p.1.bb≠[]:=by
 unfold kZ;simp only[aS]
 let I (i:Nat) (s:dR) (t:aj) (ns:List Int) (is:List aj):Prop:=nG s/\t.aI=0/\(∀x∈ns,0<=x/\x<i)/\ns.Nodup/\ns.length<=i/\is=[]
 suffices key:∀(k i:Nat) (s:dR) (t:aj) (ns:List Int) (is:List aj),i+k=n->I i s t ns is->Yd (aD _ ((i:Int),s,t,ns,is,())) _ from key n 0 s _ _ _ (by omega) ⟨h,rfl,by simp,by simp,by simp,rfl⟩
 intro k
 induction k with
 |zero=>
  intro i s t ns is hi ⟨h1,h2,h3,h4,h5,h6⟩;obtain rfl:i=n:=by omega
  subst h6;have hd:decide ((i:Int)<(i:Int))=false:=Qh (Qq64 _);refine Yd.loop ?_;simp only[hd,Ql];refine Yd.inr ?_
  have fin:∀(s:dR) (ns:List Int) (is:List aj) (th:Int),nG s->(∀x∈ns,0<=x/\x<i)->ns.Nodup->ns.length<=10->ns≠[]->(is=[]\/∃x,0<=x/\x<10/\is=[⟨1,[x],[]⟩])->1<=th->th<=ns.length+is.length->
    nG s/\dq ⟨th,ns,is⟩/\(∀x∈ns,x<(i:Int))/\ns≠[]:=by
   intro s ns is th a1 a2 a3 a4 a5 a6 a7 a8;exact⟨a1,⟨λx hx=>by have:=a2 x hx;exact⟨this.1,by omega⟩,a3,a4,a6,a7,a8⟩,λx hx=>(a2 x hx).2,a5⟩
  have tail:∀(s:dR) (ns:List Int) (is:List aj),nG s->(∀x∈ns,0<=x/\x<i)->ns.Nodup->ns.length<=10->ns≠[]->(is=[]\/∃x,0<=x/\x<10/\is=[⟨1,[x],[]⟩])->
    Yd (Option.bind (ct s (U7 .i64 (aA .i64 (aA .i64 ((List.length ns:Nat):Int) ((List.length is:Nat):Int)) (1:Int)) (2:Int)) (aA .i64 ((List.length ns:Nat):Int) ((List.length is:Nat):Int))) λp9=>
     Option.bind (cg p9.2 (6:Int)) λp12=>
     bif (decide (p12.1=(5:Int)))then some ((aj.mk (1:Int) ns is),p12.2)else some ((aj.mk p9.1 ns is),p12.2)) λp=>nG p.2/\dq p.1/\(∀x∈p.1.bb,x<(i:Int))/\p.1.bb≠[]:=by
   intro s ns is a1 a2 a3 a4 a5 a6;have hp:1<=ns.length:=by cases ns with|nil=>exact absurd rfl a5|cons x l=>simp
   have hil:is.length<=1:=by rcases a6 with e|⟨x,_,_,e⟩<;>rw[e]<;>simp
   have e1:aA .i64 ((List.length ns:Nat):Int) ((List.length is:Nat):Int)=ns.length+is.length:=bH (by omega) (by omega)
   have e2:aA .i64 ((ns.length:Int)+is.length) 1=ns.length+is.length+1:=bH (by omega) (by omega)
   have e3:U7 .i64 ((ns.length:Int)+is.length+1) 2=(ns.length+is.length+1) / 2:=by
    show IntKind.i64.wrap (Int.tdiv _ _)=_;rw[Int.tdiv_eq_ediv_of_nonneg (by omega)]
    exact wrap64 (by omega) (by omega)
   rw[e1,e2,e3];refine(lO a1 (by omega) (by omega) (by omega)).bind λp ⟨b1,b2,b3,_⟩=> ?_
   refine(sq b1 (by omega)).bind λq ⟨c1,_⟩=> ?_
   have b4:=b3 (by omega)
   refine Yd.cond (λ_=>Yd.some (fin q.2 ns is 1 c1 a2 a3 a4 a5 a6 (by omega) (by omega))) (λ_=>Yd.some (fin q.2 ns is p.1 c1 a2 a3 a4 a5 a6 (by omega) (by omega)))
  have mid:∀(s:dR) (ns:List Int),nG s->(∀x∈ns,0<=x/\x<i)->ns.Nodup->ns.length<=10->ns≠[]->
    Yd (Option.bind (cg s (4:Int)) λp13=>
     bif (decide (p13.1=(3:Int)))then
     Option.bind (cg p13.2 (i:Int)) λp14=>
     bif bl 56 (List.length ([]:List aj)+List.length [(aj.mk (1:Int) [p14.1] ([]:List aj))])then
     (Option.bind (ct p14.2 (U7 .i64 (aA .i64 (aA .i64 ((List.length ns:Nat):Int) ((List.length (([]:List aj)++[(aj.mk (1:Int) [p14.1] ([]:List aj))]):Nat):Int)) (1:Int)) (2:Int)) (aA .i64 ((List.length ns:Nat):Int) ((List.length (([]:List aj)++[(aj.mk (1:Int) [p14.1] ([]:List aj))]):Nat):Int))) λp9=>
     Option.bind (cg p9.2 (6:Int)) λp12=>
     bif (decide (p12.1=(5:Int)))then some ((aj.mk (1:Int) ns (([]:List aj)++[(aj.mk (1:Int) [p14.1] ([]:List aj))])),p12.2)else some ((aj.mk p9.1 ns (([]:List aj)++[(aj.mk (1:Int) [p14.1] ([]:List aj))])),p12.2))
     else none
     else
     (Option.bind (ct p13.2 (U7 .i64 (aA .i64 (aA .i64 ((List.length ns:Nat):Int) ((List.length ([]:List aj):Nat):Int)) (1:Int)) (2:Int)) (aA .i64 ((List.length ns:Nat):Int) ((List.length ([]:List aj):Nat):Int))) λp9=>
     Option.bind (cg p9.2 (6:Int)) λp12=>
     bif (decide (p12.1=(5:Int)))then some ((aj.mk (1:Int) ns []),p12.2)else some ((aj.mk p9.1 ns []),p12.2))) λp=>nG p.2/\dq p.1/\(∀x∈p.1.bb,x<(i:Int))/\p.1.bb≠[]:=by
   intro s ns a1 a2 a3 a4 a5;refine(sq a1 (by omega)).bind λp ⟨b1,b2,b3,_⟩=> ?_
   refine Yd.cond (λ_=> ?_) (λ_=> ?_)
   ·refine(sq b1 (by omega)).bind λq ⟨c1,c2,c3,_⟩=> ?_
    have c4:=c3 (by omega)
    rw[bC (by simp)]
    exact tail q.2 ns _ c1 a2 a3 a4 a5 (.inr ⟨q.1,c2,by omega,rfl⟩)
   ·exact tail p.2 ns [] b1 a2 a3 a4 a5 (.inl rfl)
  refine Yd.cond (λhz=> ?_) (λhz=> ?_)
  ·refine(sq h1 (by omega)).bind λp ⟨b1,b2,b3,_⟩=> ?_
   have b4:=b3 (by omega)
   exact mid p.2 [p.1] b1 (by simp;omega) (by simp) (by simp) (by simp)
  ·grind
 |succ k ih=>
  intro i s t ns is hi ⟨h1,h2,h3,h4,h5,h6⟩;have hd:decide ((i:Int)<(n:Int))=true:=Qg (by omega)
  have hw:aA .i64 (i:Int) 1=((i+1:Nat):Int):=bH (by omega) (by omega)
  refine Yd.loop ?_;simp only[hd,Qk,hw];refine(sq h1 (by omega)).bind λp ⟨b1,b2,b3,_⟩=> ?_
  refine Yd.cond (λ_=> ?_) (λ_=> ?_)
  ·rw[bC (by simp;omega)]
   refine Yd.some (ih (i+1) p.2 _ _ _ (by omega) ⟨b1,h2,?_,?_,by simp;omega,h6⟩)
   ·grind
   ·grind
  ·refine Yd.some (ih (i+1) p.2 _ _ _ (by omega) ⟨b1,h2,?_,h4,by omega,h6⟩)
   intro x hx;have:=h3 x hx;omega
end
section
def at_(e:ak)(n:Int):ah:=⟨n,e.ae.Value⟩
def Dt(e:ak):Bool:=aP e.aC||(!aP e.ao&&bB e.aC e.ao&& !bQ e.aC e.ao)
def gW(e:ak):Bool:=
 finite e.ae&&(aP e.ao||cO e.ao)&&(aP e.aC||cO e.aC)&&Dt e&&decide (0<=e.aZ)&&decide (e.aZ<=e.bq)&&decide (e.bq<=e.ae.ai)
  &&(decide (e.bq=0)||dY e.ao e.aC (at_ e e.bq))&&(decide (e.aZ=0)||(!eN e.ao (at_ e e.aZ)&& !eN e.aC (at_ e e.aZ)))
def uw(e:ak):Bool:=decide (1<=e.aZ)&&decide (e.aZ<=e.bq)&&decide (e.bq<=1000)
def wa(e:ak):Bool:=finite e.ae&&cO e.ao&&bQ e.ao e.ae&&aP e.aC&&uw e&&decide (e.bq<=e.ao.ai)
def BK(e:ak):Bool:=cO e.ae&&aP e.ao&&aP e.aC&&uw e
def zY(e:ak):Bool:=decide (0<=e.al)&&decide (e.al<10)&&decide (1<=e.aK)&&decide (e.aK<=1000000)&&decide (1<=e.aH)&&decide (e.aH<=1000000)
def gV(tv:Int)(e:ak):Bool:=
 zY e&&decide (tv=0)&&(if e.bx=1 then gW e else if e.bx=2 then wa e else if e.bx=3 then BK e else false)
def dlt(a b:Int):decide (a<b)= !decide (b<=a):=by by_cases h:a<b<;>simp[h]<;>omega
def Uj(e:ak):pw e=some (gW e):=by
 unfold pw gW Dt at_
 simp only[dm,jR,fT,GX,EL,CY,u0,tB,Qa,ib,aS,dlt,GO];cases finite e.ae<;>cases (aP e.ao||cO e.ao)<;>cases (aP e.aC||cO e.aC)<;>simp
 grind
def AA{e:ak}{tv:Int}(hT:bS e.aa=some tv):dC e=some (gV tv e):=by
 unfold dC gV zY;simp[Uj,hT,dlt,wa,BK,uw]
 grind
def uo{e:ak}{tv:Int}(hT:cI e.aa=some tv):dg e=some (gV tv e):=by
 unfold dg gV zY;simp[hT,dlt,wa,BK,uw,gW,finite,Dt,at_]
 have h9:decide (e.al<=9)= !decide (10<=e.al):=by by_cases h:e.al<=9<;>simp[h]<;>omega
 rw[h9];generalize (decide (0<=e.al)&& !decide (10<=e.al)&&decide (1<=e.aK)&&decide (e.aK<=1000000)&&decide (1<=e.aH)&&decide (e.aH<=1000000)&&decide (tv=0))=hd
 by_cases k1:e.bx=1
 ·simp only[k1,decide_true,Qk,Qt]
  grind
 ·grind
def Lc(e:ak)(v:ByteArray)(lo hi:Int):Bool:=decide (1<=lo)&&decide (lo<=hi)&&decide (e.ae.Value=v)&&decide (e.aZ<=lo)
def vB(e:ak)(v:ByteArray)(lo hi:Int):Bool:=Lc e v lo hi&&(!decide (e.bx=1)||(!decide (e.aZ=0)&&decide (hi<=e.bq)))
def iJ(e:ak)(v:ByteArray)(lo hi:Int):Bool:=Lc e v lo hi&&(decide (e.bx=3)||(decide (e.bx=2)&&decide (hi<=e.bq)))
def sL(e:ak)(b:ah):Bool:= !aP b&&(if e.bx=1 then jE e.ae b else bQ e.ae b)
def eo(e:ak)(b:ah):Bool:= !aP b&&(if e.bx=1 then dY e.ao e.aC b else if e.bx=2 then jE e.ao b else bQ e.ae b)
def fG(e:ak):Int:=if e.bx=3 then 1000000 else e.ae.ai
@[simp] def F3 (r:bK) (v:ByteArray) (lo hi:Int):jc r v lo hi=some (vB r.ay v lo hi):=by
 simp[jc,kF,vB,Lc]
@[simp] def wD (r:bK) (v:ByteArray) (lo hi:Int):iA r v lo hi=some (iJ r.ay v lo hi):=by
 simp[iA,kF,iJ,Lc]
@[simp] def EM (r:bK) (b:ah):iS r b=some (sL r.ay b):=by
 simp only[iS,sL];cases hz:aP b<;>by_cases h:r.ay.bx=1<;>simp[h,hz]
@[simp] def vy (r:bK) (b:ah):ir r b=some (eo r.ay b):=by
 simp only[ir,eo];cases hz:aP b<;>by_cases h:r.ay.bx=1<;>by_cases h2:r.ay.bx=2<;>simp[h,h2,hz]
@[simp] def ad6 (r:bK):mz r=some (fG r.ay):=by
 simp[mz,fG,DC,Bj]
section
variable {e : ak} {tv : Int} (hT : bS e.aa = some tv)
 include hT
theorem W8:kl e=some (if gV tv e then fG e else 0):=by
 simp only[kl,etas,AA hT,Qa];cases gV tv e<;>simp
end
def xz(n:Nat):List Int:=(List.range n).map λi:Nat=>(i:Int)
def UG(n:Nat):xz (n+1)=xz n++[(n:Int)]:=by simp[xz,List.range_succ]
@[simp] def aiD (n:Nat):(xz n).length=n:=by simp[xz]
def agU(n:Nat)(hn:n<=1000)(k:Int):uO n k=some ⟨k,xz n,[]⟩:=by
 unfold uO
 suffices key:∀(m i:Nat) (t:aj),i+m=n->t.aI=k->t.aO=[]->aD (λ(v1:Int×aj×(List Int)×Unit)=>
   bif (decide (v1.1<(n:Int)))then
   bif bl 8 (List.length v1.2.2.1+List.length [v1.1])then
   some (Sum.inl ((aA .i64 v1.1 (1:Int)),(aj.mk v1.2.1.aI ([]:List Int) v1.2.1.aO),(v1.2.2.1++[v1.1]),()))
   else none
   else
   Option.map Sum.inr (some (aj.mk v1.2.1.aI v1.2.2.1 v1.2.1.aO))) ((i:Int),t,xz i,())=some ⟨k,xz n,[]⟩from key n 0 _ (by omega) rfl rfl
 intro m
 induction m with
 |zero=>
  grind [bM]
 |succ m ih=>
  intro i t hi h1 h2;have hd:decide ((i:Int)<(n:Int))=true:=Qg (by omega)
  have hw:aA .i64 (i:Int) 1=((i+1:Nat):Int):=bH (by omega) (by omega)
  rw[bw (s':=(((i+1:Nat):Int),⟨t.aI,[],t.aO⟩,xz (i+1),()))]
  ·exact ih (i+1) _ (by omega) h1 h2
  ·simp only[hd,hw,Qk];rw[bC (by simp;omega)]
   simp[UG]
def Tw(n:Nat)(hn:n<=10)(k:Int)(h1:1<=k)(h2:k<=n):dq ⟨k,xz n,[]⟩:=by
 refine⟨λx hx=> ?_,?_,by simpa using hn,.inl rfl,h1,by simpa using h2⟩
 ·grind [xz]
 ·show(xz n).Nodup;exact List.Pairwise.map _ (λa b h e=>h (by omega)) List.nodup_range
structure Rj (aG aJ n:Int) (e:ak):Prop where
 aG:e.al=aG
 aJ:e.aK=aJ
 seq:1<=e.aH/\e.aH<=9
 aN:dq e.aa
 nodes:∀x∈e.aa.bb,x<n
 ne:e.aa.bb≠[]
 val:P8 e.ae.Value
 valid:gV 0 e=true
def I9{b:ah}(h1:1<=b.ai)(h2:b.ai<=1000)(h3:P8 b.Value):cO b=true:=by
 have:=h3.size
 grind [cO]
def XO{s:dR}(h:nG s){aG aJ:Int}(hn0:0<=aG)(hn1:aG<10)(hs0:1<=aJ)(hs1:aJ<=1000000){n:Nat}(hn2:1<=n)(hn:n<=10):
  Yd (qB s aG aJ n) λp=>nG p.2/\Rj aG aJ n p.1:=by
 unfold qB;refine(lO h (by omega) (by omega) (by omega)).bind λp1 ⟨a1,a2,a3,_⟩=> ?_
 have a4:=a3 (by omega)
 refine(Ii a1 hn2 hn).bind λp2 ⟨b1,b2,b3,b4⟩=> ?_
 refine(Bs b1).bind λp3 ⟨c1,c2⟩=> ?_
 have c3:=c2.size;have hv:∀k:Int,1<=k->k<=1000->cO ⟨k,p3.1⟩=true:=λk h1 h2=>I9 h1 h2 c2
 simp only[etas]
 have hd:∀e:ak,e.al=aG->e.aK=aJ->e.aH=p1.1->zY e=true:=by
  grind [zY]
 refine Yd.join (λv=>nG v.1/\Rj aG aJ n v.2.1) (λv hv=>Yd.some hv) λj5 hj5=> ?_
 refine(sq c1 (by omega)).bind λp6 ⟨d1,_⟩=> ?_
 refine Yd.join (λv=>nG v.1/\v.2.1=ak.mk aG aJ p1.1 p2.1 0 ⟨0,gw⟩ ⟨0,gw⟩ ⟨0,gw⟩ 0 0) (λv ⟨hv1,hv2⟩=> ?_) λj8 hj8=> ?_
 ·
  refine Yd.join (λv=>nG v.1/\Rj aG aJ n v.2.1) (λv hv=>hj5 _ hv) λj10 hj10=> ?_
  refine(lO hv1 (by omega) (by omega) (by omega)).bind λp11 ⟨e1,e2,e3,_⟩=> ?_
  have e4:=e3 (by omega)
  simp only[hv2];refine Yd.join (λv=>nG v.1/\v.2.1.al=aG/\v.2.1.aK=aJ/\v.2.1.aH=p1.1/\v.2.1.aa=p2.1/\v.2.1.bx=1/\v.2.1.ae=⟨p11.1,p3.1⟩/\(aP v.2.1.ao=true\/cO v.2.1.ao=true)) (λv ⟨f0,f1,f2,f3,f4,f5,f6,f7⟩=> ?_) λj13 hj13=> ?_
  ·rw[f6];have g1:aA .i64 p11.1 1=p11.1+1:=bH (by omega) (by omega)
   simp only[g1];refine(sq f0 (by omega)).bind λp14 ⟨k1,k2,k3,_⟩=> ?_
   have k4:=k3 (by omega)
   have g2:aA .i64 p14.1 1=p14.1+1:=bH (by omega) (by omega)
   simp only[g2];refine(sq k1 (by omega)).bind λp15 ⟨l1,l2,l3,_⟩=> ?_
   have hTr:∀t,t=p2.1->cI t=some 0:=λt ht=>by rw[ht];exact dH b2
   have done:∀e:ak,e.al=aG->e.aK=aJ->e.aH=p1.1->e.aa=p2.1->e.ae=⟨p11.1,p3.1⟩->gV 0 e=true->Rj aG aJ n e:=by
    intro e h1 h2 h3 h4 h5 h6;exact⟨h1,h2,by rw[h3];exact⟨a2,a4⟩,by rw[h4];exact b2,by rw[h4];exact b3,by rw[h4];exact b4,by rw[h5];exact c2,h6⟩
   refine Yd.join (λw=>w.1.al=aG/\w.1.aK=aJ/\w.1.aH=p1.1/\w.1.aa=p2.1/\w.1.bx=1/\w.1.ae=⟨p11.1,p3.1⟩/\(aP w.1.ao=true\/cO w.1.ao=true)/\(gV 0 w.1=true\/w.1.aZ=0)) (λw ⟨m1,m2,m3,m4,m5,m6,m7,m8⟩=> ?_) λj17 hj17=> ?_
   ·refine Yd.join (λw=>w.1.al=aG/\w.1.aK=aJ/\w.1.aH=p1.1/\w.1.aa=p2.1/\w.1.bx=1/\w.1.ae=⟨p11.1,p3.1⟩/\(aP w.1.ao=true\/cO w.1.ao=true)/\(gV 0 w.1=true\/w.1.aZ=0/\w.1.bq=0)) (λw ⟨o1,o2,o3,o4,o5,o6,o7,o8⟩=> ?_) λj19 hj19=> ?_
    ·rw[uo (hTr _ o4)];simp only[Qa,GO];refine Yd.cond (λhx=>hj10 _ ⟨l1,done _ o1 o2 o3 o4 o6 hx⟩) (λhx=>hj10 _ ⟨l1,done _ o1 o2 o3 o4 o6 ?_⟩)
     rcases o8 with o8|⟨o8,o9⟩
     ·rw[o8]at hx;cases hx
     ·have q1:finite w.1.ae=true:=by rw[o6];simp[finite,hv p11.1 e2 (by omega)];omega
      have q2:aP (ah.mk 0 bE)=true:=by decide+kernel
      have q3:(aP w.1.ao||cO w.1.ao)=true:=by simpa using o7
      have q4:=hd w.1 o1 o2 o3;have q5:0<=w.1.ae.ai:=by rw[o6];show 0<=p11.1;omega
      simp only[gV,zY,gW,Dt,o5,o8,o9,q1,q2,q3,Qt]at q4 ⊢;simp[q4,q5]
    ·rw[uo (hTr _ m4)];simp only[Qa,GO];refine Yd.cond (λhx=>hj19 _ ⟨m1,m2,m3,m4,m5,m6,m7,.inl hx⟩) (λhx=>hj19 _ ⟨m1,m2,m3,m4,m5,m6,m7,.inr ⟨?_,rfl⟩⟩)
     rcases m8 with m8|m8
     ·rw[m8]at hx;cases hx
     ·exact m8
   ·rw[uo (e:=ak.mk v.2.1.al v.2.1.aK v.2.1.aH v.2.1.aa v.2.1.bx ⟨p11.1,p3.1⟩ v.2.1.ao v.2.1.aC p15.1 p14.1) (tv:=0) (hTr _ f4)];simp only[Qa,GO];refine Yd.cond (λhx=>hj17 _ ⟨f1,f2,f3,f4,f5,rfl,f7,.inl hx⟩) (λhx=>hj17 _ ⟨f1,f2,f3,f4,f5,rfl,f7,.inr rfl⟩)
  ·refine(sq e1 (by omega)).bind λp23 ⟨k1,_⟩=> ?_
   refine Yd.cond (λ_=> ?_) (λ_=> ?_)
   ·refine(aci k1).bind λp24 ⟨l1,l2,l3,l4⟩=> ?_
    refine(sq l1 (by omega)).bind λp25 ⟨m1,_⟩=> ?_
    have hvl:=I9 (b:=p24.1) l2 (by omega) l4
    refine Yd.cond (λ_=> ?_) (λ_=> ?_)
    ·refine(aci m1).bind λp26 ⟨o1,_⟩=> ?_
     exact hj13 _ ⟨o1,rfl,rfl,rfl,rfl,rfl,rfl,.inr hvl⟩
    ·exact hj13 _ ⟨m1,rfl,rfl,rfl,rfl,rfl,rfl,.inr hvl⟩
   ·have z0:aP (ah.mk 0 gw)=true:=by decide+kernel
    exact hj13 _ ⟨k1,rfl,rfl,rfl,rfl,rfl,rfl,.inl z0⟩
 ·have z0:aP (ah.mk 0 bE)=true:=by decide+kernel
  refine Yd.cond (λ_=> ?_) (λ_=> ?_)
  ·refine(lO d1 (by omega) (by omega) (by omega)).bind λp27 ⟨e1,e2,e3,_⟩=> ?_
   refine(lO e1 (by omega) (by omega) (by omega)).bind λp28 ⟨f1,f2,f3,_⟩=> ?_
   refine(sq f1 (by omega)).bind λp29 ⟨k1,k2,k3,_⟩=> ?_
   refine(sq k1 (by omega)).bind λp30 ⟨l1,l2,l3,_⟩=> ?_
   have e4:=e3 (by omega)
   have f4:=f3 (by omega)
   have k4:=k3 (by omega)
   have l4:=l3 (by omega)
   have g1:aA .i64 p28.1 p29.1=p28.1+p29.1:=bH (by omega) (by omega)
   have g2:aA .i64 (p28.1+p29.1) p30.1=p28.1+p29.1+p30.1:=bH (by omega) (by omega)
   simp only[g1,g2];refine hj5 _ ⟨l1,⟨rfl,rfl,⟨a2,a4⟩,b2,b3,b4,c2,?_⟩⟩;have q4:=hd ⟨aG,aJ,p1.1,p2.1,2,⟨p27.1,p3.1⟩,⟨p28.1+p29.1+p30.1,p3.1⟩,⟨0,bE⟩,p28.1,p28.1+p29.1⟩ rfl rfl rfl;have q5:=hv p27.1 e2 (by omega)
   have q6:=hv (p28.1+p29.1+p30.1) (by omega) (by omega)
   have r1:p27.1<=1000:=by omega
   have r2:p28.1<=p28.1+p29.1:=by omega
   have r3:p28.1+p29.1<=1000:=by omega
   have r4:p28.1+p29.1<=p28.1+p29.1+p30.1:=by omega
   simp[gV,q4,wa,finite,q5,q6,bQ,z0,uw,r1,f2,r3,r4];omega
  ·refine Yd.cond (λ_=> ?_) (λ_=> ?_)
   ·refine(sq d1 (by omega)).bind λp31 ⟨e1,_⟩=> ?_
    refine Yd.cond (λ_=> ?_) (λ_=>hj8 _ ⟨e1,rfl⟩)
    refine(lO e1 (by omega) (by omega) (by omega)).bind λp32 ⟨f1,f2,f3,_⟩=> ?_
    refine(lO f1 (by omega) (by omega) (by omega)).bind λp33 ⟨k1,k2,k3,_⟩=> ?_
    refine(sq k1 (by omega)).bind λp34 ⟨l1,l2,l3,_⟩=> ?_
    have f4:=f3 (by omega)
    have k4:=k3 (by omega)
    have l4:=l3 (by omega)
    have g1:aA .i64 p33.1 p34.1=p33.1+p34.1:=bH (by omega) (by omega)
    simp only[g1];refine hj5 _ ⟨l1,⟨rfl,rfl,⟨a2,a4⟩,b2,b3,b4,c2,?_⟩⟩
    grind [gV,BK,uw]
   ·exact hj8 _ ⟨d1,rfl⟩
end
section
inductive cU:aj->Prop where
 |mk (t:aj) (h1:t.bb.length<=1000000) (h2:t.aO.length<=1000000) (h3:∀u∈t.aO,cU u):cU t
def cU.nodes{t:aj}:cU t->t.bb.length<=1000000| .mk _ h _ _=>h
def cU.len{t:aj}:cU t->t.aO.length<=1000000| .mk _ _ h _=>h
def cU.inner{t:aj}:cU t->∀u∈t.aO,cU u| .mk _ _ _ h=>h
def sf{t u:aj}(h:u∈t.aO):SizeOf.sizeOf u<SizeOf.sizeOf t:=by
 have h1:=List.sizeOf_lt_of_mem h
 cases t with
 |mk th ns is=>
  grind
def dq.sm{t:aj}(h:dq t):cU t:=by
 have:=h.len;refine .mk t (by omega) ?_ λu hu=> ?_
 ·rcases h.inner with e|⟨x,_,_,e⟩<;>rw[e]<;>simp
 ·rcases h.inner with e|⟨x,_,_,e⟩
  ·rw[e]at hu;cases hu
  ·rw[e]at hu;simp only[Q5]at hu;subst hu;exact .mk _ (by simp) (by simp) (by simp)
@[simp] def adI (l:List Int) (h:l.length<=1000000):kv l=some l:=by
 unfold kv;rw[bC (by simp;omega)]
 cases l with
 |nil|cons x l=>simp
def ad4{n:Nat}:∀{t:aj},SizeOf.sizeOf t<n->cU t->w6 n (t,())=some t:=by
 induction n with
 |zero=>intro t h;omega
 |succ n ih=>
  intro t hs hm;show xb (w6 n) t=some t;unfold xb;have hl:=hm.len;rw[adI _ hm.nodes,Qa]
  suffices key:∀(k i:Nat) (t':aj),i+k=t.aO.length->t'.aI=t.aI->t'.bb=t.bb->aD (λ(v2:Int×aj×(List aj)×Unit)=>
    bif (decide (v2.1<((List.length t.aO:Nat):Int)))then
    Option.bind (idx t.aO v2.1) λx3=>
    Option.bind (w6 n ((aj.mk x3.aI x3.bb x3.aO),())) λr4=>
    bif bl 56 (List.length v2.2.2.1+List.length [(aj.mk r4.aI r4.bb r4.aO)])then
    some (Sum.inl ((aA .i64 v2.1 (1:Int)),(aj.mk v2.2.1.aI v2.2.1.bb ([]:List aj)),(v2.2.2.1++[(aj.mk r4.aI r4.bb r4.aO)]),()))
    else none
    else
    Option.map Sum.inr (some (aj.mk v2.2.1.aI v2.2.1.bb v2.2.2.1))) ((i:Int),t',t.aO.take i,())=some t by
   have:=key t.aO.length 0 ⟨t.aI,t.bb,[]⟩ (by omega) rfl rfl
   simpa using this
  intro k
  induction k with
  |zero=>
   grind [bM,aj.eta]
  |succ k ihk=>
   intro i t' hi h1 h2;have hlt:i<t.aO.length:=by omega
   have hd:decide ((i:Int)<(t.aO.length:Int))=true:=Qg (by omega)
   have hx:idx t.aO (i:Int)=some t.aO[i]:=by rw[bf];exact Qv hlt
   have hw:aA .i64 (i:Int) 1=((i+1:Nat):Int):=bH (by omega) (by omega)
   have hmem:t.aO[i]∈t.aO:=Q0 hlt;have hr:=ih (t:=t.aO[i]) (by have:=sf hmem;omega) (hm.inner _ hmem)
   rw[bw (s':=(((i+1:Nat):Int),⟨t'.aI,t'.bb,[]⟩,t.aO.take (i+1),()))]
   ·exact ihk (i+1) _ (by omega) h1 h2
   ·simp only[hd,Qk,hx,hw,Qa,etas,hr];rw[bC (by simp;omega),Q7 hlt]
    rfl
@[simp] def ml {t:aj} (h:cU t):fB t=some t:=ad4 (by omega) h
def BI{α σ ρ:Type}{g:α->σ->Option (σ⊕ρ)}{fin:σ->Option ρ}(hf:∀s,∃r,fin s=some r):∀(l:List α),(∀x∈l,∀s,∃y,g x s=some y)->∀s,∃r,fK g fin l s=some r
 |[],_,s=>hf s
 |x::l,h,s=>by
  obtain⟨y,hy⟩:=h x (by simp) s
  rw[fK,hy]
  cases y with
  |inr r=>exact⟨r,rfl⟩
  |inl s'=>exact BI hf l (λx hx=>h x (by simp[hx])) s'
theorem Mt{α σ ρ:Type}{g g':α->σ->Option (σ⊕ρ)}{fin:σ->Option ρ}:∀(l:List α),(∀x∈l,∀s,g x s=g' x s)->∀s,fK g fin l s=fK g' fin l s
 |[],_,s=>rfl
 |x::l,h,s=>by
  rw[fK,fK,h x (by simp) s]
  cases g' x s with
  |none=>rfl
  |some y=>
   cases y with
   |inr r=>rfl
   |inl s'=>exact Mt l (λx hx=>h x (by simp[hx])) s'
def Mz{n:Nat}:∀{t:aj},SizeOf.sizeOf t<n->cU t->∃d,oQ n (t,())=some d:=by
 induction n with
 |zero=>intro t h;omega
 |succ n ih=>
  intro t hs hm;show∃d,jS (oQ n) t=some d;have hl:=hm.len;rw[Sx (by omega)]
  refine BI (λs=>⟨_,rfl⟩) _ (λu hu s=> ?_) _
  obtain⟨d,hd⟩:=ih (t:=u) (by have:=sf hu;omega) (hm.inner u hu)
  exact⟨_,by rw[hd];rfl⟩
def N3{n:Nat}:∀{t:aj},SizeOf.sizeOf t<n->cU t->∃d,qg n (t,())=some d:=by
 induction n with
 |zero=>intro t h;omega
 |succ n ih=>
  intro t hs hm;show∃d,k9 (qg n) t=some d;have hl:=hm.len;rw[Xa (by omega)]
  refine BI (λs=>⟨_,rfl⟩) _ (λu hu s=> ?_) _
  obtain⟨d,hd⟩:=ih (t:=u) (by have:=sf hu;omega) (hm.inner u hu)
  exact⟨_,by rw[hd];rfl⟩
def JM{rec:aj->Option Int}{t:aj}(h:∀u∈t.aO,∃r,rec u=some r):∃r,sS rec t=some r:=by
 unfold sS;split
 ·exact⟨_,rfl⟩
 ·split
  ·exact⟨_,rfl⟩
  ·split
   ·refine BI (λs=>⟨_,rfl⟩) _ (λu hu s=> ?_) _
    obtain⟨r,hr⟩:=h u hu;exact⟨_,by rw[hr];rfl⟩
   ·exact⟨_,rfl⟩
theorem Vr{rec rec':aj->Option Int}{t:aj}(h:∀u∈t.aO,rec u=rec' u):sS rec t=sS rec' t:=by
 grind [sS,Mt]
def Xw{n:Nat}:∀{t:aj},SizeOf.sizeOf t<n->cU t->∃d,fN n (t,())=some d/\qS n (t,())=some d:=by
 induction n with
 |zero=>intro t h;omega
 |succ n ih=>
  intro t hs hm;show∃d,iH (fN n) t=some d/\oF (qS n) t=some d;have hl:=hm.len;have hn:=hm.nodes;rw[Lr (by omega) (by omega),Sy (by omega) (by omega)]
  have hih:∀u∈t.aO,∃r,fN n (u,())=some r/\qS n (u,())=some r:=λu hu=>ih (t:=u) (by have:=sf hu;omega) (hm.inner u hu)
  obtain⟨r,hr⟩:=JM (rec:=λu=>fN n (u,())) (t:=t) λu hu=>by obtain⟨r,h1,_⟩:=hih u hu;exact⟨r,h1⟩
  grind [Vr]
def afQ{n:Nat}:∀{t:aj},SizeOf.sizeOf t<n->cU t->∃d,fN n (t,())=some d:=by
 induction n with
 |zero=>intro t h;omega
 |succ n ih=>
  intro t hs hm;show∃d,iH (fN n) t=some d;have hl:=hm.len;have hn:=hm.nodes;rw[Lr (by omega) (by omega)]
  exact JM (rec:=λu=>fN n (u,())) (t:=t) λu hu=>ih (t:=u) (by have:=sf hu;omega) (hm.inner u hu)
theorem aeT{t:aj}(h:cU t):∃v,bS t=some v:=by
 obtain⟨d,hd⟩:∃d,jJ t=some d:=Mz (by omega) h
 obtain⟨z,hz⟩:∃z,kU t=some z:=N3 (by omega) h
 obtain⟨l,hl1⟩:∃l,l0 t=some l:=afQ (by omega) h
 simp[bS,hd,hz,hl1]
theorem YT{t:aj}(h:cU t):∃v,bS t=some v/\cI t=some v:=by
 obtain⟨d,hd⟩:∃d,jJ t=some d:=Mz (by omega) h
 obtain⟨z,hz⟩:∃z,kU t=some z:=N3 (by omega) h
 obtain⟨l,hl1,hl2⟩:∃l,l0 t=some l/\uI t=some l:=Xw (by omega) h
 simp[bS,cI,SS,UW,hd,hz,hl1,hl2]
 def G5(t:aj):Int:=(bS t).getD 1
def KJ{t:aj}(h:cU t):bS t=some (G5 t):=by
 grind [aeT,G5]
def AS{t:aj}(h:cU t):cI t=some (G5 t):=by
 grind [YT,G5]
def vC{t:aj}(h:dq t):G5 t=0:=by rw[G5,eJ h];rfl
 def bc(e:ak):Bool:=gV (G5 e.aa) e
def sk{e:ak}(h:cU e.aa):dC e=some (bc e):=AA (KJ h)
def jU{e:ak}(h:cU e.aa):dg e=some (bc e):=uo (AS h)
def qb(s:Nat)(x:Int):Bool:=fP x&&s.testBit x.toNat
theorem tY{s:Nat}(h:s<1024)(x:Int):xn s x=qb s x:=by
 grind [xn,qb]
mutual
def mq(s:Nat):aj->Bool
 |⟨th,ns,is⟩=>decide (th<=((ns.countP (qb s)+zn s is:Nat):Int))
def zn(s:Nat):List aj->Nat
 |[]=>0
 |t::l=>(if mq s t then 1 else 0)+zn s l
end
def Rs(s:Nat)(t:aj):mq s t=decide (t.aI<=((t.bb.countP (qb s)+zn s t.aO:Nat):Int)):=by
 cases t;rw[mq]
def H7(s:Nat)(hs:s<1024)(fin:Int->Option Bool):∀(l:List Int) (n:Nat),n+l.length<=9000000->
  fK (λx (m:Int)=>some (.inl (if xn s x then aA .i64 m 1 else m))) fin l n=fin ((n+l.countP (qb s):Nat):Int)
 |[],n,_=>by simp[fK]
 |x::l,n,h=>by
  simp at h;rw[fK,tY hs,List.countP_cons]
  cases hx:qb s x with
  |false=>
   simp only[Qq,Qu,Nat.add_zero];exact H7 s hs fin l n (by omega)
  |true=>
   simp only[Qt];rw[bH (by omega) (by omega)]
   rw[show(n:Int)+1=((n+1:Nat):Int)by omega,H7 s hs fin l (n+1) (by omega)]
   congr 2;omega
def MS(s:Nat)(rec:aj->Option Bool)(fin:Int->Option Bool):∀(l:List aj) (n:Nat),n+l.length<=9000000->(∀u∈l,rec u=some (mq s u))->
  fK (λu (m:Int)=>(rec u).map λr=> .inl (if r then aA .i64 m 1 else m)) fin l n=fin ((n+zn s l:Nat):Int)
 |[],n,_,_=>by simp[fK,zn]
 |u::l,n,h,hr=>by
  simp at h;rw[fK,hr u (by simp),zn]
  cases hx:mq s u with
  |false=>
   simp only[Qe,Qq,Qu,Nat.zero_add];exact MS s rec fin l n (by omega) λu hu=>hr u (by simp[hu])
  |true=>
   simp only[Qe,Qt];rw[bH (by omega) (by omega)]
   rw[show(n:Int)+1=((n+1:Nat):Int)by omega,MS s rec fin l (n+1) (by omega) λu hu=>hr u (by simp[hu])]
   congr 2;omega
def ajx{rec:(aj×Int×Unit)->Option Bool}{t:aj}{s:Nat}(hs:s<1024)(hm:cU t)(hr:∀u∈t.aO,rec (u,(s:Int),())=some (mq s u)):jT rec t s=some (mq s t):=by
 unfold jT;have hn:=hm.nodes;have hl:=hm.len;have hv:eU (s:Int)=some true:=by unfold eU;simp;omega
 rw[hv];simp only[Qa,Qo,Ql,aS];rw[iB t.bb (by omega) (λi (m:Int)=>(m,i,())) (λx (m:Int)=>some (.inl (if xn s x then aA .i64 m 1 else m))) (λm=>fK (λu (m:Int)=>(rec (u,(s:Int),())).map λr=> .inl (if r then aA .i64 m 1 else m)) (λm=>some (decide (t.aI<=m))) t.aO m) (λi x m hd hx hw=> ?_) (λm hd=> ?_) 0]
 ·rw[show(0:Int)=((0:Nat):Int)from rfl,H7 s hs _ t.bb 0 (by omega)]
  rw[MS s (λu=>rec (u,(s:Int),())) _ t.aO _ (by have:=List.countP_le_length (p:=qb s) (l:=t.bb);omega) hr,Rs]
  simp
 ·grind [mR,xn]
 ·simp only[hd,Ql];rw[iB t.aO (by omega) (λi (m:Int)=>(m,i,())) (λu (m:Int)=>(rec (u,(s:Int),())).map λr=> .inl (if r then aA .i64 m 1 else m)) (λm=>some (decide (t.aI<=m))) (λi x m hd hx hw=> ?_) (λm hd=> ?_) m]
  ·simp only[hd,hx,hw,Qk,Qa,etas]
   cases rec (x,(s:Int),())with
   |none=>rfl
   |some r=>cases r<;>rfl
  ·simp only[hd,Ql]
def ajt{s:Nat}(hs:s<1024){n:Nat}:∀{t:aj},SizeOf.sizeOf t<n->cU t->sB n (t,(s:Int),())=some (mq s t):=by
 induction n with
 |zero=>intro t h;omega
 |succ n ih=>
  intro t hz hm;show jT (sB n) t s=some (mq s t);exact ajx hs hm λu hu=>ih (t:=u) (by have:=sf hu;omega) (hm.inner u hu)
def Cw{s:Nat}(hs:s<1024){t:aj}(hm:cU t):jK t s=some (mq s t):=ajt hs (by omega) hm
def Ze(t:aj)(s:Int):jK t s=iY t s:=by
 have hB:∀(rec:(aj×Int×Unit)->Option Bool) (t:aj) (s:Int),jT rec t s=ot rec t s:=by
  grind [jT,ot,eU,gf,Sr,mR,qn]
 grind [jK,iY,sB,zd]
def KB{s:Nat}(hs:s<1024){t:aj}(hm:cU t):iY t s=some (mq s t):=by rw[<-Ze];exact Cw hs hm
def abz{s s':Nat}(h:∀k,s.testBit k=true->s'.testBit k=true)(x:Int)(hx:qb s x=true):qb s' x=true:=by
 grind [qb]
mutual
def SO{s s':Nat}(h:∀k,s.testBit k=true->s'.testBit k=true):∀(t:aj),mq s t=true->mq s' t=true
 |⟨th,ns,is⟩,ht=>by
  rw[mq,Qi]at ht ⊢;have h1:=SP h is;have h2:ns.countP (qb s)<=ns.countP (qb s'):=List.countP_mono_left λx _ hx=>abz h x hx
  omega
def SP{s s':Nat}(h:∀k,s.testBit k=true->s'.testBit k=true):∀(l:List aj),zn s l<=zn s' l
 |[]=>by simp[zn]
 |t::l=>by
  have h1:=SP h l;have h2:=SO h t;rw[zn,zn]
  cases hs:mq s t with
  |false=>simp;omega
  |true=>rw[h2 hs];simp;omega
end
end
section
def ae7(s:Int):eU s=some (decide (0<=s)&&decide (s<1024)):=by
 unfold eU;simp;congr 1;rw[decide_eq_decide];omega
def C1{s:Nat}(h:s<1024):gf (s:Int)=some true:=by rw[Sr];simp;omega
def xE{s:Nat}(h:s<1024):eU (s:Int)=some true:=by rw[ae7];simp;omega
def MD(a b:Nat)(ha:a<2 ^ 62)(hb:b<2 ^ 62):∃c:Nat,Br .i64 (a:Int) (b:Int)=(c:Int)/\c<=a/\∀k,c.testBit k=(a.testBit k&& !b.testBit k):=by
 refine⟨((BitVec.ofInt 64 (a:Int)&&& ~~~ BitVec.ofInt 64 (b:Int)).toNat),?_,?_,λk=> ?_⟩
 ·have hle:(BitVec.ofInt 64 (a:Int)&&& ~~~ BitVec.ofInt 64 (b:Int)).toNat<=a:=by
   rw[BitVec.toNat_and,vN a ha];exact Nat.and_le_left
  show IntKind.i64.wrap (((BitVec.ofInt 64 (a:Int)&&& ~~~ BitVec.ofInt 64 (b:Int)).toNat:Nat):Int)=_;exact DE _ (by omega)
 ·rw[BitVec.toNat_and,vN a ha];exact Nat.and_le_left
 ·have h1:∀i (x:Nat),x<2 ^ 62->(BitVec.ofInt 64 (x:Int)).getLsbD i=x.testBit i:=by
   intro i x hx;rw[<-BitVec.testBit_toNat,vN x hx]
  rw[BitVec.testBit_toNat,BitVec.getLsbD_and,BitVec.getLsbD_not,h1 k a ha,h1 k b hb]
  by_cases hk:k<64
  ·simp[hk]
  ·have:a.testBit k=false:=Nat.testBit_lt_two_pow (QJ ha (Nat.pow_le_pow_right (by omega) (by omega)))
   simp[this]
def Dy{a b:Nat}(h:∀k,a.testBit k=b.testBit k):a=b:=Nat.eq_of_testBit_eq h
def PW{s k:Nat}(hs:s<1024)(hk:s.testBit k=true):k<10:=by
 rcases Nat.lt_or_ge k 10 with h|h
 ·exact h
 ·have:s.testBit k=false:=Nat.testBit_lt_two_pow (QJ hs (show 2 ^ 10<=2 ^ k from Nat.pow_le_pow_right (by omega) h))
  rw[this]at hk;cases hk
def K5{s:Nat}(h:∀k,s.testBit k=true->k<10):s<1024:=by
 rcases Nat.lt_or_ge s 1024 with h1|h1
 ·exact h1
 ·obtain⟨k,hk1,hk2⟩:=Nat.exists_ge_and_testBit_of_ge_two_pow (n:=10) h1;have:=h k hk2;omega
theorem yE(s k:Nat):qb s (k:Int)=(decide (k<10)&&s.testBit k):=by
 have h1:decide ((k:Int)<10)=decide (k<10):=by rw[decide_eq_decide];omega
 have h2:decide (0<=(k:Int))=true:=Qg (by omega)
 simp only[qb,fP,h1,h2,Bool.true_and,QV]
def H4(i:Nat)(s:Nat):List bh->Nat
 |[]=>s
 |m::l=>H4 (i+1) (if m.fq&&decide (i<10)then s|||2 ^ i else s) l
def jY(l:List bh):Nat:=H4 0 0 l
def TF:∀(l:List bh) (i s k:Nat),(H4 i s l).testBit k=(s.testBit k||(decide (i<=k)&&decide (k<10)&&((l[k - i]?).any (·.fq))))
 |[],i,s,k=>by simp[H4]
 |m::l,i,s,k=>by
  rw[H4,TF l (i+1)]
  by_cases hk:k=i
  ·subst hk;have h1:¬(k+1<=k):=by omega
   cases hm:m.fq<;>by_cases hi:k<10<;>simp[hm,hi,h1,Nat.testBit_or]
  ·have h2:i<=k↔i+1<=k:=by omega
   have h3:∀b:Bool,(if(b&&decide (i<10))=true then s|||2 ^ i else s).testBit k=s.testBit k:=by
    intro b;split
    ·rw[Nat.testBit_or,Nat.testBit_two_pow];have:¬i=k:=λe=>hk e.symm
     simp[this]
    ·rfl
   rw[h3]
   by_cases hik:i+1<=k
   ·have h4:(m::l)[k - i]?=l[k - (i+1)]?:=by
     rw[show k - i=(k - (i+1))+1 by omega,List.getElem?_cons_succ]
    rw[h4];have:i<=k:=by omega
    simp[this,hik]
   ·have:¬i<=k:=by omega
    simp[this,hik]
def TE(l:List bh)(k:Nat):(jY l).testBit k=(decide (k<10)&&((l[k]?).any (·.fq))):=by
 rw[jY,TF];simp
def Em(l:List bh):jY l<1024:=K5 λk hk=>by
 rw[TE]at hk;simp at hk;exact hk.1
def TD(step:(Int×Int×Unit)->Option ((Int×Int×Unit)⊕Int))(l:List bh)
  (h1:∀(i:Nat) (m:bh) (s:Nat),l[i]?=some m->s<1024->step ((s:Int),(i:Int),())=some (.inl (((if m.fq&&decide (i<10)then s|||2 ^ i else s:Nat):Int),((i+1:Nat):Int),())))
  (h2:∀s:Int,step (s,(l.length:Int),())=some (.inr s)):aD step (0,0,())=some ((jY l:Nat):Int):=by
 suffices key:∀(k i s:Nat),i+k=l.length->s<1024->aD step ((s:Int),(i:Int),())=some ((H4 i s (l.drop i):Nat):Int)by
  have:=key l.length 0 0 (by omega) (by omega)
  simpa[jY]using this
 intro k
 induction k with
 |zero=>
  intro i s hi hs;obtain rfl:i=l.length:=by omega
  rw[bM (h2 s),Qq66];rfl
 |succ k ih=>
  intro i s hi hs;have hlt:i<l.length:=by omega
  rw[QM hlt,H4,bw (h1 i l[i] s (Qv hlt) hs)];refine ih (i+1) _ (by omega) ?_
  split
  ·rename_i hc;simp only[Qm,Qi]at hc;have:=Bz (x:=(i:Int)) hs (by omega)
   simpa using this
  ·exact hs
def MG{c:bd}(h:c.bn.length<=1000000):jm c=some ((jY c.bn:Nat):Int):=by
 unfold jm;refine TD _ _ (λi m s hm hs=> ?_) (λs=> ?_)
 ·have hlt:i<c.bn.length:=(Qw.1 hm).1;have hd:decide ((i:Int)<(c.bn.length:Int))=true:=Qg (by omega)
  have hw:aA .i64 (i:Int) 1=((i+1:Nat):Int):=bH (by omega) (by omega)
  have hx:idx c.bn (i:Int)=some m:=by rw[bf];exact hm
  have h0:¬(i:Int)<0:=by omega
  simp only[hd,hx,hw,Qk,Qa,aS,h0,Qu]
  cases m.fq with
  |false=>simp
  |true=>
   by_cases h10:i<10
   ·have:(i:Int)<10:=by omega
    have ho:=qL (x:=(i:Int)) hs (by omega) (by omega)
    simp only[QV]at ho;simp[this,h10,ho]
   ·have:¬(i:Int)<10:=by omega
    simp[this,h10]
 ·have hd:decide ((c.bn.length:Int)<(c.bn.length:Int))=false:=Qh (Qq64 _);simp only[hd,Ql,Qe]
def DP{c:bd}(h:c.bn.length<=1000000):mQ c=some ((jY c.bn:Nat):Int):=by
 unfold mQ;refine TD _ _ (λi m s hm hs=> ?_) (λs=> ?_)
 ·have hlt:i<c.bn.length:=(Qw.1 hm).1;have hd:decide ((i:Int)<(c.bn.length:Int))=true:=Qg (by omega)
  have hw:aA .i64 (i:Int) 1=((i+1:Nat):Int):=bH (by omega) (by omega)
  have hx:idx c.bn (i:Int)=some m:=by rw[bf];exact hm
  have h0:¬(i:Int)<0:=by omega
  simp only[hd,hx,hw,Qk,Qa,aS,h0,Qu]
  by_cases h10:i<10
  ·have:(i:Int)<10:=by omega
   have ho:=qL (x:=(i:Int)) hs (by omega) (by omega)
   simp only[QV]at ho;cases m.fq<;>simp[this,h10,ho]
  ·have:¬(i:Int)<10:=by omega
   cases m.fq<;>simp[this,h10]
 ·have hd:decide ((c.bn.length:Int)<(c.bn.length:Int))=false:=Qh (Qq64 _);simp only[hd,Ql,Qe]
structure AO (c:bd):Prop where
 len:c.bn.length<=1000000
 aN:∀m∈c.bn,cU m.aa
def pD(l:List bh)(k:Nat):aj:=((l[k]?).map (·.aa)).getD ⟨0,[],[]⟩
def uy(l:List bh)(k:Nat):Bool:=(jY l).testBit k
def zV{l:List bh}{k:Nat}(h:uy l k=true):k<10/\∃m,l[k]?=some m/\m.fq=true:=by
 rw[uy,TE]at h;simp only[Qm,Qi,Option.any_eq_true]at h;obtain⟨h1,m,h2,h3⟩:=h;exact⟨h1,m,h2,h3⟩
def Bv{l:List bh}{k:Nat}{m:bh}(h:l[k]?=some m):pD l k=m.aa:=by rw[pD,h];rfl
def Du(s v:Nat):Nat:=(1023^^^s)|||2 ^ v
def Bq(l:List bh)(v s:Nat):Bool:=uy l v&& !mq (Du s v) (pD l v)
def aee(k:Nat):(1023:Nat).testBit k=decide (k<10):=by
 rw[show(1023:Nat)=2 ^ 10 - 1 from rfl,Nat.testBit_two_pow_sub_one]
def C6{s:Nat}(hs:s<1024)(v k:Nat):(Du s v).testBit k=(decide (k<10)&& !s.testBit k||decide (v=k)):=by
 rw[Du,Nat.testBit_or,Nat.testBit_xor,aee,Nat.testBit_two_pow]
 by_cases hk:k<10
 ·simp[hk]
 ·have:s.testBit k=false:=by
   cases h:s.testBit k with
   |false=>rfl
   |true=>exact absurd (PW hs h) hk
  simp[hk,this]
def Tg{s v:Nat}(hs:s<1024)(hv:v<10):Du s v<1024:=K5 λk hk=>by
 rw[C6 hs]at hk;simp at hk;omega
def Xr{s v:Nat}(hs:s<1024)(hv:v<10):sx .i64 (Br .i64 1023 (s:Int)) (bW .i64 1 (v:Int))=((Du s v:Nat):Int):=by
 obtain⟨c,h1,h2,h3⟩:=MD 1023 s (by omega) (by omega)
 have h1':Br .i64 1023 (s:Int)=(c:Int):=h1;rw[h1',ym v (by omega),Gl c (2 ^ v) (by omega) (Nat.pow_lt_pow_right (by omega) (by omega))]
 congr 1;refine Dy λk=> ?_
 rw[C6 hs,Nat.testBit_or,h3,aee,Nat.testBit_two_pow]
def Zx{s v:Nat}(hs:s<1024)(hv:v<10):sx .i64 (cQ .i64 1023 (s:Int)) (bW .i64 1 (v:Int))=((Du s v:Nat):Int):=by
 have h1:cQ .i64 1023 (s:Int)=((1023 - s:Nat):Int):=by rw[nT (by omega) (by omega)];omega
 rw[h1,ym v (by omega),Gl _ (2 ^ v) (by omega) (Nat.pow_lt_pow_right (by omega) (by omega))]
 congr 1;refine Dy λk=> ?_
 rw[C6 hs,Nat.testBit_or,Nat.testBit_two_pow]
 have h2:(1023 - s).testBit k=(decide (k<10)&& !s.testBit k):=by
  have:=Nat.testBit_two_pow_sub_succ (x:=s) (n:=10) (by omega) k
  rw[show 2 ^ 10 - (s+1)=1023 - s by omega]at this
  exact this
 rw[h2]
def TV{c:bd}(hc:AO c){v s:Nat}(hs:s<1024):oZ c v s=some (Bq c.bn v s):=by
 unfold oZ Bq;rw[C1 hs,MG hc.len];simp only[Qa,Qo,Ql,qn,tY (Em _),yE]
 cases hd:uy c.bn v with
 |false=>
  have:(decide (v<10)&&(jY c.bn).testBit v)=false:=by
   rw[show(jY c.bn).testBit v=uy c.bn v from rfl,hd];simp
  simp[this]
 |true=>
  obtain⟨h10,m,hm,hdm⟩:=zV hd
  have:(decide (v<10)&&(jY c.bn).testBit v)=true:=by
   rw[show(jY c.bn).testBit v=uy c.bn v from rfl,hd];simp[h10]
  rw[bf,hm,Xr hs h10];have h0:¬(v:Int)<0:=by omega
  have hmem:m∈c.bn:=Q8 hm;simp only[this,Qo,Ql,Qa,h0,Qu,etas,KB (Tg hs h10) (hc.aN m hmem),Bv hm,Bool.true_and]
def On{c:bd}(hc:AO c){v s:Nat}(hs:s<1024):pL c v s=some (Bq c.bn v s):=by
 unfold pL Bq;rw[xE hs,DP hc.len];simp only[Qa,Qo,Ql,mR,tY (Em _),yE]
 cases hd:uy c.bn v with
 |false=>
  have:(decide (v<10)&&(jY c.bn).testBit v)=false:=by
   rw[show(jY c.bn).testBit v=uy c.bn v from rfl,hd];simp
  simp[this]
 |true=>
  obtain⟨h10,m,hm,hdm⟩:=zV hd
  have:(decide (v<10)&&(jY c.bn).testBit v)=true:=by
   rw[show(jY c.bn).testBit v=uy c.bn v from rfl,hd];simp[h10]
  rw[bf,hm,Zx hs h10];have h0:¬(v:Int)<0:=by omega
  have hmem:m∈c.bn:=Q8 hm;simp only[this,Qo,Ql,Qa,h0,Qu,etas,Cw (Tg hs h10) (hc.aN m hmem),Bv hm,Bool.true_and]
end
section
def oK(s:Nat):List Int:=(xz 10).filter (qb s)
theorem afN{n:Nat}{x:Int}:x∈xz n↔∃k:Nat,k<n/\x=k:=by
 grind [xz]
def Da{s:Nat}{x:Int}:x∈oK s↔∃k:Nat,k<10/\x=k/\s.testBit k=true:=by
 grind [oK,afN,yE]
theorem OM(step:(Int×List Int×Unit)->Option ((Int×List Int×Unit)⊕List Int))(s:Nat)
  (h1:∀(i:Nat) (acc:List Int),i<10->acc.length<=i->step ((i:Int),acc,())=some (.inl (((i+1:Nat):Int),(if qb s i then acc++[(i:Int)]else acc),())))
  (h2:∀acc,step (((10:Nat):Int),acc,())=some (.inr acc)):aD step (0,[],())=some (oK s):=by
 suffices key:∀(k i:Nat) (acc:List Int),i+k=10->acc=(xz i).filter (qb s)->aD step ((i:Int),acc,())=some (oK s)from key 10 0 [] rfl rfl
 intro k
 induction k with
 |zero=>
  intro i acc hi ha;obtain rfl:i=10:=by omega
  rw[bM (h2 acc),ha];rfl
 |succ k ih=>
  intro i acc hi ha;have hlen:acc.length<=i:=by rw[ha];exact QK (List.length_filter_le _ _) (by simp)
  rw[bw (h1 i acc (by omega) hlen)]
  refine ih (i+1) _ (by omega) ?_
  rw[UG,List.filter_append,<-ha];cases hh:qb s i<;>simp[hh]
def WY{s:Nat}(hs:s<1024):rR (s:Int)=some (oK s):=by
 grind [rR,OM,aA,bH,aS,qn,tY,bC,qb]
def Jt{s:Nat}(hs:s<1024):qY (s:Int)=some (oK s):=by
 grind [qY,OM,aA,bH,aS,mR,tY,bC,qb]
def GW(l:List bh)(s r:Nat):Prop:=∀k,r.testBit k=true->s.testBit k=true/\uy l k=true/\mq r (pD l k)=true
structure Ag (l:List bh) (s q:Nat):Prop where
 inside:GW l s q
 max:∀r,GW l s r->∀k,r.testBit k=true->q.testBit k=true
def Ag.unique{l:List bh}{s q q':Nat}(h:Ag l s q)(h':Ag l s q'):q=q':=by
 refine Dy λk=> ?_
 rw[QW];exact⟨h'.max q h.inside k,h.max q' h'.inside k⟩
def Ag.lt{l:List bh}{s q:Nat}(h:Ag l s q):q<1024:=K5 λk hk=>(zV (h.inside k hk).2.1).1
def pR(l:List bh)(s:Nat):Option Int:=(oK s).find? λx=> !mq s (pD l x.toNat)
def Cs{l:List bh}{s:Nat}{x:Int}(h:pR l s=some x):∃k:Nat,x=k/\k<10/\s.testBit k=true/\mq s (pD l k)=false:=by
 have h1:=List.mem_of_find?_eq_some h;have h2:=List.find?_some h;obtain⟨k,hk,rfl,hb⟩:=Da.1 h1;simp at h2;exact⟨k,rfl,hk,hb,h2⟩
def TW{l:List bh}{s:Nat}(hs:s<1024)(h:pR l s=none):∀k,s.testBit k=true->mq s (pD l k)=true:=by
 intro k hk;have:=List.find?_eq_none.1 h (k:Int) (Da.2 ⟨k,PW hs hk,rfl,hk⟩);simpa using this
def ae0:∀s,s<1024->∀k,k<10->s.testBit k=true->s - 2 ^ k=s^^^2 ^ k:=by decide+kernel
def Ga{s k:Nat}(hs:s<1024)(hk:s.testBit k=true):2 ^ k<=s/\∀j,(s - 2 ^ k).testBit j=(s.testBit j&& !decide (k=j)):=by
 have hle:2 ^ k<=s:=Nat.ge_two_pow_of_testBit hk;refine⟨hle,?_⟩;have hx:s - 2 ^ k=s^^^2 ^ k:=ae0 s hs k (PW hs hk) hk
 grind
structure pQ (l:List bh) (s0 s:Nat):Prop where
 lt:s<1024
 sub:∀k,s.testBit k=true->s0.testBit k=true/\uy l k=true
 max:∀r,GW l s0 r->∀k,r.testBit k=true->s.testBit k=true
def pQ.first(l:List bh){s:Nat}(hs:s<1024):pQ l s (s&&&jY l):=by
 refine⟨Nat.lt_of_le_of_lt Nat.and_le_left hs,λk hk=> ?_,λr hr k hk=> ?_⟩
 ·rw[Nat.testBit_and,Qm]at hk;exact hk
 ·rw[Nat.testBit_and,Qm];exact⟨(hr k hk).1,(hr k hk).2.1⟩
def pQ.next{l:List bh}{s0 s k:Nat}(h:pQ l s0 s)(hk:s.testBit k=true)(hu:mq s (pD l k)=false):pQ l s0 (s - 2 ^ k):=by
 obtain⟨h1,h2⟩:=Ga h.lt hk;refine⟨Nat.lt_of_le_of_lt (Nat.sub_le _ _) h.lt,λj hj=> ?_,λr hr j hj=> ?_⟩
 ·rw[h2]at hj;simp at hj;exact h.sub j hj.1
 ·rw[h2,h.max r hr j hj]
  have:k≠j:=by
   intro e;subst e;have:=SO (λi hi=>h.max r hr i hi) _ (hr k hj).2.2
   rw[hu]at this;cases this
  simp[this]
def pQ.done{l:List bh}{s0 s:Nat}(h:pQ l s0 s)(hn:pR l s=none):Ag l s0 s:=
 ⟨λk hk=>⟨(h.sub k hk).1,(h.sub k hk).2,TW h.lt hn k hk⟩,h.max⟩
def Tx{l:List Int}{ρ:Type}{f:Int->Bool}{hit:Int->ρ}{fin:Unit->Option ρ}{g:Int->Unit->Option (Unit⊕ρ)}(hg:∀x∈l,∀s,g x s=some (if f x then .inr (hit x)else .inl ())):
  fK g fin l ()=match l.find? f with|some x=>some (hit x)|none=>fin ():=by
 induction l with
 |nil=>rfl
 |cons x l ih=>
  grind [fK]
def zG(s:Nat):(oK s).length<=10:=QK (List.length_filter_le _ _) (by simp)
def YV{c:bd}(hc:AO c){s:Nat}(hs:s<1024)(hsub:∀k,s.testBit k=true->uy c.bn k=true):
  oX c s=some (match pR c.bn s with|some x=>(x,true,())|none=>(0,false,())):=by
 unfold oX;rw[WY hs,Qa];have hlen:=zG s;rw[iB (oK s) (by omega) (λi (_:Unit)=>(i,())) (λx (_:Unit)=>(oY c x s).map λr=>if r then .inl ()else .inr (x,true,())) (λ_=>some (0,false,())) (λi x u hd hx hw=> ?_) (λu hd=> ?_) ()]
 ·rw[Tx (f:=λx=> !mq s (pD c.bn x.toNat)) (hit:=λx=>(x,true,()))]
  ·grind [pR,oK]
  ·intro x hx u;obtain⟨k,hk,rfl,hb⟩:=Da.1 hx;obtain⟨_,m,hm,_⟩:=zV (hsub k hb);unfold oY;rw[bf,hm];simp only[Qa,etas,KB hs (hc.aN m (Q8 hm)),Qe,QV,Bv hm];cases mq s m.aa<;>rfl
 ·simp only[hd,hx,hw,Qk,Qa]
  cases oY c x s with
  |none=>rfl
  |some r=>cases r<;>rfl
 ·simp only[hd,Ql]
def aag{s k:Nat}(hs:s<1024)(hk:s.testBit k=true):Br .i64 (s:Int) (bW .i64 1 (k:Int))=((s - 2 ^ k:Nat):Int):=by
 have h10:=PW hs hk;obtain⟨c,h1,_,h3⟩:=MD s (2 ^ k) (by omega) (Nat.pow_lt_pow_right (by omega) (by omega))
 rw[ym k (by omega),h1]
 congr 1;refine Dy λj=> ?_
 rw[h3,(Ga hs hk).2,Nat.testBit_two_pow]
def XN{c:bd}(hc:AO c){s:Nat}(hs:s<1024):Yd (lx c s) λq=>∃n:Nat,q=n/\Ag c.bn s n:=by
 unfold lx uZ;rw[C1 hs,MG hc.len];simp only[Qa,Qo,Ql];have hdl:=Em c.bn;rw[Eu s (jY c.bn) (by omega) (by omega)]
 suffices key:∀(n t:Nat) (out:List Int),t<n->pQ c.bn s t->out.length+t<=1024->Yd (aD (λ(v3:Int×(List Int)×Unit)=>
   Option.bind (oX c v3.1) λr4=>
   bif (!r4.2.1)then
   Option.map Sum.inr (some (v3.1,v3.2.1,()))
   else
   bif bl 8 (List.length v3.2.1+List.length [r4.1])then
   if r4.1<0 then none else
   some (Sum.inl ((Br .i64 v3.1 (bW .i64 (1:Int) r4.1)),(v3.2.1++[r4.1]),()))
   else none) ((t:Int),out,())) λp=>∃n:Nat,p.1=n/\Ag c.bn s n by
  have hfirst:=pQ.first c.bn hs
  have hb:=hfirst.lt;refine(key 1024 (s&&&jY c.bn) [] hb hfirst (by simp;omega)).bind λp hp=>Yd.some hp
 intro n
 induction n with
 |zero=>intro t out h;omega
 |succ n ih=>
  intro t out ht hinv hout;refine Yd.loop ?_;rw[YV hc hinv.lt λk hk=>(hinv.sub k hk).2]
  simp only[Qa]
  cases hu:pR c.bn t with
  |none=>exact Yd.some ⟨t,rfl,hinv.done hu⟩
  |some x=>
   obtain⟨k,rfl,hk10,hkb,hks⟩:=Cs hu;have h0:¬(k:Int)<0:=by omega
   have hlb:=(Ga hinv.lt hkb).1;have hp:0<2 ^ k:=Nat.pow_pos (by omega)
   simp only[Qo,Ql];rw[bC (by simp;omega),Qs h0,aag hinv.lt hkb]
   exact Yd.some (ih (t - 2 ^ k) _ (by omega) (hinv.next hkb hks) (by simp;omega))
theorem abA{c:bd}(hc:AO c){s:Nat}(hs:s<1024):∃q,Ag c.bn s q:=by
 suffices key:∀(n t:Nat),t<n->pQ c.bn s t->∃q,Ag c.bn s q from key _ _ (Nat.lt_succ_self _) (pQ.first c.bn hs)
 intro n
 induction n with
 |zero=>intro t h;omega
 |succ n ih=>
  intro t ht hinv
  cases hu:pR c.bn t with
  |none=>exact⟨t,hinv.done hu⟩
  |some x=>
   obtain⟨k,rfl,_,hkb,hks⟩:=Cs hu;have hp:0<2 ^ k:=Nat.pow_pos (by omega)
   have:=(Ga hinv.lt hkb).1;exact ih (t - 2 ^ k) (by omega) (hinv.next hkb hks)
open Classical in
 def gq(l:List bh)(s:Nat):Nat:=if h:∃q,Ag l s q then Classical.choose h else 0
def HV{c:bd}(hc:AO c){s:Nat}(hs:s<1024):Ag c.bn s (gq c.bn s):=by
 grind [abA,gq]
def MF{c:bd}(hc:AO c){s:Nat}(hs:s<1024):lx c s=some ((gq c.bn s:Nat):Int):=by
 obtain⟨q,h1,n,rfl,h2⟩:=XN hc hs;rw[h1,h2.unique (HV hc hs)]
def xA(s:Nat):List Int->Nat
 |[]=>s
 |x::l=>xA (s - 2 ^ x.toNat) l
def NX(s:Nat):∀(l:List Int) (x:Int),xA s (l++[x])=xA s l - 2 ^ x.toNat
 |[],x=>rfl
 |y::l,x=>by rw[List.cons_append,xA,NX _ l x,xA]
def Lm(s:Nat):List Int->Prop
 |[]=>True
 |x::l=>(∃k:Nat,x=k/\k<10/\2 ^ k<=s)/\Lm (s - 2 ^ x.toNat) l
def TR{s:Nat}:∀{l:List Int} {k:Nat},Lm s l->k<10->2 ^ k<=xA s l->Lm s (l++[(k:Int)])
 |[],k,_,h1,h2=>⟨⟨k,rfl,h1,h2⟩,trivial⟩
 |_::_,_,h,h1,h2=>⟨h.1,TR h.2 h1 h2⟩
theorem UM{t k:Nat}(hk:k<10)(h:2 ^ k<=t)(ht:t<1024):cQ .i64 (t:Int) (bW .i64 1 (k:Int))=((t - 2 ^ k:Nat):Int):=by
 grind [ym,nT]
def agW{c:bd}(hc:AO c){s:Nat}(hs:s<1024):Yd (qA c s) λout=>Lm (s&&&jY c.bn) out/\Ag c.bn s (xA (s&&&jY c.bn) out)/\out.length<=1024:=by
 unfold qA;rw[xE hs,DP hc.len];simp only[Qa,Qo,Ql];have hdl:=Em c.bn;rw[Eu s (jY c.bn) (by omega) (by omega)]
 generalize hs0:s&&&jY c.bn=s0
 suffices key:∀(n t:Nat) (b:Bool) (out:List Int),t<n->pQ c.bn s t->(b=false->pR c.bn t=none)->out.length+t<=1024->Lm s0 out->xA s0 out=t->
   Yd (aD (λ(v3:Int×Bool×(List Int)×Unit)=>
    bif v3.2.1 then
    Option.bind (qY v3.1) λr4=>
    aD (λ(v5:Int×Bool×Int×(List Int)×Unit)=>
    bif (decide (v5.2.2.1<((List.length r4:Nat):Int)))then
    Option.bind (idx r4 v5.2.2.1) λx6=>
    Option.bind (idx c.bn x6) λx7=>
    Option.bind (jK (aj.mk x7.aa.aI x7.aa.bb x7.aa.aO) v5.1) λr8=>
    bif (!r8)then
    if x6<0 then none else
    bif bl 8 (List.length v5.2.2.2.1+List.length [x6])then
    Option.map Sum.inr (some (Sum.inl ((cQ .i64 v5.1 (bW .i64 (1:Int) x6)),true,(v5.2.2.2.1++[x6]),())))
    else none
    else
    some (Sum.inl (v5.1,v5.2.1,(aA .i64 v5.2.2.1 (1:Int)),v5.2.2.2.1,()))
    else
    Option.map Sum.inr (some (Sum.inl (v5.1,v5.2.1,v5.2.2.2.1,())))) (v3.1,false,(0:Int),v3.2.2.1,())
    else
    Option.map Sum.inr (some v3.2.2.1)) ((t:Int),b,out,())) λout=>Lm s0 out/\Ag c.bn s (xA s0 out)/\out.length<=1024 by
  have hfirst:=pQ.first c.bn hs
  rw[hs0]at hfirst;have hb:=hfirst.lt;exact key 1024 s0 true [] hb hfirst (λh=>by cases h) (by simp;omega) trivial rfl
 intro n
 induction n with
 |zero=>intro t b out h;omega
 |succ n ih=>
  intro t b out ht hinv hb hout hso hsub;refine Yd.loop ?_
  cases b with
  |false=>
   simp only[Ql];refine Yd.inr (Yd.some ⟨hso,?_,by omega⟩)
   rw[hsub];exact hinv.done (hb rfl)
  |true=>
   simp only[Qk];rw[Jt hinv.lt,Qa];have hlen:=zG t;rw[iB (oK t) (by omega) (λi (_:Unit)=>((t:Int),false,i,out,())) (λx (_:Unit)=>some (if !mq t (pD c.bn x.toNat)then .inr (Sum.inl ((cQ .i64 (t:Int) (bW .i64 (1:Int) x)),true,(out++[x]),()))else .inl ())) (λ_=>some (Sum.inl ((t:Int),false,out,()))) (λi x u hd hx hw=> ?_) (λu hd=> ?_) ()]
   ·rw[Tx (f:=λx=> !mq t (pD c.bn x.toNat)) (hit:=λx=>Sum.inl ((cQ .i64 (t:Int) (bW .i64 (1:Int) x)),true,(out++[x]),())) (λx hx u=>rfl)]
    cases hu:pR c.bn t with
    |none=>
     rw[pR]at hu;rw[hu];refine Yd.some ?_;refine Yd.loop ?_;simp only[Ql];refine Yd.inr (Yd.some ⟨hso,?_,by omega⟩)
     rw[hsub];exact hinv.done hu
    |some x=>
     obtain⟨k,rfl,hk10,hkb,hks⟩:=Cs hu;rw[pR]at hu;rw[hu];have hlb:=(Ga hinv.lt hkb).1;have hp:0<2 ^ k:=Nat.pow_pos (by omega)
     simp only;rw[UM hk10 hlb hinv.lt];refine Yd.some (ih (t - 2 ^ k) true _ (by omega) (hinv.next hkb hks) (λh=>by cases h) (by simp;omega) (TR hso hk10 (by rw[hsub];exact hlb)) (by rw[NX,hsub];rfl))
   ·have hmem:x∈oK t:=by
     rw[bf]at hx;exact Q8 hx
    obtain⟨k,hk10,rfl,hkb⟩:=Da.1 hmem;obtain⟨_,m,hm,_⟩:=zV (hinv.sub k hkb).2;have h0:¬(k:Int)<0:=by omega
    simp only[hd,hx,hw,Qk,Qa,bf c.bn,hm,etas,Cw hinv.lt (hc.aN m (Q8 hm)),h0,Qu,QV,Bv hm];rw[bC (by simp;omega)]
    cases mq t m.aa<;>rfl
   ·simp only[hd,Ql]
def DO{c:bd}(hc:AO c){s:Nat}(hs:s<1024):kW c s=some ((gq c.bn s:Nat):Int):=by
 unfold kW;rw[xE hs,DP hc.len];simp only[Qa,Qo,Ql];have hdl:=Em c.bn;rw[Eu s (jY c.bn) (by omega) (by omega)]
 obtain⟨out,h1,h2,h3,h4⟩:=agW hc hs;rw[h1,Qa];rw[iB out (by omega) (λi (t:Int)=>(t,i,())) (λx (t:Int)=>if x<0 then none else some (.inl (cQ .i64 t (bW .i64 1 x)))) (λt=>some t) (λi x u hd hx hw=> ?_) (λu hd=> ?_) _]
 ·rw[<-h3.unique (HV hc hs)];have hlt:s&&&jY c.bn<1024:=Nat.lt_of_le_of_lt Nat.and_le_left hs;generalize s&&&jY c.bn=t at h2 hlt;clear h1 h3 h4
  induction out generalizing t with
  |nil=>rfl
  |cons x l ih=>
   obtain⟨⟨k,rfl,hk,hle⟩,h2⟩:=h2
   grind [fK,UM,xA]
 ·grind
 ·simp only[hd,Ql]
end
section
structure s5 (l:List ak):Prop where
 len:l.length<=100000
 aN:∀e∈l,cU e.aa
def kq{e:ak}(h:bc e=true):0<=e.al/\e.al<10:=by
 simp only[bc,gV,zY,Qm,Qi]at h;exact⟨h.1.1.1.1.1.1.1,h.1.1.1.1.1.1.2⟩
def jf:bh:=⟨false,⟨0,[],[]⟩⟩
 def fF(ms:List bh)(e:ak):List bh:=
 if bc e&& !((ms[e.al.toNat]?).any (·.fq))then ms.set e.al.toNat ⟨true,e.aa⟩else ms
 def kI(aG:Nat)(t:aj)(l:List ak):List bh:=l.foldl fF ((List.replicate 10 jf).set aG ⟨true,t⟩)
def zl(ms:List bh)(e:ak):(fF ms e).length=ms.length:=by
 unfold fF;split
 ·rw[QY]
 ·rfl
def F5:∀(l:List ak) (ms:List bh),(l.foldl fF ms).length=ms.length
 |[],_=>rfl
 |e::l,ms=>by rw[QU,F5 l,zl]
def I8(aG:Nat)(t:aj)(l:List ak):(kI aG t l).length=10:=by
 rw[kI,F5,QY,List.length_replicate]
def Uw{ms:List bh}(hl:ms.length=10){n:Int}(h0:0<=n)(h1:n<10):∃m,ms[n.toNat]?=some m/\idx ms n=some m:=by
 have:n.toNat<ms.length:=by omega
 exact⟨ms[n.toNat],Qv this,by rw[Pr _ h0];exact Qv this⟩
def YM{aG:Nat}(hn:aG<10){t:aj}(ht:cU t){l:List ak}(hl:s5 l):tl aG t l=some ⟨kI aG t l⟩:=by
 unfold tl
 have h1:(decide ((10:Int)<=10)&&decide ((0:Int)<=10)&&bl 64 (Int.toNat 10))=true:=by
  rw[bC (by decide)];rfl
 have h2:¬(aG:Int)<0:=by omega
 have h3:¬(10:Int)<=aG:=by omega
 rw[h1];simp only[Qk,h2,h3,decide_false,Ql,Qa,etas,ml ht,aS];obtain⟨m,hm1,hm2⟩:=Uw (ms:=List.replicate 10 jf) (by simp) (n:=(aG:Int)) (by omega) (by omega)
 have e10:List.replicate (Int.toNat 10) (bh.mk false (aj.mk 0 [] []))=List.replicate 10 jf:=rfl;rw[e10,hm2,hm1,Qa,Qa];have hlen:=hl.len
 suffices key:∀(k i:Nat) (ms:List bh) (c:bd),i+k=l.length->ms.length=10->aD _ ((i:Int),c,ms,())=some (bd.mk ((l.drop i).foldl fF ms))by
  have:=key l.length 0 ((List.replicate 10 jf).set aG ⟨true,t⟩) ⟨[]⟩ (by omega) (by simp)
  simpa[kI]using this
 intro k
 induction k with
 |zero=>
  intro i ms c hi hms;obtain rfl:i=l.length:=by omega
  refine bM ?_;have hd:decide ((l.length:Int)<(l.length:Int))=false:=Qh (Qq64 _);simp only[hd,Ql,Qq66,List.foldl_nil]
 |succ k ih=>
  intro i ms c hi hms;have hlt:i<l.length:=by omega
  have hd:decide ((i:Int)<(l.length:Int))=true:=Qg (by omega)
  have hw:aA .i64 (i:Int) 1=((i+1:Nat):Int):=bH (by omega) (by omega)
  have hx:idx l (i:Int)=some l[i]:=by rw[bf];exact Qv hlt
  have hsm:=hl.aN _ (Q0 hlt);rw[QM hlt,QU];refine Eq.trans (bw (s':=(((i+1:Nat):Int),⟨[]⟩,fF ms l[i],())) ?_) (ih (i+1) _ _ (by omega) (by rw[zl];exact hms))
  simp only[hd,hx,hw,Qk,Qa,sk hsm];unfold fF
  cases hv:bc l[i]with
  |false=>simp
  |true=>
   obtain⟨h4,h5⟩:=kq hv;obtain⟨m,hm1,hm2⟩:=Uw hms h4 h5;simp only[Qk,hm1,hm2,Qa,ml hsm,Option.any_some,Bool.true_and];cases m.fq<;>simp
def AV{aG:Nat}(hn:aG<10){t:aj}{l:List ak}(hl:s5 l):jj aG t l=some ⟨kI aG t l⟩:=by
 unfold jj
 have h1:(decide ((10:Int)<=10)&&decide ((0:Int)<=10)&&bl 64 (Int.toNat 10))=true:=by
  rw[bC (by decide)];rfl
 have h2:¬(aG:Int)<0:=by omega
 have h3:¬(9:Int)<aG:=by omega
 rw[h1];simp only[Qk,h2,h3,decide_false,Ql,Qa,etas,aS];obtain⟨m,hm1,hm2⟩:=Uw (ms:=List.replicate 10 jf) (by simp) (n:=(aG:Int)) (by omega) (by omega)
 have e10:List.replicate (Int.toNat 10) (bh.mk false (aj.mk 0 [] []))=List.replicate 10 jf:=rfl;rw[e10,hm2,hm1,Qa,Qa];have hlen:=hl.len
 suffices key:∀(k i:Nat) (ms:List bh) (c:bd),i+k=l.length->ms.length=10->aD _ ((i:Int),c,ms,())=some (bd.mk ((l.drop i).foldl fF ms))by
  have:=key l.length 0 ((List.replicate 10 jf).set aG ⟨true,t⟩) ⟨[]⟩ (by omega) (by simp)
  simpa[kI]using this
 intro k
 induction k with
 |zero=>
  intro i ms c hi hms;obtain rfl:i=l.length:=by omega
  refine bM ?_;have hd:decide ((l.length:Int)<(l.length:Int))=false:=Qh (Qq64 _);simp only[hd,Ql,Qq66,List.foldl_nil]
 |succ k ih=>
  intro i ms c hi hms;have hlt:i<l.length:=by omega
  have hd:decide ((i:Int)<(l.length:Int))=true:=Qg (by omega)
  have hw:aA .i64 (i:Int) 1=((i+1:Nat):Int):=bH (by omega) (by omega)
  have hx:idx l (i:Int)=some l[i]:=by rw[bf];exact Qv hlt
  have hsm:=hl.aN _ (Q0 hlt);rw[QM hlt,QU];refine Eq.trans (bw (s':=(((i+1:Nat):Int),⟨[]⟩,fF ms l[i],())) ?_) (ih (i+1) _ _ (by omega) (by rw[zl];exact hms))
  simp only[hd,hx,hw,Qk,Qa,jU hsm];unfold fF
  cases hv:bc l[i]with
  |false=>simp
  |true=>
   obtain⟨h4,h5⟩:=kq hv;obtain⟨m,hm1,hm2⟩:=Uw hms h4 h5;simp only[Qk,hm1,hm2,Qa,Option.any_some,Bool.true_and];cases m.fq<;>simp
def ou{aG:Nat}{t:aj}(ht:cU t){l:List ak}(hl:s5 l):AO ⟨kI aG t l⟩:=by
 refine⟨by rw[I8];omega,?_⟩
 have key:∀(l:List ak) (ms:List bh),(∀e∈l,cU e.aa)->(∀m∈ms,cU m.aa)->∀m∈l.foldl fF ms,cU m.aa:=by
  intro l
  induction l with
  |nil=>intro ms _ h;exact h
  |cons e l ih=>
   intro ms he h;rw[QU];refine ih _ (λe' h'=>he e' (by simp[h'])) λm hm=> ?_
   unfold fF at hm;split at hm
   ·rcases List.mem_or_eq_of_mem_set hm with hm|rfl
    ·exact h m hm
    ·exact he e (by simp)
   ·exact h m hm
 refine key l _ hl.aN λm hm=> ?_
 rcases List.mem_or_eq_of_mem_set hm with hm|rfl
 ·rw[List.eq_of_mem_replicate hm];exact .mk _ (by simp[jf]) (by simp[jf]) (by simp[jf])
 ·exact ht
 def cZ(l:List ak):List ak:=l.filter bc
def ach{l:List ak}(hl:s5 l):rV l=some ((cZ l).map bK.mk):=by
 unfold rV;have hlen:=hl.len;simp only[aS]
 suffices key:∀(k i:Nat) (acc:List bK),i+k=l.length->acc=(cZ (l.take i)).map bK.mk->aD _ ((i:Int),acc,())=some ((cZ l).map bK.mk)from key l.length 0 [] (by omega) rfl
 intro k
 induction k with
 |zero=>
  intro i acc hi ha;obtain rfl:i=l.length:=by omega
  refine bM ?_;have hd:decide ((l.length:Int)<(l.length:Int))=false:=Qh (Qq64 _);simp only[hd,Ql,Qe,ha,Qq62]
 |succ k ih=>
  intro i acc hi ha;have hlt:i<l.length:=by omega
  have hd:decide ((i:Int)<(l.length:Int))=true:=Qg (by omega)
  have hw:aA .i64 (i:Int) 1=((i+1:Nat):Int):=bH (by omega) (by omega)
  have hx:idx l (i:Int)=some l[i]:=by rw[bf];exact Qv hlt
  have hsm:=hl.aN _ (Q0 hlt)
  have hal:acc.length<=i:=by
   rw[ha,QC];exact QK (List.length_filter_le _ _) (by rw[List.length_take];omega)
  refine Eq.trans (bw (s':=(((i+1:Nat):Int),(if bc l[i]then acc++[bK.mk l[i]]else acc),())) ?_) (ih (i+1) _ (by omega) ?_)
  ·simp only[hd,hx,hw,Qk,Qa,etas,sk hsm];rw[bC (by simp;omega)]
   cases bc l[i]<;>simp
  ·rw[Q7 hlt,cZ,List.filter_append,ha];cases hv:bc l[i]<;>simp[cZ,hv]
def fc(p:ak->Bool):List ak->Nat
 |[]=>0
 |e::l=>(if p e then 2 ^ e.al.toNat else 0)|||fc p l
def AP(p:ak->Bool)(k:Nat):∀(l:List ak),(fc p l).testBit k=l.any λe=>p e&&decide (e.al.toNat=k)
 |[]=>by simp[fc]
 |e::l=>by
  rw[fc,Nat.testBit_or,AP p k l,List.any_cons];cases p e<;>simp[Nat.testBit_two_pow]
def w5(l:List ak):Prop:=∀e∈l,0<=e.al/\e.al<10
def nr(l:List ak):w5 (cZ l):=λ_ he=>kq (List.mem_filter.1 he).2
def C4(l:List ak):(cZ l).length<=l.length:=List.length_filter_le _ _
def mH{p:ak->Bool}{l:List ak}(h:w5 l):fc p l<1024:=K5 λk hk=>by
 rw[AP,List.any_eq_true]at hk;obtain⟨e,he,h1⟩:=hk;simp only[Qm,Qi]at h1;have:=h e he;omega
def GZ(p:ak->Bool)(l:List ak)(hin:w5 l)(step:(Int×Int×Unit)->Option ((Int×Int×Unit)⊕Int))
  (h1:∀(i:Nat) (e:ak) (s:Int),l[i]?=some e->step (s,(i:Int),())=if p e then(if e.al<0 then none else some (.inl (sx .i64 s (bW .i64 1 e.al),((i+1:Nat):Int),())))else some (.inl (s,((i+1:Nat):Int),())))
  (h2:∀s:Int,step (s,(l.length:Int),())=some (.inr s)):aD step (0,0,())=some ((fc p l:Nat):Int):=by
 suffices key:∀(k i s:Nat),i+k=l.length->s<1024->aD step ((s:Int),(i:Int),())=some ((s|||fc p (l.drop i):Nat):Int)by
  have:=key l.length 0 0 (by omega) (by omega)
  simpa using this
 intro k
 induction k with
 |zero=>
  intro i s hi hs;obtain rfl:i=l.length:=by omega
  rw[bM (h2 s),Qq66,fc];simp
 |succ k ih=>
  intro i s hi hs;have hlt:i<l.length:=by omega
  have hm:=hin l[i] (Q0 hlt);rw[QM hlt,fc];have hst:=h1 i l[i] s (Qv hlt)
  cases hp:p l[i]with
  |false=>
   rw[hp]at hst;rw[bw hst,ih (i+1) s (by omega) hs]
   simp
  |true=>
   rw[hp,Qr rfl,Qs (by omega),qL hs hm.1 hm.2]at hst
   rw[bw hst,ih (i+1) _ (by omega) (Bz hs hm.2)]
   simp[Nat.or_assoc]
def ME{v:bd}{aG:Int}{l:List ak}(hl:l.length<=1000000)(hin:w5 l)(b:ah):jG ⟨aG,v,l.map bK.mk⟩ b=some ((fc (eo · b) l:Nat):Int):=by
 unfold jG;refine GZ (eo · b) l hin _ (λi e s he=> ?_) (λs=> ?_)
 ·have hlt:i<l.length:=(Qw.1 he).1;have hd:decide ((i:Int)<(((l.map bK.mk).length:Nat):Int))=true:=Qg (by rw[QC];omega)
  have hw:aA .i64 (i:Int) 1=((i+1:Nat):Int):=bH (by omega) (by omega)
  have hx:idx (l.map bK.mk) (i:Int)=some ⟨e⟩:=by rw[bf,QT,he];rfl
  simp only[hd,hx,hw,Qk,Qa,etas,mD,vy,aS];cases eo e b<;>simp
 ·have hd:decide ((l.length:Int)<(((l.map bK.mk).length:Nat):Int))=false:=Qh (by rw[QC];exact Qq64 _)
  simp only[hd,Ql,Qe]
def aam{v:bd}{aG:Int}{l:List ak}(hl:l.length<=1000000)(hin:w5 l)(b:ah):gQ ⟨aG,v,l.map bK.mk⟩ b b=some ((fc (λe=>sL e b||eo e b) l:Nat):Int):=by
 unfold gQ;refine GZ (λe=>sL e b||eo e b) l hin _ (λi e s he=> ?_) (λs=> ?_)
 ·have hlt:i<l.length:=(Qw.1 he).1;have hd:decide ((i:Int)<(((l.map bK.mk).length:Nat):Int))=true:=Qg (by rw[QC];omega)
  have hw:aA .i64 (i:Int) 1=((i+1:Nat):Int):=bH (by omega) (by omega)
  have hx:idx (l.map bK.mk) (i:Int)=some ⟨e⟩:=by rw[bf,QT,he];rfl
  simp only[hd,hx,hw,Qk,Qa,etas,ak.eta,jN,mD,sw,vy,EM,aS,ib,Bool.cond_true_left];cases (sL e b||eo e b)<;>simp
 ·have hd:decide ((l.length:Int)<(((l.map bK.mk).length:Nat):Int))=false:=Qh (by rw[QC];exact Qq64 _)
  simp only[hd,Ql,Qe]
 def rC(ms:List bh)(v du accepts:Nat):Bool:=Bq ms v accepts||(gq ms (du|||accepts)).testBit v
def CD{c:bd}(hc:AO c){v du accepts:Nat}(hv:v<10)(h1:du<1024)(h2:accepts<1024):iN c v du accepts=some (rC c.bn v du accepts):=by
 unfold iN rC;have h3:du|||accepts<1024:=Nat.or_lt_two_pow (n:=10) h1 h2
 rw[C1 h1,C1 h2,TV hc h2,Gl du accepts (by omega) (by omega),MF hc h3]
 simp[tY (HV hc h3).lt,yE,hv]
def Bk{c:bd}(hc:AO c){v accepts:Nat}(hv:v<10)(h2:accepts<1024):fp c v accepts=some ((gq c.bn accepts).testBit v):=by
 unfold fp;rw[MF hc h2];simp[tY (HV hc h2).lt,yE,hv]
 def pA(aG:Nat)(t:aj)(l:List ak)(b:ah):Bool:=
 rC (kI aG t l) aG (fc (λe=>sL e b||eo e b) (cZ l)) (fc (eo · b) (cZ l))
 def nu(aG:Nat)(t:aj)(l:List ak)(b:ah):Bool:=
 (gq (kI aG t l) (fc (eo · b) (cZ l))).testBit aG
def Sv{aG:Nat}(hn:aG<10){t:aj}(ht:cU t){l:List ak}(hl:s5 l):fV aG t l=some ⟨aG,⟨kI aG t l⟩,(cZ l).map bK.mk⟩:=by
 unfold fV;simp only[etas,YM hn ht hl,ach hl,Qa]
end
section
def adU{α:Type}{l l':List α}(h:l.Perm l')(p:α->Bool):l.any p=l'.any p:=by
 rw[QW,List.any_eq_true,List.any_eq_true];exact⟨λ⟨x,h1,h2⟩=>⟨x,h.mem_iff.1 h1,h2⟩,λ⟨x,h1,h2⟩=>⟨x,h.mem_iff.2 h1,h2⟩⟩
def aax{l l':List ak}(h:l.Perm l')(p:ak->Bool):fc p l=fc p l':=Dy λk=>by rw[AP,AP,adU h]
def Xk{l l':List ak}(h:l.Perm l'):(cZ l).Perm (cZ l'):=h.filter _
def BR(l:List ak):Prop:=∀a∈l,∀b∈l,a.al=b.al->a=b
def BR.perm{l l':List ak}(h:BR l)(hp:l.Perm l'):BR l':=λa ha b hb=>h a (hp.mem_iff.2 ha) b (hp.mem_iff.2 hb)
 def pV(l:List ak)(k:Nat):Option ak:=l.find? λe=>bc e&&decide (e.al.toNat=k)
def FC{l:List ak}{k:Nat}{e:ak}(h:pV l k=some e):e∈l/\bc e=true/\e.al=k:=by
 unfold pV at h;have h1:=List.mem_of_find?_eq_some h;have h2:=List.find?_some h;simp only[Qm,Qi]at h2;have:=kq h2.1;exact⟨h1,h2.1,by omega⟩
def OL{l:List ak}(ha:BR l){k:Nat}{e:ak}(h1:e∈l)(h2:bc e=true)(h3:e.al=k):pV l k=some e:=by
 cases h:pV l k with
 |none=>
  unfold pV at h;rw[List.find?_eq_none]at h;have:=h e h1;simp[h2,h3]at this
 |some e'=>
  obtain⟨g1,g2,g3⟩:=FC h;rw[ha e' g1 e h1 (by omega)]
def Xs{l l':List ak}(ha:BR l)(h:l.Perm l')(k:Nat):pV l k=pV l' k:=by
 cases h1:pV l k with
 |some e=>
  obtain⟨g1,g2,g3⟩:=FC h1;exact(OL (ha.perm h) (h.mem_iff.1 g1) g2 g3).symm
 |none=>
  cases h2:pV l' k with
  |none=>rfl
  |some e=>
   obtain⟨g1,g2,g3⟩:=FC h2;rw[OL ha (h.mem_iff.2 g1) g2 g3]at h1;cases h1
def SD:∀(l:List ak) (ms:List bh),ms.length=10->(∀m∈ms,m.fq=false->m=jf)->∀k,k<10->(l.foldl fF ms)[k]?=some (match ms[k]? with
  |some m=>if m.fq then m else(match pV l k with
   |some e=>⟨true,e.aa⟩
   |none=>jf)
  |none=>jf)
 |[],ms,hl,hn,k,hk=>by
  have hk':k<ms.length:=by omega
  rw[List.foldl_nil,Qv hk']
  cases hd:ms[k].fq with
  |true=>simp[hd]
  |false=>
   have:=hn _ (Q0 hk') hd;simp[pV,this]
 |e::l,ms,hl,hn,k,hk=>by
  have hk':k<ms.length:=by omega
  rw[QU];have hlen:(fF ms e).length=10:=by rw[zl];exact hl
  have hn':∀m∈fF ms e,m.fq=false->m=jf:=by
   unfold fF;split
   ·intro m hm hd;rcases List.mem_or_eq_of_mem_set hm with hm|rfl
    ·exact hn m hm hd
    ·cases hd
   ·exact hn
  rw[SD l (fF ms e) hlen hn' k hk];congr 1
  have hof:pV (e::l) k=if(bc e&&decide (e.al.toNat=k))=true then some e else pV l k:=by
   unfold pV;rw[List.find?_cons];cases bc e&&decide (e.al.toNat=k)<;>rfl
  rw[hof];unfold fF
  by_cases hv:bc e=true
  ·have hnode:=kq hv;have hi:e.al.toNat<ms.length:=by omega
   rw[hv,Bool.true_and,Bool.true_and]
   by_cases hke:e.al.toNat=k
   ·subst hke;rw[Qv hi]
    cases hd:ms[e.al.toNat].fq with
    |true=>simp[hd,Qv hi]
    |false=>simp[hd,hi]
   ·have hne:decide (e.al.toNat=k)=false:=Qh hke
    have hset:∀c:Bool,(if c=true then ms.set e.al.toNat ⟨true,e.aa⟩else ms)[k]?=ms[k]?:=λc=>by
     cases c
     ·rfl
     ·rw[Qr rfl,List.getElem?_set_ne hke]
    rw[hne,hset];simp
  ·have hv':bc e=false:=by simpa using hv
   simp[hv']
def I7{aG:Nat}(hn:aG<10)(t:aj)(l:List ak){k:Nat}(hk:k<10):(kI aG t l)[k]?=some (if k=aG then⟨true,t⟩else match pV l k with
  |some e=>⟨true,e.aa⟩
  |none=>jf):=by
 rw[kI,SD l _ (by simp) (λm hm hd=> ?_) k hk]
 ·by_cases h:k=aG
  ·subst h;simp[hn]
  ·rw[List.getElem?_set_ne (λe=>h e.symm),List.getElem?_replicate,Qr hk]
   simp[h,jf]
 ·rcases List.mem_or_eq_of_mem_set hm with hm|rfl
  ·exact(List.mem_replicate.1 hm).2
  ·cases hd
def YR{aG:Nat}(hn:aG<10)(t:aj){l l':List ak}(ha:BR l)(h:l.Perm l'):kI aG t l=kI aG t l':=by
 refine List.ext_getElem? λk=> ?_
 by_cases hk:k<10
 ·rw[I7 hn t l hk,I7 hn t l' hk,Xs ha h]
 ·rw[Qq72 (by rw[I8];omega),Qq72 (by rw[I8];omega)]
end
section
def ab7{τ ρ:Type}(n:Nat)(mk:Int->τ){step:τ->Option (τ⊕ρ)}{fin:Option ρ}(h1:∀i:Nat,i<n->step (mk (i:Int))=some (.inl (mk ((i+1:Nat):Int))))(h2:step (mk (n:Int))=Option.map Sum.inr fin):aD step (mk 0)=fin:=by
 suffices key:∀(k i:Nat),i+k=n->aD step (mk (i:Int))=fin from key n 0 (by omega)
 intro k
 induction k with
 |zero=>
  intro i hi;obtain rfl:i=n:=by omega
  rw[ff,h2];cases fin<;>rfl
 |succ k ih=>exact λi hi=>(bw (h1 i (by omega))).trans (ih (i+1) (by omega))
def aaI{ρ:Type}(n:Nat)(hn:n<=1000000){fin:Option ρ}{step:Int×Unit->Option ((Int×Unit)⊕ρ)}
  (h1:∀i:Nat,i<n->decide ((i:Int)<((n:Nat):Int))=true->aA .i64 (i:Int) 1=((i+1:Nat):Int)->step ((i:Int),())=some (.inl (((i+1:Nat):Int),())))
  (h2:decide (((n:Nat):Int)<((n:Nat):Int))=false->step ((n:Int),())=Option.map Sum.inr fin):aD step (0,())=fin:=
 ab7 n (λi=>(i,())) (λi hi=>h1 i hi (Qg (by omega)) (bH (by omega) (by omega))) (h2 (Qh (Qq64 _)))
end
section
def HY:List UInt8->Nat
 |[]=>0
 |a::l=>a.toNat*256 ^ l.length+HY l
def Lf:∀l:List UInt8,HY l<256 ^ l.length
 |[]=>by simp[HY]
 |a::l=>by
  have h1:=Lf l;have h2:a.toNat<256:=a.toNat_lt;rw[HY,QE,Nat.pow_succ];have h3:(a.toNat+1)*256 ^ l.length<=256*256 ^ l.length:=Qq63 _ h2;rw[Qq73,Nat.one_mul,Nat.mul_comm 256]at h3;omega
def ab4:∀{x y:List UInt8},x.length=y.length->Op.bytesLess x y=true->HY x<HY y
 |[],[],_,h=>by simp[Op.bytesLess]at h
 |[],_::_,hl,_=>by simp at hl
 |_::_,[],hl,_=>by simp at hl
 |a::x,b::y,hl,h=>by
  simp only[QE,Nat.add_right_cancel_iff]at hl;simp only[Op.bytesLess,Qn,Qi,Qm,beq_iff_eq]at h;rw[HY,HY,hl];rcases h with h|⟨rfl,h⟩
  ·have h1:=Lf x;rw[hl]at h1;have h2:a.toNat<b.toNat:=UInt8.lt_iff_toNat_lt.1 h;have h3:(a.toNat+1)*256 ^ y.length<=b.toNat*256 ^ y.length:=Qq63 _ h2;rw[Qq73,Nat.one_mul]at h3;omega
  ·have:=ab4 hl h;omega
def WV:Nat:=256 ^ 201
def Sj(v:ByteArray):Nat:=v.size*256 ^ 200+HY v.toList
def toList_len(v:ByteArray):v.toList.length=v.size:=by
 rw[Lib.toList_data];cases v;simp[ByteArray.size]
def aaY{a b:Nat}(h:a<=b):(256:Nat) ^ a<=256 ^ b:=Nat.pow_le_pow_right (by omega) h
def YA{v:ByteArray}(h:v.size<=200):Sj v<WV:=by
 have h1:=Lf v.toList;rw[toList_len]at h1;have h2:=aaY h;have h3:v.size*256 ^ 200<=200*256 ^ 200:=Qq63 _ h;have h4:WV=256*256 ^ 200:=by rw[WV,Nat.pow_succ,Nat.mul_comm]
 unfold Sj;rw[h4];generalize (256:Nat) ^ 200=Z at*;omega
def abo{a b:ByteArray}(hb:b.size<=200)(h:bO a b=true):Sj a<Sj b:=by
 unfold bO at h;unfold Sj
 by_cases hs:a.size=b.size
 ·rw[Qr hs]at h;have:=ab4 (x:=a.toList) (y:=b.toList) (by rw[toList_len,toList_len,hs]) h
  rw[hs];omega
 ·rw[Qs hs,Qi]at h;have h1:=Lf a.toList;rw[toList_len]at h1;have h2:=aaY (show a.size<=200 by omega)
  have h3:(a.size+1)*256 ^ 200<=b.size*256 ^ 200:=Qq63 _ h;rw[Qq73,Nat.one_mul]at h3;generalize (256:Nat) ^ 200=Z at*;omega
def Sm(b:ah):Prop:=0<=b.ai/\b.ai<=1000/\b.Value.size<=200
def pd(b:ah):Nat:=b.ai.toNat*WV+Sj b.Value
def WB:Nat:=1001*WV
def sY{b:ah}(h:Sm b):pd b<WB:=by
 obtain⟨h1,h2,h3⟩:=h;have h4:=YA h3;unfold pd WB;have h5:b.ai.toNat*WV<=1000*WV:=Qq63 _ (by omega)
 generalize WV=Z at*;omega
def yW{a b:ah}(ha:Sm a)(hb:Sm b)(h:bB a b=true):pd a<pd b:=by
 unfold bB at h;unfold pd
 by_cases hc:a.ai=b.ai
 ·rw[Qr hc]at h;have:=abo hb.2.2 h;rw[hc];omega
 ·rw[Qs hc,Qi]at h;have h1:=YA ha.2.2;have h2:=ha.1;have h3:(a.ai.toNat+1)*WV<=b.ai.toNat*WV:=Qq63 _ (by omega)
  rw[Qq73,Nat.one_mul]at h3;generalize WV=Z at*;omega
def Yd.down{σ ρ:Type}{step:σ->Option (σ⊕ρ)}{p:ρ->Prop}(inv:σ->Prop)(μ:σ->Nat)(h:∀s,inv s->Yd (step s) λy=>match y with| .inl s'=>inv s'/\μ s'<μ s| .inr r=>p r){s:σ}(hs:inv s):Yd (aD step s) p:=by
 suffices key:∀(n:Nat) (s:σ),μ s<n->inv s->Yd (aD step s) p from key _ s (Nat.lt_succ_self _) hs
 intro n
 induction n with
 |zero=>intro s h0;omega
 |succ n ih=>
  intro s hn hi;refine Yd.loop ((h s hi).mono λy hy=> ?_)
  cases y with
  |inl s'=>exact ih s' (by have:=hy.2;omega) hy.1
  |inr r=>exact hy
end
section
def cd:ah:=⟨0,gw⟩
def fE(m:ab):Int:=if(!aP m.ax&&bQ m.ax m.ae)=true then m.ax.ai else 0
def de(m:ab):ak:=
 if m.aQ=1 then⟨m.al,m.aK,m.aH,m.aa,m.aQ,m.ae,m.ao,m.aC,m.aZ,fE m⟩
 else if m.aQ=2 then⟨m.al,m.aK,m.aH,m.aa,m.aQ,m.ae,m.ao,cd,m.aZ,m.bq⟩
 else⟨m.al,m.aK,m.aH,m.aa,m.aQ,m.ae,cd,cd,m.aZ,m.bq⟩
def yZ(m:ab):(de m).al=m.al:=by unfold de;split<;>(try split)<;>rfl
def Ff(m:ab):(de m).aK=m.aK:=by unfold de;split<;>(try split)<;>rfl
def Wd(m:ab):(de m).aH=m.aH:=by unfold de;split<;>(try split)<;>rfl
def tZ(m:ab):(de m).aa=m.aa:=by unfold de;split<;>(try split)<;>rfl
def abK(m:ab):(de m).bx=m.aQ:=by unfold de;split<;>(try split)<;>rfl
def Aa(m:ab):ij m=some (de m):=by
 unfold ij de fE;simp only[aS,etas,c6,gJ,Qa]
 by_cases h1:m.aQ=1
 ·rw[Qg h1,Qr h1];cases aP m.ax<;>cases bQ m.ax m.ae<;>rfl
 ·rw[Qh h1,Qs h1]
  by_cases h2:m.aQ=2
  ·rw[Qg h2,Qr h2];rfl
  ·rw[Qh h2,Qs h2];rfl
def je(m:ab):ak:={de m with aH:=bF (de m).aH 1}
def zW(e:ak):List ak->List ak
 |[]=>[e]
 |x::l=>if e.al<x.al then e::x::l else x::zW e l
def Fb(e:ak):∀l,(zW e l).Perm (l++[e])
 |[]=> .refl _
 |x::l=>by
  unfold zW;split
  ·exact(List.perm_append_singleton e (x::l)).symm
  ·exact(Fb e l).cons x
def bN(m:ab):List ak:=if aP m.ae=true then m.ar else zW (je m) m.ar
def P6{m:ab}(h:m.ar.length<=1000):lJ m=some (bN m):=by
 unfold lJ bN;simp only[etas,c6,Aa,Qa]
 cases aP m.ae with
 |true=>rfl
 |false=>
  simp only[Ql,Qq,Qu];have hown:ak.mk (de m).al (de m).aK (bF (de m).aH 1) (de m).aa (de m).bx (de m).ae (de m).ao (de m).aC (de m).aZ (de m).bq=je m:=rfl;have hnode:(de m).al=(je m).al:=rfl;rw[hown,hnode];generalize je m=e
  suffices key:∀(k i:Nat) (b:Bool) (o:List ak),i+k=m.ar.length->o.length<=i+(bif b then 1 else 0)->aD _ (b,(i:Int),o,())=some (o++if b=true then m.ar.drop i else zW e (m.ar.drop i))from(key m.ar.length 0 false [] (by omega) (by simp)).trans (by simp)
  intro k
  induction k with
  |zero=>
   intro i b o hi ho;obtain rfl:i=m.ar.length:=by omega
   have hd:decide ((m.ar.length:Int)<(m.ar.length:Int))=false:=Qh (Qq64 _);refine bM ?_;rw[Qq66];simp only[hd,Ql,aS]
   cases b with
   |true=>simp
   |false=>
    simp only[Ql]at ho;rw[bC (by simp;omega)]
    simp[zW]
  |succ k ih=>
   intro i b o hi ho;have hlt:i<m.ar.length:=by omega
   have hd:decide ((i:Int)<(m.ar.length:Int))=true:=Qg (by omega)
   have hw:aA .i64 (i:Int) 1=((i+1:Nat):Int):=bH (by omega) (by omega)
   have hx:idx m.ar (i:Int)=some m.ar[i]:=by rw[bf];exact Qv hlt
   rw[QM hlt]
   cases b with
   |true=>
    simp only[Qk]at ho;have:=ih (i+1) true (o++[m.ar[i]]) (by omega) (by simp;omega)
    simp only[Qt]at this ⊢;rw[show o++m.ar[i]::m.ar.drop (i+1)=(o++[m.ar[i]])++m.ar.drop (i+1)by simp]
    refine Eq.trans (bw ?_) this;simp only[hd,hx,hw,Qk,aS,Qa,Qo,Ql];rw[bC (by simp;omega),Qk]
   |false=>
    simp only[Ql]at ho
    by_cases hn:e.al<m.ar[i].al
    ·have:=ih (i+1) true (o++[e]++[m.ar[i]]) (by omega) (by simp;omega)
     simp only[Qt,Qq,Qu]at this ⊢;rw[zW,Qr hn,show o++e::m.ar[i]::m.ar.drop (i+1)=(o++[e]++[m.ar[i]])++m.ar.drop (i+1)by simp]
     refine Eq.trans (bw ?_) this;simp only[hd,hx,hw,Qk,aS,Qa,Qp,Qg hn];rw[bC (by simp;omega),Qk,bC (by simp;omega),Qk]
    ·have:=ih (i+1) false (o++[m.ar[i]]) (by omega) (by simp;omega)
     simp only[Qq,Qu]at this ⊢;rw[zW,Qs hn,show o++m.ar[i]::zW e (m.ar.drop (i+1))=(o++[m.ar[i]])++zW e (m.ar.drop (i+1))by simp]
     refine Eq.trans (bw ?_) this;simp only[hd,hx,hw,Qk,aS,Qa,Qp,Qh hn,Ql];rw[bC (by simp;omega),Qk]
def Hd(a b:ah):Bool:=decide (a.ai=b.ai)&&decide (a.Value=b.Value)
def SQ{a b:ah}:Hd a b=true↔a=b:=by
 cases a;cases b;simp[Hd]
def EW(a b:ab):Bool:=decide (a.aQ=b.aQ)&&Hd a.ae b.ae&&Hd a.ao b.ao&&Hd a.aC b.aC&&Hd a.ax b.ax&&decide (a.aZ=b.aZ)&&decide (a.bq=b.bq)
def adE(a b:Bool):(bif a then b else false)=(a&&b):=by cases a<;>rfl
def ahd(a b:ab):kx a b=some (EW a b):=by
 unfold kx EW Hd;simp only[Cf,Qa,ib,adE]
end
section
def xX(v:ByteArray)(n:Int)(x:ah):Int:=
 if(cO x&&eN x ⟨n,v⟩)=true then(if eN x ⟨x.ai,v⟩=true then x.ai+1 else x.ai)else n
def lE(v:ByteArray)(n:Int)(p q:ah):Int:=xX v (xX v (bF n 1) p) q
def Vp(v:ByteArray)(n:Int)(p q:ah):tj v n p q=some (lE v n p q):=by
 unfold tj lE;generalize bF n 1=k
 have hst:∀(i:Nat) (x:ah) (k:Int),i<2->[p,q][i]?=some x->
   (λ(v1:Int×Int×Unit)=>
    bif (decide (v1.2.1<(2:Int)))then
    aY (λ(v2:Int×Unit)=>some (Sum.inl (v2.1,(aA .i64 v1.2.1 (1:Int)),v2.2))) λj3=>
    Option.bind (idx [p,q] v1.2.1) λx4=>
    Option.bind (jq x4) λr5=>
    Option.bind (bif r5 then Option.bind (gK x4 (ah.mk v1.1 v)) λr6=>some r6 else some false) λb7=>
    bif b7 then Option.bind (gK x4 (ah.mk x4.ai v)) λr8=>
     bif r8 then j3 ((aA .i64 x4.ai (1:Int)),())else j3 (x4.ai,())
    else j3 (v1.1,())
    else(Option.map Sum.inr (some v1.1):Option ((Int×Int×Unit)⊕Int))) (k,(i:Int),())=some (Sum.inl (xX v k x,((i+1:Nat):Int),())):=by
  intro i x k hi hx;have hd:decide ((i:Int)<2)=true:=Qg (by omega)
  have hw:aA .i64 (i:Int) 1=((i+1:Nat):Int):=bH (by omega) (by omega)
  have hx':idx [p,q] (i:Int)=some x:=by rw[bf];exact hx
  simp only[hd,hw,hx',Qk,aS,Qa,yM,CX];unfold xX
  cases hv:cO x with
  |false=>simp
  |true=>
   have hc:aA .i64 x.ai 1=x.ai+1:=by
    have:1<=x.ai/\x.ai<=1000000:=by
     simp only[cO,Qm,Qn,Qi]at hv;omega
    exact bH (by omega) (by omega)
   cases h1:eN x ⟨k,v⟩with
   |false=>simp
   |true=>cases h2:eN x ⟨x.ai,v⟩<;>simp[hc]
 refine(bw (hst 0 p k (by omega) rfl)).trans ((bw (hst 1 q _ (by omega) rfl)).trans (bM ?_))
 rfl
def adr(b:ah):td b=some (if 1000<b.ai then⟨1000,b.Value⟩else b):=by
 unfold td
 by_cases h:1000<b.ai
 ·simp[h]
 ·simp[h]
end
section
def ZD{lo k:Int}{v:ByteArray}{p:ah}(h:lo<=k)(hl:bB ⟨k,v⟩ p=true):bB ⟨lo,v⟩ p=true:=by
 unfold bB at hl ⊢;simp only at hl ⊢
 by_cases h1:lo=k
 ·rw[h1];exact hl
 ·have h2:lo<p.ai:=by
   split at hl
   ·omega
   ·simp only[Qi]at hl;omega
  rw[Qs (by omega)]
  simpa using h2
def XL{lo k:Int}{v:ByteArray}{p:ah}(h:lo<=k)(ha:eN p ⟨lo,v⟩=false):eN p ⟨k,v⟩=false:=by
 cases hk:eN p ⟨k,v⟩with
 |false=>rfl
 |true=>
  simp only[eN,Qm,bQ]at hk;simp only[eN,bQ,hk.1.1,hk.1.2,ZD h hk.2]at ha;cases ha
def lM(p b:ah):jE p b=true↔aP p=false/\p.Value=b.Value/\b.ai<=p.ai:=by
 simp[jE,bQ,and_assoc]
def OS{b:ah}(h:1<=b.ai):aP b=false:=by
 have:¬b.ai=0:=by omega
 simp[aP,this]
end
section
def aeL{n:Nat}(h:n<1000000):br .u64 (n:Int)=n:=by
 unfold br IntKind.wrap;simp[IntKind.signed,IntKind.bits];omega
def vE(b p:ah)(j:Nat)(t:aj):ak:=⟨j,1,1,t,1,b,p,⟨0,bE⟩,0,0⟩
structure WZ (b:ah):Prop where
 lo:1<=b.ai
 hi:b.ai<=6
 val:P8 b.Value
def WZ.valid{b:ah}(h:WZ b):cO b=true:=I9 h.lo (by have:=h.hi;omega) h.val
def WZ.nz{b:ah}(h:WZ b):aP b=false:=OS h.lo
def Y6{l:List ak}(h:∀e∈l,bc e=true):cZ l=l:=List.filter_eq_self.2 h
end
section
def AB(b p:ah)(ts:List aj)(q n:Nat)(l:List ak):Prop:=
 l.length<=n/\(∀e∈l,∃i t,i<n/\q.testBit i=true/\ts[i]?=some t/\e=vE b p i t)/\∀i t,i<n->q.testBit i=true->ts[i]?=some t->vE b p i t∈l
def AB.nil(b p:ah)(ts:List aj)(q:Nat):AB b p ts q 0 []:=⟨by simp,by simp,λi t h=>by omega⟩
def AB.skip{b p:ah}{ts:List aj}{q n:Nat}{l:List ak}(h:AB b p ts q n l)(hq:q.testBit n=false):AB b p ts q (n+1) l:=by
 obtain⟨h1,h2,h3⟩:=h;refine⟨by omega,λe he=> ?_,λi t hi hb ht=> ?_⟩
 ·obtain⟨i,t,a,b,c⟩:=h2 e he;exact⟨i,t,by omega,b,c⟩
 ·rcases Nat.lt_or_ge i n with h|h
  ·exact h3 i t h hb ht
  ·obtain rfl:i=n:=by omega
   rw[hq]at hb;cases hb
def AB.take{b p:ah}{ts:List aj}{q n:Nat}{l:List ak}(h:AB b p ts q n l)(hq:q.testBit n=true){t:aj}(ht:ts[n]?=some t):AB b p ts q (n+1) (l++[vE b p n t]):=by
 obtain⟨h1,h2,h3⟩:=h;refine⟨by simp;omega,λe he=> ?_,λi t' hi hb ht'=> ?_⟩
 ·rcases Qz.1 he with he|he
  ·obtain⟨i,t,a,b,c⟩:=h2 e he;exact⟨i,t,by omega,b,c⟩
  ·simp only[Q5]at he;exact⟨n,t,by omega,hq,ht,he⟩
 ·rcases Nat.lt_or_ge i n with h|h
  ·exact Qz.2 (.inl (h3 i t' h hb ht'))
  ·obtain rfl:i=n:=by omega
   rw[ht]at ht';injection ht' with ht'
   subst ht';exact Qz.2 (.inr (by simp))
section
variable {b p : ah} (hb : WZ b) (hp : aP p = true \/ cO p = true) {ts : List aj} (hts : ∀ t ∈ ts, dq t) {q : Nat} {l : List ak} (hlen : ts.length <= 5) (hc : AB b p ts q ts.length l)
 include hb hp hts hlen hc
end
end
section
section
variable {α : Type}
structure SWO (lt:α->α->Bool):Prop where
 asymm:∀x y,lt x y=true->lt y x=false
 trans:∀x y z,lt y x=false->lt z y=false->lt z x=false
end
end
section
section
variable {α : Type}
 def Wr(eq ne:α->α->Bool)(z:α)(K:Int)(n:Nat)(v6:Int×Int×(List α)×Unit):Option ((Int×Int×(List α)×Unit)⊕((Int×(List α)×Unit)⊕List α)):=
 bif (decide (v6.2.1<((List.length ((v6.2.2.1.drop (Int.toNat K)).take (Int.toNat (n:Int) - Int.toNat K)):Nat):Int)))then
 aY (λ(v7:Int×(List α)×Unit)=>
 some (Sum.inl (v7.1,(aA .i64 v6.2.1 (1:Int)),v7.2.1,()))) λj8=>
 Option.bind (idx ((v6.2.2.1.drop (Int.toNat K)).take (Int.toNat (n:Int) - Int.toNat K)) v6.2.1) λx9=>
 Option.bind (v6.2.2.1[((Int.toNat K)+Int.toNat v6.2.1)]?) λx10=>
 Option.bind (idx ((v6.2.2.1.drop (Int.toNat K)).take (Int.toNat (n:Int) - Int.toNat K)) (cQ .i64 v6.2.1 (1:Int))) λx11=>
 Option.bind (v6.2.2.1[((Int.toNat K)+Int.toNat (cQ .i64 v6.2.1 (1:Int)))]?) λx12=>
 bif (ne x10 x12)then
 Option.bind (idx ((v6.2.2.1.drop (Int.toNat K)).take (Int.toNat (n:Int) - Int.toNat K)) v6.2.1) λx13=>
 Option.bind (v6.2.2.1[((Int.toNat K)+Int.toNat v6.2.1)]?) λx14=>
 Option.bind (idx v6.2.2.1 v6.1) λx15=>
 Option.bind (v6.2.2.1[(Int.toNat v6.1)]?) λx16=>
 j8 ((aA .i64 v6.1 (1:Int)),(v6.2.2.1.set (Int.toNat v6.1) x14),())
 else
 j8 (v6.1,v6.2.2.1,())
 else
 Option.map Sum.inr (bif cD v6.1 ((List.length v6.2.2.1):Int) (List.length v6.2.2.1)then
 bif cD (0:Int) v6.1 (List.length (v6.2.2.1.take (Int.toNat v6.1)++List.replicate (Int.toNat ((List.length v6.2.2.1):Int) - Int.toNat v6.1) z++v6.2.2.1.drop ((Int.toNat v6.1)+(Int.toNat ((List.length v6.2.2.1):Int) - Int.toNat v6.1))))then
 Option.map Sum.inr (some ((v6.2.2.1.take (Int.toNat v6.1)++List.replicate (Int.toNat ((List.length v6.2.2.1):Int) - Int.toNat v6.1) z++v6.2.2.1.drop ((Int.toNat v6.1)+(Int.toNat ((List.length v6.2.2.1):Int) - Int.toNat v6.1))).take (Int.toNat v6.1 - Int.toNat (0:Int))))
 else none
 else none)
 def PN(eq ne:α->α->Bool)(z:α)(v1:Int×(List α)×Unit):Option ((Int×(List α)×Unit)⊕List α):=
 bif (decide (v1.1<((List.length v1.2.1:Nat):Int)))then
 Option.bind (idx v1.2.1 v1.1) λx2=>
 Option.bind (v1.2.1[(Int.toNat v1.1)]?) λx3=>
 Option.bind (idx v1.2.1 (cQ .i64 v1.1 (1:Int))) λx4=>
 Option.bind (v1.2.1[(Int.toNat (cQ .i64 v1.1 (1:Int)))]?) λx5=>
 bif (eq x3 x5)then
 bif cD v1.1 ((List.length v1.2.1):Int) (List.length v1.2.1)then
 aD (Wr eq ne z v1.1 (List.length v1.2.1)) (v1.1,(1:Int),v1.2.1,())
 else none
 else
 some (Sum.inl ((aA .i64 v1.1 (1:Int)),v1.2.1,()))
 else
 Option.map Sum.inr (some v1.2.1)
 def Nv(eq ne:α->α->Bool)(z:α)(s:List α):Option (List α):=
 bif (decide (((List.length s:Nat):Int)<(2:Int)))then
 some s
 else
 aD (PN eq ne z) ((1:Int),s,())
def UE(d:List α){K n m:Nat}(hm:m<n - K):idx ((d.drop K).take (n - K)) (m:Int)=d[K+m]?:=by
 grind [bf]
variable [DecidableEq α]
def sZ(acc:List α)(x:α):List α:=if acc.getLast?=some x then acc else acc++[x]
def dd(l:List α):List α:=l.foldl sZ []
theorem YF(l:List α)(x:α):dd (l++[x])=sZ (dd l) x:=by simp[dd,List.foldl_append]
theorem agu(l:List α):(dd l).getLast?=l.getLast?:=by
 suffices h:∀r:List α,(dd r.reverse).getLast?=r.reverse.getLast? by
  have:=h l.reverse
  rwa [List.reverse_reverse]at this
 intro r
 induction r with
 |nil=>rfl
 |cons x r ih=>
  grind [YF,sZ]
def YE{s:List α}{k:Nat}{x:α}(h:s[k]?=some x):dd (s.take (k+1))=sZ (dd (s.take k)) x:=by
 obtain⟨hl,hx⟩:=Qw.1 h;rw[Q7 hl,hx,YF]
def Tn{s:List α}{k:Nat}{x:α}(h:s[k]?=some x):(dd (s.take (k+1))).getLast?=some x:=by
 grind [agu]
variable {eq ne : α -> α -> Bool} {z : α}
def NH(hne:∀x y,ne x y= !decide (x=y)){s:List α}{K:Nat}(hn:s.length<1000000000):∀(r i k2:Nat) (d:List α),k2+r=s.length - K->1<=k2->i<=K+k2 - 1->d.length=s.length->d.take i=dd (s.take (K+k2))->(∀j,K+k2 - 1<=j->d[j]?=s[j]?)->
  aD (Wr eq ne z (K:Int) s.length) ((i:Int),(k2:Int),d,())=some (.inr (dd s))
 |0,i,k2,d,hr,h1,hi,hd,ht,hs=>by
  have hKn:K+k2=s.length:=by omega
  refine bM ?_;have e1:(((d.drop K).take (s.length - K)).length)=s.length - K:=by simp;omega
  have e2:decide ((k2:Int)<((s.length - K:Nat):Int))=false:=Qh (by omega)
  have e3:∀n,cD (i:Int) (d.length:Int) n=decide (d.length<=n):=by
   intro n;have:i<=d.length:=by omega
   simp only[cD];have h1:decide ((0:Int)<=(i:Int))=true:=Qg (by omega)
   have h2:decide ((i:Int)<=(d.length:Int))=true:=Qg (by omega)
   rw[h1,h2,Bool.and_self,Bool.true_and,decide_eq_decide];omega
  have e4:(d.take i++List.replicate (d.length - i) z++d.drop (i+(d.length - i))).length=d.length:=by simp;omega
  have e5:cD (0:Int) (i:Int) d.length=true:=by
   simp only[cD,Qm,Qi];omega
  have e6:(d.take i++List.replicate (d.length - i) z++d.drop (i+(d.length - i))).take (i - 0)=dd s:=by
   rw[Nat.sub_zero,QL,List.take_append_of_le_length (by simp;omega),List.take_take,Nat.min_self,ht,hKn,Qq62]
  simp only[Wr,QV,e1,e2,Ql,e3,QI,decide_true,Qk,e4,e5,Int.toNat_zero,e6,Qe]
 |r+1,i,k2,d,hr,h1,hi,hd,ht,hs=>by
  have hKn:K+k2<s.length:=by omega
  obtain⟨x,hx⟩:∃x,s[K+k2]?=some x:=⟨_,Qv hKn⟩;obtain⟨y,hy⟩:∃y,s[K+(k2 - 1)]?=some y:=⟨_,Qv (by omega)⟩
  have e1:(((d.drop K).take (s.length - K)).length)=s.length - K:=by simp;omega
  have e2:decide ((k2:Int)<((s.length - K:Nat):Int))=true:=Qg (by omega)
  have e3:cQ .i64 (k2:Int) 1=((k2 - 1:Nat):Int):=by rw[nT (by omega) (by omega)];omega
  have e4:aA .i64 (k2:Int) 1=((k2+1:Nat):Int):=bH (by omega) (by omega)
  have e5:aA .i64 (i:Int) 1=((i+1:Nat):Int):=bH (by omega) (by omega)
  have hdx:d[K+k2]?=some x:=by rw[hs _ (by omega),hx]
  have hdy:d[K+(k2 - 1)]?=some y:=by rw[hs _ (by omega),hy]
  have hv1:=UE d (K:=K) (n:=s.length) (m:=k2) (by omega)
  have hv2:=UE d (K:=K) (n:=s.length) (m:=k2 - 1) (by omega)
  obtain⟨w,hw⟩:∃w,d[i]?=some w:=⟨_,Qv (by omega)⟩
  have hstep:=YE hx
  have hlast:(dd (s.take (K+k2))).getLast?=some y:=by
   have:=Tn hy
   rwa [show K+(k2 - 1)+1=K+k2 by omega]at this
  rw[sZ,hlast]at hstep;have hil:i<d.length:=by omega
  by_cases hxy:x=y
  ·refine Eq.trans (bw (s':=((i:Int),((k2+1:Nat):Int),d,())) ?_) (NH hne hn r i (k2+1) d (by omega) (by omega) (by omega) hd ?_ λj hj=>hs j (by omega))
   ·simp only[Wr,QV,e1,e2,Qk,aS,hv1,hdx,Qa,e3,hv2,hdy,hne,hxy,decide_true,Qo,Ql,e4]
   ·rw[show K+(k2+1)=K+k2+1 by omega,hstep,Qr (by rw[hxy]),ht]
  ·refine Eq.trans (bw (s':=(((i+1:Nat):Int),((k2+1:Nat):Int),d.set i x,())) ?_) (NH hne hn r (i+1) (k2+1) (d.set i x) (by omega) (by omega) (by omega) (by rw[QY];exact hd) ?_ λj hj=> ?_)
   ·simp only[Wr,QV,e1,e2,Qk,aS,hv1,hdx,Qa,e3,hv2,hdy,hne,hxy,decide_false,Qp,e4,e5,bf,hw]
   ·rw[show K+(k2+1)=K+k2+1 by omega,hstep,Qs (λe=>hxy (by injection e with e;exact e.symm)),<-ht,Q7 (by rw[QY];exact hil)]
    congr 1
    ·rw[List.take_set_of_le (QI _)]
    ·simp
   ·rw[List.getElem?_set,Qs (by omega)]
    exact hs j (by omega)
def Wq(heq:∀x y,eq x y=decide (x=y))(hne:∀x y,ne x y= !decide (x=y)){s:List α}(hn:s.length<1000000000):∀(r k:Nat),k+r=s.length->1<=k->dd (s.take k)=s.take k->aD (PN eq ne z) ((k:Int),s,())=some (dd s)
 |0,k,hr,h1,h=>by
  refine bM ?_;have hk:k=s.length:=by omega
  have e2:decide ((k:Int)<(s.length:Int))=false:=Qh (by omega)
  rw[hk,Qq62]at h;simp only[PN,e2,Ql,Qe,h]
 |r+1,k,hr,h1,h=>by
  have hk:k<s.length:=by omega
  obtain⟨x,hx⟩:∃x,s[k]?=some x:=⟨_,Qv hk⟩;obtain⟨y,hy⟩:∃y,s[k - 1]?=some y:=⟨_,Qv (by omega)⟩
  have e2:decide ((k:Int)<(s.length:Int))=true:=Qg (by omega)
  have e3:cQ .i64 (k:Int) 1=((k - 1:Nat):Int):=by rw[nT (by omega) (by omega)];omega
  have e4:aA .i64 (k:Int) 1=((k+1:Nat):Int):=bH (by omega) (by omega)
  have hstep:=YE hx
  have hlast:(dd (s.take k)).getLast?=some y:=by
   have:=Tn hy
   rwa [show k - 1+1=k by omega]at this
  rw[sZ,hlast]at hstep
  by_cases hxy:x=y
  ·rw[Qr (by rw[hxy])]at hstep
   have e5:cD (k:Int) (s.length:Int) s.length=true:=by
    simp only[cD,Qm,Qi];omega
   have hin:=NH (eq:=eq) (z:=z) (K:=k) hne hn (s.length - k - 1) k 1 s (by omega) (by omega) (by omega) rfl (by rw[hstep,h]) (λ_ _=>rfl)
   refine bM ?_;simp only[PN,e2,Qk,bf,QV,hx,hy,e3,Qa,heq,hxy,decide_true,e5];exact hin
  ·rw[Qs (λe=>hxy (by injection e with e;exact e.symm))]at hstep
   refine Eq.trans (bw (s':=(((k+1:Nat):Int),s,())) ?_) (Wq heq hne hn r (k+1) (by omega) (by omega) ?_)
   ·simp only[PN,e2,Qk,bf,QV,hx,hy,e3,Qa,heq,hxy,decide_false,Ql,e4]
   ·obtain⟨hl,hx'⟩:=Qw.1 hx;rw[hstep,h,Q7 hl,hx']
def Dj(heq:∀x y,eq x y=decide (x=y))(hne:∀x y,ne x y= !decide (x=y))(s:List α)(hn:s.length<1000000000):Nv eq ne z s=some (dd s):=by
 unfold Nv
 by_cases h:s.length<2
 ·have e:decide ((s.length:Int)<2)=true:=Qg (by omega)
  rw[e,Qk]
  match s,h with
  |[],_|[x],_=>rfl
 ·have e:decide ((s.length:Int)<2)=false:=Qh (by omega)
  rw[e,Ql];refine Wq heq hne hn (s.length - 1) 1 (by omega) (by omega) ?_
  cases s with
  |nil|cons x l=>rfl
def Z0(acc:List α)(x:α):∀y,y∈sZ acc x↔y∈acc\/y=x:=by
 grind [sZ]
def JH:∀(l acc:List α) (y:α),y∈l.foldl sZ acc↔y∈acc\/y∈l
 |[],acc,y=>by simp
 |x::l,acc,y=>by
  rw[QU,JH l,Z0];simp[or_assoc]
def ahP(l:List α)(y:α):y∈dd l↔y∈l:=by rw[dd,JH];simp
def Wo(l:List α):(dd l).length<=l.length:=by
 suffices h:∀(l acc:List α),(l.foldl sZ acc).length<=acc.length+l.length by simpa[dd]using h l []
 intro l
 induction l with
 |nil=>intro acc;simp
 |cons x l ih=>
  grind [sZ]
def abQ{lt:α->α->Bool}(ho:SWO lt)(hto:∀x y,lt x y=false->lt y x=false->x=y){l:List α}(hl:l.Pairwise (λa b=>lt b a=false)):(dd l).Pairwise (λa b=>lt a b=true):=by
 suffices h:∀(l acc:List α),(acc++l).Pairwise (λa b=>lt b a=false)->acc.Pairwise (λa b=>lt a b=true)->(l.foldl sZ acc).Pairwise (λa b=>lt a b=true)from h l [] (by simpa using hl) .nil
 intro l
 induction l with
 |nil=>intro acc _ h;exact h
 |cons x l ih=>
  intro acc h1 h2;rw[QU];unfold sZ;split
  ·rename_i hlast;refine ih acc ?_ h2
   grind
  ·rename_i hlast;refine ih _ (by simpa using h1) ?_
   rw[Qq69]at h1 ⊢;refine⟨h2,by simp,λa ha b hb=> ?_⟩
   rw[Q5.1 hb];have hax:lt x a=false:=h1.2.2 a ha x (by simp)
   cases hc:lt a x with
   |true=>rfl
   |false=>
    exfalso;have e:=hto a x hc hax;subst e
    obtain⟨y,hy⟩:∃y,acc.getLast?=some y:=by
     cases hg:acc.getLast? with
     |none=>rw[List.getLast?_eq_none_iff.1 hg]at ha;cases ha
     |some y=>exact⟨y,rfl⟩
    obtain⟨pre,rfl⟩:∃pre,acc=pre++[y]:=by
     have:=List.getLast?_eq_some_iff.1 hy;exact this
    rcases Qz.1 ha with ha|ha
    ·rw[Qq69]at h2;have h3:=h2.2.2 a ha y (by simp)
     have h4:=h1.2.2 y (by simp) a (by simp)
     rw[h3]at h4;cases h4
    ·rw[Q5.1 ha]at hlast;exact hlast hy
end
end
section
def adC(s:List Int):qi s=Nv (λx y=>decide (x=y)) (λx y=> !decide (x=y)) 0 s:=rfl
 def jX(v:ByteArray)(e:ak):Bool:=bc e&&decide (e.ae.Value=v)&& !decide (e.aZ=0)
 def ends(v:ByteArray)(l:List ak):List Int:=l.flatMap λe=>if jX v e then[e.aZ,e.bq]else[]
def DY{v:ByteArray}{l:List ak}{x:Int}:x∈ends v l↔∃e∈l,jX v e=true/\(x=e.aZ\/x=e.bq):=by
 simp only[ends,QQ];constructor
 ·rintro⟨e,he,hx⟩;split at hx
  ·rename_i h;exact⟨e,he,h,by simpa using hx⟩
  ·cases hx
 ·rintro⟨e,he,h,hx⟩;exact⟨e,he,by rw[Qr h];simpa using hx⟩
end
section
def Kz{v:bd}{aG:Int}{l:List ak}(hl:l.length<=1000000)(hin:w5 l)(val:ByteArray)(lo hi:Int):jF ⟨aG,v,l.map bK.mk⟩ val lo hi=some ((fc (iJ · val lo hi) l:Nat):Int):=by
 unfold jF;refine GZ (iJ · val lo hi) l hin _ (λi e s he=> ?_) (λs=> ?_)
 ·have hlt:i<l.length:=(Qw.1 he).1;have hd:decide ((i:Int)<(((l.map bK.mk).length:Nat):Int))=true:=Qg (by rw[QC];omega)
  have hw:aA .i64 (i:Int) 1=((i+1:Nat):Int):=bH (by omega) (by omega)
  have hx:idx (l.map bK.mk) (i:Int)=some ⟨e⟩:=by rw[bf,QT,he];rfl
  simp only[hd,hx,hw,Qk,Qa,etas,nO,wD,aS];cases iJ e val lo hi<;>simp
 ·have hd:decide ((l.length:Int)<(((l.map bK.mk).length:Nat):Int))=false:=Qh (by rw[QC];exact Qq64 _)
  simp only[hd,Ql,Qe]
def XM{v:bd}{aG:Int}{l:List ak}(hl:l.length<=1000000)(hin:w5 l)(val:ByteArray)(lo hi:Int):gP ⟨aG,v,l.map bK.mk⟩ val lo hi val lo hi=some ((fc (λe=>vB e val lo hi||iJ e val lo hi) l:Nat):Int):=by
 unfold gP;refine GZ (λe=>vB e val lo hi||iJ e val lo hi) l hin _ (λi e s he=> ?_) (λs=> ?_)
 ·have hlt:i<l.length:=(Qw.1 he).1;have hd:decide ((i:Int)<(((l.map bK.mk).length:Nat):Int))=true:=Qg (by rw[QC];omega)
  have hw:aA .i64 (i:Int) 1=((i+1:Nat):Int):=bH (by omega) (by omega)
  have hx:idx (l.map bK.mk) (i:Int)=some ⟨e⟩:=by rw[bf,QT,he];rfl
  simp only[hd,hx,hw,Qk,Qa,etas,ak.eta,jM,nO,yO,wD,F3,aS,ib,Bool.cond_true_left];cases (vB e val lo hi||iJ e val lo hi)<;>simp
 ·have hd:decide ((l.length:Int)<(((l.map bK.mk).length:Nat):Int))=false:=Qh (by rw[QC];exact Qq64 _)
  simp only[hd,Ql,Qe]
 def Jh(aG:Nat)(t:aj)(l:List ak):gO:=⟨aG,⟨kI aG t l⟩,(cZ l).map bK.mk⟩
 def nD(aG:Nat)(t:aj)(l:List ak)(val:ByteArray)(lo hi:Int):Bool:=
 rC (kI aG t l) aG (fc (λe=>vB e val lo hi||iJ e val lo hi) (cZ l)) (fc (iJ · val lo hi) (cZ l))
 def vZ(aG:Nat)(t:aj)(l:List ak)(val:ByteArray)(lo hi:Int):Bool:=
 (gq (kI aG t l) (fc (iJ · val lo hi) (cZ l))).testBit aG
section
variable {aG : Nat} (hn : aG < 10) {t : aj} (ht : cU t) {l : List ak} (hl : s5 l)
 include hn ht hl
theorem UX(val:ByteArray)(lo hi:Int):iD (Jh aG t l) val lo hi=some (nD aG t l val lo hi):=by
 have hlen:=hl.len;have hrl:=C4 l;have hin:=nr l
 simp only[Jh,iD,qv,kX,Qa,XM (by omega:(cZ l).length<=1000000) hin,Kz (by omega:(cZ l).length<=1000000) hin,
  CD (ou ht hl) hn (mH hin) (mH hin),nD]
theorem aeZ(val:ByteArray)(lo hi:Int):oE (Jh aG t l) val lo hi=some (vZ aG t l val lo hi):=by
 have hlen:=hl.len;have hrl:=C4 l;have hin:=nr l;simp only[Jh,oE,qv,mS,Qa,Kz (by omega:(cZ l).length<=1000000) hin,Bk (ou ht hl) hn (mH hin),vZ]
theorem look_eq:fV aG t l=some (Jh aG t l):=Sv hn ht hl
end
def df(q:Int->Bool):List Int->Int->Int
 |[],lo=>lo
 |e::l,lo=>if lo<=e then df q l lo else if q e then df q l e else lo
def DB{p:Int->Option Bool}{q:Int->Bool}(h:∀e,p e=some (q e)):∀(l:List Int) (lo:Int),nY (λ(m5:Nat) (e6:Int) (v4:Int×Unit)=>
  bif (decide (v4.1<=e6))then some (Sum.inl (v4.1,()))else
  Option.bind (p e6) λr7=>bif (!r7)then Option.map Sum.inr (some v4.1)else some (Sum.inl (e6,()))) (λv8=>some v8.1) l (lo,())=some (df q l lo)
 |[],lo=>rfl
 |e::l,lo=>by
  rw[nY,df]
  by_cases hle:lo<=e
  ·rw[Qr hle];simp only[hle,decide_true,Qk];exact DB h l lo
  ·rw[Qs hle];simp only[hle,decide_false,Ql,h,Qa]
   cases hq:q e with
   |true=>
    simp only[Qo,Ql,Qt];have:=DB h l e;simp only[h,Qa]at this;exact this
   |false=>rfl
def flat(n:Nat)(k:Int):aj:=⟨k,xz n,[]⟩
structure Io (n:Nat) (k:Int) (l:List ak):Prop where
 n10:n<=10
 k1:1<=k
 kn:k<=n
 valid:∀e∈l,bc e=true
 aN:∀e∈l,e.aa=flat n k
 few:l.length<=1000
 all:∀i,i<n->∃e∈l,e.al.toNat=i
def Io.hZ{n:Nat}{k:Int}{l:List ak}(h:Io n k l):dq (flat n k):=Tw n h.n10 k h.k1 h.kn
def Io.sm{n:Nat}{k:Int}{l:List ak}(h:Io n k l):s5 l:=⟨by have:=h.few;omega,λe he=>by rw[h.aN e he];exact h.hZ.sm⟩
def Io.cZ{n:Nat}{k:Int}{l:List ak}(h:Io n k l):Go.Proofs.YtofedieniojipaaGreat.cZ l=l:=Y6 h.valid
def cE(n:Nat)(k:Int)(c:Int)(v:ByteArray)(lo hi:Nat->Int)(i:Nat):ak:=⟨i,1,1,flat n k,2,⟨c,v⟩,⟨c,v⟩,⟨0,bE⟩,lo i,hi i⟩
end
section
def Ei(b:List Int)(sure:Int->Int->Bool):Int×Int×Bool×Unit:=
 match b.reverse.find? (λe=>sure e e)with
 |some e=>(df (λx=>sure x e) b.reverse e,e,true,())
 |none=>(0,0,false,())
def Yw{p:Int->Option Bool}{q:Int->Bool}{d:Int->Option Int}{f:Int->Int}(hp:∀e,p e=some (q e))(hd:∀e,d e=some (f e)):∀r:List Int,nY (λ(m5:Nat) (e6:Int) (v4:Int×Int×Bool×Unit)=>
  Option.bind (p e6) λr7=>bif r7 then Option.bind (d e6) λr8=>Option.map Sum.inr (some (r8,e6,true,()))else some (Sum.inl (v4.1,v4.2.1,v4.2.2.1,()))) (λ(v9:Int×Int×Bool×Unit)=>some ((0:Int),(0:Int),false,())) r ((0:Int),(0:Int),false,())=
  some (match r.find? q with|some e=>(f e,e,true,())|none=>(0,0,false,()))
 |[]=>rfl
 |e::r=>by
  have ih:=Yw hp hd r;rw[nY,List.find?_cons];simp only[hp,hd,Qa,Qe]at ih ⊢
  cases q e with
  |true=>rfl
  |false=>simp only[Ql];exact ih
section
variable {aG : Nat} (hn : aG < 10) {t : aj} (ht : cU t) {l : List ak} (hl : s5 l)
 include hn ht hl
end
section
variable {n : Nat} {k c : Int} {v : ByteArray} {lo hi : Nat -> Int} (h : Io n k ((List.range n).map (cE n k c v lo hi))) {i : Nat} (hi' : i < n)
 include h hi'
end
end
section
section
variable {α : Type}
structure xU (lt:α->α->Bool):Prop where
 irrefl:∀x,lt x x=false
 trans:∀x y z,lt x y=true->lt y z=true->lt x z=true
 total:∀x y,lt x y=false->lt y x=false->x=y
variable {lt : α -> α -> Bool}
def xU.asymm(h:xU lt){x y:α}(hxy:lt x y=true):lt y x=false:=by
 cases hc:lt y x with
 |false=>rfl
 |true=>have:=h.trans x y x hxy hc;rw[h.irrefl]at this;cases this
def xU.ntrans(h:xU lt){x y z:α}(h1:lt x y=false)(h2:lt y z=false):lt x z=false:=by
 cases hc:lt x z with
 |false=>rfl
 |true=>
  cases hyx:lt y x with
  |false=>rw[h.total x y h1 hyx,h2]at hc;cases hc
  |true=>have:=h.trans y x z hyx hc;rw[h2]at this;cases this
def xU.kit(h:xU lt):Go.Sort.SWO lt:=⟨h.irrefl,h.trans,λ_ _ _=>h.ntrans⟩
def xU.own(h:xU lt):SWO lt:=⟨λ_ _=>h.asymm,λ_ _ _ h1 h2=>h.ntrans h2 h1⟩
def xU.flip(h:xU lt):xU λa b=>lt b a:=⟨h.irrefl,λx y z h1 h2=>h.trans z y x h2 h1,λx y h1 h2=>h.total x y h2 h1⟩
def xU.unique(h:xU lt):∀{a b:List α},a.Pairwise (λx y=>lt x y=true)->b.Pairwise (λx y=>lt x y=true)->(∀x,x∈a↔x∈b)->a=b
 |[],[],_,_,_=>rfl
 |[],y::b,_,_,h'=>by have:=(h' y).2 (by simp);cases this
 |x::a,[],_,_,h'=>by have:=(h' x).1 (by simp);cases this
 |x::a,y::b,ha,hb,h'=>by
  rw[Q4]at ha hb
  have hxy:x=y:=by
   have h1:=(h' x).1 (by simp)
   have h2:=(h' y).2 (by simp)
   rcases QA.1 h1 with h1|h1
   ·exact h1
   ·rcases QA.1 h2 with h2|h2
    ·exact h2.symm
    ·have q1:=ha.1 y h2;have q2:=hb.1 x h1;rw[h.asymm q1]at q2;cases q2
  subst hxy;congr 1;refine h.unique ha.2 hb.2 λz=>⟨λhz=> ?_,λhz=> ?_⟩
  ·rcases QA.1 ((h' z).1 (by simp[hz]))with e|e
   ·subst e;have:=ha.1 z hz;rw[h.irrefl]at this;cases this
   ·exact e
  ·rcases QA.1 ((h' z).2 (by simp[hz]))with e|e
   ·subst e;have:=hb.1 z hz;rw[h.irrefl]at this;cases this
   ·exact e
def xU.YY[DecidableEq α](h:xU lt){cmp:α->α->Option Int}{c:α->α->Int}(hc:∀x y,cmp x y=some (c x y))(hlt:∀x y,decide (c x y<0)=lt x y)(s:List α)(hs:s.length<1000000000):
  ∃t,Ct cmp s=some ((),t)/\t.length=s.length/\(dd t).Pairwise (λx y=>lt x y=true)/\∀x,x∈dd t↔x∈s:=by
 have hcf:Kt cmp=c:=funext λx=>funext λy=>by unfold Kt;rw[hc];rfl
 have hl:Go.Proofs.ltOf (Kt cmp)=lt:=by
  rw[hcf];exact funext λx=>funext λy=>hlt x y
 have hok:aeO cmp:=⟨λx y=>by rw[hcf];exact hc x y,by rw[hl];exact h.kit,λx y h1 h2=>by rw[hl]at h1 h2;exact h.total x y h1 h2⟩
 refine⟨s.mergeSort λx y=> !lt y x,?_,List.length_mergeSort s,abQ h.own h.total ?_,λx=>by rw[ahP,List.mem_mergeSort]⟩
 ·unfold Ct;rw[Qr ⟨hok,by omega⟩,hl]
 ·refine(List.pairwise_mergeSort (le:=λx y=> !lt y x) (λa b c h1 h2=> ?_) (λa b=> ?_) s).imp λ{a b} hab=>by simpa using hab
  ·simp only[Bool.not_eq_true']at h1 h2 ⊢;exact h.ntrans h2 h1
  ·cases hab:lt a b with
   |false=>simp
   |true=>rw[h.asymm hab];rfl
end
def KO:xU λa b:Int=>decide (a<b):=
 ⟨λx=>Qh (Qq64 x),λx y z h1 h2=>by simp only[Qi]at*;omega,λx y h1 h2=>by simp only[Qj]at*;omega⟩
def WD:∀{x y z:List UInt8},Op.bytesLess x y=true->Op.bytesLess y z=true->Op.bytesLess x z=true
 |[],[],_,h,_=>by simp[Op.bytesLess]at h
 |_::_,[],_,h,_=>by simp[Op.bytesLess]at h
 |[],_::_,[],_,h=>by simp[Op.bytesLess]at h
 |[],_::_,_::_,_,_=>rfl
 |_::_,_::_,[],_,h=>by simp[Op.bytesLess]at h
 |a::x,b::y,c::z,h,h'=>by
  simp only[Op.bytesLess,Qn,Qi,Qm,beq_iff_eq]at h h' ⊢;rcases h with h|⟨rfl,h⟩
  ·rcases h' with h'|⟨rfl,h'⟩
   ·exact .inl (UInt8.lt_trans h h')
   ·exact .inl h
  ·rcases h' with h'|⟨rfl,h'⟩
   ·exact .inl h'
   ·exact .inr ⟨rfl,WD h h'⟩
def Xg{a b c:ByteArray}(h:lz a b=true)(h':lz b c=true):lz a c=true:=WD h h'
def Xh{a b:ByteArray}(h:a≠b):lz a b=true\/lz b a=true:=
 WE λe=>h (by
  rw[Lib.toList_data,Lib.toList_data]at e;cases a;cases b;rename_i x y;cases x;cases y
  simp_all)
def jt:xU bO:=by
 refine⟨λx=>by rw[bO,Qr rfl,DH],λx y z h1 h2=> ?_,λx y h1 h2=> ?_⟩
 ·unfold bO at*
  by_cases e1:x.size=y.size
  ·rw[Qr e1]at h1
   by_cases e2:y.size=z.size
   ·rw[Qr e2]at h2;rw[Qr (e1.trans e2)];exact Xg h1 h2
   ·rw[Qs e2]at h2;rw[Qs (by omega),e1]
    exact h2
  ·rw[Qs e1,Qi]at h1
   by_cases e2:y.size=z.size
   ·rw[Qs (by omega),<-e2]
    exact Qg h1
   ·rw[Qs e2,Qi]at h2;rw[Qs (by omega)]
    exact Qg (by omega)
 ·unfold bO at*
  by_cases e1:x.size=y.size
  ·rw[Qr e1]at h1;rw[Qr e1.symm]at h2;refine Classical.byContradiction λhne=> ?_
   rcases Xh hne with h|h
   ·rw[h]at h1;cases h1
   ·rw[h]at h2;cases h2
  ·rw[Qs e1,Qj]at h1;rw[Qs (λe=>e1 e.symm),Qj]at h2
   omega
def ER:xU bB:=by
 refine⟨λx=>by rw[bB,Qr rfl,jt.irrefl],λx y z h1 h2=> ?_,λx y h1 h2=> ?_⟩
 ·unfold bB at*
  by_cases e1:x.ai=y.ai
  ·rw[Qr e1]at h1
   by_cases e2:y.ai=z.ai
   ·rw[Qr e2]at h2;rw[Qr (e1.trans e2)];exact jt.trans _ _ _ h1 h2
   ·rw[Qs e2]at h2;rw[Qs (by omega),e1]
    exact h2
  ·rw[Qs e1,Qi]at h1
   by_cases e2:y.ai=z.ai
   ·rw[Qs (by omega),<-e2]
    exact Qg h1
   ·rw[Qs e2,Qi]at h2;rw[Qs (by omega)]
    exact Qg (by omega)
 ·unfold bB at*
  by_cases e1:x.ai=y.ai
  ·rw[Qr e1]at h1;rw[Qr e1.symm]at h2;have:=jt.total _ _ h1 h2;cases x;cases y
   simp_all
  ·rw[Qs e1,Qj]at h1;rw[Qs (λe=>e1 e.symm),Qj]at h2
   omega
end
section
structure Ri (n:Nat) (l:List ak):Prop where
 of:∀e∈l,∃i:Nat,i<n/\Rj i 1 n e
 GQ:l.Pairwise λa b=>a.al<b.al
 len:l.length<=n
def Ri.valid{n:Nat}{l:List ak}(h:Ri n l):∀e∈l,bc e=true:=λe he=>by
 obtain⟨i,_,hi⟩:=h.of e he;rw[bc,vC hi.aN];exact hi.valid
def Ri.sm{n:Nat}{l:List ak}(h:Ri n l)(hn:n<=1000):s5 l:=⟨by have:=h.len;omega,λe he=>by
 obtain⟨i,_,hi⟩:=h.of e he
 exact hi.aN.sm⟩
def GW.mono{l:List bh}{s s' r:Nat}(h:∀k,s.testBit k=true->s'.testBit k=true)(hi:GW l s r):GW l s' r:=λk hk=>⟨h k (hi k hk).1,(hi k hk).2⟩
section
variable {aG : Nat} {t : aj} (ht : cU t) {l : List ak} (hl : s5 l) {v : ByteArray} {lo hi k : Int} (h1 : lo <= k) (h2 : k <= hi)
 include ht hl h1 h2
end
end
section
section
variable {α : Type}
 def uN(p:α->Option Bool)(a0:List α)(v1:Int×Unit):Option ((Int×Unit)⊕Int):=
 bif (decide (v1.1<((List.length a0:Nat):Int)))then
  Option.bind (idx a0 v1.1) λx2=>Option.bind (p x2) λr3=>bif r3 then Option.map Sum.inr (some v1.1)else some (Sum.inl ((aA .i64 v1.1 (1:Int)),()))
 else Option.map Sum.inr (some (-1:Int))
 def abC(p:α->Option Bool)(a0:List α):Option Int:=aD (uN p a0) ((0:Int),())
 def GG(p:α->Option Bool)(z:α)(v2:Int×Int×(List α)×Unit):Option ((Int×Int×(List α)×Unit)⊕List α):=
 bif (decide (v2.2.1<((List.length v2.2.2.1:Nat):Int)))then
  aY (λ(v3:Int×(List α)×Unit)=>some (Sum.inl (v3.1,(aA .i64 v2.2.1 (1:Int)),v3.2.1,()))) λj4=>
  Option.bind (idx v2.2.2.1 v2.2.1) λx5=>Option.bind (v2.2.2.1[(Int.toNat v2.2.1)]?) λx6=>Option.bind (p x6) λr7=>
  bif (!r7)then
   Option.bind (idx v2.2.2.1 v2.1) λx8=>Option.bind (v2.2.2.1[(Int.toNat v2.1)]?) λx9=>j4 ((aA .i64 v2.1 (1:Int)),(v2.2.2.1.set (Int.toNat v2.1) x6),())
  else j4 (v2.1,v2.2.2.1,())
 else
  Option.map Sum.inr (bif cD v2.1 ((List.length v2.2.2.1):Int) (List.length v2.2.2.1)then
   bif cD (0:Int) v2.1 (List.length (v2.2.2.1.take (Int.toNat v2.1)++List.replicate (Int.toNat ((List.length v2.2.2.1):Int) - Int.toNat v2.1) z++v2.2.2.1.drop ((Int.toNat v2.1)+(Int.toNat ((List.length v2.2.2.1):Int) - Int.toNat v2.1))))then
    some ((v2.2.2.1.take (Int.toNat v2.1)++List.replicate (Int.toNat ((List.length v2.2.2.1):Int) - Int.toNat v2.1) z++v2.2.2.1.drop ((Int.toNat v2.1)+(Int.toNat ((List.length v2.2.2.1):Int) - Int.toNat v2.1))).take (Int.toNat v2.1 - Int.toNat (0:Int)))
   else none
  else none)
 def Yt(p:α->Option Bool)(z:α)(s:List α):Option (List α):=
 Option.bind (abC p s) λr1=>bif (decide (r1=(-1:Int)))then some s else aD (GG p z) (r1,(aA .i64 r1 (1:Int)),s,())
def FU{q:α->Bool}{s:List α}{j:Nat}{x:α}(h:s[j]?=some x):(s.take (j+1)).filter q=(s.take j).filter q++if q x then[x]else[]:=by
 obtain⟨hl,hx⟩:=Qw.1 h;rw[Q7 hl,List.filter_append,hx];congr 1;cases hq:q x<;>simp[hq]
variable {p : α -> Option Bool} {q : α -> Bool} (hp : ∀ x, p x = some (q x)) {z : α}
 include hp
theorem V0{s:List α}(hs:s.length<1000000000):∀(k i:Nat),i+k=s.length->(s.take i).filter (λx=> !q x)=s.take i->
  (∃m:Nat,∃x,aD (uN p s) ((i:Int),())=some (m:Int)/\(s.take m).filter (λx=> !q x)=s.take m/\s[m]?=some x/\q x=true)\/(aD (uN p s) ((i:Int),())=some (-1)/\s.filter (λx=> !q x)=s)
 |0,i,hi,hf=>by
  have hd:decide ((i:Int)<(s.length:Int))=false:=Qh (by omega)
  refine .inr ⟨bM ?_,?_⟩
  ·simp only[uN,hd,Ql,Qe]
  ·rwa [show i=s.length by omega,Qq62]at hf
 |k+1,i,hi,hf=>by
  have hd:decide ((i:Int)<(s.length:Int))=true:=Qg (by omega)
  have hw:aA .i64 (i:Int) 1=((i+1:Nat):Int):=bH (by omega) (by omega)
  obtain⟨x,hx⟩:∃x,s[i]?=some x:=⟨_,Qv (by omega)⟩
  cases hq:q x with
  |true=>
   refine .inl ⟨i,x,bM ?_,hf,hx,hq⟩;simp only[uN,hd,Qk,bf,hx,Qa,hp,hq,Qe]
  |false=>
   have hstep:aD (uN p s) ((i:Int),())=aD (uN p s) (((i+1:Nat):Int),()):=bw (by simp only[uN,hd,Qk,bf,hx,Qa,hp,hq,Ql,hw])
   rw[hstep];refine V0 hs k (i+1) (by omega) ?_
   rw[FU hx,hf,hq];obtain⟨hl,hx'⟩:=Qw.1 hx;rw[Q7 hl,hx'];rfl
theorem NA{s:List α}(hs:s.length<1000000000):∀(r i j:Nat) (d:List α),j+r=s.length->i<j->d.length=s.length->d.take i=(s.take j).filter (λx=> !q x)->(∀m,j<=m->d[m]?=s[m]?)->
  aD (GG p z) ((i:Int),(j:Int),d,())=some (s.filter λx=> !q x)
 |0,i,j,d,hr,hij,hd,ht,hm=>by
  have e2:decide ((j:Int)<(d.length:Int))=false:=Qh (by omega)
  refine bM ?_
  have e3:∀n,cD (i:Int) (d.length:Int) n=decide (d.length<=n):=by
   intro n;simp only[cD];have h1:decide ((0:Int)<=(i:Int))=true:=Qg (by omega)
   have h2:decide ((i:Int)<=(d.length:Int))=true:=Qg (by omega)
   rw[h1,h2,Bool.and_self,Bool.true_and,decide_eq_decide];omega
  have e4:(d.take i++List.replicate (d.length - i) z++d.drop (i+(d.length - i))).length=d.length:=by simp;omega
  have e5:cD (0:Int) (i:Int) d.length=true:=by
   simp only[cD,Qm,Qi];omega
  have e6:(d.take i++List.replicate (d.length - i) z++d.drop (i+(d.length - i))).take (i - 0)=s.filter λx=> !q x:=by
   rw[Nat.sub_zero,QL,List.take_append_of_le_length (by simp;omega),List.take_take,Nat.min_self,ht,show j=s.length by omega,Qq62]
  simp only[GG,e2,Ql,QV,e3,QI,decide_true,Qk,e4,e5,Int.toNat_zero,e6,Qe]
 |r+1,i,j,d,hr,hij,hd,ht,hm=>by
  have e2:decide ((j:Int)<(d.length:Int))=true:=Qg (by omega)
  have ej:aA .i64 (j:Int) 1=((j+1:Nat):Int):=bH (by omega) (by omega)
  have ei:aA .i64 (i:Int) 1=((i+1:Nat):Int):=bH (by omega) (by omega)
  obtain⟨x,hx⟩:∃x,s[j]?=some x:=⟨_,Qv (by omega)⟩
  obtain⟨y,hy⟩:∃y,d[i]?=some y:=⟨_,Qv (by omega)⟩
  have hdx:d[j]?=some x:=by rw[hm j (QI _),hx]
  have hstep:=FU (q:=λx=> !q x) hx
  cases hq:q x with
  |true=>
   rw[hq]at hstep;refine(bw (s':=((i:Int),((j+1:Nat):Int),d,())) ?_).trans (NA hs r i (j+1) d (by omega) (by omega) hd (by rw[hstep,ht];simp) λm h=>hm m (by omega))
   simp only[GG,e2,Qk,aS,bf,QV,hdx,Qa,hp,hq,Qo,Ql,ej]
  |false=>
   rw[hq]at hstep;refine(bw (s':=(((i+1:Nat):Int),((j+1:Nat):Int),d.set i x,())) ?_).trans (NA hs r (i+1) (j+1) (d.set i x) (by omega) (by omega) (by rw[QY];exact hd) ?_ λm h=> ?_)
   ·simp only[GG,e2,Qk,aS,bf,QV,hdx,hy,Qa,hp,hq,Qp,ej,ei]
   ·rw[hstep,<-ht,Q7 (by rw[QY];omega),List.take_set_of_le (QI _)]
    simp
   ·rw[List.getElem?_set,Qs (by omega)]
    exact hm m (by omega)
theorem ZL(s:List α)(hs:s.length<1000000000):Yt p z s=some (s.filter λx=> !q x):=by
 rw[Yt,abC];rcases V0 hp hs s.length 0 (by omega) (by simp)with⟨m,x,h1,h2,h3,h4⟩|⟨h1,h2⟩
 ·have hm:m<s.length:=(Qw.1 h3).1;have h1':aD (uN p s) ((0:Int),())=some (m:Int):=h1;have e:decide ((m:Int)= -1)=false:=Qh (by omega)
  rw[h1',Qa,e,Ql,show aA .i64 (m:Int) 1=((m+1:Nat):Int)from bH (by omega) (by omega)]
  refine NA hp hs (s.length - (m+1)) m (m+1) s (by omega) (by omega) rfl ?_ λ_ _=>rfl
  rw[FU h3,h2,h4];simp
 ·have h1':aD (uN p s) ((0:Int),())=some (-1):=h1;rw[h1',Qa,h2];rfl
end
def H8{α β ρ:Type}(l:List α)(hl:l.length<=1000000)(f:α->List β)(hf:∀x∈l,(f x).length<=3){step:Int×List β×Unit->Option ((Int×List β×Unit)⊕ρ)}{fin:List β->Option ρ}
  (h1:∀(i:Nat) (x:α) (acc:List β),x∈l->decide ((i:Int)<(l.length:Int))=true->idx l (i:Int)=some x->aA .i64 (i:Int) 1=((i+1:Nat):Int)->(∀bytes n:Nat,bytes<=40->n<=3->acc.length<=3000000->bl bytes (acc.length+n)=true)->acc.length<=3000000->step ((i:Int),acc,())=some (.inl (((i+1:Nat):Int),acc++f x,())))
  (h2:∀acc,decide ((l.length:Int)<(l.length:Int))=false->step ((l.length:Int),acc,())=Option.map Sum.inr (fin acc)):aD step ((0:Int),([]:List β),())=fin (l.flatMap f):=by
 suffices key:∀(k i:Nat) (acc:List β),i+k=l.length->acc=(l.take i).flatMap f->acc.length<=3*i->aD step ((i:Int),acc,())=fin (l.flatMap f)from key l.length 0 [] (by omega) (by simp) (by simp)
 intro k
 induction k with
 |zero=>
  intro i acc hi ha hal;obtain rfl:i=l.length:=by omega
  rw[Qq62]at ha;rw[ff,h2 acc (Qh (Qq64 _)),ha];cases fin (l.flatMap f)<;>rfl
 |succ k ih=>
  intro i acc hi ha hal;have hlt:i<l.length:=by omega
  have hx:l[i]?=some l[i]:=Qv hlt;have:=hf _ (Q0 hlt);refine(bw (h1 i l[i] acc (Q0 hlt) (Qg (by omega)) (by rw[bf];exact hx) (bH (by omega) (by omega)) (λbytes n hb hn ha=> ?_) (by omega))).trans (ih (i+1) _ (by omega) ?_ (by rw[QB];omega))
  ·simp only[bl,Qm,Qi];exact⟨QK (Nat.mul_le_mul (show acc.length+n<=3000003 by omega) hb) (show 3000003*40<=140737488355328 by decide),QK (show acc.length+n<=3000003 by omega) (by simp[maxLen])⟩
  ·rw[Q7 hlt,List.flatMap_append,ha];simp
instance:Inhabited ah:=⟨⟨0,bE⟩⟩
instance:DecidableEq ah:=λa b=>decidable_of_iff (a.ai=b.ai/\a.Value=b.Value) (by cases a;cases b;simp)
def aeW(s:List ah)(hs:s.length<1000000000):∃b,eZ s=some b/\b.Pairwise (λx y=>bB y x=true)/\b.length<=s.length/\∀x,x∈b↔x∈s:=by
 obtain⟨t,h1,h2,h3,h4⟩:=ER.flip.YY (cmp:=oo) (c:=λx y=>Ww y x) (λx y=>by simp[oo]) (λx y=>Wv y x) s hs
 have hc:=Dj (eq:=λx y:ah=>mj false x.ai y.ai x.Value y.Value) (ne:=λx y=>mj true x.ai y.ai x.Value y.Value) (z:=ah.mk 0 bE) (λx y=>by
  rw[Cf,QW];cases x;cases y;simp) (λx y=>by
  rw[ads];congr 1;rw[QW];cases x;cases y
  simp) t (by omega)
 refine⟨dd t,?_,h3,by have:=Wo t;omega,h4⟩
 have h1':gr s=some ((),t):=h1;have hc':iM t=some (dd t):=hc;simp only[eZ,h1',hc',Qa]
def aeU(s:List ByteArray)(hs:s.length<1000000000):∃b,gk s=some b/\b.Pairwise (λx y=>bO x y=true)/\b.length<=s.length/\∀x,x∈b↔x∈s:=by
 obtain⟨t,h1,h2,h3,h4⟩:=jt.YY (cmp:=hU) (c:=xo) (λx y=>CH x y) wc s hs
 have hc:=Dj (eq:=λx y:ByteArray=>decide (x=y)) (ne:=λx y=> !decide (x=y)) (z:=bE) (λ_ _=>rfl) (λ_ _=>rfl) t (by omega)
 refine⟨dd t,?_,h3,by have:=Wo t;omega,h4⟩
 have h1':ji s=some ((),t):=h1;have hc':eO t=some (dd t):=hc;simp only[gk,h1',hc',Qa]
def adH(a b:Int):decide (yG a b<0)=decide (a<b):=by rw[decide_eq_decide];exact H9 a b
def aeV(s:List Int)(hs:s.length<1000000000):∃b,gY s=some b/\b.Pairwise (·<·)/\b.length<=s.length/\∀x,x∈b↔x∈s:=by
 obtain⟨t,h1,h2,h3,h4⟩:=KO.YY (cmp:=fb) (c:=yG) (λx y=>Ip x y) adH s hs
 have hc:=Dj (eq:=λx y:Int=>decide (x=y)) (ne:=λx y=> !decide (x=y)) (z:=0) (λ_ _=>rfl) (λ_ _=>rfl) t (by omega)
 refine⟨dd t,?_,h3.imp λh=>of_decide_eq_true h,by have:=Wo t;omega,h4⟩
 have h1':lP s=some ((),t):=h1;simp only[gY,h1',Qa,adC,hc]
 def said(e:ak):List ah:=if bc e then(if e.bx=1 then[e.ae,e.ao,e.aC]else if e.bx=2 then[e.ao,at_ e 1000000]else[at_ e 1000000])else[]
def He(e:ak):(said e).length<=3:=by
 unfold said;split
 ·split
  ·simp
  ·split<;>simp
 ·simp
def vW{α β:Type}(f:α->List β)(hf:∀x,(f x).length<=3):∀l:List α,(l.flatMap f).length<=3*l.length
 |[]=>by simp
 |x::l=>by
  have:=vW f hf l;have:=hf x;rw[List.flatMap_cons,QB,QE];omega
section
variable {l : List ak} (hl : ∀ e ∈ l, cU e.aa) (hlen : l.length <= 1000)
 include hl hlen
theorem aav:∃b,iO l=some b/\b.Pairwise (λx y=>bB y x=true)/\b.length<=3000/\∀x,x∈b↔∃e∈l,x∈said e/\aP x=false:=by
 have hd:=ZL (p:=bA) (q:=aP) dm (z:=ah.mk 0 bE) (l.flatMap said) (by have:=vW said He l;omega)
 obtain⟨b,h1,h2,hbl,h3⟩:=aeW ((l.flatMap said).filter λx=> !aP x) (by have:=vW said He l;have:=List.length_filter_le (λx=> !aP x) (l.flatMap said);omega)
 refine⟨b,?_,h2,by have:=vW said He l;have:=List.length_filter_le (λx=> !aP x) (l.flatMap said);omega,λx=> ?_⟩
 ·unfold iO;refine(H8 l (by omega) said (λe _=>He e) (fin:=λacc=>Option.bind (et acc) λr8=>Option.bind (eZ r8) λr9=>some r9) (λi e acc he hd hx hw hok hal=> ?_) (λacc hd=> ?_)).trans ?_
  ·have o1:=hok 24 3 (by omega) (by omega) hal
   have o2:=hok 24 2 (by omega) (by omega) hal
   have o3:=hok 24 1 (by omega) (by omega) hal
   simp only[hd,hx,hw,Qk,aS,Qa,etas,sk (hl e he),CY,QE,QZ,o1,o2,o3,Nat.zero_add,Nat.reduceAdd];unfold said at_
   cases bc e<;>by_cases k1:e.bx=1<;>by_cases k2:e.bx=2<;>simp[k1,k2]
  ·simp only[hd,Ql]
  ·have hd':et (l.flatMap said)=_:=hd;simp only[hd',h1,Qa]
 ·rw[h3,List.mem_filter,QQ];constructor
  ·rintro⟨⟨e,he,hx⟩,hz⟩;exact⟨e,he,hx,by simpa using hz⟩
  ·rintro⟨e,he,hx,hz⟩;exact⟨⟨e,he,hx⟩,by simpa using hz⟩
theorem ace:∃b,lv l=some b/\b.Pairwise (λx y=>bO x y=true)/\b.length<=3000/\∀x,x∈b↔∃e∈l,bc e=true/\x=e.ae.Value:=by
 have hf:∀e:ak,(if bc e then[e.ae.Value]else[]).length<=3:=λe=>by split<;>simp
 obtain⟨b,h1,h2,hbl,h3⟩:=aeU (l.flatMap λe=>if bc e then[e.ae.Value]else[]) (by have:=vW _ hf l;omega)
 refine⟨b,?_,h2,by have:=vW _ hf l;omega,λx=> ?_⟩
 ·unfold lv;refine(H8 l (by omega) (λe=>if bc e then[e.ae.Value]else[]) (λe _=>hf e) (fin:=λacc=>Option.bind (gk acc) λr6=>some r6) (λi e acc he hd hx hw hok hal=> ?_) (λacc hd=> ?_)).trans ?_
  ·have o3:=hok 16 1 (by omega) (by omega) hal
   simp only[hd,hx,hw,Qk,aS,Qa,etas,sk (hl e he),QE,QZ,o3,Nat.zero_add];cases bc e<;>simp
  ·simp only[hd,Ql]
  ·simp only[h1,Qa]
 ·rw[h3,QQ];constructor
  ·rintro⟨e,he,hx⟩;split at hx
   ·rename_i hv;exact⟨e,he,hv,by simpa using hx⟩
   ·cases hx
  ·rintro⟨e,he,hv,hx⟩;exact⟨e,he,by rw[Qr hv];simpa using hx⟩
theorem aau(v:ByteArray):∃b,gl l v=some b/\b.Pairwise (·<·)/\b.length<=3000/\∀x,x∈b↔x∈ends v l:=by
 have hf:∀e:ak,(if jX v e then[e.aZ,e.bq]else[]).length<=3:=λe=>by split<;>simp
 obtain⟨b,h1,h2,hbl,h3⟩:=aeV (ends v l) (by have:=vW _ hf l;unfold ends;omega)
 refine⟨b,?_,h2,by have:=vW _ hf l;unfold ends at hbl;omega,h3⟩
 unfold gl;refine(H8 l (by omega) (λe=>if jX v e then[e.aZ,e.bq]else[]) (λe _=>hf e) (fin:=λacc=>Option.bind (gY acc) λr6=>some r6) (λi e acc he hd hx hw hok hal=> ?_) (λacc hd=> ?_)).trans ?_
 ·have o3:=hok 8 2 (by omega) (by omega) hal
  simp only[hd,hx,hw,Qk,aS,Qa,etas,sk (hl e he),QE,QZ,o3,Nat.zero_add,Nat.reduceAdd];unfold jX;cases bc e<;>cases decide (e.ae.Value=v)<;>cases decide (e.aZ=0)<;>simp
 ·simp only[hd,Ql]
 ·exact(congrArg (λo=>Option.bind o λr6=>some r6) h1)
end
end
section
def afP{e:ak}(hv:bc e=true):e.bx=1/\0<=e.aZ/\e.aZ<=e.bq\/e.bx≠1/\1<=e.aZ/\e.aZ<=e.bq:=by
 unfold bc gV at hv;rw[Qm]at hv;have h:=hv.2
 by_cases k1:e.bx=1
 ·rw[Qr k1]at h;simp only[gW,Qm,Qi]at h;omega
 ·rw[Qs k1]at h
  by_cases k2:e.bx=2
  ·rw[Qr k2]at h;simp only[wa,uw,Qm,Qi]at h;omega
  ·rw[Qs k2]at h
   by_cases k3:e.bx=3
   ·rw[Qr k3]at h;simp only[BK,uw,Qm,Qi]at h;omega
   ·rw[Qs k3]at h;cases h
end
section
def Ix:ah:=⟨0,gw⟩
def Dh{α τ:Type}(l:List α)(hl:l.length<=1000000)(mk:Int->τ)(P:α->Bool)(z:α){step:τ->Option (τ⊕α)}
  (h1:∀(i:Nat) (x:α),decide ((i:Int)<(l.length:Int))=true->idx l (i:Int)=some x->aA .i64 (i:Int) 1=((i+1:Nat):Int)->step (mk (i:Int))=some (bif P x then .inr x else .inl (mk ((i+1:Nat):Int))))
  (h2:decide ((l.length:Int)<(l.length:Int))=false->step (mk (l.length:Int))=some (.inr z)):aD step (mk 0)=some ((l.find? P).getD z):=by
 suffices key:∀(k i:Nat),i+k=l.length->aD step (mk (i:Int))=some (((l.drop i).find? P).getD z)from key l.length 0 (by omega)
 intro k
 induction k with
 |zero=>
  intro i hi;obtain rfl:i=l.length:=by omega
  rw[bM (h2 (Qh (Qq64 _))),Qq66];rfl
 |succ k ih=>
  intro i hi;have hlt:i<l.length:=by omega
  have hs:=h1 i l[i] (Qg (by omega)) (by rw[bf];exact Qv hlt) (bH (by omega) (by omega))
  rw[QM hlt,List.find?_cons]
  cases hP:P l[i]with
  |true=>rw[hP]at hs;rw[bM hs];rfl
  |false=>rw[hP]at hs;rw[bw hs];exact ih (i+1) (by omega)
 def fh(l:List ak):List ah:=(iO l).getD []
section
variable {l : List ak} (hl : ∀ e ∈ l, cU e.aa) (hlen : l.length <= 1000)
 include hl hlen
theorem pB:iO l=some (fh l)/\(fh l).Pairwise (λx y=>bB y x=true)/\(fh l).length<=3000/\∀x,x∈fh l↔∃e∈l,x∈said e/\aP x=false:=by
 obtain⟨b,h1,h2,h3,h4⟩:=aav hl hlen;have:fh l=b:=by rw[fh,h1];rfl
 rw[this];exact⟨h1,h2,h3,h4⟩
end
def qP(b:ah):ah:=if 1000<=b.ai then⟨1000000,b.Value⟩else b
def ZW(b:ah):jL b=some (qP b):=by
 unfold jL qP;simp only[aS,DC,Bj]
def U5{e:ak}(h:cU e.aa)(b:ah):ni e b=some (bc e&&eo e b):=by
 simp only[ni,etas,jU h,Qa,c6,gJ,uY]
 cases hv:bc e with
 |false=>simp
 |true=>
  cases hz:aP b with
  |true=>simp[eo,hz]
  |false=>
   by_cases k1:e.bx=1
   ·simp[eo,hz,k1]
   ·by_cases k3:e.bx=3
    ·simp[eo,hz,k3]
    ·by_cases k2:e.bx=2
     ·have hp:aP e.aC=true:=by
       unfold bc gV at hv;rw[Qm,Qs k1,Qr k2]at hv;simp only[wa,Qm]at hv;exact hv.2.1.1.2
      simp[eo,hz,k2,dY,jE,hp]
     ·unfold bc gV at hv;rw[Qs k1,Qs k2,Qs k3]at hv;simp at hv
end
section
 def gF(l:List ak):List ByteArray:=(lv l).getD []
 def bu(l:List ak)(v:ByteArray):List Int:=(gl l v).getD []
section
variable {l : List ak} (hl : ∀ e ∈ l, cU e.aa) (hlen : l.length <= 1000)
 include hl hlen
theorem wG:lv l=some (gF l)/\(gF l).Pairwise (λx y=>bO x y=true)/\(gF l).length<=3000/\∀x,x∈gF l↔∃e∈l,bc e=true/\x=e.ae.Value:=by
 obtain⟨b,h1,h2,h3,h4⟩:=ace hl hlen;have:gF l=b:=by rw[gF,h1];rfl
 rw[this];exact⟨h1,h2,h3,h4⟩
theorem jz(v:ByteArray):gl l v=some (bu l v)/\(bu l v).Pairwise (·<·)/\(bu l v).length<=3000/\∀x,x∈bu l v↔x∈ends v l:=by
 obtain⟨b,h1,h2,h3,h4⟩:=aau hl hlen v;have:bu l v=b:=by rw[bu,h1];rfl
 rw[this];exact⟨h1,h2,h3,h4⟩
end
def Fm{l:List ak}(hl:s5 l)(hlen:l.length<=1000)(v:ByteArray):∀x∈bu l v,1<=x/\x<=1000:=by
 obtain⟨_,_,_,h⟩:=jz hl.aN hlen v;intro x hx;obtain⟨e,he,hb,hy⟩:=DY.1 ((h x).1 hx);simp only[jX,Qm,Bool.not_eq_true',Qj]at hb;have hv:=hb.1.1;have h0:=hb.2;unfold bc gV at hv;rw[Qm]at hv;have hv:=hv.2
 by_cases k1:e.bx=1
 ·rw[Qr k1]at hv;simp only[gW,finite,Qm,Qi]at hv;omega
 ·rw[Qs k1]at hv
  by_cases k2:e.bx=2
  ·rw[Qr k2]at hv;simp only[wa,uw,Qm,Qi]at hv;omega
  ·rw[Qs k2]at hv
   by_cases k3:e.bx=3
   ·rw[Qr k3]at hv;simp only[BK,uw,Qm,Qi]at hv;omega
   ·rw[Qs k3]at hv;cases hv
def PG{α A B ρ:Type}(l:List α)(hl:l.length<=1000000)(f:A×B->α->A×B){step:A×Int×B×Unit->Option ((A×Int×B×Unit)⊕ρ)}{fin:A×B->Option ρ}
  (h1:∀(i:Nat) (x:α) (a:A) (b:B),x∈l->decide ((i:Int)<(l.length:Int))=true->idx l (i:Int)=some x->aA .i64 (i:Int) 1=((i+1:Nat):Int)->step (a,(i:Int),b,())=some (.inl ((f (a,b) x).1,((i+1:Nat):Int),(f (a,b) x).2,())))
  (h2:∀a b,decide ((l.length:Int)<(l.length:Int))=false->step (a,(l.length:Int),b,())=Option.map Sum.inr (fin (a,b))) (a:A) (b:B):aD step (a,(0:Int),b,())=fin (l.foldl f (a,b)):=by
 suffices key:∀(k i:Nat) (a:A) (b:B),i+k=l.length->aD step (a,(i:Int),b,())=fin ((l.drop i).foldl f (a,b))from key l.length 0 a b (by omega)
 intro k
 induction k with
 |zero=>
  intro i a b hi;obtain rfl:i=l.length:=by omega
  rw[ff,h2 a b (Qh (Qq64 _)),Qq66,List.foldl_nil];cases fin (a,b)<;>rfl
 |succ k ih=>
  intro i a b hi;have hlt:i<l.length:=by omega
  rw[bw (h1 i l[i] a b (Q0 hlt) (Qg (by omega)) (by rw[bf];exact Qv hlt) (bH (by omega) (by omega))),ih (i+1) _ _ (by omega),QM hlt,QU]
def oP(p q:ah)(v:ByteArray)(n:Int):Bool:=eN p ⟨n,v⟩||eN q ⟨n,v⟩
def Rg(v:ByteArray)(n:Int)(p q:ah):qw v n p q=some (oP p q v n):=by
 simp only[qw,u0,Qa,ib,Bool.cond_true_left,oP]
 def FW(b:List Int)(ready:Int->Int->Bool)(low cm:Int):Int×Int:=
 match b.reverse.find? (λn=>decide (cm<n)&&ready n n)with
 |none=>(df (λx=>ready x cm) b.reverse low,cm)
 |some n=>
  let bottom:=df (λx=>ready x n) b.reverse n
  (df (λx=>ready x n) b.reverse (if cm<bottom - 1\/bottom<low then bottom else low),n)
 def DA(S:gO)(b:List Int)(v:ByteArray)(m8:Nat)(e9:Int)(v7:Int×Int×Unit):Option ((Int×Int×Unit)⊕(Int×Int×Unit)):=
 Option.bind (bif (decide (e9<=v7.2.1))then some true else Option.bind (iD S v e9 e9) λr10=>some (!r10)) λb11=>
 bif b11 then some (Sum.inl (v7.1,v7.2.1,()))else
 Option.bind (kH b e9 S v e9) λr12=>
 aY (λ(v13:Int×Unit)=>Option.map Sum.inr (Option.bind (iE b v13.1 S v e9) λr5=>some (r5,e9,()))) λj14=>
 Option.bind (bif (decide (v7.2.1<(cQ .i64 r12 (1:Int))))then some true else some (decide (r12<v7.1))) λb15=>
 bif b15 then j14 (r12,())else j14 (v7.1,())
 def abG(S:gO)(b:List Int)(v:ByteArray)(v16:Int×Int×Unit):Option (Int×Int×Unit):=Option.bind (iE b v16.1 S v v16.2.1) λr5=>some (r5,v16.2.1,())
section
variable {aG : Nat} (hn : aG < 10) {t : aj} (ht : cU t) {l : List ak} (hl : s5 l)
 include hn ht hl
end
end
section
section
variable {α : Type} [DecidableEq α] {lt : α -> α -> Bool}
def dQ(lt:α->α->Bool)(x:α):List α->List α
 |[]=>[x]
 |y::l=>if lt y x then y::dQ lt x l else if y=x then y::l else x::y::l
def Hw(x:α):∀(l:List α) (z:α),z∈dQ lt x l↔z=x\/z∈l
 |[],z=>by simp[dQ]
 |y::l,z=>by
  rw[dQ];split
  ·rw[QA,Hw x l z,QA];constructor
   ·rintro(h|h|h)
    ·exact .inr (.inl h)
    ·exact .inl h
    ·exact .inr (.inr h)
   ·rintro(h|h|h)
    ·exact .inr (.inl h)
    ·exact .inl h
    ·exact .inr (.inr h)
  ·split
   ·rename_i h;rw[QA];constructor
    ·exact .inr
    ·rintro(h1|h1)
     ·exact .inl (h1.trans h.symm)
     ·exact h1
   ·rw[QA]
def xU.dQ(h:xU lt)(x:α):∀{l:List α},l.Pairwise (λa b=>lt a b=true)->(Go.Proofs.YtofedieniojipaaGreat.dQ lt x l).Pairwise (λa b=>lt a b=true)
 |[],_=>by rw[Go.Proofs.YtofedieniojipaaGreat.dQ];exact List.pairwise_singleton _ _
 |y::l,hp=>by
  rw[Q4]at hp;rw[Go.Proofs.YtofedieniojipaaGreat.dQ];split
  ·rename_i hy;rw[Q4];refine⟨λz hz=> ?_,h.dQ x hp.2⟩
   rcases(Hw x l z).1 hz with rfl|hz
   ·exact hy
   ·exact hp.1 z hz
  ·rename_i hy;split
   ·exact Q4.2 hp
   ·rename_i hne
    have hxy:lt x y=true:=by
     cases hc:lt x y with
     |true=>rfl
     |false=>exact absurd (h.total y x (by simpa using hy) hc) hne
    rw[Q4,Q4];refine⟨λz hz=> ?_,hp⟩
    rcases QA.1 hz with rfl|hz
    ·exact hxy
    ·exact h.trans _ _ _ hxy (hp.1 z hz)
def vU(x:α):∀l:List α,(dQ lt x l).length<=l.length+1
 |[]=>by simp[dQ]
 |y::l=>by
  have:=vU x l;rw[dQ];split
  ·simp;omega
  ·split<;>simp
def R8(x:α):∀(l:List α) (i:Nat),(∀j,j<i->∃y,l[j]?=some y/\lt y x=true)->(∀y,l[i]?=some y->lt y x=false)->dQ lt x l=if l[i]?=some x then l else l.take i++x::l.drop i
 |[],i,h1,h2=>by
  cases i with
  |zero=>simp[dQ]
  |succ i=>obtain⟨y,hy,_⟩:=h1 0 (by omega);simp at hy
 |y::l,i,h1,h2=>by
  cases i with
  |zero=>
   have hy:=h2 y rfl;rw[dQ,hy,Qs (by simp)]
   by_cases h:y=x
   ·simp[h]
   ·simp[h]
  |succ i=>
   obtain⟨y',hy',hlt⟩:=h1 0 (by omega)
   simp only[List.getElem?_cons_zero,Qf]at hy';subst hy'
   rw[dQ,Qr hlt,R8 x l i (λj hj=>by
    obtain⟨z,hz,h⟩:=h1 (j+1) (by omega)
    exact⟨z,by simpa using hz,h⟩) (λz hz=>h2 z (by simpa using hz))]
   simp only[List.getElem?_cons_succ,List.take_succ_cons,List.drop_succ_cons];split<;>simp
def Ka(h:xU lt):∀(xs l:List α),l.Pairwise (λa b=>lt a b=true)->(xs.foldl (λl x=>dQ lt x l) l).Pairwise (λa b=>lt a b=true)/\∀z,z∈xs.foldl (λl x=>dQ lt x l) l↔z∈xs\/z∈l
 |[],l,hp=>⟨hp,by simp⟩
 |x::xs,l,hp=>by
  obtain⟨h1,h2⟩:=Ka h xs _ (h.dQ x hp);rw[QU];refine⟨h1,λz=> ?_⟩
  rw[h2,Hw,QA];constructor
  ·rintro(a|a|a)
   ·exact .inl (.inr a)
   ·exact .inl (.inl a)
   ·exact .inr a
  ·rintro((a|a)|a)
   ·exact .inr (.inl a)
   ·exact .inl a
   ·exact .inr (.inr a)
def Po:∀(xs l:List α),(xs.foldl (λl x=>dQ lt x l) l).length<=l.length+xs.length
 |[],l=>by simp
 |x::xs,l=>by
  have:=Po xs (dQ lt x l);have:=vU (lt:=lt) x l;rw[QU,QE];omega
end
def tG{α:Type}(l:List α)(i:Nat):(l.take (Int.toNat (i:Int))).drop (Int.toNat (0:Int))=l.take i:=by simp
def yl{α:Type}(l:List α)(i:Nat):(l.take (Int.toNat (l.length:Int))).drop (Int.toNat (i:Int))=l.drop i:=by simp
def DI{i n:Nat}(h:i<=n):cD (0:Int) (i:Int) n=true:=by
 simp only[cD,Qm,Qi];omega
def DJ{i n:Nat}(h:i<=n):cD (i:Int) (n:Int) n=true:=by
 simp only[cD,Qm,Qi];omega
def jg{bytes n:Nat}(h:bytes<=200)(hn:n<=1000000):bl bytes n=true:=
 bC ⟨QK (Nat.mul_le_mul hn h) (by decide),hn⟩
def UC{α ρ:Type}(l:List α)(hl:l.length<=1000000)(P:α->Bool){step:Int×Unit->Option ((Int×Unit)⊕ρ)}{r:Nat->Option ρ}
  (h1:∀(i:Nat) (y:α),l[i]?=some y->decide ((i:Int)<(l.length:Int))=true->idx l (i:Int)=some y->P y=true->aA .i64 (i:Int) 1=((i+1:Nat):Int)->step ((i:Int),())=some (.inl (((i+1:Nat):Int),())))
  (h2:∀(i:Nat) (y:α),l[i]?=some y->decide ((i:Int)<(l.length:Int))=true->idx l (i:Int)=some y->P y=false->step ((i:Int),())=Option.map Sum.inr (r i))
  (h3:decide ((l.length:Int)<(l.length:Int))=false->step ((l.length:Int),())=Option.map Sum.inr (r l.length)):
  ∃i,i<=l.length/\(∀j,j<i->∃y,l[j]?=some y/\P y=true)/\(∀y,l[i]?=some y->P y=false)/\aD step ((0:Int),())=r i:=by
 suffices key:∀(k i:Nat),i+k=l.length->(∀j,j<i->∃y,l[j]?=some y/\P y=true)->∃m,m<=l.length/\(∀j,j<m->∃y,l[j]?=some y/\P y=true)/\(∀y,l[m]?=some y->P y=false)/\aD step ((i:Int),())=r m from key l.length 0 (by omega) (λj hj=>absurd hj (Nat.not_lt_zero _))
 intro k
 induction k with
 |zero=>
  intro i hi hj;obtain rfl:i=l.length:=by omega
  refine⟨l.length,QI _,hj,λy hy=>by simp at hy,?_⟩
  rw[ff,h3 (Qh (Qq64 _))];cases r l.length<;>rfl
 |succ k ih=>
  intro i hi hj;have hx:l[i]?=some l[i]:=Qv (by omega)
  have hd:decide ((i:Int)<(l.length:Int))=true:=Qg (by omega)
  cases hP:P l[i]with
  |true=>
   rw[bw (h1 i _ hx hd (by rw[bf];exact hx) hP (bH (by omega) (by omega)))]
   refine ih (i+1) (by omega) λj hj'=> ?_
   rcases Nat.lt_or_ge j i with h|h
   ·exact hj j h
   ·obtain rfl:j=i:=by omega
    exact⟨_,hx,hP⟩
  |false=>
   refine⟨i,by omega,hj,λy hy=> ?_,?_⟩
   ·rw[hx]at hy;injection hy with hy
    rw[<-hy];exact hP
   ·rw[ff,h2 i _ hx hd (by rw[bf];exact hx) hP]
    cases r i<;>rfl
def J8{α ρ:Type}[DecidableEq α]{lt:α->α->Bool}(l:List α)(hl:l.length<=1000000)(x:α){step:Int×Unit->Option ((Int×Unit)⊕ρ)}{k:List α->Option ρ}
  (h1:∀(i:Nat) (y:α),decide ((i:Int)<(l.length:Int))=true->idx l (i:Int)=some y->lt y x=true->aA .i64 (i:Int) 1=((i+1:Nat):Int)->step ((i:Int),())=some (.inl (((i+1:Nat):Int),())))
  (h2:∀(i:Nat) (y:α),i<l.length->decide ((i:Int)<(l.length:Int))=true->decide ((i:Int)=(l.length:Int))=false->idx l (i:Int)=some y->lt y x=false->step ((i:Int),())=Option.map Sum.inr (k (if y=x then l else l.take i++x::l.drop i)))
  (h3:decide ((l.length:Int)<(l.length:Int))=false->decide ((l.length:Int)=(l.length:Int))=true->step ((l.length:Int),())=Option.map Sum.inr (k (l++[x]))):aD step ((0:Int),())=k (dQ lt x l):=by
 obtain⟨i,hi,g1,g2,g3⟩:=UC l hl (λy=>lt y x) (step:=step) (r:=λi=>k (if l[i]?=some x then l else l.take i++x::l.drop i)) (λi y hy hd hx hP hw=>h1 i y hd hx hP hw) (λi y hy hd hx hP=>by
   have hlt:=(Qw.1 hy).1;rw[h2 i y hlt hd (Qh (by omega)) hx hP,hy]
   by_cases hyx:y=x
   ·simp[hyx]
   ·have:¬(some y=some x):=λh=>hyx (by injection h)
    rw[Qs hyx,Qs this]) (λhd=>by
   rw[h3 hd (Qg rfl),Qs (by simp),Qq62,Qq66])
 rw[g3,R8 x l i g1 g2]
def afW(l:List ah)(hl:l.length<=900000)(b:ah):wB l b=some (if aP b then l else dQ (λx y=>bB y x) b l):=by
 unfold wB;rw[c6,Qa]
 cases hz:aP b with
 |true=>rfl
 |false=>
  simp only[Ql,aS]
  have he:∀y:ah,(decide (y.ai=b.ai)&&decide (y.Value=b.Value))=decide (y=b):=λy=>by
   rw[QW];cases y;cases b;simp
  refine J8 (lt:=λx y=>bB y x) l (by omega) b (k:=λt=>some t) (λi y hd hx hlt hw=> ?_) (λi y hi hd hde hx hlt=> ?_) (λhd hde=> ?_)
  ·simp only[hd,hx,hw,Qk,Qa,kg,hlt]
  ·have e1:=tG l i;have e2:=yl l i;simp only[hd,hx,Qk,Qa,kg,hlt,Ql,Cf,e1,e2,DI (show i<=l.length by omega),DJ (show i<=l.length by omega),he]
   rw[jg (by omega) (by simp;omega),jg (by omega) (by simp;omega),jg (by omega) (by simp;omega)]
   by_cases hyb:y=b<;>simp[hyb]
  ·have e1:=tG l l.length;have e2:=yl l l.length;simp only[hd,Ql,e1,e2,DI (QI l.length),DJ (QI l.length),Qk];rw[jg (by omega) (by simp;omega),jg (by omega) (by simp;omega),jg (by omega) (by simp;omega)]
   simp
def Fe{α σ ρ:Type}(l:List α)(hl:l.length<=1000000)(f:σ->α->σ)(Inv:Nat->σ->Prop){step:σ×Int×Unit->Option ((σ×Int×Unit)⊕ρ)}{fin:σ->Option ρ}
  (hI:∀i s x,x∈l->Inv i s->Inv (i+1) (f s x))
  (h1:∀(i:Nat) (x:α) (s:σ),Inv i s->i<=l.length->x∈l->decide ((i:Int)<(l.length:Int))=true->idx l (i:Int)=some x->aA .i64 (i:Int) 1=((i+1:Nat):Int)->step (s,(i:Int),())=some (.inl (f s x,((i+1:Nat):Int),())))
  (h2:∀s,decide ((l.length:Int)<(l.length:Int))=false->step (s,(l.length:Int),())=Option.map Sum.inr (fin s)) (s:σ) (hs:Inv 0 s):aD step (s,(0:Int),())=fin (l.foldl f s):=by
 suffices key:∀(k i:Nat) (s:σ),i+k=l.length->Inv i s->aD step (s,(i:Int),())=fin ((l.drop i).foldl f s)from key l.length 0 s (by omega) hs
 intro k
 induction k with
 |zero=>
  intro i s hi hs;obtain rfl:i=l.length:=by omega
  rw[ff,h2 s (Qh (Qq64 _)),Qq66,List.foldl_nil];cases fin s<;>rfl
 |succ k ih=>
  intro i s hi hs;have hlt:i<l.length:=by omega
  rw[bw (h1 i l[i] s hs (by omega) (Q0 hlt) (Qg (by omega)) (by rw[bf];exact Qv hlt) (bH (by omega) (by omega))),ih (i+1) _ (by omega) (hI i s _ (Q0 hlt) hs),QM hlt,QU]
 def ve(e:ak):List ah:=if bc e then(if e.bx=1 then[e.ae,e.ao,e.aC]else[e.ao,at_ e 1000000])else[]
def Od{e:ak}{x:ah}(hz:aP x=false):x∈ve e↔x∈said e:=by
 unfold ve said
 cases hv:bc e with
 |false=>simp
 |true=>
  by_cases k1:e.bx=1
  ·simp[k1]
  ·by_cases k2:e.bx=2
   ·simp[k2]
   ·have hp:aP e.ao=true:=by
     unfold bc gV at hv;rw[Qm,Qs k1,Qs k2]at hv;have h:=hv.2
     by_cases k3:e.bx=3
     ·rw[Qr k3]at h;simp only[BK,Qm]at h;exact h.1.1.2
     ·rw[Qs k3]at h;cases h
    simp only[Qt,k1,k2,Qu,QA,QR,or_false];constructor
    ·rintro(h|h)
     ·rw[h,hp]at hz;cases hz
     ·exact h
    ·exact .inr
def wQ(l:List ah)(b:ah):List ah:=if aP b then l else dQ (λx y=>bB y x) b l
def Ms:∀(xs l:List ah),xs.foldl wQ l=(xs.filter λb=> !aP b).foldl (λl x=>dQ (λx y=>bB y x) x l) l
 |[],l=>rfl
 |x::xs,l=>by
  rw[QU,Ms xs,List.filter_cons];cases hz:aP x<;>simp[wQ,hz]
def Tp(l:List ah)(b:ah):(wQ l b).length<=l.length+1:=by
 unfold wQ;split
 ·omega
 ·exact vU b l
section
variable {l : List ak} (hl : ∀ e ∈ l, cU e.aa) (hlen : l.length <= 1000)
 include hl hlen
theorem Mh:oa l=some (fh l):=by
 have hfold:∀xs:List ah,xs.length<=3->∀s:List ah,(xs.foldl wQ s).length<=s.length+xs.length:=by
  intro xs _
  induction xs with
  |nil=>intro s;simp
  |cons x xs ih=>
   intro s;have:=ih (by simp at*;omega) (wQ s x)
   have:=Tp s x;rw[QU,QE];omega
 have hr3:∀e,(ve e).length<=3:=λe=>by
  unfold ve;split
  ·split<;>simp
  ·simp
 have hF:oa l=some (l.foldl (λs e=>(ve e).foldl wQ s) []):=by
  unfold oa;refine Fe l (by omega) (λs e=>(ve e).foldl wQ s) (λi s=>s.length<=3*i) (fin:=λs=>some s) (λi s x _ hs=> ?_) (λi e s hs hi he hd hx hw=> ?_) (λs hd=> ?_) [] (by simp)
  ·have:=hfold (ve x) (hr3 x) s;have:=hr3 x;show(List.foldl wQ s (ve x)).length<=3*(i+1);omega
  ·simp only[hd,hx,hw,Qk,aS,Qa,etas,jU (hl e he)]
   have inner:∀L:List ah,L.length<=3->aD (λ(v8:(List ah)×Int×Unit)=>
     bif (decide (v8.2.1<((List.length L:Nat):Int)))then Option.bind (idx L v8.2.1) λx9=>Option.bind (wB v8.1 x9) λr10=>some (Sum.inl (r10,(aA .i64 v8.2.1 (1:Int)),()))
     else Option.map Sum.inr (some (Sum.inl (v8.1,((i+1:Nat):Int),()):((List ah)×Int×Unit)⊕(List ah)))) (s,(0:Int),())=some (Sum.inl (L.foldl wQ s,((i+1:Nat):Int),())):=by
    intro L hL;refine Fe L (by omega) wQ (λk t=>t.length<=s.length+k) (fin:=λt=>some (Sum.inl (t,((i+1:Nat):Int),()))) (λk t x _ ht=> ?_) (λk x t ht hk hx' hd' hxx hw'=> ?_) (λt hd'=> ?_) s (by simp)
    ·have:=Tp t x;omega
    ·simp only[hd',hxx,hw',Qk,Qa,afW t (by omega)]
     rfl
    ·simp only[hd',Ql]
   cases hv:bc e with
   |false=>simp[ve,hv]
   |true=>
    by_cases k1:e.bx=1
    ·have i3:=inner [e.ae,e.ao,e.aC] (by simp)
     simp only[Qo,Ql,k1,decide_true,i3,ve,hv,Qt]
    ·have i2:=inner [e.ao,⟨1000000,e.ae.Value⟩] (by simp)
     simp only[Qo,Qp,Ql,Qk,k1,decide_false,i2,ve,hv,Qt,Qu,at_]
  ·simp only[hd,Ql]
 obtain⟨_,h2,_,h4⟩:=pB hl hlen;have hflat:l.foldl (λs e=>(ve e).foldl wQ s) []=(l.flatMap ve).foldl wQ []:=by rw[List.foldl_flatMap]
 rw[hF,hflat,Ms];obtain⟨h5,h6⟩:=Ka ER.flip ((l.flatMap ve).filter λb=> !aP b) [] .nil
 congr 1;refine ER.flip.unique h5 h2 λx=> ?_
 rw[h6,h4];simp only[List.mem_filter,QQ,QR,or_false,Bool.not_eq_true'];constructor
 ·rintro⟨⟨e,he,hx⟩,hz⟩;exact⟨e,he,(Od hz).1 hx,hz⟩
 ·rintro⟨e,he,hx,hz⟩;exact⟨⟨e,he,(Od hz).2 hx⟩,hz⟩
end
section
variable {l : List ak} (hl : ∀ e ∈ l, cU e.aa) (hlen : l.length <= 1000)
 include hl hlen
theorem Zd:tf l=some (gF l):=by
 have hF:tf l=some (l.foldl (λs e=>if bc e then dQ bO e.ae.Value s else s) []):=by
  unfold tf;refine Fe l (by omega) (λs e=>if bc e then dQ bO e.ae.Value s else s) (λi s=>s.length<=i) (fin:=λs=>some s) (λi s x _ hs=> ?_) (λi e s hs hi he hd hx hw=> ?_) (λs hd=> ?_) [] (by simp)
  ·show(if bc x then dQ bO x.ae.Value s else s).length<=i+1
   have:=vU (lt:=bO) x.ae.Value s;split<;>omega
  ·simp only[hd,hx,hw,Qk,aS,Qa,etas,jU (hl e he)]
   cases hv:bc e with
   |false=>simp
   |true=>
    simp only[Qo,Ql,Qt];refine J8 (lt:=bO) s (by omega) e.ae.Value (k:=λt=>some (Sum.inl (t,((i+1:Nat):Int),()))) (λj y hd' hx' hlt hw'=> ?_) (λj y hj hd' hde hx' hlt=> ?_) (λhd' hde=> ?_)
    ·simp only[hd',hx',hw',Qk,Qa,Aq,hlt]
    ·have e1:=tG s j;have e2:=yl s j;simp only[hd',hx',hde,Qk,Ql,Qa,Aq,hlt,e1,e2,DI (show j<=s.length by omega),DJ (show j<=s.length by omega)]
     rw[jg (by omega) (by simp;omega),jg (by omega) (by simp;omega),jg (by omega) (by simp;omega)]
     by_cases hyx:y=e.ae.Value<;>simp[hyx]
    ·have e1:=tG s s.length;have e2:=yl s s.length;simp only[hd',Qk,Ql,e1,e2,DI (QI s.length),DJ (QI s.length)];rw[jg (by omega) (by simp;omega),jg (by omega) (by simp;omega),jg (by omega) (by simp;omega)]
     simp
  ·simp only[hd,Ql]
 obtain⟨_,h2,_,h4⟩:=wG hl hlen
 have hflat:l.foldl (λs e=>if bc e then dQ bO e.ae.Value s else s) []=(l.flatMap λe=>if bc e then[e.ae.Value]else[]).foldl (λl x=>dQ bO x l) []:=by
  rw[List.foldl_flatMap];congr 1
  funext s e
  split<;>rfl
 rw[hF,hflat];obtain⟨h5,h6⟩:=Ka jt (l.flatMap λe=>if bc e then[e.ae.Value]else[]) [] .nil
 congr 1;refine jt.unique h5 h2 λx=> ?_
 rw[h6,h4];simp only[QQ,QR,or_false];constructor
 ·rintro⟨e,he,hx⟩;split at hx
  ·rename_i hv;exact⟨e,he,hv,by simpa using hx⟩
  ·cases hx
 ·rintro⟨e,he,hv,hx⟩;exact⟨e,he,by rw[Qr hv];simpa using hx⟩
theorem zu(v:ByteArray):jB l v=some (bu l v):=by
 have hF:jB l v=some (l.foldl (λs e=>if jX v e then dQ (λa b=>decide (a<b)) e.bq (dQ (λa b=>decide (a<b)) e.aZ s)else s) []):=by
  unfold jB;refine Fe l (by omega) (λs e=>if jX v e then dQ (λa b=>decide (a<b)) e.bq (dQ (λa b=>decide (a<b)) e.aZ s)else s) (λi s=>s.length<=2*i) (fin:=λs=>some s) (λi s x _ hs=> ?_) (λi e s hs hi he hd hx hw=> ?_) (λs hd=> ?_) [] (by simp)
  ·show(if jX v x then dQ (λa b=>decide (a<b)) x.bq (dQ (λa b=>decide (a<b)) x.aZ s)else s).length<=2*(i+1)
   have h1:=vU (lt:=λa b:Int=>decide (a<b)) x.aZ s
   have h2:=vU (lt:=λa b:Int=>decide (a<b)) x.bq (dQ (λa b=>decide (a<b)) x.aZ s)
   split<;>omega
  ·simp only[hd,hx,hw,Qk,aS,Qa,etas,jU (hl e he)]
   have inner:∀(t:List Int) (x:Int) (z:Int),t.length<=3000->aD (λ(v12:Int×Unit)=>
     Option.bind (bif (decide (v12.1<((List.length t:Nat):Int)))then Option.bind (idx t v12.1) λx13=>some (decide (x13<x))else some false) λb14=>
     bif b14 then some (Sum.inl ((aA .i64 v12.1 (1:Int)),()))else
     Option.map Sum.inr (Option.bind (bif (decide (v12.1=((List.length t:Nat):Int)))then some true else Option.bind (idx t v12.1) λx15=>some (!decide (x15=x))) λb16=>
     bif b16 then
     bif cD (0:Int) v12.1 (List.length t)then
     bif bl 8 (List.length ((t.take (Int.toNat v12.1)).drop (Int.toNat (0:Int))))then
     bif bl 8 (List.length ((t.take (Int.toNat v12.1)).drop (Int.toNat (0:Int)))+List.length [x])then
     bif cD v12.1 (t.length:Int) (List.length t)then
     bif bl 8 (List.length (((t.take (Int.toNat v12.1)).drop (Int.toNat (0:Int)))++[x])+List.length ((t.take (Int.toNat (t.length:Int))).drop (Int.toNat v12.1)))then
     some (Sum.inl (((((t.take (Int.toNat v12.1)).drop (Int.toNat (0:Int)))++[x])++((t.take (Int.toNat (t.length:Int))).drop (Int.toNat v12.1))),z,()):((List Int)×Int×Unit)⊕(((List Int)×Int×Unit)⊕(List Int)))
     else none else none else none else none else none
     else some (Sum.inl (t,z,())))) ((0:Int),())=some (Sum.inl (dQ (λa b=>decide (a<b)) x t,z,())):=by
    intro t x z ht;refine J8 (lt:=λa b:Int=>decide (a<b)) t (by omega) x (k:=λt=>some (Sum.inl (t,z,()))) (λj y hd' hx' hlt hw'=> ?_) (λj y hj hd' hde hx' hlt=> ?_) (λhd' hde=> ?_)
    ·simp only[hd',hx',hw',Qk,Qa,hlt]
    ·have e1:=tG t j;have e2:=yl t j;simp only[hd',hx',hde,Qk,Ql,Qa,hlt,e1,e2,DI (show j<=t.length by omega),DJ (show j<=t.length by omega)]
     rw[jg (by omega) (by simp;omega),jg (by omega) (by simp;omega),jg (by omega) (by simp;omega)]
     by_cases hyx:y=x<;>simp[hyx]
    ·have e1:=tG t t.length;have e2:=yl t t.length;simp only[hd',Qk,Ql,Qa,e1,e2,DI (QI t.length),DJ (QI t.length)];rw[jg (by omega) (by simp;omega),jg (by omega) (by simp;omega),jg (by omega) (by simp;omega)]
     simp
   have hw1:aA .i64 (0:Int) 1=1:=rfl;have hw2:aA .i64 (1:Int) 1=2:=rfl;have hd0:decide ((0:Int)<2)=true:=rfl;have hd1:decide ((1:Int)<2)=true:=rfl;have hd2:decide ((2:Int)<2)=false:=rfl;have hx0:idx [e.aZ,e.bq] 0=some e.aZ:=rfl;have hx1:idx [e.aZ,e.bq] 1=some e.bq:=rfl;have hl1:=vU (lt:=λa b:Int=>decide (a<b)) e.aZ s
   unfold jX
   cases hv:bc e with
   |false=>simp
   |true=>
    by_cases hvv:e.ae.Value=v
    ·by_cases hlo:e.aZ=0
     ·simp[hvv,hlo]
     ·simp only[Qo,Ql,hvv,decide_true,hlo,decide_false,Bool.and_self,Qp,Qa,Qt];refine(bw (s':=(dQ (λa b=>decide (a<b)) e.aZ s,(1:Int),())) ?_).trans ((bw (s':=(dQ (λa b=>decide (a<b)) e.bq (dQ (λa b=>decide (a<b)) e.aZ s),(2:Int),())) ?_).trans (bM ?_))
      ·simp only[hd0,hx0,hw1,Qk,Qa];exact inner s e.aZ 1 (by omega)
      ·simp only[hd1,hx1,hw2,Qk,Qa];exact inner _ e.bq 2 (by omega)
      ·simp only[hd2,Ql,Qe]
    ·simp[hvv]
  ·simp only[hd,Ql]
 obtain⟨_,h2,_,h4⟩:=jz hl hlen v
 have hflat:l.foldl (λs e=>if jX v e then dQ (λa b=>decide (a<b)) e.bq (dQ (λa b=>decide (a<b)) e.aZ s)else s) []=(ends v l).foldl (λl x=>dQ (λa b=>decide (a<b)) x l) []:=by
  rw[ends,List.foldl_flatMap];congr 1
  funext s e
  split<;>rfl
 rw[hF,hflat];obtain⟨h5,h6⟩:=Ka KO (ends v l) [] .nil;congr 1;refine KO.unique h5 (h2.imp λh=>Qg h) λx=> ?_
 rw[h6,h4];simp
end
end
section
def kinds{e:ak}(hv:bc e=true):e.bx=1\/e.bx=2\/e.bx=3:=by
 unfold bc gV at hv;rw[Qm]at hv;have h:=hv.2
 by_cases k1:e.bx=1
 ·exact .inl k1
 ·by_cases k2:e.bx=2
  ·exact .inr (.inl k2)
  ·by_cases k3:e.bx=3
   ·exact .inr (.inr k3)
   ·rw[Qs k1,Qs k2,Qs k3]at h;cases h
def Zb{e:ak}(h:cU e.aa)(b:ah):pk e b=some (bc e&&sL e b):=by
 simp only[pk,etas,jU h,Qa,c6,gJ,CW]
 cases hv:bc e with
 |false=>simp
 |true=>
  cases hz:aP b with
  |true=>simp[sL,hz]
  |false=>by_cases k1:e.bx=1<;>simp[sL,hz,k1]
def U6{e:ak}(h:cU e.aa)(v:ByteArray)(lo hi:Int):ob e v lo hi=some (bc e&&iJ e v lo hi):=by
 simp only[ob,etas,jU h,Qa,ib,iJ,Lc]
 cases hv:bc e with
 |false=>simp
 |true=>
  have hk:=kinds hv
  by_cases a1:lo<1<;>by_cases a2:hi<lo<;>by_cases a3:e.ae.Value=v<;>by_cases a4:lo<e.aZ<;>by_cases k1:e.bx=1<;>by_cases k3:e.bx=3<;>simp_all<;>grind
def Zc{e:ak}(h:cU e.aa)(v:ByteArray)(lo hi:Int):qz e v lo hi=some (bc e&&vB e v lo hi):=by
 simp only[qz,etas,jU h,Qa,ib,vB,Lc]
 cases hv:bc e with
 |false=>simp
 |true=>
  have hl:=afP hv
  by_cases a1:lo<1<;>by_cases a2:hi<lo<;>by_cases a3:e.ae.Value=v<;>by_cases a4:lo<e.aZ<;>by_cases k1:e.bx=1<;>by_cases a5:e.aZ=0<;>simp_all<;>grind
def xy(p:ak->Bool):∀l:List ak,fc (λe=>bc e&&p e) l=fc p (cZ l)
 |[]=>rfl
 |e::l=>by
  have ih:=xy p l;rw[fc,ih];cases hv:bc e<;>simp[cZ,hv,fc]
def Bt(l:List ak)(hlen:l.length<=1000)(p:ak->Bool)(hp:∀e∈l,p e=true->0<=e.al/\e.al<10):gu l (l.map p)=some ((fc p l:Nat):Int):=by
 unfold gu
 suffices key:∀(k i s:Nat),i+k=l.length->s<1024->aD _ ((s:Int),(i:Int),())=some ((s|||fc p (l.drop i):Nat):Int)by
  have:=key l.length 0 0 (by omega) (by omega)
  rw[Nat.zero_or,List.drop_zero]at this;exact this
 intro k
 induction k with
 |zero=>
  intro i s hi hs;obtain rfl:i=l.length:=by omega
  have hd:decide ((l.length:Int)<(l.length:Int))=false:=Qh (Qq64 _);rw[bM (r:=(s:Int)) (by simp only[hd,Ql,Qe]),Qq66,fc]
  simp
 |succ k ih=>
  intro i s hi hs;have hlt:i<l.length:=by omega
  have hd:decide ((i:Int)<(l.length:Int))=true:=Qg (by omega)
  have hd2:decide ((i:Int)<(((l.map p).length:Nat):Int))=true:=Qg (by rw[QC];omega)
  have hw:aA .i64 (i:Int) 1=((i+1:Nat):Int):=bH (by omega) (by omega)
  have hx:idx l (i:Int)=some l[i]:=by rw[bf];exact Qv hlt
  have hx2:idx (l.map p) (i:Int)=some (p l[i]):=by rw[bf,QT,Qv hlt];rfl
  rw[QM hlt,fc]
  cases hpe:p l[i]with
  |false=>
   rw[bw (s':=((s:Int),((i+1:Nat):Int),())) (by simp only[hd,hd2,hx,hx2,hw,hpe,Qk,Ql,aS,Qa]),ih (i+1) s (by omega) hs]
   simp
  |true=>
   obtain⟨h0,h1⟩:=hp _ (Q0 hlt) hpe
   have hc:br .u64 l[i].al=l[i].al:=by
    obtain⟨n,hn⟩:∃n:Nat,l[i].al=n:=⟨l[i].al.toNat,by omega⟩
    rw[hn];exact aeL (by omega)
   have hn0:¬l[i].al<0:=by omega
   have d1:decide ((0:Int)<=l[i].al)=true:=Qg h0;have d2:decide (l[i].al<=(9:Int))=true:=Qg (by omega)
   rw[bw (s':=(((s|||2 ^ l[i].al.toNat:Nat):Int),((i+1:Nat):Int),())) (by
    simp only[hd,hd2,hx,hx2,hw,hpe,Qk,aS,Qa,d1,d2,hc,hn0,Qu]
    rw[qL hs h0 h1]),ih (i+1) _ (by omega) (Bz hs h1)]
   simp[Nat.or_assoc]
def UK{ρ:Type}(l:List ak)(hl:l.length<=1000)(p q:ak->Bool){step:Int×List Bool×List Bool×Unit->Option ((Int×List Bool×List Bool×Unit)⊕ρ)}{fin:List Bool->List Bool->Option ρ}
  (h1:∀(i:Nat) (e:ak) (vs as_:List Bool),e∈l->decide ((i:Int)<(l.length:Int))=true->idx l (i:Int)=some e->aA .i64 (i:Int) 1=((i+1:Nat):Int)->(∀x:Bool,bl 1 (vs.length+[x].length)=true)->(∀x:Bool,bl 1 (as_.length+[x].length)=true)->step ((i:Int),vs,as_,())=some (.inl (((i+1:Nat):Int),vs++[p e],as_++[q e],())))
  (h2:∀vs as_,decide ((l.length:Int)<(l.length:Int))=false->step ((l.length:Int),vs,as_,())=Option.map Sum.inr (fin vs as_)):aD step ((0:Int),[],[],())=fin (l.map p) (l.map q):=by
 suffices key:∀(k i:Nat),i+k=l.length->aD step ((i:Int),(l.take i).map p,(l.take i).map q,())=fin (l.map p) (l.map q)from key l.length 0 (by omega)
 intro k
 induction k with
 |zero=>
  intro i hi;obtain rfl:i=l.length:=by omega
  rw[ff,h2 _ _ (Qh (Qq64 _)),Qq62];cases fin (l.map p) (l.map q)<;>rfl
 |succ k ih=>
  intro i hi;have hlt:i<l.length:=by omega
  rw[bw (h1 i l[i] _ _ (Q0 hlt) (Qg (by omega)) (by rw[bf];exact Qv hlt) (bH (by omega) (by omega)) (λx=>jg (by omega) (by simp;omega)) (λx=>jg (by omega) (by simp;omega))),<-ih (i+1) (by omega),Q7 hlt,List.map_append,List.map_append]
  rfl
def G2{p:ak->Bool}{l:List ak}:∀e∈l,(bc e&&p e)=true->0<=e.al/\e.al<10:=λe _ h=>by
 rw[Qm]at h;exact kq h.1
section
variable {l : List ak} (hl : ∀ e ∈ l, cU e.aa) (hlen : l.length <= 1000)
 include hl hlen
theorem SM(b:ah):wA l b=some (((fc (λe=>sL e b||eo e b) (cZ l):Nat):Int),((fc (eo · b) (cZ l):Nat):Int),()):=by
 unfold wA;refine(UK l hlen (λe=>bc e&&(sL e b||eo e b)) (λe=>bc e&&eo e b) (fin:=λvs as_=>Option.bind (gu l vs) λr6=>Option.bind (gu l as_) λr7=>some (r6,r7,())) (λi e vs as_ he hd hx hw o1 o2=> ?_) (λvs as_ hd=> ?_)).trans ?_
 ·simp only[hd,hx,hw,Qk,Qa,etas,U5 (hl e he),Zb (hl e he),ib,o1,o2];cases bc e<;>cases sL e b<;>cases eo e b<;>rfl
 ·simp only[hd,Ql]
 ·rw[Bt l hlen _ G2,Bt l hlen _ G2,Qa,Qa,xy,xy]
theorem SL(v:ByteArray)(lo hi:Int):wx l v lo hi=some (((fc (λe=>vB e v lo hi||iJ e v lo hi) (cZ l):Nat):Int),((fc (iJ · v lo hi) (cZ l):Nat):Int),()):=by
 unfold wx;refine(UK l hlen (λe=>bc e&&(vB e v lo hi||iJ e v lo hi)) (λe=>bc e&&iJ e v lo hi) (fin:=λvs as_=>Option.bind (gu l vs) λr6=>Option.bind (gu l as_) λr7=>some (r6,r7,())) (λi e vs as_ he hd hx hw o1 o2=> ?_) (λvs as_ hd=> ?_)).trans ?_
 ·simp only[hd,hx,hw,Qk,Qa,etas,U6 (hl e he),Zc (hl e he),ib,o1,o2];cases bc e<;>cases vB e v lo hi<;>cases iJ e v lo hi<;>rfl
 ·simp only[hd,Ql]
 ·rw[Bt l hlen _ G2,Bt l hlen _ G2,Qa,Qa,xy,xy]
end
def wJ{c:bd}(hc:AO c){v a b:Nat}(hv:v<10)(h1:a<1024)(h2:b<1024):og c v a b=some (rC c.bn v a b):=by
 unfold og rC;have h3:a|||b<1024:=Nat.or_lt_two_pow (n:=10) h1 h2
 rw[xE h1,xE h2,On hc h2,Gl a b (by omega) (by omega),DO hc h3]
 simp[tY (HV hc h3).lt,yE,hv]
def vf{c:bd}(hc:AO c){v b:Nat}(hv:v<10)(h2:b<1024):ik c v b=some ((gq c.bn b).testBit v):=by
 unfold ik;rw[DO hc h2];simp[tY (HV hc h2).lt,yE,hv]
end
section
def N5{c:bd}{aG:Int}{l:List ak}(hlen:l.length<=100000)(b:ah):il ⟨aG,c,(cZ l).map bK.mk⟩ b=iN c aG ((fc (λe=>sL e b||eo e b) (cZ l):Nat):Int) ((fc (eo · b) (cZ l):Nat):Int):=by
 have hrl:=C4 l;have hin:=nr l;simp only[il,oT,kY,Qa,Option.bind_fun_some,aam (by omega:(cZ l).length<=1000000) hin,ME (by omega:(cZ l).length<=1000000) hin]
def MR{c:bd}{aG:Int}{l:List ak}(hlen:l.length<=100000)(b:ah):fA ⟨aG,c,(cZ l).map bK.mk⟩ b=fp c aG ((fc (eo · b) (cZ l):Nat):Int):=by
 have hrl:=C4 l;have hin:=nr l;simp only[fA,Qa,Option.bind_fun_some,ME (by omega:(cZ l).length<=1000000) hin]
def aaL(b:ah):mO b=some (qP b):=by
 unfold mO qP;simp only[aS,DC,Bj]
def C9(x:ah->Bool)(p q:ah)(v:ByteArray)(b:ah):Bool:=(decide (v=gw)||decide (b.Value=v))&& !dY (qP p) (qP q) b&&x b
def Dg(y:ah->Bool)(a b:ah):Bool:=bB a b&&decide (b.ai<=1000)&&y b
section
variable {aG : Int} {t : aj} {l : List ak} (hl : s5 l) (hlen : l.length <= 1000) {c : bd} {x y : ah -> Bool}
 include hl hlen
theorem afK(hL:fV aG t l=some ⟨aG,c,(cZ l).map bK.mk⟩)(hx:∀b,il ⟨aG,c,(cZ l).map bK.mk⟩ b=some (x b))(p q:ah)(v:ByteArray):pM aG t l p q v=some (((fh l).find? (C9 x p q v)).getD Ix):=by
 obtain⟨h1,_,h3,_⟩:=pB hl.aN hlen;unfold pM;simp only[etas,hL,h1,Qa];refine Dh (fh l) (by omega) (λi=>(i,ah.mk (0:Int) bE,())) (C9 x p q v) Ix (λi b hd hx' hw=> ?_) (λhd=> ?_)
 ·simp only[hd,hx',hw,Qk,aS,Qa,ZW,tB,hx];unfold C9 gw;cases decide (v=bE)<;>cases decide (b.Value=v)<;>cases dY (qP p) (qP q) b<;>cases x b<;>simp
 ·simp only[hd,Ql,Qe];rfl
theorem acz(hx:∀b,rN aG t l b=some (x b))(p q:ah)(v:ByteArray):te aG t l p q v=some (((fh l).find? (C9 x p q v)).getD Ix):=by
 obtain⟨h1,_,h3,_⟩:=pB hl.aN hlen;unfold te;simp only[etas,Mh hl.aN hlen,Qa];refine Dh (fh l) (by omega) (λi=>(i,ah.mk (0:Int) bE,())) (C9 x p q v) Ix (λi b hd hx' hw=> ?_) (λhd=> ?_)
 ·simp only[hd,hx',hw,Qk,aS,Qa,aaL,uY,hx];unfold C9 gw;cases decide (v=bE)<;>cases decide (b.Value=v)<;>cases dY (qP p) (qP q) b<;>cases x b<;>simp
 ·simp only[hd,Ql,Qe];rfl
theorem afZ(hL:fV aG t l=some ⟨aG,c,(cZ l).map bK.mk⟩)(hy:∀b,fA ⟨aG,c,(cZ l).map bK.mk⟩ b=some (y b))(a:ah):me aG t l a=some (((fh l).find? (Dg y a)).getD Ix):=by
 obtain⟨h1,_,h3,_⟩:=pB hl.aN hlen;unfold me;simp only[etas,hL,h1,Qa];refine Dh (fh l) (by omega) (λi=>(i,ah.mk (0:Int) bE,())) (Dg y a) Ix (λi b hd hx' hw=> ?_) (λhd=> ?_)
 ·simp only[hd,hx',hw,Qk,aS,Qa,jR,oT,hy];unfold Dg;cases bB a b<;>cases decide (b.ai<=1000)<;>cases y b<;>simp
 ·simp only[hd,Ql,Qe];rfl
theorem acA(hy:∀b,qj aG t l b=some (y b))(a:ah):n9 aG t l a=some (((fh l).find? (Dg y a)).getD Ix):=by
 obtain⟨h1,_,h3,_⟩:=pB hl.aN hlen;unfold n9;simp only[etas,Mh hl.aN hlen,Qa];refine Dh (fh l) (by omega) (λi=>(i,ah.mk (0:Int) bE,())) (Dg y a) Ix (λi b hd hx' hw=> ?_) (λhd=> ?_)
 ·simp only[hd,hx',hw,Qk,Qa,kg,hy];unfold Dg;cases bB a b<;>cases decide (b.ai<=1000)<;>cases y b<;>simp
 ·simp only[hd,Ql,Qe];rfl
end
end
section
def jd{A ρ:Type}(g:A->Int->A⊕ρ)(fin:A->Option ρ):List Int->A->Option ρ
 |[],a=>fin a
 |x::l,a=>match g a x with
  | .inl a'=>jd g fin l a'
  | .inr r=>some r
def zz{A σ ρ:Type}(b:List Int)(hb:b.length<=1000000)(st:A->Int->σ)(g:A->Int->A⊕ρ)(fin:A->Option ρ){step:σ->Option (σ⊕ρ)}
  (h1:∀(i:Nat) (x:Int) (a:A),idx b (i:Int)=some x->decide ((0:Int)<=(i:Int))=true->cQ .i64 (i:Int) 1=(i:Int) - 1->step (st a (i:Int))=some (match g a x with| .inl a'=> .inl (st a' ((i:Int) - 1))| .inr r=> .inr r))
  (h2:∀a,decide ((0:Int)<=(-1:Int))=false->step (st a (-1))=Option.map Sum.inr (fin a)):∀n:Nat,n<=b.length->∀a:A,aD step (st a ((n:Int) - 1))=jd g fin (b.take n).reverse a
 |0,_,a=>by
  rw[show((0:Nat):Int) - 1= -1 by omega,ff,h2 a rfl,List.take_zero,List.reverse_nil,jd]
  cases fin a<;>rfl
 |n+1,hn,a=>by
  have hlt:n<b.length:=by omega
  have hs:=h1 n b[n] a (by rw[bf];exact Qv hlt) (Qg (by omega)) (nT (by omega) (by omega))
  rw[show((n+1:Nat):Int) - 1=(n:Int)by omega,Q7 hlt,List.reverse_append,List.reverse_singleton,List.singleton_append,jd]
  cases hg:g a b[n]with
  |inl a'=>rw[hg]at hs;rw[bw hs,zz b hb st g fin h1 h2 n (by omega) a']
  |inr r=>rw[hg]at hs;rw[bM hs]
def KN(b:List Int)(hb:b.length<=1000000):cQ .i64 (b.length:Int) 1=(b.length:Int) - 1:=nT (by omega) (by omega)
def EX{ρ:Type}(q:Int->Bool)(f:Int->ρ):∀(l:List Int) (lo:Int),jd (λlo x=>if lo<=x then .inl lo else if q x then .inl x else .inr (f lo)) (λlo=>some (f lo)) l lo=some (f (df q l lo))
 |[],lo=>rfl
 |x::l,lo=>by
  rw[jd,df]
  by_cases h1:lo<=x
  ·rw[Qr h1,Qr h1];exact EX q f l lo
  ·rw[Qs h1,Qs h1]
   cases hq:q x with
   |true=>rw[Qr rfl,Qr rfl];exact EX q f l x
   |false=>rw[Qs (by simp),Qs (by simp)]
def SR{A ρ:Type}(s:A)(c p:Int->Bool)(f:Int->ρ)(d:ρ)(g:A->Int->A⊕ρ)(fin:A->Option ρ)(hg:∀z,g s z=if c z then(if p z then .inr (f z)else .inl s)else .inr d)(hfin:fin s=some d)(hc:∀a b,b<a->c b=true->c a=true):
  ∀r:List Int,r.Pairwise (λa b=>b<a)->jd g fin r s=some (match r.find? (λn=>c n&&p n)with|some n=>f n|none=>d)
 |[],_=>hfin
 |z::r,h=>by
  rw[jd,hg,List.find?_cons];rw[Q4]at h
  cases hz:c z with
  |false=>
   have:r.find? (λn=>c n&&p n)=none:=by
    rw[List.find?_eq_none];intro n hn hcn;rw[Qm]at hcn;rw[hc z n (h.1 n hn) hcn.1]at hz;cases hz
   simp[this]
  |true=>
   cases hp:p z with
   |true=>simp
   |false=>
    simp only[Qt,Bool.true_and];exact SR s c p f d g fin hg hfin hc r h.2
def Ob{ρ:Type}(q:Int->Bool)(f:Int->ρ):∀(r:List Int) (lo:Int),(∀z∈r,z<lo)->r.Pairwise (λa b=>b<a)->jd (λlo z=>if q z then .inl z else .inr (f lo)) (λlo=>some (f lo)) r lo=some (f (df q r lo))
 |[],lo,_,_=>rfl
 |z::r,lo,h,hs=>by
  rw[Q4]at hs;have hz:=h z (by simp)
  have h0:¬lo<=z:=by omega
  rw[jd,df,Qs h0]
  cases hq:q z with
  |true=>rw[Qr rfl,Qr rfl];exact Ob q f r z hs.1 hs.2
  |false=>rw[Qs (by simp),Qs (by simp)]
def PF{α B ρ:Type}(l:List α)(hl:l.length<=1000000)(f:B->α->B){step:Int×B×Unit->Option ((Int×B×Unit)⊕ρ)}{fin:B->Option ρ}
  (h1:∀(i:Nat) (x:α) (b:B),x∈l->decide ((i:Int)<(l.length:Int))=true->idx l (i:Int)=some x->aA .i64 (i:Int) 1=((i+1:Nat):Int)->step ((i:Int),b,())=some (.inl (((i+1:Nat):Int),f b x,())))
  (h2:∀b,decide ((l.length:Int)<(l.length:Int))=false->step ((l.length:Int),b,())=Option.map Sum.inr (fin b)) (b:B):aD step ((0:Int),b,())=fin (l.foldl f b):=by
 suffices key:∀(k i:Nat) (b:B),i+k=l.length->aD step ((i:Int),b,())=fin ((l.drop i).foldl f b)from key l.length 0 b (by omega)
 intro k
 induction k with
 |zero=>
  intro i b hi;obtain rfl:i=l.length:=by omega
  rw[ff,h2 b (Qh (Qq64 _)),Qq66,List.foldl_nil];cases fin b<;>rfl
 |succ k ih=>
  intro i b hi;have hlt:i<l.length:=by omega
  rw[bw (h1 i l[i] b (Q0 hlt) (Qg (by omega)) (by rw[bf];exact Qv hlt) (bH (by omega) (by omega))),ih (i+1) _ (by omega),QM hlt,QU]
def My(q:Int->Bool):∀(l r:List Int) (lo:Int),(∀x∈l,lo<=x)->df q (l++r) lo=df q r lo
 |[],r,lo,_=>rfl
 |x::l,r,lo,h=>by
  rw[List.cons_append,df,Qr (h x (by simp))]
  exact My q l r lo λy hy=>h y (by simp[hy])
def H2(q:Int->Bool):∀(r:List Int) (lo:Int),(∀x∈r,0<=x/\x<=1000000)->0<=lo/\lo<=1000000->0<=df q r lo/\df q r lo<=1000000
 |[],lo,_,h=>h
 |x::r,lo,hx,h=>by
  rw[df];split
  ·exact H2 q r lo (λy hy=>hx y (by simp[hy])) h
  ·split
   ·exact H2 q r x (λy hy=>hx y (by simp[hy])) (hx x (by simp))
   ·exact h
 def fX(x:ByteArray->Int->Int->Bool)(p q:ah)(v:ByteArray)(s:Bool×ah)(n:Int):Bool×ah:=
 if bB s.2 ⟨n,v⟩&& !oP p q v n&&x v n n then(true,⟨n,v⟩)else s
 def ic(x:ByteArray->Int->Int->Bool)(l:List ak)(p q:ah):Bool×ah:=
 (gF l).foldl (λs v=>(bu l v).foldl (fX x p q v) s) (false,⟨0,gw⟩)
 def rB(x:ByteArray->Int->Int->Bool)(l:List ak)(p q:ah)(s:Bool×ah):ByteArray×Int×Int×Bool×Unit:=
 if s.1 then(s.2.Value,df (λn=> !oP p q s.2.Value n&&x s.2.Value n s.2.ai) (bu l s.2.Value).reverse s.2.ai,s.2.ai,true,())else(gw,0,0,false,())
section
variable {S : gO} {x y : ByteArray -> Int -> Int -> Bool} (hx : ∀ v lo hi, iD S v lo hi = some (x v lo hi)) (hy : ∀ v lo hi, oE S v lo hi = some (y v lo hi))
section
 include hx
theorem adv(b:List Int)(lo:Int)(p q z:ah):kh b lo p q z S=some (df (λn=> !oP p q z.Value n&&x z.Value n z.ai) b.reverse lo):=by
 have:=DB (p:=λe=>oq e p q z S) (q:=λn=> !oP p q z.Value n&&x z.Value n z.ai) (λe=>by
  simp only[oq,Rg,hx,Qa,ib]
  cases oP p q z.Value e<;>simp) b.reverse lo
 simp only[kh,cq,aS,Qa];exact this
theorem adu(b:List Int)(lo:Int)(v:ByteArray)(hi:Int):kH b lo S v hi=some (df (λz=>x v z hi) b.reverse lo):=by
 have:=DB (p:=λe=>sK e S v hi) (q:=λz=>x v z hi) (λe=>by simp only[sK,hx,Qa]) b.reverse lo
 simp only[kH,cq,aS,Qa];exact this
theorem Wh(b:List Int)(lo:Int)(v:ByteArray)(hi:Int):iE b lo S v hi=some (df (λz=>x v z hi) b.reverse lo):=by
 have:=DB (p:=λe=>sJ e S v hi) (q:=λz=>x v z hi) (λe=>by simp only[sJ,hx,Qa]) b.reverse lo
 simp only[iE,cq,aS,Qa];exact this
theorem TA(b:List Int)(v:ByteArray)(low cm:Int)(hb:∀x∈b,0<=x/\x<=1000000):∀r:List Int,(∀x∈r,x∈b)->nY (DA S b v) (abG S b v) r (low,cm,())=
  some (match r.find? (λn=>decide (cm<n)&&x v n n)with
   |none=>(df (λz=>x v z cm) b.reverse low,cm,())
   |some n=>(df (λz=>x v z n) b.reverse (if cm<df (λz=>x v z n) b.reverse n - 1\/df (λz=>x v z n) b.reverse n<low then df (λz=>x v z n) b.reverse n else low),n,()))
 |[],_=>by simp only[nY,abG,Wh hx,Qa,List.find?_nil]
 |e::r,hr=>by
  have ih:=TA b v low cm hb r (λx hx=>hr x (by simp[hx]))
  rw[List.find?_cons,nY]
  by_cases hle:e<=cm
  ·have h2:decide (cm<e)=false:=Qh (by omega)
   have h1:decide (e<=cm)=true:=Qg hle;have hst:DA S b v r.length e (low,cm,())=some (.inl (low,cm,())):=by simp only[DA,h1,Qk,Qa]
   rw[hst,h2,Bool.false_and];exact ih
  ·have h2:decide (cm<e)=true:=Qg (by omega)
   have h1:decide (e<=cm)=false:=Qh hle;rw[h2,Bool.true_and]
   cases hr':x v e e with
   |false=>
    have hst:DA S b v r.length e (low,cm,())=some (.inl (low,cm,())):=by simp only[DA,h1,Ql,hx,hr',Qp,Qa,Qk]
    rw[hst];exact ih
   |true=>
    have hb9:=H2 (λz=>x v z e) b.reverse e (λz hz=>hb z (by simpa using hz)) (hb e (hr e (by simp)))
    simp only[DA,h1,Ql,hx,hr',Qo,adu hx,Wh hx,Qa,aS,ib,Bool.cond_true_left,Qe];generalize df (λz=>x v z e) b.reverse e=bt at*
    have e3:cQ .i64 bt 1=bt - 1:=nT (by omega) (by omega)
    rw[e3]
    by_cases hc:cm<bt - 1\/bt<low
    ·have:(decide (cm<bt - 1)||decide (bt<low))=true:=by rw[Qn];simpa using hc
     rw[this,Qr hc];rfl
    ·have:(decide (cm<bt - 1)||decide (bt<low))=false:=by
      rw[<-QX,Qn];simpa using hc
     rw[this,Qs hc];rfl
end
section
 include hy
theorem agm(b:List Int)(lo:Int)(v:ByteArray)(hi:Int):kG b lo S v hi=some (df (λz=>y v z hi) b.reverse lo):=by
 have:=DB (p:=λe=>ur e S v hi) (q:=λz=>y v z hi) (λe=>by simp only[ur,hy,Qa]) b.reverse lo
 simp only[kG,cq,aS,Qa];exact this
end
variable {aG : Int} {t : aj} {l : List ak} (hl : s5 l) (hlen : l.length <= 1000) (hL : fV aG t l = some S)
 include hl hlen hL
section
 include hx
theorem aiv(p q:ah):tw aG t l p q=some (rB x l p q (ic x l p q)):=by
 obtain⟨h1,_,h3,_⟩:=wG hl.aN hlen;unfold tw;simp only[etas,hL,h1,Qa];refine(PG (gF l) (by omega) (λs v=>(bu l v).foldl (fX x p q v) s) (fin:=λs=>some (rB x l p q s)) (λi v a b hv hd hx' hw=> ?_) (λa b hd=> ?_) false ⟨0,bE⟩)
 ·obtain⟨g1,_,g3,_⟩:=jz hl.aN hlen v;simp only[hd,hx',hw,Qk,Qa,g1];refine(PG (bu l v) (by omega) (fX x p q v) (fin:=λs=>some (Sum.inl (s.1,((i+1:Nat):Int),s.2,()))) (λi' n a' b' hv' hd' hx'' hw'=> ?_) (λa' b' hd'=> ?_) a b)
  ·simp only[hd',hx'',hw',Qk,aS,Qa,jR,Rg,hx,ib];unfold fX;cases bB b' ⟨n,v⟩<;>cases oP p q v n<;>cases x v n n<;>simp
  ·simp only[hd',Ql]
 ·simp only[hd,Ql];obtain⟨g1,_,g3,_⟩:=jz hl.aN hlen b.Value;unfold rB;cases a
  ·rfl
  ·simp only[Qo,Ql,g1,Qa,adv hx,Qt]
theorem agV(v:ByteArray)(low cm:Int):rX aG t l v low cm=some ((FW (bu l v) (x v) low cm).1,(FW (bu l v) (x v) low cm).2,()):=by
 obtain⟨h1,_,_,_⟩:=jz hl.aN hlen v;have hin:=Fm hl hlen v;unfold rX;simp only[etas,hL,h1,Qa,cq];refine(TA hx (bu l v) v low cm (λx hx=>by have:=hin x hx;omega) (bu l v).reverse (by simp)).trans ?_
 unfold FW;cases (bu l v).reverse.find? (λn=>decide (cm<n)&&x v n n)<;>rfl
end
section
 include hy
theorem aiw(v:ByteArray):tx aG t l v=some (Ei (bu l v) (y v)):=by
 obtain⟨h1,_,_,_⟩:=jz hl.aN hlen v
 have:=Yw (p:=λe=>oE S v e e) (q:=λe=>y v e e) (d:=λe=>kG (bu l v) e S v e) (f:=λe=>df (λz=>y v z e) (bu l v).reverse e)
  (λe=>hy v e e) (λe=>agm hy (bu l v) e v e) (bu l v).reverse
 simp only[tx,etas,hL,h1,cq,Qa,Ei];exact this
end
end
 def ES(x:ByteArray->Int->Int->Bool)(p q:ah)(v:ByteArray)(s:ah)(n:Int):ah:=if bB s ⟨n,v⟩&& !oP p q v n&&x v n n then⟨n,v⟩else s
def WG{x:ByteArray->Int->Int->Bool}{p q:ah}(v:ByteArray):∀(b:List Int),(∀n∈b,1<=n)->∀s:Bool×ah,s.1= !aP s.2->
  (b.foldl (fX x p q v) s).2=b.foldl (ES x p q v) s.2/\(b.foldl (fX x p q v) s).1= !aP (b.foldl (fX x p q v) s).2
 |[],_,s,h=>⟨rfl,h⟩
 |n::b,hb,s,h=>by
  rw[QU,QU];have hn:=hb n (by simp)
  have h1:(fX x p q v s n).2=ES x p q v s.2 n:=by unfold fX ES;split<;>rfl
  have h2:(fX x p q v s n).1= !aP (fX x p q v s n).2:=by
   unfold fX;split
   ·have:decide (n=0)=false:=Qh (by omega)
    simp[aP,this]
   ·exact h
  rw[<-h1];exact WG v b (λn hn=>hb n (by simp[hn])) _ h2
def WH{x:ByteArray->Int->Int->Bool}{p q:ah}{l:List ak}(hl:s5 l)(hlen:l.length<=1000):∀(vs:List ByteArray) (s:Bool×ah),s.1= !aP s.2->
  (vs.foldl (λs v=>(bu l v).foldl (fX x p q v) s) s).2=vs.foldl (λs v=>(bu l v).foldl (ES x p q v) s) s.2/\(vs.foldl (λs v=>(bu l v).foldl (fX x p q v) s) s).1= !aP (vs.foldl (λs v=>(bu l v).foldl (fX x p q v) s) s).2
 |[],s,h=>⟨rfl,h⟩
 |v::vs,s,h=>by
  rw[QU,QU];obtain⟨h1,h2⟩:=WG (x:=x) (p:=p) (q:=q) v (bu l v) (λn hn=>(Fm hl hlen v n hn).1) s h
  rw[<-h1];exact WH hl hlen vs _ h2
section
variable {aG : Int} {t : aj} {l : List ak} (hl : s5 l) (hlen : l.length <= 1000) {x y : ByteArray -> Int -> Int -> Bool} (hx : ∀ v lo hi, ke aG t l v lo hi = some (x v lo hi)) (hy : ∀ v lo hi, mN aG t l v lo hi = some (y v lo hi))
 include hl hlen
section
 include hx
theorem acG(v:ByteArray)(lo hi:Int):wz aG t l v lo hi=some (df (λz=>x v z hi) (bu l v).reverse lo):=by
 obtain⟨_,_,h3,_⟩:=jz hl.aN hlen v;unfold wz;simp only[etas,zu hl.aN hlen,Qa,KN _ (by omega:(bu l v).length<=1000000),aS]
 refine(zz (bu l v) (by omega) (λlo i=>(lo,i,())) (λlo z=>if lo<=z then .inl lo else if x v z hi then .inl z else .inr lo) (λlo=>some lo) (λi z a hi' hd hs=> ?_) (λa hd=> ?_) (bu l v).length (QI _) lo).trans ?_
 ·simp only[hi',hd,hs,Qk,Qa,hx]
  by_cases h1:a<=z
  ·simp[h1]
  ·cases x v z hi<;>simp[h1]
 ·simp only[hd,Ql]
 ·rw[Qq62];exact EX (λz=>x v z hi) (λlo=>lo) _ _
theorem acP(v:ByteArray)(low cm:Int):pJ aG t l v low cm=some ((FW (bu l v) (x v) low cm).1,(FW (bu l v) (x v) low cm).2,()):=by
 obtain⟨_,h2,h3,_⟩:=jz hl.aN hlen v;have hin:=Fm hl hlen v;unfold pJ;simp only[etas,zu hl.aN hlen,acG hl hlen hx,Qa,KN _ (by omega:(bu l v).length<=1000000),aS]
 refine(zz (bu l v) (by omega) (λ(s:Int×Int) i=>(s.1,s.2,i,()))
  (λs z=>if s.2<z then(if x v z z then .inr (df (λw=>x v w z) (bu l v).reverse (if s.2<df (λw=>x v w z) (bu l v).reverse z - 1\/df (λw=>x v w z) (bu l v).reverse z<s.1 then df (λw=>x v w z) (bu l v).reverse z else s.1),z,())else .inl s)
   else .inr (df (λw=>x v w s.2) (bu l v).reverse s.1,s.2,()))
  (λs=>some (df (λw=>x v w s.2) (bu l v).reverse s.1,s.2,())) (λi z s hi' hd hs=> ?_) (λs hd=> ?_) (bu l v).length (QI _) (low,cm)).trans ?_
 ·have hz:z∈bu l v:=by rw[bf]at hi';exact Q8 hi'
  have hb9:=H2 (λw=>x v w z) (bu l v).reverse z (λw hw=>by have:=hin w (by simpa using hw);omega) (by have:=hin z hz;omega)
  simp only[hi',hd,hs,Qk,Qa,hx]
  by_cases h1:s.2<z
  ·simp only[h1,decide_true,Qk,Qt]
   cases hxz:x v z z with
   |false=>simp
   |true=>
    generalize df (λw=>x v w z) (bu l v).reverse z=bt at*
    have e3:cQ .i64 bt 1=bt - 1:=nT (by omega) (by omega)
    simp only[Qo,Ql,e3,Qt]
    by_cases h4:s.2<bt - 1
    ·simp[h4]
    ·by_cases h5:bt<s.1
     ·simp[h4,h5,dt]
     ·simp[h4,h5,dt]
  ·simp[h1]
 ·simp only[hd,Ql,Qa]
 ·rw[Qq62]
  refine(SR (low,cm) (λz=>decide (cm<z)) (λz=>x v z z) (λz=>(df (λw=>x v w z) (bu l v).reverse (if cm<df (λw=>x v w z) (bu l v).reverse z - 1\/df (λw=>x v w z) (bu l v).reverse z<low then df (λw=>x v w z) (bu l v).reverse z else low),z,()))
   (df (λw=>x v w cm) (bu l v).reverse low,cm,()) _ _ (λz=> ?_) rfl (λa b h h'=> ?_) _ (List.pairwise_reverse.2 h2)).trans ?_
  ·by_cases h4:cm<z<;>simp[h4]
  ·simp only[Qi]at h' ⊢;omega
  ·unfold FW;cases (bu l v).reverse.find? (λn=>decide (cm<n)&&x v n n)<;>rfl
 omit hl hlen hx in
theorem Yv(p q:ah)(n:Int)(v:ByteArray):wy p q n v=some (!oP p q v n):=by
  simp only[wy,CX,Qa,oP];cases eN p ⟨n,v⟩<;>cases eN q ⟨n,v⟩<;>rfl
theorem afi(p q:ah):qV aG t l p q=some (rB x l p q (ic x l p q)):=by
 obtain⟨_,_,h3,_⟩:=wG hl.aN hlen;obtain⟨e1,e2⟩:=WH (x:=x) (p:=p) (q:=q) hl hlen (gF l) (false,⟨0,gw⟩) rfl;unfold qV;simp only[etas,Zd hl.aN hlen,Qa];refine(PF (gF l) (by omega) (λs v=>(bu l v).foldl (ES x p q v) s) (fin:=λs=>some (rB x l p q (!aP s,s))) (λi v b hv hd hx' hw=> ?_) (λb hd=> ?_) ⟨0,bE⟩).trans ?_
 ·obtain⟨_,_,g3,_⟩:=jz hl.aN hlen v;simp only[hd,hx',hw,Qk,Qa,zu hl.aN hlen];refine(PF (bu l v) (by omega) (ES x p q v) (fin:=λs=>some (Sum.inl (((i+1:Nat):Int),s,()))) (λi' n b' hv' hd' hx'' hw'=> ?_) (λb' hd'=> ?_) b)
  ·simp only[hd',hx'',hw',Qk,aS,Qa,kg,Yv,hx,ib];unfold ES;cases bB b' ⟨n,v⟩<;>cases oP p q v n<;>cases x v n n<;>simp
  ·simp only[hd',Ql]
 ·obtain⟨_,_,g3,_⟩:=jz hl.aN hlen b.Value;simp only[hd,Ql,c6,Qa];unfold rB
  cases aP b with
  |true=>rfl
  |false=>
   simp only[Qp,Qt,Ql,zu hl.aN hlen,Qa,aS,KN _ (by omega:(bu l b.Value).length<=1000000)]
   refine congrArg (Option.map Sum.inr) ((zz (bu l b.Value) (by omega) (λlo i=>(lo,i,())) (λlo z=>if lo<=z then .inl lo else if !oP p q b.Value z&&x b.Value z b.ai then .inl z else .inr (b.Value,lo,b.ai,true,())) (λlo=>some (b.Value,lo,b.ai,true,())) (λi z a hi' hd hs=> ?_) (λa hd=> ?_) (bu l b.Value).length (QI _) b.ai).trans ?_)
   ·simp only[hi',hd,hs,Qk,Qa,hx,Yv]
    by_cases h1:a<=z
    ·simp[h1]
    ·cases oP p q b.Value z<;>cases x b.Value z b.ai<;>simp[h1]
   ·simp only[hd,Ql]
   ·rw[Qq62];exact EX (λz=> !oP p q b.Value z&&x b.Value z b.ai) (λlo=>(b.Value,lo,b.ai,true,())) _ _
 ·unfold ic;rw[show(gF l).foldl (λs v=>(bu l v).foldl (ES x p q v) s) ⟨0,bE⟩=((gF l).foldl (λs v=>(bu l v).foldl (fX x p q v) s) (false,⟨0,gw⟩)).2 from e1.symm,<-e2]
end
section
 include hy
theorem afk(v:ByteArray):qW aG t l v=some (Ei (bu l v) (y v)):=by
 obtain⟨_,h2,h3,_⟩:=jz hl.aN hlen v;unfold qW;simp only[etas,zu hl.aN hlen,Qa,KN _ (by omega:(bu l v).length<=1000000),aS]
 unfold Ei;generalize bu l v=b at*
 suffices key:∀n:Nat,n<=b.length->aD _ (((n:Nat):Int) - 1,())=some (match(b.take n).reverse.find? (λe=>y v e e)with|some e=>(df (λz=>y v z e) b.reverse e,e,true,())|none=>(0,0,false,()))by
  have:=key b.length (QI _);rw[Qq62]at this;exact this
 intro n
 induction n with
 |zero=>
  intro _;rw[show((0:Nat):Int) - 1= -1 by omega]
  have hd:decide ((0:Int)<= -1)=false:=rfl;exact bM (by simp only[hd,Ql,Qe,List.take_zero,List.reverse_nil,List.find?_nil])
 |succ n ih=>
  intro hn;have hlt:n<b.length:=by omega
  have hxn:idx b (n:Int)=some b[n]:=by rw[bf];exact Qv hlt
  have hd:decide ((0:Int)<=(n:Int))=true:=Qg (by omega)
  have hs:cQ .i64 (n:Int) 1=(n:Int) - 1:=nT (by omega) (by omega)
  rw[show((n+1:Nat):Int) - 1=(n:Int)by omega,Q7 hlt,List.reverse_append,List.reverse_singleton,List.singleton_append,List.find?_cons]
  cases hyn:y v b[n] b[n]with
  |false=>
   rw[bw (s':=((n:Int) - 1,())) (by simp only[hd,hxn,hs,hy,hyn,Qk,Qa,Qp])]
   exact ih (by omega)
  |true=>
   have hb:b=b.take n++b[n]::b.drop (n+1):=by rw[<-QM hlt,List.take_append_drop]
   have hp:(b.take n++b[n]::b.drop (n+1)).Pairwise (·<·):=hb▸h2;rw[Qq69,Q4]at hp;obtain⟨p1,⟨p2,p3⟩,p4⟩:=hp;refine bM ?_;simp only[hd,hxn,hs,hy,hyn,Qk,Ql,Qa,Qo];refine(zz b (by omega) (λlo i=>(lo,i,())) (λlo z=>if y v z b[n]then .inl z else .inr (.inr (lo,b[n],true,()))) (λlo=>some (.inr (lo,b[n],true,()))) (λi z a hi' hd' hs'=> ?_) (λa hd'=> ?_) n (by omega) b[n]).trans ?_
   ·simp only[hi',hd',hs',Qk,Qa];cases y v z b[n]<;>simp
   ·simp only[hd',Ql,Qe]
   ·rw[Ob (λz=>y v z b[n]) (λlo=>Sum.inr (lo,b[n],true,())) _ _ (λz hz=>p4 z (List.mem_reverse.1 hz) _ (Qx ..)) (List.pairwise_reverse.2 p1)]
    have:df (λz=>y v z b[n]) b.reverse b[n]=df (λz=>y v z b[n]) (b.take n).reverse b[n]:=by
     have hr:b.reverse=((b.drop (n+1)).reverse++[b[n]])++(b.take n).reverse:=by
      rw[<-List.reverse_cons,<-List.reverse_append,<-hb]
     rw[hr];refine My _ _ _ _ λz hz=> ?_
     rw[Qz,List.mem_reverse,Q5]at hz;rcases hz with hz|rfl
     ·exact Int.le_of_lt (p2 z hz)
     ·exact Int.le_refl _
    rw[this]
end
end
end
section
section
variable {aG : Nat} (hn : aG < 10) {t : aj} (ht : cU t) {l : List ak} (hl : s5 l) (hlen : l.length <= 1000)
 include hn ht hl hlen
theorem ahq(b:ah):rN aG t l b=some (pA aG t l b):=by
 have hin:=nr l;have hsm:=ou (aG:=aG) ht hl;simp only[rN,etas,SM hl.aN hlen,AV hn hl,Qa,wJ hsm hn (mH hin) (mH hin)];rfl
theorem afl(b:ah):qj aG t l b=some (nu aG t l b):=by
 have hin:=nr l;have hsm:=ou (aG:=aG) ht hl;simp only[qj,etas,SM hl.aN hlen,AV hn hl,Qa,vf hsm hn (mH hin)];rfl
theorem ahE(b:ah):il ⟨aG,⟨kI aG t l⟩,(cZ l).map bK.mk⟩ b=some (pA aG t l b):=by
 have hin:=nr l;have hsm:=ou (aG:=aG) ht hl;rw[N5 hl.len,CD hsm hn (mH hin) (mH hin)];rfl
theorem afB(b:ah):fA ⟨aG,⟨kI aG t l⟩,(cZ l).map bK.mk⟩ b=some (nu aG t l b):=by
 have hin:=nr l;have hsm:=ou (aG:=aG) ht hl;rw[MR hl.len,Bk hsm hn (mH hin)];rfl
 def jV(aG:Nat)(t:aj)(l:List ak)(p q:ah)(v:ByteArray):ah:=((fh l).find? (C9 (pA aG t l) p q v)).getD Ix
 def zX(aG:Nat)(t:aj)(l:List ak)(a:ah):ah:=((fh l).find? (Dg (nu aG t l) a)).getD Ix
theorem afe(p q:ah)(v:ByteArray):te aG t l p q v=some (jV aG t l p q v):=acz hl hlen (ahq hn ht hl hlen) p q v
theorem afg(a:ah):n9 aG t l a=some (zX aG t l a):=acA hl hlen (afl hn ht hl hlen) a
theorem afy(p q:ah)(v:ByteArray):pM aG t l p q v=some (jV aG t l p q v):=afK hl hlen (Sv hn ht hl) (ahE hn ht hl hlen) p q v
theorem afz(a:ah):me aG t l a=some (zX aG t l a):=afZ hl hlen (Sv hn ht hl) (afB hn ht hl hlen) a
end
end
end Go.Proofs.YtofedieniojipaaGreat
end
