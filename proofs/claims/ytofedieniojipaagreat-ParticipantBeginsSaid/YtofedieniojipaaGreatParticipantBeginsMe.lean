/-
  Texts made small by a program (see NOTES). Conditions: those that each theorem names.
-/
import Derived.Test.YtofedieniojipaaGreatParticipantBeginsMd
set_option linter.unusedVariables false
set_option linter.defProp false
set_option linter.unusedSimpArgs false
set_option linter.unusedSectionVars false
set_option maxHeartbeats 2000000
noncomputable section
namespace Go.TQ
@[simp] theorem aQ {σ ρ:Type} (j:σ->Option ρ) (f:(σ->Option ρ)->Option ρ):bb j f=f j:=rfl
@[simp] def k8 {α:Type} (b:Bool) (x y:α):(bif b then some x else some y)=some (bif b then x else y):=by cases b<;>rfl
@[simp] def ahj {α:Type} (b:Bool) (x:α):(bif b then x else x)=x:=by cases b<;>rfl
def Ch{α:Type}(p:Prop)[Decidable p](x y:α):(bif decide p then x else y)=if p then x else y:=by
 by_cases h:p<;>simp[h]
def zO{α:Type}(p:Prop)[Decidable p](x y:α):(if p then some x else some y)=some (if p then x else y):=by split<;>rfl
@[simp] def Fe {α:Type} (b:Bool) (x y:α):(bif !b then x else y)=bif b then y else x:=by cases b<;>rfl
@[simp] def AO (a b:Int) (s t:ByteArray):lC false a b s t=(decide (a=b)&&decide (s=t)):=by simp[lC]
@[simp] def aay (a b:Int) (s t:ByteArray):lC true a b s t= !(decide (a=b)&&decide (s=t)):=by simp[lC]
def Yd{α:Type}(o:Option α)(p:α->Prop):Prop:=∃x,o=some x/\p x
def Yd.bind{α β:Type}{o:Option α}{p:α->Prop}{f:α->Option β}{q:β->Prop}(h:Yd o p)(k:∀x,p x->Yd (f x) q):Yd (o.bind f) q:=by
 obtain⟨x,rfl,hx⟩:=h;exact k x hx
def Yd.mono{α:Type}{o:Option α}{p q:α->Prop}(h:Yd o p)(k:∀x,p x->q x):Yd o q:=by
 obtain⟨x,h1,hx⟩:=h;exact⟨x,h1,k x hx⟩
theorem Yd.some{α:Type}{x:α}{p:α->Prop}(h:p x):Yd (Option.some x) p:=⟨x,rfl,h⟩
def Yd.of_eq{α:Type}{o:Option α}{x:α}{p:α->Prop}(h:o=Option.some x)(hp:p x):Yd o p:=⟨x,h,hp⟩
def Yd.cond{α:Type}{b:Bool}{x y:Option α}{p:α->Prop}(h1:b=true->Yd x p)(h2:b=false->Yd y p):Yd (bif b then x else y) p:=by
 cases b
 ·exact h2 rfl
 ·exact h1 rfl
def Yd.map{α β:Type}{o:Option α}{f:α->β}{p:β->Prop}(h:Yd o λx=>p (f x)):Yd (o.map f) p:=by
 obtain⟨x,rfl,hx⟩:=h;exact⟨f x,rfl,hx⟩
def Yd.eq_true{o:Option Bool}(h:Yd o (·=true)):o=Option.some true:=by
 obtain⟨x,h1,rfl⟩:=h;exact h1
def wrap64{n:Int}(h1: -9223372036854775808<=n)(h2:n<=9223372036854775807):IntKind.i64.wrap n=n:=i64_in h1 h2
theorem bH{a b:Int}(h1: -9223372036854775808<=a+b)(h2:a+b<=9223372036854775807):aA .i64 a b=a+b:=wrap64 h1 h2
theorem pz{a b:Int}(h1: -9223372036854775808<=a - b)(h2:a - b<=9223372036854775807):cU .i64 a b=a - b:=wrap64 h1 h2
theorem bg{α:Type}(l:List α)(i:Nat):idx l (i:Int)=l[i]?:=by simp[idx]
theorem M3{α:Type}(l:List α){n:Int}(h:0<=n):idx l n=l[n.toNat]?:=by simp[idx,h]
@[simp] def afa (n:Nat) (h:n<256):bx .i64 (n:Int)=n:=wrap64 (by omega) (by omega)
@[simp] theorem bK {bytes n:Nat} (h:n*bytes<=140737488355328/\n<=1000000):bl bytes n=true:=by
 simp only[bl,Qm,Qi];exact⟨h.1,QK h.2 (by simp[maxLen])⟩
def uy(a:Nat)(h:a<2 ^ 62):(BitVec.ofInt 64 (a:Int)).toNat=a:=by
 grind
def Ck(n:Nat)(h:n<2 ^ 62):IntKind.i64.wrap (n:Int)=n:=wrap64 (by omega) (by omega)
def C6(a b:Nat)(ha:a<2 ^ 62)(hb:b<2 ^ 62):IF .i64 (a:Int) (b:Int)=((a&&&b:Nat):Int):=by
 show IntKind.i64.wrap (((BitVec.ofInt 64 (a:Int)&&&BitVec.ofInt 64 (b:Int)).toNat:Nat):Int)=_;rw[BitVec.toNat_and,uy a ha,uy b hb];exact Ck _ (Nat.lt_of_le_of_lt Nat.and_le_left ha)
def ER(a b:Nat)(ha:a<2 ^ 62)(hb:b<2 ^ 62):qY .i64 (a:Int) (b:Int)=((a|||b:Nat):Int):=by
 show IntKind.i64.wrap (((BitVec.ofInt 64 (a:Int)|||BitVec.ofInt 64 (b:Int)).toNat:Nat):Int)=_
 rw[BitVec.toNat_or,uy a ha,uy b hb];exact Ck _ (Nat.or_lt_two_pow ha hb)
def adL(s k:Nat):s&&&2 ^ k=if s.testBit k then 2 ^ k else 0:=by
 refine Nat.eq_of_testBit_eq λi=> ?_
 grind
theorem xe(k:Nat)(h:k<=60):bV .i64 1 (k:Int)=((2 ^ k:Nat):Int):=by
 show IntKind.i64.wrap (1*2 ^ min (k:Int).toNat 64)=_;rw[QV,show min k 64=k from Nat.min_eq_left (by omega),Int.one_mul]
 have:=Ck (2 ^ k) (Nat.pow_lt_pow_right (by omega) (by omega))
 simpa using this
def ZG(a k:Nat)(h:k<=60):kg .i64 (a:Int) (k:Int)=((a>>>k:Nat):Int):=by
 show(a:Int).fdiv (2 ^ min (k:Int).toNat 64)=_;rw[QV,show min k 64=k from Nat.min_eq_left (by omega),Nat.shiftRight_eq_div_pow]
 grind
theorem bM{σ ρ:Type}{step:σ->Option (σ⊕ρ)}{s:σ}{r:ρ}(h:step s=some (.inr r)):aB step s=some r:=by rw[fb,h]
def bw{σ ρ:Type}{step:σ->Option (σ⊕ρ)}{s s':σ}(h:step s=some (.inl s')):aB step s=aB step s':=by rw[fb,h]
def MI{σ ρ:Type}{step:σ->Option (σ⊕ρ)}{s:σ}(h:step s=none):aB step s=none:=by rw[fb,h]
def Yd.loop{σ ρ:Type}{step:σ->Option (σ⊕ρ)}{s:σ}{p:ρ->Prop}(h:Yd (step s) λy=>match y with| .inl s'=>Yd (aB step s') p| .inr r=>p r):Yd (aB step s) p:=by
 obtain⟨y,h1,h2⟩:=h
 cases y with
 |inl s'=>rw[bw h1];exact h2
 |inr r=>exact⟨r,bM h1,h2⟩
def Yd.join{σ ρ:Type}{j:σ->Option ρ}{f:(σ->Option ρ)->Option ρ}{p:ρ->Prop}(inv:σ->Prop)(h1:∀v,inv v->Yd (j v) p)(h2:∀j':σ->Option ρ,(∀v,inv v->Yd (j' v) p)->Yd (f j') p):Yd (bb j f) p:=h2 j h1
def Yd.inr{σ ρ:Type}{o:Option ρ}{p:σ⊕ρ->Prop}(h:Yd o λr=>p (.inr r)):Yd (Option.map Sum.inr o) p:=h.map
def fD{α σ ρ:Type}(g:α->σ->Option (σ⊕ρ))(fin:σ->Option ρ):List α->σ->Option ρ
 |[],s=>fin s
 |x::l,s=>match g x s with
  |none=>none
  |some (.inr r)=>some r
  |some (.inl s')=>fD g fin l s'
def WL{α σ τ ρ:Type}(l:List α)(mk:Int->σ->τ){step:τ->Option (τ⊕ρ)}(g:α->σ->Option (σ⊕ρ))(fin:σ->Option ρ)
  (h1:∀(i:Nat) (x:α) (s:σ),i<l.length->l[i]?=some x->step (mk i s)=match g x s with|none=>none|some (.inr r)=>some (.inr r)|some (.inl s')=>some (.inl (mk (i+1:Nat) s')))
  (h2:∀s,step (mk l.length s)=(fin s).map Sum.inr) (s:σ):aB step (mk 0 s)=fD g fin l s:=by
 suffices h:∀(k:Nat) (i:Nat) (s:σ),i+k=l.length->aB step (mk i s)=fD g fin (l.drop i) s by
  have:=h l.length 0 s (by omega)
  simpa using this
 intro k
 induction k with
 |zero=>
  intro i s hi;obtain rfl:i=l.length:=by omega
  rw[Qq66,fD,fb,h2];cases fin s<;>rfl
 |succ k ih=>
  intro i s hi;have hlt:i<l.length:=by omega
  rw[QM hlt,fD,fb,h1 i l[i] s hlt (Qv hlt)]
  cases hg:g l[i] s with
  |none=>rfl
  |some y=>
   cases y with
   |inr r=>rfl
   |inl s'=>exact ih (i+1) s' (by omega)
def ig{α σ τ ρ:Type}(l:List α)(hl:l.length<=9223372036854775807)(mk:Int->σ->τ){step:τ->Option (τ⊕ρ)}(g:α->σ->Option (σ⊕ρ))(fin:σ->Option ρ)
  (h1:∀(i:Nat) (x:α) (s:σ),decide ((i:Int)<(l.length:Int))=true->idx l (i:Int)=some x->aA .i64 (i:Int) 1=((i+1:Nat):Int)->step (mk i s)=match g x s with|none=>none|some (.inr r)=>some (.inr r)|some (.inl s')=>some (.inl (mk (i+1:Nat) s')))
  (h2:∀s,decide ((l.length:Int)<(l.length:Int))=false->step (mk l.length s)=(fin s).map Sum.inr) (s:σ):aB step (mk 0 s)=fD g fin l s:=
 WL l mk g fin (λi x s hi hx=>h1 i x s (Qg (Int.ofNat_lt.2 hi)) (by rw[bg];exact hx) (bH (by omega) (by omega))) (λs=>h2 s (Qh (Qq64 _))) s
end Go.TQ
namespace Go.Proofs.YtofedieniojipaaGreat
open Go.TQ
section
def gC:ByteArray:=⟨#[]⟩
def aM(b:ae):Bool:=decide (b.ai=0)&&decide (b.Value=gC)
def bO(a b:ByteArray):Bool:=if a.size=b.size then kO a b else decide (a.size<b.size)
def bB(a b:ae):Bool:=if a.ai=b.ai then bO a.Value b.Value else decide (a.ai<b.ai)
def bQ(a b:ae):Bool:=decide (a.Value=b.Value)
def jo(p b:ae):Bool:= !aM p&&bQ p b&&decide (b.ai<=p.ai)
def dU(p q b:ae):Bool:=jo p b||jo q b||(!aM q&&bB b q)
def eJ(p b:ae):Bool:= !aM p&& !bQ p b&&bB b p
def cD(b:ae):Bool:=(decide (1<=b.ai)&&decide (b.ai<=1000)||decide (b.ai=1000000))&&decide (1<=b.Value.size)&&decide (b.Value.size<=200)
def P8:∀x:List UInt8,Op.bytesLess x x=false
 |[]=>rfl
 |a::l=>by simp[Op.bytesLess,P8 l]
def TO:∀{x y:List UInt8},x≠y->Op.bytesLess x y=true\/Op.bytesLess y x=true
 |[],[],h=>absurd rfl h
 |[],_::_,_=> .inl rfl
 |_::_,[],_=> .inr rfl
 |a::l,b::m,h=>by
  simp only[Op.bytesLess]
  by_cases hab:a=b
  ·subst hab;have:l≠m:=λe=>h (by rw[e])
   simpa using TO this
  ·rcases Nat.lt_or_gt_of_ne (λe=>hab (UInt8.toNat_inj.1 e))with h1|h1
   ·have h2:a<b:=h1;simp[h2]
   ·have h2:b<a:=h1;simp[h2]
def Cn(a:ByteArray):kO a a=false:=P8 _
@[simp] def df (b:ae):bA b=some (aM b):=by unfold bA aM;rw[AO];rfl
@[simp] def dg (b:ae):bL b=some (aM b):=by unfold bL aM;rw[AO];rfl
@[simp] def fN (a b:ae):cd a b=some (bQ a b):=rfl
@[simp] def gy (a b:ae):cx a b=some (bQ a b):=rfl
@[simp] def xD (b:ae):jb b=some (cD b):=by
 have h1:decide ((1:Int)<=(b.Value.size:Nat))=decide (1<=b.Value.size):=by rw[decide_eq_decide];omega
 have h2:decide (((b.Value.size:Nat):Int)<=200)=decide (b.Value.size<=200):=by rw[decide_eq_decide];omega
 simp only[jb,cD,h1,h2,k8,Qa,Bool.cond_false_right,Bool.cond_true_left]
@[simp] def AY (b:ae):iF b=some (cD b):=xD b
@[simp] def yY (a b:ByteArray):nN a b=some (bO a b):=by
 simp only[nN,bO,Fe,Int.ofNat_inj,Int.ofNat_lt,Ch,zO]
@[simp] def jJ (a b:ae):fA a b=some (bB a b):=by
 simp[fA,bB,Ch,zO]
@[simp] def By (a b:ae):lV a b=some (jo a b):=by simp[lV,jo]
@[simp] def XN (a b:ae):kv a b=some (jo a b):=by simp[kv,jo]
@[simp] def tJ (p q b:ae):iU p q b=some (dU p q b):=by simp[iU,dU]
@[simp] def Bz (p b:ae):gz p b=some (eJ p b):=by simp[gz,eJ]
def xw(a b:Int):Int:=if a<b then -1 else if b<a then 1 else 0
def Ls(a b:ByteArray):Int:=if kO a b then -1 else if kO a b||decide (a=b)then 0 else 1
def orL:List Int->Int
 |[]=>0
 |x::l=>if x=0 then orL l else x
@[simp] def GM (a b:Int):eX a b=some (xw a b):=by
 simp[eX,uf,xw,Ch,zO]
@[simp] def Ue (a b:ByteArray):lq a b=some (Ls a b):=by
 simp only[lq,qI,Ls];cases h1:kO a b<;>by_cases h2:a=b<;>simp[h2]
def NS(l:List Int)(hl:l.length<=1000000):mO l=some (orL l):=by
 unfold mO;rw[ig l (by omega) (λi (_:Unit)=>(i,())) (λx _=>some (if x=0 then .inl ()else .inr x)) (λ_=>some 0) (λi x s hd hx hw=> ?_) (λs hd=> ?_) ()]
 ·induction l with
  |nil=>rfl
  |cons x l ih=>
   grind [fD,orL]
 ·grind
 ·simp only[hd,Ql]
@[simp] def aba (a b:Int):mO [a,b]=some (if a=0 then b else a):=by
 rw[NS _ (by simp)]
 simp only[orL]
 by_cases h:a=0<;>by_cases h':b=0<;>simp[h,h']
def wb(a b:ByteArray):Int:=if xw a.size b.size=0 then Ls a b else xw a.size b.size
def TG(a b:ae):Int:=if xw a.ai b.ai=0 then wb a.Value b.Value else xw a.ai b.ai
@[simp] def Bm (a b:ByteArray):gP a b=some (wb a b):=by simp[gP,wb]
@[simp] def XH (a b:ae):nX a b=some (TG a b):=by simp[nX,TG]
theorem uR(a b:Int):xw a b=0↔a=b:=by unfold xw;split<;>(try split)<;>omega
theorem Gv(a b:Int):xw a b<0↔a<b:=by unfold xw;split<;>(try split)<;>omega
theorem aaN(a b:ByteArray):Ls a b<0↔kO a b=true:=by
 grind [Ls]
theorem uQ(a b:ByteArray):decide (wb a b<0)=bO a b:=by
 grind [wb,bO,uR,aaN,Gv]
def TF(a b:ae):decide (TG a b<0)=bB a b:=by
 grind [TG,bB,uR,uQ,Gv]
@[simp] def jA (a b:ae):et a b=some (bB a b):=by simp[et,TF]
@[simp] def sn (p q b:ae):gO p q b=some (dU p q b):=by simp[gO,dU]
@[simp] def tM (p b:ae):eu p b=some (eJ p b):=by simp[eu,eJ]
def finite(b:ae):Bool:=cD b&&decide (b.ai<=1000)
@[simp] def Fm (b:ae):mM b=some (finite b):=by simp[mM,finite]
@[simp] def Dp (b:ae):lp b=some (aM b||cD b):=by simp[lp]
@[simp] def BA (e:aj) (n:Int):oG e n=some ⟨n,e.ab.Value⟩:=rfl
end
section
def OY{rec:(ak×Unit)->Option Int}{t:ak}(hl:t.aL.length<=9223372036854775807):
  jB rec t=fD (λu m=>(rec (u,())).map λr=> .inl (bD m r)) (λm=>some (aA .i64 m 1)) t.aL 0:=by
 unfold jB;rw[ig t.aL hl (λi (m:Int)=>(m,i,())) (λu m=>(rec (u,())).map λr=> .inl (bD m r)) (λm=>some (aA .i64 m 1)) (λi x s hd hx hw=> ?_) (λs hd=> ?_) 0]
 ·simp only[hd,hx,hw,Qk,Qa,etas];cases rec (x,())<;>rfl
 ·simp only[hd,Ql]
def Uc{rec:(ak×Unit)->Option Int}{t:ak}(hl:t.aL.length<=9223372036854775807):
  kx rec t=fD (λu m=>(rec (u,())).map λr=> .inl (aA .i64 m r)) (λm=>some m) t.aL (aA .i64 t.aX.length t.aL.length):=by
 unfold kx;rw[ig t.aL hl (λi (m:Int)=>(m,i,())) (λu m=>(rec (u,())).map λr=> .inl (aA .i64 m r)) (λm=>some m) (λi x s hd hx hw=> ?_) (λs hd=> ?_) (aA .i64 t.aX.length t.aL.length)]
 ·simp only[hd,hx,hw,Qk,Qa,etas];cases rec (x,())<;>rfl
 ·simp only[hd,Ql]
def Pg(t:ak):Bl t=jt t:=rfl
def Sc(t:ak):Dg t=kj t:=rfl
def fI(x:Int):Bool:=decide (0<=x)&&decide (x<10)
def wa(s x:Int):Bool:=decide (0<=s)&&decide (s<1024)&&fI x&&s.toNat.testBit x.toNat
theorem OS(s:Int):fT s=some (decide (0<=s)&&decide (s<1024)):=by
 have:bV .i64 1 10=1024:=xe 10 (by omega)
 simp[fT,za,this]
def TW{s x:Int}(h1:0<=s)(h2:s<1024)(h3:0<=x)(h4:x<10):(IF .i64 s (bV .i64 1 x)=0)=(s.toNat.testBit x.toNat=false):=by
 obtain⟨n,rfl⟩:=Int.eq_ofNat_of_zero_le h1;obtain⟨j,rfl⟩:=Int.eq_ofNat_of_zero_le h3;have hj:2 ^ j<=2 ^ 10:=Nat.pow_le_pow_right (by omega) (by omega)
 rw[xe j (by omega),C6 n (2 ^ j) (by omega) (by omega),adL]
 grind
@[simp] theorem pj (s x:Int):ke s x=some (wa s x):=by
 unfold ke wa fI;rw[OS]
 by_cases h1:0<=s
 ·by_cases h2:s<1024
  ·by_cases h3:0<=x
   ·by_cases h4:x<10
    ·have h5:¬x<0:=by omega
     have:=TW h1 h2 h3 h4;simp[h1,h2,h3,h4,h5,this]
    ·simp[h1,h2,h3,h4]
   ·simp[h1,h2,h3]
  ·simp[h1,h2]
 ·simp[h1]
def Uk{s x:Int}(h1:0<=s)(h2:s<1024)(h3:0<=x)(h4:x<10):(IF .i64 (kg .i64 s x) 1=1)=(s.toNat.testBit x.toNat=true):=by
 obtain⟨n,rfl⟩:=Int.eq_ofNat_of_zero_le h1;obtain⟨j,rfl⟩:=Int.eq_ofNat_of_zero_le h3;have hle:n>>>j<=n:=by rw[Nat.shiftRight_eq_div_pow];exact Nat.div_le_self _ _
 rw[ZG n j (by omega),show(1:Int)=((1:Nat):Int)from rfl,C6 _ 1 (by omega) (by omega)]
 simp only[QV,Int.ofNat_inj,Nat.testBit,eq_iff_iff];rw[Nat.and_comm];simp
@[simp] theorem lX (s x:Int):jT s x=some (wa s x):=by
 unfold jT eP wa fI
 by_cases h1:0<=s
 ·by_cases h2:s<1024
  ·have h2':s<=1023:=by omega
   by_cases h3:0<=x
   ·by_cases h4:x<10
    ·have h5:¬x<0:=by omega
     have:=Uk h1 h2 h3 h4;simp[h1,h2,h2',h3,h4,h5,this]
    ·simp[h1,h2,h2',h3,h4]
   ·simp[h1,h2,h2',h3]
  ·have h2':¬s<=1023:=by omega
   simp[h1,h2,h2']
 ·simp[h1]
theorem pL{s:Nat}{x:Int}(h1:s<1024)(h3:0<=x)(h4:x<10):qY .i64 (s:Int) (bV .i64 1 x)=((s|||2 ^ x.toNat:Nat):Int):=by
 obtain⟨j,rfl⟩:=Int.eq_ofNat_of_zero_le h3;have hj:2 ^ j<=2 ^ 9:=Nat.pow_le_pow_right (by omega) (by omega)
 rw[xe j (by omega)]
 exact ER s (2 ^ j) (by omega) (by omega)
def Ad{s:Nat}{x:Int}(h1:s<1024)(h4:x<10):s|||2 ^ x.toNat<1024:=by
 have hj:2 ^ x.toNat<=2 ^ 9:=Nat.pow_le_pow_right (by omega) (by omega)
 exact Nat.or_lt_two_pow (n:=10) h1 (by omega)
def vq(s:Nat):List Int->Int×Int×Unit
 |[]=>(s,0,())
 |x::l=>if fI x then(if s.testBit x.toNat then(0,6,())else vq (s|||2 ^ x.toNat) l)else(0,5,())
def Vi(g:Int->Int->Option (Int⊕(Int×Int×Unit)))
  (hg:∀x (s:Nat),s<1024->g x s=some (if fI x then(if s.testBit x.toNat then .inr (0,6,())else .inl ((s|||2 ^ x.toNat:Nat):Int))else .inr (0,5,()))):
  ∀(l:List Int) (s:Nat),s<1024->fD g (λs=>some (s,0,())) l s=some (vq s l)
 |[],s,_=>rfl
 |x::l,s,hs=>by
  rw[fD,hg x s hs,vq]
  cases h1:fI x with
  |false=>simp
  |true=>
   cases h2:s.testBit x.toNat with
   |true=>simp
   |false=>
    simp only[Qt,Qq,Qu];have h3:x<10:=by simp[fI]at h1;omega
    exact Vi g hg l _ (Ad hs h3)
def DY(l:List Int)(hl:l.length<=9223372036854775807):se l=some (vq 0 l):=by
 unfold se;rw[ig l hl (λi (s:Int)=>(s,i,())) (λx s=>if fI x then(if wa s x then some (.inr (0,6,()))else some (.inl (qY .i64 s (bV .i64 1 x))))else some (.inr (0,5,()))) (λs=>some (s,0,())) (λi x s hd hx hw=> ?_) (λs hd=> ?_) 0]
 ·refine Vi _ (λx s hs=> ?_) l 0 (by omega)
  grind [fI,wa,pL]
 ·grind [pj,fI,wa]
 ·simp only[hd,Ql]
def Rw(l:List Int)(hl:l.length<=9223372036854775807):yZ l=some (vq 0 l):=by
 have:yZ l=se l:=by
  unfold yZ se;simp only[lX,pj]
 rw[this,DY l hl]
@[simp] def wS (x:Int):lL x=some (!fI x):=by simp[lL,xB,fI]
def JU(l:List Int)(hl:l.length<=9223372036854775807):gp l=some (l.any λx=> !fI x):=by
 have key:∀(i:Nat) (k:Nat),i+k=l.length->Yd (aB (λ(v1:Int×Unit)=>bif (decide (v1.1<((List.length l:Nat):Int)))then Option.bind (idx l v1.1) λx2=>Option.bind (lL x2) λr3=>bif r3 then Option.map Sum.inr (some v1.1)else some (Sum.inl ((aA .i64 v1.1 (1:Int)),()))else Option.map Sum.inr (some (-1:Int))) ((i:Int),())) λr=>decide (0<=r)=(l.drop i).any λx=> !fI x:=by
  intro i k
  induction k generalizing i with
  |zero=>
   intro hi;refine⟨-1,bM ?_,?_⟩
   ·grind
   ·rw[List.drop_eq_nil_of_le (by omega)];rfl
  |succ k ih=>
   intro hi;have hlt:i<l.length:=by omega
   have hd:decide ((i:Int)<(l.length:Int))=true:=Qg (Int.ofNat_lt.2 hlt);have hx:idx l (i:Int)=some l[i]:=by rw[bg];exact Qv hlt
   have hw:aA .i64 (i:Int) 1=((i+1:Nat):Int):=bH (by omega) (by omega)
   rw[QM hlt,List.any_cons]
   cases h:fI l[i]with
   |true=>
    rw[bw (s':=(((i+1:Nat):Int),())) (by simp only[hd,hx,hw,Qk,Qa,wS,h];rfl)]
    exact(ih (i+1) (by omega)).mono λr hr=>by simpa using hr
   |false=>
    refine⟨i,bM (by simp only[hd,hx,Qk,Qa,wS,h];rfl),?_⟩
    simp
 obtain⟨r,h1,h2⟩:=key 0 l.length (by omega)
 unfold gp kV;simp only[Int.natCast_zero]at h1;rw[h1];simpa using h2
def rG(rec:ak->Option Int)(t:ak):Option Int:=
 if t.aH<1\/aA .i64 t.aX.length t.aL.length<t.aH then some 4
 else if(t.aX.any λx=> !fI x)then some 5
 else if(vq 0 t.aX).2.1=0 then fD (λu (_:Unit)=>(rec u).map λr=>if r=0 then .inl ()else .inr r) (λ_=>some 0) t.aL ()
 else some (vq 0 t.aX).2.1
theorem Jq{rec:(ak×Unit)->Option Int}{t:ak}(hn:t.aX.length<=9223372036854775807)(hl:t.aL.length<=9223372036854775807):iu rec t=rG (λu=>rec (u,())) t:=by
 unfold iu rG;rw[JU _ hn,DY _ hn];rw[ig t.aL hl (λi (_:Unit)=>(i,())) (λu (_:Unit)=>(rec (u,())).map λr=>if r=0 then .inl ()else .inr r) (λ_=>some 0) (λi x s hd hx hw=> ?_) (λs hd=> ?_) ()]
 ·grind
 ·simp only[hd,hx,hw,Qk,Qa,etas]
  cases rec (x,())with
  |none=>rfl
  |some r=>by_cases h:r=0<;>simp[h]
 ·simp only[hd,Ql]
theorem OZ{rec:(ak×Unit)->Option Int}{t:ak}(hn:t.aX.length<=9223372036854775807)(hl:t.aL.length<=9223372036854775807):ny rec t=rG (λu=>rec (u,())) t:=by
 unfold ny rG;rw[ig t.aX hn (λi (_:Unit)=>(i,())) (λx (_:Unit)=>some (if fI x then .inl ()else .inr 5)) (λ_=>if(vq 0 t.aX).2.1=0 then fD (λu (_:Unit)=>(rec (u,())).map λr=>if r=0 then .inl ()else .inr r) (λ_=>some 0) t.aL ()else some (vq 0 t.aX).2.1) (λi x s hd hx hw=> ?_) (λs hd=> ?_) ()]
 ·by_cases h1:t.aH<1
  ·simp[h1]
  ·by_cases h2:aA .i64 t.aX.length t.aL.length<t.aH
   ·simp[h1,h2]
   ·simp only[h1,h2,decide_false,Ql,Qa,or_self,Qu]
    have:∀(l:List Int) (fin:Unit->Option Int),fD (λx (_:Unit)=>some (if fI x then .inl ()else .inr 5)) fin l ()=if(l.any λx=> !fI x)then some 5 else fin ():=by
     intro l fin
     induction l with
     |nil=>rfl
     |cons x l ih=>
      grind [fD,fI]
    exact this _ _
 ·grind [fI]
 ·simp only[hd,Ql];rw[Rw _ hn,Qa];rw[ig t.aL hl (λi (_:Unit)=>(i,())) (λu (_:Unit)=>(rec (u,())).map λr=>if r=0 then .inl ()else .inr r) (λ_=>some 0) (λi x s hd hx hw=> ?_) (λs hd=> ?_) ()]
  ·grind
  ·simp only[hd,hx,hw,Qk,Qa,etas]
   cases rec (x,())with
   |none=>rfl
   |some r=>by_cases h:r=0<;>simp[h]
  ·simp only[hd,Ql]
structure dO (t:ak):Prop where
 nodes:∀x∈t.aX,0<=x/\x<10
 nodup:t.aX.Nodup
 len:t.aX.length<=10
 inner:t.aL=[]\/∃x,0<=x/\x<10/\t.aL=[⟨1,[x],[]⟩]
 th:1<=t.aH/\t.aH<=t.aX.length+t.aL.length
theorem FU:∀(l:List Int) (s:Nat),(∀x∈l,0<=x/\x<10)->l.Nodup->(∀x∈l,s.testBit x.toNat=false)->(vq s l).2.1=0
 |[],s,_,_,_=>rfl
 |x::l,s,h1,h2,h3=>by
  rw[List.nodup_cons]at h2;have hx:=h1 x (by simp)
  have:fI x=true:=by simp[fI];omega
  rw[vq,this,h3 x (by simp)]
  simp only[Qt,Qq,Qu];refine FU l _ (λy hy=>h1 y (by simp[hy])) h2.2 λy hy=> ?_
  have hy1:=h1 y (by simp[hy])
  rw[Nat.testBit_or,h3 y (by simp[hy]),Nat.testBit_two_pow]
  have:x.toNat≠y.toNat:=λe=>by
   have:x=y:=by omega
   subst this;exact h2.1 hy
  simp[this]
theorem TV{l:List Int}(h:∀x∈l,0<=x/\x<10):(l.any λx=> !fI x)=false:=by
 grind [fI]
theorem Kb{rec:ak->Option Int}{x:Int}(h0:0<=x)(h1:x<10):rG rec ⟨1,[x],[]⟩=some 0:=by
 have h2:aA .i64 (1:Nat) (0:Nat)=1:=rfl
 grind [vq,FU,fI,TV,rG,fD]
def MJ{t:ak}(h:dO t){rec:ak->Option Int}(hr:∀x,0<=x->x<10->rec ⟨1,[x],[]⟩=some 0):rG rec t=some 0:=by
 have hil:t.aL.length<=1:=by rcases h.inner with e|⟨x,_,_,e⟩<;>rw[e]<;>simp
 have hlen:=h.len;have h2:aA .i64 t.aX.length t.aL.length=t.aX.length+t.aL.length:=bH (by omega) (by omega)
 have h3:(vq 0 t.aX).2.1=0:=FU _ 0 h.nodes h.nodup (by simp)
 have h4:=TV h.nodes;have h5:=h.th;unfold rG;rw[h2,Qs (by omega),h4,h3]
 simp only[Qq,Qu,Qt];rcases h.inner with e|⟨x,hx0,hx1,e⟩
 ·rw[e];rfl
 ·rw[e,fD,hr x hx0 hx1];rfl
def EE(t:ak):∃n,SizeOf.sizeOf t=n+1:=by
 have:1<=SizeOf.sizeOf t:=by
  cases t;simp only[ak.mk.sizeOf_spec];omega
 exact⟨SizeOf.sizeOf t - 1,by omega⟩
def Xj(n:Nat)(th:Int)(l:List Int):nM (n+1) (⟨th,l,[]⟩,())=some 1:=by
 show jB _ _=_;rw[OY (by simp)]
 rfl
def size_leaf(n:Nat)(th:Int)(l:List Int):oX (n+1) (⟨th,l,[]⟩,())=some (aA .i64 l.length (0:Nat)):=by
 show kx _ _=_;rw[Uc (by simp)]
 rfl
def Np{t:ak}(h:dO t):∃d,jt t=some d/\d<=2:=by
 obtain⟨n,hn⟩:=EE t;have hil:t.aL.length<=1:=by rcases h.inner with e|⟨x,_,_,e⟩<;>rw[e]<;>simp
 unfold jt;rw[hn];show∃d,jB (nM (n+1)) t=some d/\d<=2;rw[OY (by omega)]
 rcases h.inner with e|⟨x,_,_,e⟩
 ·rw[e];exact⟨1,rfl,by omega⟩
 ·rw[e,fD,Xj n 1 [x]];exact⟨2,rfl,by omega⟩
def O6{t:ak}(h:dO t):∃d,kj t=some d/\d<=200:=by
 obtain⟨n,hn⟩:=EE t;have hil:t.aL.length<=1:=by rcases h.inner with e|⟨x,_,_,e⟩<;>rw[e]<;>simp
 have hlen:=h.len;unfold kj;rw[hn];show∃d,kx (oX (n+1)) t=some d/\d<=200;rw[Uc (by omega),bH (by omega) (by omega)]
 rcases h.inner with e|⟨x,_,_,e⟩
 ·rw[e];exact⟨_,rfl,by simp;omega⟩
 ·rw[e,fD,size_leaf n 1 [x]];have h1:aA .i64 (([x]:List Int).length:Nat) (0:Nat)=1:=rfl;rw[h1];refine⟨_,rfl,?_⟩
  grind [bH]
def eC{t:ak}(h:dO t):bS t=some 0:=by
 obtain⟨d,h1,h2⟩:=Np h;obtain⟨z,h3,h4⟩:=O6 h;obtain⟨n,hn⟩:=EE t;have hil:t.aL.length<=1:=by rcases h.inner with e|⟨x,_,_,e⟩<;>rw[e]<;>simp
 have hlen:=h.len
 have h5:lx t=some 0:=by
  unfold lx;rw[hn];show iu (fH (n+1)) t=some 0;rw[Jq (by omega) (by omega)]
  refine MJ h λx hx0 hx1=> ?_
  show iu (fH n) ⟨1,[x],[]⟩=some 0
  grind [Jq,Kb]
 have h6:¬4<d:=by omega
 have h7:¬200<z:=by omega
 simp[bS,h1,h3,h5,h6,h7]
def eH{t:ak}(h:dO t):dD t=some 0:=by
 obtain⟨d,h1,h2⟩:=Np h;obtain⟨z,h3,h4⟩:=O6 h;obtain⟨n,hn⟩:=EE t;have hil:t.aL.length<=1:=by rcases h.inner with e|⟨x,_,_,e⟩<;>rw[e]<;>simp
 have hlen:=h.len
 have h5:tj t=some 0:=by
  unfold tj;rw[hn];show ny (pR (n+1)) t=some 0;rw[OZ (by omega) (by omega)]
  refine MJ h λx hx0 hx1=> ?_
  show ny (pR n) ⟨1,[x],[]⟩=some 0
  grind [OZ,Kb]
 have h6:¬4<d:=by omega
 have h7:¬200<z:=by omega
 simp[dD,Pg,Sc,h1,h3,h5,h6,h7]
end
section
structure oW (s:eG):Prop where
 len:s.L.length<=800
 lo:0<=s.At
 hi:s.At<=800
def afl(l:List Int):Yd (B2 l) λs=>oW s:=by
 have h:dJ (l.length:Int) 800=((min l.length 800:Nat):Int):=by unfold dJ;split<;>omega
 have h2:cz 0 ((min l.length 800:Nat):Int) l.length=true:=by
  grind [cz]
 unfold B2;rw[h,h2];refine Yd.some ⟨?_,by simp,by simp⟩
 grind
def ab7(x n:Int)(hn:1<=n): -n<x.tmod n/\x.tmod n<n:=by
 have h2:=Int.emod_nonneg x (show n≠0 by omega)
 have h3:=Int.emod_lt_of_pos x (show 0<n by omega)
 rw[Int.tmod_eq_emod];split
 ·omega
 ·rw[Int.natAbs_of_nonneg (by omega)];omega
def sO{s:eG}(h:oW s){n:Int}(hn:n<=1000000000):Yd (cq s n) λp=>oW p.2/\0<=p.1/\(1<=n->p.1<n)/\(n<1->p.1=0):=by
 unfold cq;simp only[aQ];refine Yd.cond (λh1=> ?_) (λh1=> ?_)
 ·grind [Yd.some]
 ·simp only[Qj,Int.not_le]at h1;refine Yd.cond (λh2=> ?_) (λh2=> ?_)
  ·grind [Yd.some]
  ·simp only[Qj,Int.not_lt]at h2;obtain⟨hl,hlo,hhi⟩:=h;have e1:aA .i64 s.At 1=s.At+1:=bH (by omega) (by omega)
   have e2:cU .i64 (s.At+1) 1=s.At:=by rw[pz (by omega) (by omega)];omega
   rw[e1,e2];have hlt:s.At.toNat<s.L.length:=by omega
   rw[M3 _ hlo,Qv hlt,Qa,Qs (by omega),Qs (by omega)]
   have hb:=ab7 s.L[s.At.toNat] n h2;have e3:We .i64 s.L[s.At.toNat] n=s.L[s.At.toNat].tmod n:=rfl;rw[e3];generalize s.L[s.At.toNat].tmod n=y at hb;have e4:aA .i64 y n=y+n:=bH (by omega) (by omega)
   rw[e4];have h5:We .i64 (y+n) n=(y+n) % n:=Int.tmod_eq_emod_of_nonneg (by omega)
   rw[h5];exact Yd.some ⟨⟨hl,by simp;omega,by simp;omega⟩,Int.emod_nonneg _ (by omega),λ_=>Int.emod_lt_of_pos _ (by omega),λ_=>by omega⟩
def qS{s:eG}(h:oW s){a b:Int}(h1:0<=a)(h2:a<=b+1)(h3:b<=1000000):Yd (de s a b) λp=>oW p.2/\a<=p.1/\(a<=b->p.1<=b)/\(b<a->p.1=a):=by
 unfold de;have e1:cU .i64 b a=b - a:=pz (by omega) (by omega)
 have e2:aA .i64 (b - a) 1=b - a+1:=bH (by omega) (by omega)
 rw[e1,e2];refine(sO h (by omega)).bind λp ⟨h4,h5,h6,h7⟩=> ?_
 grind [aA,bH,Yd.some]
def adX{s:eG}(h:oW s){l:List ByteArray}(h1:1<=l.length)(h2:l.length<=1000):Yd (uc s l) λp=>oW p.2/\p.1∈l:=by
 unfold uc;refine(sO h (by omega)).bind λp ⟨h4,h5,h6,_⟩=> ?_
 grind [M3,Yd.some]
def NI(v:ByteArray):Prop:=v∈[(ByteArray.mk #[97]),(ByteArray.mk #[98]),(ByteArray.mk #[99]),(ByteArray.mk #[97,97])]
def NI.size{v:ByteArray}(h:NI v):1<=v.size/\v.size<=2:=by
 simp only[NI,QA,QR,or_false]at h;rcases h with rfl|rfl|rfl|rfl<;>exact⟨by decide,by decide⟩
def C9{s:eG}(h:oW s):Yd (iW s) λp=>oW p.2/\NI p.1:=by
 unfold iW;exact(adX h (by simp) (by simp)).bind λp hp=>Yd.some hp
def Zv{s:eG}(h:oW s):Yd (sd s) λp=>oW p.2/\1<=p.1.ai/\p.1.ai<=6/\NI p.1.Value:=by
 unfold sd;refine(qS h (by omega) (by omega) (by omega)).bind λp ⟨h1,h2,h3,_⟩=> ?_
 refine(C9 h1).bind λq ⟨h4,h5⟩=> ?_
 exact Yd.some ⟨h4,h2,h3 (by omega),h5⟩
def GD{s:eG}(h:oW s){n:Nat}(hn1:1<=n)(hn:n<=10):Yd (kq s n) λp=>oW p.2/\dO p.1/\(∀x∈p.1.aX,x<n)/\p.1.aX≠[]:=by
 unfold kq;simp only[aQ]
 let I (i:Nat) (s:eG) (t:ak) (ns:List Int) (is:List ak):Prop:=oW s/\t.aH=0/\(∀x∈ns,0<=x/\x<i)/\ns.Nodup/\ns.length<=i/\is=[]
 suffices key:∀(k i:Nat) (s:eG) (t:ak) (ns:List Int) (is:List ak),i+k=n->I i s t ns is->Yd (aB _ ((i:Int),s,t,ns,is,())) _ from key n 0 s _ _ _ (by omega) ⟨h,rfl,by simp,by simp,by simp,rfl⟩
 intro k
 induction k with
 |zero=>
  intro i s t ns is hi ⟨h1,h2,h3,h4,h5,h6⟩;obtain rfl:i=n:=by omega
  subst h6;have hd:decide ((i:Int)<(i:Int))=false:=Qh (Qq64 _);refine Yd.loop ?_;simp only[hd,Ql];refine Yd.inr ?_
  have fin:∀(s:eG) (ns:List Int) (is:List ak) (th:Int),oW s->(∀x∈ns,0<=x/\x<i)->ns.Nodup->ns.length<=10->ns≠[]->(is=[]\/∃x,0<=x/\x<10/\is=[⟨1,[x],[]⟩])->1<=th->th<=ns.length+is.length->
    oW s/\dO ⟨th,ns,is⟩/\(∀x∈ns,x<(i:Int))/\ns≠[]:=by
   intro s ns is th a1 a2 a3 a4 a5 a6 a7 a8;exact⟨a1,⟨λx hx=>by have:=a2 x hx;exact⟨this.1,by omega⟩,a3,a4,a6,a7,a8⟩,λx hx=>(a2 x hx).2,a5⟩
  have tail:∀(s:eG) (ns:List Int) (is:List ak),oW s->(∀x∈ns,0<=x/\x<i)->ns.Nodup->ns.length<=10->ns≠[]->(is=[]\/∃x,0<=x/\x<10/\is=[⟨1,[x],[]⟩])->
    Yd (Option.bind (de s (Sq .i64 (aA .i64 (aA .i64 ((List.length ns:Nat):Int) ((List.length is:Nat):Int)) (1:Int)) (2:Int)) (aA .i64 ((List.length ns:Nat):Int) ((List.length is:Nat):Int))) λp9=>
     Option.bind (cq p9.2 (6:Int)) λp12=>
     bif (decide (p12.1=(5:Int)))then some ((ak.mk (1:Int) ns is),p12.2)else some ((ak.mk p9.1 ns is),p12.2)) λp=>oW p.2/\dO p.1/\(∀x∈p.1.aX,x<(i:Int))/\p.1.aX≠[]:=by
   intro s ns is a1 a2 a3 a4 a5 a6;have hp:1<=ns.length:=by cases ns with|nil=>exact absurd rfl a5|cons x l=>simp
   have hil:is.length<=1:=by rcases a6 with e|⟨x,_,_,e⟩<;>rw[e]<;>simp
   have e1:aA .i64 ((List.length ns:Nat):Int) ((List.length is:Nat):Int)=ns.length+is.length:=bH (by omega) (by omega)
   have e2:aA .i64 ((ns.length:Int)+is.length) 1=ns.length+is.length+1:=bH (by omega) (by omega)
   have e3:Sq .i64 ((ns.length:Int)+is.length+1) 2=(ns.length+is.length+1) / 2:=by
    show IntKind.i64.wrap (Int.tdiv _ _)=_;rw[Int.tdiv_eq_ediv_of_nonneg (by omega)]
    exact wrap64 (by omega) (by omega)
   rw[e1,e2,e3];refine(qS a1 (by omega) (by omega) (by omega)).bind λp ⟨b1,b2,b3,_⟩=> ?_
   refine(sO b1 (by omega)).bind λq ⟨c1,_⟩=> ?_
   have b4:=b3 (by omega)
   refine Yd.cond (λ_=>Yd.some (fin q.2 ns is 1 c1 a2 a3 a4 a5 a6 (by omega) (by omega))) (λ_=>Yd.some (fin q.2 ns is p.1 c1 a2 a3 a4 a5 a6 (by omega) (by omega)))
  have mid:∀(s:eG) (ns:List Int),oW s->(∀x∈ns,0<=x/\x<i)->ns.Nodup->ns.length<=10->ns≠[]->
    Yd (Option.bind (cq s (4:Int)) λp13=>
     bif (decide (p13.1=(3:Int)))then
     Option.bind (cq p13.2 (i:Int)) λp14=>
     bif bl 56 (List.length ([]:List ak)+List.length [(ak.mk (1:Int) [p14.1] ([]:List ak))])then
     (Option.bind (de p14.2 (Sq .i64 (aA .i64 (aA .i64 ((List.length ns:Nat):Int) ((List.length (([]:List ak)++[(ak.mk (1:Int) [p14.1] ([]:List ak))]):Nat):Int)) (1:Int)) (2:Int)) (aA .i64 ((List.length ns:Nat):Int) ((List.length (([]:List ak)++[(ak.mk (1:Int) [p14.1] ([]:List ak))]):Nat):Int))) λp9=>
     Option.bind (cq p9.2 (6:Int)) λp12=>
     bif (decide (p12.1=(5:Int)))then some ((ak.mk (1:Int) ns (([]:List ak)++[(ak.mk (1:Int) [p14.1] ([]:List ak))])),p12.2)else some ((ak.mk p9.1 ns (([]:List ak)++[(ak.mk (1:Int) [p14.1] ([]:List ak))])),p12.2))
     else none
     else
     (Option.bind (de p13.2 (Sq .i64 (aA .i64 (aA .i64 ((List.length ns:Nat):Int) ((List.length ([]:List ak):Nat):Int)) (1:Int)) (2:Int)) (aA .i64 ((List.length ns:Nat):Int) ((List.length ([]:List ak):Nat):Int))) λp9=>
     Option.bind (cq p9.2 (6:Int)) λp12=>
     bif (decide (p12.1=(5:Int)))then some ((ak.mk (1:Int) ns []),p12.2)else some ((ak.mk p9.1 ns []),p12.2))) λp=>oW p.2/\dO p.1/\(∀x∈p.1.aX,x<(i:Int))/\p.1.aX≠[]:=by
   intro s ns a1 a2 a3 a4 a5;refine(sO a1 (by omega)).bind λp ⟨b1,b2,b3,_⟩=> ?_
   refine Yd.cond (λ_=> ?_) (λ_=> ?_)
   ·refine(sO b1 (by omega)).bind λq ⟨c1,c2,c3,_⟩=> ?_
    have c4:=c3 (by omega)
    rw[bK (by simp)]
    exact tail q.2 ns _ c1 a2 a3 a4 a5 (.inr ⟨q.1,c2,by omega,rfl⟩)
   ·exact tail p.2 ns [] b1 a2 a3 a4 a5 (.inl rfl)
  refine Yd.cond (λhz=> ?_) (λhz=> ?_)
  ·refine(sO h1 (by omega)).bind λp ⟨b1,b2,b3,_⟩=> ?_
   have b4:=b3 (by omega)
   exact mid p.2 [p.1] b1 (by simp;omega) (by simp) (by simp) (by simp)
  ·grind
 |succ k ih=>
  intro i s t ns is hi ⟨h1,h2,h3,h4,h5,h6⟩;have hd:decide ((i:Int)<(n:Int))=true:=Qg (by omega)
  have hw:aA .i64 (i:Int) 1=((i+1:Nat):Int):=bH (by omega) (by omega)
  refine Yd.loop ?_;simp only[hd,Qk,hw];refine(sO h1 (by omega)).bind λp ⟨b1,b2,b3,_⟩=> ?_
  refine Yd.cond (λ_=> ?_) (λ_=> ?_)
  ·rw[bK (by simp;omega)]
   refine Yd.some (ih (i+1) p.2 _ _ _ (by omega) ⟨b1,h2,?_,?_,by simp;omega,h6⟩)
   ·grind
   ·grind
  ·refine Yd.some (ih (i+1) p.2 _ _ _ (by omega) ⟨b1,h2,?_,h4,by omega,h6⟩)
   intro x hx;have:=h3 x hx;omega
end
section
def at_(e:aj)(n:Int):ae:=⟨n,e.ab.Value⟩
def B7(e:aj):Bool:=aM e.az||(!aM e.ao&&bB e.az e.ao&& !bQ e.az e.ao)
def gL(e:aj):Bool:=
 finite e.ab&&(aM e.ao||cD e.ao)&&(aM e.az||cD e.az)&&B7 e&&decide (0<=e.aY)&&decide (e.aY<=e.bq)&&decide (e.bq<=e.ab.ai)
  &&(decide (e.bq=0)||dU e.ao e.az (at_ e e.bq))&&(decide (e.aY=0)||(!eJ e.ao (at_ e e.aY)&& !eJ e.az (at_ e e.aY)))
def s5(e:aj):Bool:=decide (1<=e.aY)&&decide (e.aY<=e.bq)&&decide (e.bq<=1000)
def uO(e:aj):Bool:=finite e.ab&&cD e.ao&&bQ e.ao e.ab&&aM e.az&&s5 e&&decide (e.bq<=e.ao.ai)
def Al(e:aj):Bool:=cD e.ab&&aM e.ao&&aM e.az&&s5 e
def yH(e:aj):Bool:=decide (0<=e.al)&&decide (e.al<10)&&decide (1<=e.aK)&&decide (e.aK<=1000000)&&decide (1<=e.aG)&&decide (e.aG<=1000000)
def gK(tv:Int)(e:aj):Bool:=
 yH e&&decide (tv=0)&&(if e.bC=1 then gL e else if e.bC=2 then uO e else if e.bC=3 then Al e else false)
def dlt(a b:Int):decide (a<b)= !decide (b<=a):=by by_cases h:a<b<;>simp[h]<;>omega
def Rx(e:aj):oh e=some (gL e):=by
 unfold oh gL B7 at_
 simp only[df,jA,fN,Fm,Dp,BA,tM,sn,Qa,k8,aQ,dlt,Fe];cases finite e.ab<;>cases (aM e.ao||cD e.ao)<;>cases (aM e.az||cD e.az)<;>simp
 grind
def zf{e:aj}{tv:Int}(hT:bS e.aa=some tv):dt e=some (gK tv e):=by
 unfold dt gK yH;simp[Rx,hT,dlt,uO,Al,s5]
 grind
def sU{e:aj}{tv:Int}(hT:dD e.aa=some tv):c7 e=some (gK tv e):=by
 unfold c7 gK yH;simp[hT,dlt,uO,Al,s5,gL,finite,B7,at_]
 have h9:decide (e.al<=9)= !decide (10<=e.al):=by by_cases h:e.al<=9<;>simp[h]<;>omega
 rw[h9];generalize (decide (0<=e.al)&& !decide (10<=e.al)&&decide (1<=e.aK)&&decide (e.aK<=1000000)&&decide (1<=e.aG)&&decide (e.aG<=1000000)&&decide (tv=0))=hd
 by_cases k1:e.bC=1
 ·simp only[k1,decide_true,Qk,Qt]
  grind
 ·grind
def Jd(e:aj)(v:ByteArray)(lo hi:Int):Bool:=decide (1<=lo)&&decide (lo<=hi)&&decide (e.ab.Value=v)&&decide (e.aY<=lo)
def ui(e:aj)(v:ByteArray)(lo hi:Int):Bool:=Jd e v lo hi&&(!decide (e.bC=1)||(!decide (e.aY=0)&&decide (hi<=e.bq)))
def iw(e:aj)(v:ByteArray)(lo hi:Int):Bool:=Jd e v lo hi&&(decide (e.bC=3)||(decide (e.bC=2)&&decide (hi<=e.bq)))
def ru(e:aj)(b:ae):Bool:= !aM b&&(if e.bC=1 then jo e.ab b else bQ e.ab b)
def dZ(e:aj)(b:ae):Bool:= !aM b&&(if e.bC=1 then dU e.ao e.az b else if e.bC=2 then jo e.ao b else bQ e.ab b)
def fQ(e:aj):Int:=if e.bC=3 then 1000000 else e.ab.ai
@[simp] def EA (r:bJ) (v:ByteArray) (lo hi:Int):iN r v lo hi=some (ui r.ax v lo hi):=by
 simp[iN,jW,ui,Jd]
@[simp] def vf (r:bJ) (v:ByteArray) (lo hi:Int):ic r v lo hi=some (iw r.ax v lo hi):=by
 simp[ic,jW,iw,Jd]
@[simp] def Dq (r:bJ) (b:ae):iE r b=some (ru r.ax b):=by
 simp only[iE,ru];cases hz:aM b<;>by_cases h:r.ax.bC=1<;>simp[h,hz]
@[simp] def ug (r:bJ) (b:ae):gW r b=some (dZ r.ax b):=by
 simp only[gW,dZ];cases hz:aM b<;>by_cases h:r.ax.bC=1<;>by_cases h2:r.ax.bC=2<;>simp[h,h2,hz]
@[simp] def abb (r:bJ):lJ r=some (fQ r.ax):=by
 simp[lJ,fQ,Ch,zO]
section
variable {e : aj} {tv : Int} (hT : bS e.aa = some tv)
 include hT
theorem Ua:jP e=some (if gK tv e then fQ e else 0):=by
 simp only[jP,etas,zf hT,Qa];cases gK tv e<;>simp
end
def wy(n:Nat):List Int:=(List.range n).map λi:Nat=>(i:Int)
def RX(n:Nat):wy (n+1)=wy n++[(n:Int)]:=by simp[wy,List.range_succ]
@[simp] def afx (n:Nat):(wy n).length=n:=by simp[wy]
def ad1(n:Nat)(hn:n<=1000)(k:Int):tw n k=some ⟨k,wy n,[]⟩:=by
 unfold tw
 suffices key:∀(m i:Nat) (t:ak),i+m=n->t.aH=k->t.aL=[]->aB (λ(v1:Int×ak×(List Int)×Unit)=>
   bif (decide (v1.1<(n:Int)))then
   bif bl 8 (List.length v1.2.2.1+List.length [v1.1])then
   some (Sum.inl ((aA .i64 v1.1 (1:Int)),(ak.mk v1.2.1.aH ([]:List Int) v1.2.1.aL),(v1.2.2.1++[v1.1]),()))
   else none
   else
   Option.map Sum.inr (some (ak.mk v1.2.1.aH v1.2.2.1 v1.2.1.aL))) ((i:Int),t,wy i,())=some ⟨k,wy n,[]⟩from key n 0 _ (by omega) rfl rfl
 intro m
 induction m with
 |zero=>
  grind [bM]
 |succ m ih=>
  intro i t hi h1 h2;have hd:decide ((i:Int)<(n:Int))=true:=Qg (by omega)
  have hw:aA .i64 (i:Int) 1=((i+1:Nat):Int):=bH (by omega) (by omega)
  rw[bw (s':=(((i+1:Nat):Int),⟨t.aH,[],t.aL⟩,wy (i+1),()))]
  ·exact ih (i+1) _ (by omega) h1 h2
  ·simp only[hd,hw,Qk];rw[bK (by simp;omega)]
   simp[RX]
def PO(n:Nat)(hn:n<=10)(k:Int)(h1:1<=k)(h2:k<=n):dO ⟨k,wy n,[]⟩:=by
 refine⟨λx hx=> ?_,?_,by simpa using hn,.inl rfl,h1,by simpa using h2⟩
 ·grind [wy]
 ·show(wy n).Nodup;exact List.Pairwise.map _ (λa b h e=>h (by omega)) List.nodup_range
structure NV (aD aI n:Int) (e:aj):Prop where
 aD:e.al=aD
 aI:e.aK=aI
 seq:1<=e.aG/\e.aG<=9
 aO:dO e.aa
 nodes:∀x∈e.aa.aX,x<n
 ne:e.aa.aX≠[]
 val:NI e.ab.Value
 valid:gK 0 e=true
def Hj{b:ae}(h1:1<=b.ai)(h2:b.ai<=1000)(h3:NI b.Value):cD b=true:=by
 have:=h3.size
 grind [cD]
def UM{s:eG}(h:oW s){aD aI:Int}(hn0:0<=aD)(hn1:aD<10)(hs0:1<=aI)(hs1:aI<=1000000){n:Nat}(hn2:1<=n)(hn:n<=10):
  Yd (pB s aD aI n) λp=>oW p.2/\NV aD aI n p.1:=by
 unfold pB;refine(qS h (by omega) (by omega) (by omega)).bind λp1 ⟨a1,a2,a3,_⟩=> ?_
 have a4:=a3 (by omega)
 refine(GD a1 hn2 hn).bind λp2 ⟨b1,b2,b3,b4⟩=> ?_
 refine(C9 b1).bind λp3 ⟨c1,c2⟩=> ?_
 have c3:=c2.size;have hv:∀k:Int,1<=k->k<=1000->cD ⟨k,p3.1⟩=true:=λk h1 h2=>Hj h1 h2 c2
 simp only[etas]
 have hd:∀e:aj,e.al=aD->e.aK=aI->e.aG=p1.1->yH e=true:=by
  grind [yH]
 refine Yd.join (λv=>oW v.1/\NV aD aI n v.2.1) (λv hv=>Yd.some hv) λj5 hj5=> ?_
 refine(sO c1 (by omega)).bind λp6 ⟨d1,_⟩=> ?_
 refine Yd.join (λv=>oW v.1/\v.2.1=aj.mk aD aI p1.1 p2.1 0 ⟨0,gC⟩ ⟨0,gC⟩ ⟨0,gC⟩ 0 0) (λv ⟨hv1,hv2⟩=> ?_) λj8 hj8=> ?_
 ·
  refine Yd.join (λv=>oW v.1/\NV aD aI n v.2.1) (λv hv=>hj5 _ hv) λj10 hj10=> ?_
  refine(qS hv1 (by omega) (by omega) (by omega)).bind λp11 ⟨e1,e2,e3,_⟩=> ?_
  have e4:=e3 (by omega)
  simp only[hv2];refine Yd.join (λv=>oW v.1/\v.2.1.al=aD/\v.2.1.aK=aI/\v.2.1.aG=p1.1/\v.2.1.aa=p2.1/\v.2.1.bC=1/\v.2.1.ab=⟨p11.1,p3.1⟩/\(aM v.2.1.ao=true\/cD v.2.1.ao=true)) (λv ⟨f0,f1,f2,f3,f4,f5,f6,f7⟩=> ?_) λj13 hj13=> ?_
  ·rw[f6];have g1:aA .i64 p11.1 1=p11.1+1:=bH (by omega) (by omega)
   simp only[g1];refine(sO f0 (by omega)).bind λp14 ⟨k1,k2,k3,_⟩=> ?_
   have k4:=k3 (by omega)
   have g2:aA .i64 p14.1 1=p14.1+1:=bH (by omega) (by omega)
   simp only[g2];refine(sO k1 (by omega)).bind λp15 ⟨l1,l2,l3,_⟩=> ?_
   have hTr:∀t,t=p2.1->dD t=some 0:=λt ht=>by rw[ht];exact eH b2
   have done:∀e:aj,e.al=aD->e.aK=aI->e.aG=p1.1->e.aa=p2.1->e.ab=⟨p11.1,p3.1⟩->gK 0 e=true->NV aD aI n e:=by
    intro e h1 h2 h3 h4 h5 h6;exact⟨h1,h2,by rw[h3];exact⟨a2,a4⟩,by rw[h4];exact b2,by rw[h4];exact b3,by rw[h4];exact b4,by rw[h5];exact c2,h6⟩
   refine Yd.join (λw=>w.1.al=aD/\w.1.aK=aI/\w.1.aG=p1.1/\w.1.aa=p2.1/\w.1.bC=1/\w.1.ab=⟨p11.1,p3.1⟩/\(aM w.1.ao=true\/cD w.1.ao=true)/\(gK 0 w.1=true\/w.1.aY=0)) (λw ⟨m1,m2,m3,m4,m5,m6,m7,m8⟩=> ?_) λj17 hj17=> ?_
   ·refine Yd.join (λw=>w.1.al=aD/\w.1.aK=aI/\w.1.aG=p1.1/\w.1.aa=p2.1/\w.1.bC=1/\w.1.ab=⟨p11.1,p3.1⟩/\(aM w.1.ao=true\/cD w.1.ao=true)/\(gK 0 w.1=true\/w.1.aY=0/\w.1.bq=0)) (λw ⟨o1,o2,o3,o4,o5,o6,o7,o8⟩=> ?_) λj19 hj19=> ?_
    ·rw[sU (hTr _ o4)];simp only[Qa,Fe];refine Yd.cond (λhx=>hj10 _ ⟨l1,done _ o1 o2 o3 o4 o6 hx⟩) (λhx=>hj10 _ ⟨l1,done _ o1 o2 o3 o4 o6 ?_⟩)
     rcases o8 with o8|⟨o8,o9⟩
     ·rw[o8]at hx;cases hx
     ·have q1:finite w.1.ab=true:=by rw[o6];simp[finite,hv p11.1 e2 (by omega)];omega
      have q2:aM (ae.mk 0 bE)=true:=by decide+kernel
      have q3:(aM w.1.ao||cD w.1.ao)=true:=by simpa using o7
      have q4:=hd w.1 o1 o2 o3;have q5:0<=w.1.ab.ai:=by rw[o6];show 0<=p11.1;omega
      simp only[gK,yH,gL,B7,o5,o8,o9,q1,q2,q3,Qt]at q4 ⊢;simp[q4,q5]
    ·rw[sU (hTr _ m4)];simp only[Qa,Fe];refine Yd.cond (λhx=>hj19 _ ⟨m1,m2,m3,m4,m5,m6,m7,.inl hx⟩) (λhx=>hj19 _ ⟨m1,m2,m3,m4,m5,m6,m7,.inr ⟨?_,rfl⟩⟩)
     rcases m8 with m8|m8
     ·rw[m8]at hx;cases hx
     ·exact m8
   ·rw[sU (e:=aj.mk v.2.1.al v.2.1.aK v.2.1.aG v.2.1.aa v.2.1.bC ⟨p11.1,p3.1⟩ v.2.1.ao v.2.1.az p15.1 p14.1) (tv:=0) (hTr _ f4)];simp only[Qa,Fe];refine Yd.cond (λhx=>hj17 _ ⟨f1,f2,f3,f4,f5,rfl,f7,.inl hx⟩) (λhx=>hj17 _ ⟨f1,f2,f3,f4,f5,rfl,f7,.inr rfl⟩)
  ·refine(sO e1 (by omega)).bind λp23 ⟨k1,_⟩=> ?_
   refine Yd.cond (λ_=> ?_) (λ_=> ?_)
   ·refine(Zv k1).bind λp24 ⟨l1,l2,l3,l4⟩=> ?_
    refine(sO l1 (by omega)).bind λp25 ⟨m1,_⟩=> ?_
    have hvl:=Hj (b:=p24.1) l2 (by omega) l4
    refine Yd.cond (λ_=> ?_) (λ_=> ?_)
    ·refine(Zv m1).bind λp26 ⟨o1,_⟩=> ?_
     exact hj13 _ ⟨o1,rfl,rfl,rfl,rfl,rfl,rfl,.inr hvl⟩
    ·exact hj13 _ ⟨m1,rfl,rfl,rfl,rfl,rfl,rfl,.inr hvl⟩
   ·have z0:aM (ae.mk 0 gC)=true:=by decide+kernel
    exact hj13 _ ⟨k1,rfl,rfl,rfl,rfl,rfl,rfl,.inl z0⟩
 ·have z0:aM (ae.mk 0 bE)=true:=by decide+kernel
  refine Yd.cond (λ_=> ?_) (λ_=> ?_)
  ·refine(qS d1 (by omega) (by omega) (by omega)).bind λp27 ⟨e1,e2,e3,_⟩=> ?_
   refine(qS e1 (by omega) (by omega) (by omega)).bind λp28 ⟨f1,f2,f3,_⟩=> ?_
   refine(sO f1 (by omega)).bind λp29 ⟨k1,k2,k3,_⟩=> ?_
   refine(sO k1 (by omega)).bind λp30 ⟨l1,l2,l3,_⟩=> ?_
   have e4:=e3 (by omega)
   have f4:=f3 (by omega)
   have k4:=k3 (by omega)
   have l4:=l3 (by omega)
   have g1:aA .i64 p28.1 p29.1=p28.1+p29.1:=bH (by omega) (by omega)
   have g2:aA .i64 (p28.1+p29.1) p30.1=p28.1+p29.1+p30.1:=bH (by omega) (by omega)
   simp only[g1,g2];refine hj5 _ ⟨l1,⟨rfl,rfl,⟨a2,a4⟩,b2,b3,b4,c2,?_⟩⟩;have q4:=hd ⟨aD,aI,p1.1,p2.1,2,⟨p27.1,p3.1⟩,⟨p28.1+p29.1+p30.1,p3.1⟩,⟨0,bE⟩,p28.1,p28.1+p29.1⟩ rfl rfl rfl;have q5:=hv p27.1 e2 (by omega)
   have q6:=hv (p28.1+p29.1+p30.1) (by omega) (by omega)
   have r1:p27.1<=1000:=by omega
   have r2:p28.1<=p28.1+p29.1:=by omega
   have r3:p28.1+p29.1<=1000:=by omega
   have r4:p28.1+p29.1<=p28.1+p29.1+p30.1:=by omega
   simp[gK,q4,uO,finite,q5,q6,bQ,z0,s5,r1,f2,r3,r4];omega
  ·refine Yd.cond (λ_=> ?_) (λ_=> ?_)
   ·refine(sO d1 (by omega)).bind λp31 ⟨e1,_⟩=> ?_
    refine Yd.cond (λ_=> ?_) (λ_=>hj8 _ ⟨e1,rfl⟩)
    refine(qS e1 (by omega) (by omega) (by omega)).bind λp32 ⟨f1,f2,f3,_⟩=> ?_
    refine(qS f1 (by omega) (by omega) (by omega)).bind λp33 ⟨k1,k2,k3,_⟩=> ?_
    refine(sO k1 (by omega)).bind λp34 ⟨l1,l2,l3,_⟩=> ?_
    have f4:=f3 (by omega)
    have k4:=k3 (by omega)
    have l4:=l3 (by omega)
    have g1:aA .i64 p33.1 p34.1=p33.1+p34.1:=bH (by omega) (by omega)
    simp only[g1];refine hj5 _ ⟨l1,⟨rfl,rfl,⟨a2,a4⟩,b2,b3,b4,c2,?_⟩⟩
    grind [gK,Al,s5]
   ·exact hj8 _ ⟨d1,rfl⟩
end
section
inductive cQ:ak->Prop where
 |mk (t:ak) (h1:t.aX.length<=1000000) (h2:t.aL.length<=1000000) (h3:∀u∈t.aL,cQ u):cQ t
def cQ.nodes{t:ak}:cQ t->t.aX.length<=1000000| .mk _ h _ _=>h
def cQ.len{t:ak}:cQ t->t.aL.length<=1000000| .mk _ _ h _=>h
def cQ.inner{t:ak}:cQ t->∀u∈t.aL,cQ u| .mk _ _ _ h=>h
def qM{t u:ak}(h:u∈t.aL):SizeOf.sizeOf u<SizeOf.sizeOf t:=by
 have h1:=List.sizeOf_lt_of_mem h
 cases t with
 |mk th ns is=>
  grind
def dO.sm{t:ak}(h:dO t):cQ t:=by
 have:=h.len;refine .mk t (by omega) ?_ λu hu=> ?_
 ·rcases h.inner with e|⟨x,_,_,e⟩<;>rw[e]<;>simp
 ·rcases h.inner with e|⟨x,_,_,e⟩
  ·rw[e]at hu;cases hu
  ·rw[e]at hu;simp only[Q5]at hu;subst hu;exact .mk _ (by simp) (by simp) (by simp)
@[simp] def aaP (l:List Int) (h:l.length<=1000000):jS l=some l:=by
 unfold jS;rw[bK (by simp;omega)]
 cases l with
 |nil|cons x l=>simp
def aa9{n:Nat}:∀{t:ak},SizeOf.sizeOf t<n->cQ t->vH n (t,())=some t:=by
 induction n with
 |zero=>intro t h;omega
 |succ n ih=>
  intro t hs hm;show vN (vH n) t=some t;unfold vN;have hl:=hm.len;rw[aaP _ hm.nodes,Qa]
  suffices key:∀(k i:Nat) (t':ak),i+k=t.aL.length->t'.aH=t.aH->t'.aX=t.aX->aB (λ(v2:Int×ak×(List ak)×Unit)=>
    bif (decide (v2.1<((List.length t.aL:Nat):Int)))then
    Option.bind (idx t.aL v2.1) λx3=>
    Option.bind (vH n ((ak.mk x3.aH x3.aX x3.aL),())) λr4=>
    bif bl 56 (List.length v2.2.2.1+List.length [(ak.mk r4.aH r4.aX r4.aL)])then
    some (Sum.inl ((aA .i64 v2.1 (1:Int)),(ak.mk v2.2.1.aH v2.2.1.aX ([]:List ak)),(v2.2.2.1++[(ak.mk r4.aH r4.aX r4.aL)]),()))
    else none
    else
    Option.map Sum.inr (some (ak.mk v2.2.1.aH v2.2.1.aX v2.2.2.1))) ((i:Int),t',t.aL.take i,())=some t by
   have:=key t.aL.length 0 ⟨t.aH,t.aX,[]⟩ (by omega) rfl rfl
   simpa using this
  intro k
  induction k with
  |zero=>
   grind [bM,ak.eta]
  |succ k ihk=>
   intro i t' hi h1 h2;have hlt:i<t.aL.length:=by omega
   have hd:decide ((i:Int)<(t.aL.length:Int))=true:=Qg (by omega)
   have hx:idx t.aL (i:Int)=some t.aL[i]:=by rw[bg];exact Qv hlt
   have hw:aA .i64 (i:Int) 1=((i+1:Nat):Int):=bH (by omega) (by omega)
   have hmem:t.aL[i]∈t.aL:=Q0 hlt;have hr:=ih (t:=t.aL[i]) (by have:=qM hmem;omega) (hm.inner _ hmem)
   rw[bw (s':=(((i+1:Nat):Int),⟨t'.aH,t'.aX,[]⟩,t.aL.take (i+1),()))]
   ·exact ihk (i+1) _ (by omega) h1 h2
   ·simp only[hd,Qk,hx,hw,Qa,etas,hr];rw[bK (by simp;omega),Q7 hlt]
    rfl
@[simp] def kF {t:ak} (h:cQ t):eL t=some t:=aa9 (by omega) h
def Aj{α σ ρ:Type}{g:α->σ->Option (σ⊕ρ)}{fin:σ->Option ρ}(hf:∀s,∃r,fin s=some r):∀(l:List α),(∀x∈l,∀s,∃y,g x s=some y)->∀s,∃r,fD g fin l s=some r
 |[],_,s=>hf s
 |x::l,h,s=>by
  obtain⟨y,hy⟩:=h x (by simp) s
  rw[fD,hy]
  cases y with
  |inr r=>exact⟨r,rfl⟩
  |inl s'=>exact Aj hf l (λx hx=>h x (by simp[hx])) s'
theorem Kf{α σ ρ:Type}{g g':α->σ->Option (σ⊕ρ)}{fin:σ->Option ρ}:∀(l:List α),(∀x∈l,∀s,g x s=g' x s)->∀s,fD g fin l s=fD g' fin l s
 |[],_,s=>rfl
 |x::l,h,s=>by
  rw[fD,fD,h x (by simp) s]
  cases g' x s with
  |none=>rfl
  |some y=>
   cases y with
   |inr r=>rfl
   |inl s'=>exact Kf l (λx hx=>h x (by simp[hx])) s'
def Kk{n:Nat}:∀{t:ak},SizeOf.sizeOf t<n->cQ t->∃d,nM n (t,())=some d:=by
 induction n with
 |zero=>intro t h;omega
 |succ n ih=>
  intro t hs hm;show∃d,jB (nM n) t=some d;have hl:=hm.len;rw[OY (by omega)]
  refine Aj (λs=>⟨_,rfl⟩) _ (λu hu s=> ?_) _
  obtain⟨d,hd⟩:=ih (t:=u) (by have:=qM hu;omega) (hm.inner u hu)
  exact⟨_,by rw[hd];rfl⟩
def LP{n:Nat}:∀{t:ak},SizeOf.sizeOf t<n->cQ t->∃d,oX n (t,())=some d:=by
 induction n with
 |zero=>intro t h;omega
 |succ n ih=>
  intro t hs hm;show∃d,kx (oX n) t=some d;have hl:=hm.len;rw[Uc (by omega)]
  refine Aj (λs=>⟨_,rfl⟩) _ (λu hu s=> ?_) _
  obtain⟨d,hd⟩:=ih (t:=u) (by have:=qM hu;omega) (hm.inner u hu)
  exact⟨_,by rw[hd];rfl⟩
def HX{rec:ak->Option Int}{t:ak}(h:∀u∈t.aL,∃r,rec u=some r):∃r,rG rec t=some r:=by
 unfold rG;split
 ·exact⟨_,rfl⟩
 ·split
  ·exact⟨_,rfl⟩
  ·split
   ·refine Aj (λs=>⟨_,rfl⟩) _ (λu hu s=> ?_) _
    obtain⟨r,hr⟩:=h u hu;exact⟨_,by rw[hr];rfl⟩
   ·exact⟨_,rfl⟩
theorem SO{rec rec':ak->Option Int}{t:ak}(h:∀u∈t.aL,rec u=rec' u):rG rec t=rG rec' t:=by
 grind [rG,Kf]
def Uy{n:Nat}:∀{t:ak},SizeOf.sizeOf t<n->cQ t->∃d,fH n (t,())=some d/\pR n (t,())=some d:=by
 induction n with
 |zero=>intro t h;omega
 |succ n ih=>
  intro t hs hm;show∃d,iu (fH n) t=some d/\ny (pR n) t=some d;have hl:=hm.len;have hn:=hm.nodes;rw[Jq (by omega) (by omega),OZ (by omega) (by omega)]
  have hih:∀u∈t.aL,∃r,fH n (u,())=some r/\pR n (u,())=some r:=λu hu=>ih (t:=u) (by have:=qM hu;omega) (hm.inner u hu)
  obtain⟨r,hr⟩:=HX (rec:=λu=>fH n (u,())) (t:=t) λu hu=>by obtain⟨r,h1,_⟩:=hih u hu;exact⟨r,h1⟩
  grind [SO]
def acX{n:Nat}:∀{t:ak},SizeOf.sizeOf t<n->cQ t->∃d,fH n (t,())=some d:=by
 induction n with
 |zero=>intro t h;omega
 |succ n ih=>
  intro t hs hm;show∃d,iu (fH n) t=some d;have hl:=hm.len;have hn:=hm.nodes;rw[Jq (by omega) (by omega)]
  exact HX (rec:=λu=>fH n (u,())) (t:=t) λu hu=>ih (t:=u) (by have:=qM hu;omega) (hm.inner u hu)
theorem ab2{t:ak}(h:cQ t):∃v,bS t=some v:=by
 obtain⟨d,hd⟩:∃d,jt t=some d:=Kk (by omega) h
 obtain⟨z,hz⟩:∃z,kj t=some z:=LP (by omega) h
 obtain⟨l,hl1⟩:∃l,lx t=some l:=acX (by omega) h
 simp[bS,hd,hz,hl1]
theorem VY{t:ak}(h:cQ t):∃v,bS t=some v/\dD t=some v:=by
 obtain⟨d,hd⟩:∃d,jt t=some d:=Kk (by omega) h
 obtain⟨z,hz⟩:∃z,kj t=some z:=LP (by omega) h
 obtain⟨l,hl1,hl2⟩:∃l,lx t=some l/\tj t=some l:=Uy (by omega) h
 simp[bS,dD,Pg,Sc,hd,hz,hl1,hl2]
 def Fy(t:ak):Int:=(bS t).getD 1
def IU{t:ak}(h:cQ t):bS t=some (Fy t):=by
 grind [ab2,Fy]
def Fx{t:ak}(h:cQ t):dD t=some (Fy t):=by
 grind [VY,Fy]
def Aq{t:ak}(h:dO t):Fy t=0:=by rw[Fy,eC h];rfl
 def bc(e:aj):Bool:=gK (Fy e.aa) e
def qP{e:aj}(h:cQ e.aa):dt e=some (bc e):=zf (IU h)
def jC{e:aj}(h:cQ e.aa):c7 e=some (bc e):=sU (Fx h)
def oS(s:Nat)(x:Int):Bool:=fI x&&s.testBit x.toNat
theorem sH{s:Nat}(h:s<1024)(x:Int):wa s x=oS s x:=by
 grind [wa,oS]
mutual
def lE(s:Nat):ak->Bool
 |⟨th,ns,is⟩=>decide (th<=((ns.countP (oS s)+yd s is:Nat):Int))
def yd(s:Nat):List ak->Nat
 |[]=>0
 |t::l=>(if lE s t then 1 else 0)+yd s l
end
def N0(s:Nat)(t:ak):lE s t=decide (t.aH<=((t.aX.countP (oS s)+yd s t.aL:Nat):Int)):=by
 cases t;rw[lE]
def Gt(s:Nat)(hs:s<1024)(fin:Int->Option Bool):∀(l:List Int) (n:Nat),n+l.length<=9000000->
  fD (λx (m:Int)=>some (.inl (if wa s x then aA .i64 m 1 else m))) fin l n=fin ((n+l.countP (oS s):Nat):Int)
 |[],n,_=>by simp[fD]
 |x::l,n,h=>by
  simp at h;rw[fD,sH hs,List.countP_cons]
  cases hx:oS s x with
  |false=>
   simp only[Qq,Qu,Nat.add_zero];exact Gt s hs fin l n (by omega)
  |true=>
   simp only[Qt];rw[bH (by omega) (by omega)]
   rw[show(n:Int)+1=((n+1:Nat):Int)by omega,Gt s hs fin l (n+1) (by omega)]
   congr 2;omega
def KC(s:Nat)(rec:ak->Option Bool)(fin:Int->Option Bool):∀(l:List ak) (n:Nat),n+l.length<=9000000->(∀u∈l,rec u=some (lE s u))->
  fD (λu (m:Int)=>(rec u).map λr=> .inl (if r then aA .i64 m 1 else m)) fin l n=fin ((n+yd s l:Nat):Int)
 |[],n,_,_=>by simp[fD,yd]
 |u::l,n,h,hr=>by
  simp at h;rw[fD,hr u (by simp),yd]
  cases hx:lE s u with
  |false=>
   simp only[Qe,Qq,Qu,Nat.zero_add];exact KC s rec fin l n (by omega) λu hu=>hr u (by simp[hu])
  |true=>
   simp only[Qe,Qt];rw[bH (by omega) (by omega)]
   rw[show(n:Int)+1=((n+1:Nat):Int)by omega,KC s rec fin l (n+1) (by omega) λu hu=>hr u (by simp[hu])]
   congr 2;omega
def agr{rec:(ak×Int×Unit)->Option Bool}{t:ak}{s:Nat}(hs:s<1024)(hm:cQ t)(hr:∀u∈t.aL,rec (u,(s:Int),())=some (lE s u)):lB rec t s=some (lE s t):=by
 unfold lB;have hn:=hm.nodes;have hl:=hm.len;have hv:eP (s:Int)=some true:=by unfold eP;simp;omega
 rw[hv];simp only[Qa,Qo,Ql,aQ];rw[ig t.aX (by omega) (λi (m:Int)=>(m,i,())) (λx (m:Int)=>some (.inl (if wa s x then aA .i64 m 1 else m))) (λm=>fD (λu (m:Int)=>(rec (u,(s:Int),())).map λr=> .inl (if r then aA .i64 m 1 else m)) (λm=>some (decide (t.aH<=m))) t.aL m) (λi x m hd hx hw=> ?_) (λm hd=> ?_) 0]
 ·rw[show(0:Int)=((0:Nat):Int)from rfl,Gt s hs _ t.aX 0 (by omega)]
  rw[KC s (λu=>rec (u,(s:Int),())) _ t.aL _ (by have:=List.countP_le_length (p:=oS s) (l:=t.aX);omega) hr,N0]
  simp
 ·grind [lX,wa]
 ·simp only[hd,Ql];rw[ig t.aL (by omega) (λi (m:Int)=>(m,i,())) (λu (m:Int)=>(rec (u,(s:Int),())).map λr=> .inl (if r then aA .i64 m 1 else m)) (λm=>some (decide (t.aH<=m))) (λi x m hd hx hw=> ?_) (λm hd=> ?_) m]
  ·simp only[hd,hx,hw,Qk,Qa,etas]
   cases rec (x,(s:Int),())with
   |none=>rfl
   |some r=>cases r<;>rfl
  ·simp only[hd,Ql]
def agn{s:Nat}(hs:s<1024){n:Nat}:∀{t:ak},SizeOf.sizeOf t<n->cQ t->rh n (t,(s:Int),())=some (lE s t):=by
 induction n with
 |zero=>intro t h;omega
 |succ n ih=>
  intro t hz hm;show lB (rh n) t s=some (lE s t);exact agr hs hm λu hu=>ih (t:=u) (by have:=qM hu;omega) (hm.inner u hu)
def Bb{s:Nat}(hs:s<1024){t:ak}(hm:cQ t):ly t s=some (lE s t):=agn hs (by omega) hm
def Wm(t:ak)(s:Int):ly t s=iJ t s:=by
 have hB:∀(rec:(ak×Int×Unit)->Option Bool) (t:ak) (s:Int),lB rec t s=nk rec t s:=by
  grind [lB,nk,eP,fT,OS,lX,pj]
 grind [ly,iJ,rh,xT]
def IJ{s:Nat}(hs:s<1024){t:ak}(hm:cQ t):iJ t s=some (lE s t):=by rw[<-Wm];exact Bb hs hm
def YP{s s':Nat}(h:∀k,s.testBit k=true->s'.testBit k=true)(x:Int)(hx:oS s x=true):oS s' x=true:=by
 grind [oS]
mutual
def Pc{s s':Nat}(h:∀k,s.testBit k=true->s'.testBit k=true):∀(t:ak),lE s t=true->lE s' t=true
 |⟨th,ns,is⟩,ht=>by
  rw[lE,Qi]at ht ⊢;have h1:=Pd h is;have h2:ns.countP (oS s)<=ns.countP (oS s'):=List.countP_mono_left λx _ hx=>YP h x hx
  omega
def Pd{s s':Nat}(h:∀k,s.testBit k=true->s'.testBit k=true):∀(l:List ak),yd s l<=yd s' l
 |[]=>by simp[yd]
 |t::l=>by
  have h1:=Pd h l;have h2:=Pc h t;rw[yd,yd]
  cases hs:lE s t with
  |false=>simp;omega
  |true=>rw[h2 hs];simp;omega
end
end
section
def acg(s:Int):eP s=some (decide (0<=s)&&decide (s<1024)):=by
 unfold eP;simp;congr 1;rw[decide_eq_decide];omega
def BC{s:Nat}(h:s<1024):fT (s:Int)=some true:=by rw[OS];simp;omega
def wD{s:Nat}(h:s<1024):eP (s:Int)=some true:=by rw[acg];simp;omega
def Ko(a b:Nat)(ha:a<2 ^ 62)(hb:b<2 ^ 62):∃c:Nat,zX .i64 (a:Int) (b:Int)=(c:Int)/\c<=a/\∀k,c.testBit k=(a.testBit k&& !b.testBit k):=by
 refine⟨((BitVec.ofInt 64 (a:Int)&&& ~~~ BitVec.ofInt 64 (b:Int)).toNat),?_,?_,λk=> ?_⟩
 ·have hle:(BitVec.ofInt 64 (a:Int)&&& ~~~ BitVec.ofInt 64 (b:Int)).toNat<=a:=by
   rw[BitVec.toNat_and,uy a ha];exact Nat.and_le_left
  show IntKind.i64.wrap (((BitVec.ofInt 64 (a:Int)&&& ~~~ BitVec.ofInt 64 (b:Int)).toNat:Nat):Int)=_;exact Ck _ (by omega)
 ·rw[BitVec.toNat_and,uy a ha];exact Nat.and_le_left
 ·have h1:∀i (x:Nat),x<2 ^ 62->(BitVec.ofInt 64 (x:Int)).getLsbD i=x.testBit i:=by
   intro i x hx;rw[<-BitVec.testBit_toNat,uy x hx]
  rw[BitVec.testBit_toNat,BitVec.getLsbD_and,BitVec.getLsbD_not,h1 k a ha,h1 k b hb]
  by_cases hk:k<64
  ·simp[hk]
  ·have:a.testBit k=false:=Nat.testBit_lt_two_pow (QJ ha (Nat.pow_le_pow_right (by omega) (by omega)))
   simp[this]
def Cc{a b:Nat}(h:∀k,a.testBit k=b.testBit k):a=b:=Nat.eq_of_testBit_eq h
def Nx{s k:Nat}(hs:s<1024)(hk:s.testBit k=true):k<10:=by
 rcases Nat.lt_or_ge k 10 with h|h
 ·exact h
 ·have:s.testBit k=false:=Nat.testBit_lt_two_pow (QJ hs (show 2 ^ 10<=2 ^ k from Nat.pow_le_pow_right (by omega) h))
  rw[this]at hk;cases hk
def I6{s:Nat}(h:∀k,s.testBit k=true->k<10):s<1024:=by
 rcases Nat.lt_or_ge s 1024 with h1|h1
 ·exact h1
 ·obtain⟨k,hk1,hk2⟩:=Nat.exists_ge_and_testBit_of_ge_two_pow (n:=10) h1;have:=h k hk2;omega
theorem xu(s k:Nat):oS s (k:Int)=(decide (k<10)&&s.testBit k):=by
 have h1:decide ((k:Int)<10)=decide (k<10):=by rw[decide_eq_decide];omega
 have h2:decide (0<=(k:Int))=true:=Qg (by omega)
 simp only[oS,fI,h1,h2,Bool.true_and,QV]
def Gq(i:Nat)(s:Nat):List bf->Nat
 |[]=>s
 |m::l=>Gq (i+1) (if m.fm&&decide (i<10)then s|||2 ^ i else s) l
def jG(l:List bf):Nat:=Gq 0 0 l
def PZ:∀(l:List bf) (i s k:Nat),(Gq i s l).testBit k=(s.testBit k||(decide (i<=k)&&decide (k<10)&&((l[k - i]?).any (·.fm))))
 |[],i,s,k=>by simp[Gq]
 |m::l,i,s,k=>by
  rw[Gq,PZ l (i+1)]
  by_cases hk:k=i
  ·subst hk;have h1:¬(k+1<=k):=by omega
   cases hm:m.fm<;>by_cases hi:k<10<;>simp[hm,hi,h1,Nat.testBit_or]
  ·have h2:i<=k↔i+1<=k:=by omega
   have h3:∀b:Bool,(if(b&&decide (i<10))=true then s|||2 ^ i else s).testBit k=s.testBit k:=by
    intro b;split
    ·rw[Nat.testBit_or,Nat.testBit_two_pow];have:¬i=k:=λe=>hk e.symm
     simp[this]
    ·rfl
   rw[h3]
   by_cases hik:i+1<=k
   ·have h4:(m::l)[k - i]?=l[k - (i+1)]?:=by
     rw[show k - i=(k - (i+1))+1 by omega,List.getElem?_cons_succ]
    rw[h4];have:i<=k:=by omega
    simp[this,hik]
   ·have:¬i<=k:=by omega
    simp[this,hik]
def PY(l:List bf)(k:Nat):(jG l).testBit k=(decide (k<10)&&((l[k]?).any (·.fm))):=by
 rw[jG,PZ];simp
def C1(l:List bf):jG l<1024:=I6 λk hk=>by
 rw[PY]at hk;simp at hk;exact hk.1
def PX(step:(Int×Int×Unit)->Option ((Int×Int×Unit)⊕Int))(l:List bf)
  (h1:∀(i:Nat) (m:bf) (s:Nat),l[i]?=some m->s<1024->step ((s:Int),(i:Int),())=some (.inl (((if m.fm&&decide (i<10)then s|||2 ^ i else s:Nat):Int),((i+1:Nat):Int),())))
  (h2:∀s:Int,step (s,(l.length:Int),())=some (.inr s)):aB step (0,0,())=some ((jG l:Nat):Int):=by
 suffices key:∀(k i s:Nat),i+k=l.length->s<1024->aB step ((s:Int),(i:Int),())=some ((Gq i s (l.drop i):Nat):Int)by
  have:=key l.length 0 0 (by omega) (by omega)
  simpa[jG]using this
 intro k
 induction k with
 |zero=>
  intro i s hi hs;obtain rfl:i=l.length:=by omega
  rw[bM (h2 s),Qq66];rfl
 |succ k ih=>
  intro i s hi hs;have hlt:i<l.length:=by omega
  rw[QM hlt,Gq,bw (h1 i l[i] s (Qv hlt) hs)];refine ih (i+1) _ (by omega) ?_
  split
  ·rename_i hc;simp only[Qm,Qi]at hc;have:=Ad (x:=(i:Int)) hs (by omega)
   simpa using this
  ·exact hs
def Kr{c:bd}(h:c.bn.length<=1000000):iX c=some ((jG c.bn:Nat):Int):=by
 unfold iX;refine PX _ _ (λi m s hm hs=> ?_) (λs=> ?_)
 ·have hlt:i<c.bn.length:=(Qw.1 hm).1;have hd:decide ((i:Int)<(c.bn.length:Int))=true:=Qg (by omega)
  have hw:aA .i64 (i:Int) 1=((i+1:Nat):Int):=bH (by omega) (by omega)
  have hx:idx c.bn (i:Int)=some m:=by rw[bg];exact hm
  have h0:¬(i:Int)<0:=by omega
  simp only[hd,hx,hw,Qk,Qa,aQ,h0,Qu]
  cases m.fm with
  |false=>simp
  |true=>
   by_cases h10:i<10
   ·have:(i:Int)<10:=by omega
    have ho:=pL (x:=(i:Int)) hs (by omega) (by omega)
    simp only[QV]at ho;simp[this,h10,ho]
   ·have:¬(i:Int)<10:=by omega
    simp[this,h10]
 ·have hd:decide ((c.bn.length:Int)<(c.bn.length:Int))=false:=Qh (Qq64 _);simp only[hd,Ql,Qe]
def Cs{c:bd}(h:c.bn.length<=1000000):pd c=some ((jG c.bn:Nat):Int):=by
 unfold pd;refine PX _ _ (λi m s hm hs=> ?_) (λs=> ?_)
 ·have hlt:i<c.bn.length:=(Qw.1 hm).1;have hd:decide ((i:Int)<(c.bn.length:Int))=true:=Qg (by omega)
  have hw:aA .i64 (i:Int) 1=((i+1:Nat):Int):=bH (by omega) (by omega)
  have hx:idx c.bn (i:Int)=some m:=by rw[bg];exact hm
  have h0:¬(i:Int)<0:=by omega
  simp only[hd,hx,hw,Qk,Qa,aQ,h0,Qu]
  by_cases h10:i<10
  ·have:(i:Int)<10:=by omega
   have ho:=pL (x:=(i:Int)) hs (by omega) (by omega)
   simp only[QV]at ho;cases m.fm<;>simp[this,h10,ho]
  ·have:¬(i:Int)<10:=by omega
   cases m.fm<;>simp[this,h10]
 ·have hd:decide ((c.bn.length:Int)<(c.bn.length:Int))=false:=Qh (Qq64 _);simp only[hd,Ql,Qe]
structure zo (c:bd):Prop where
 len:c.bn.length<=1000000
 aO:∀m∈c.bn,cQ m.aa
def oy(l:List bf)(k:Nat):ak:=((l[k]?).map (·.aa)).getD ⟨0,[],[]⟩
def s7(l:List bf)(k:Nat):Bool:=(jG l).testBit k
def yE{l:List bf}{k:Nat}(h:s7 l k=true):k<10/\∃m,l[k]?=some m/\m.fm=true:=by
 rw[s7,PY]at h;simp only[Qm,Qi,Option.any_eq_true]at h;obtain⟨h1,m,h2,h3⟩:=h;exact⟨h1,m,h2,h3⟩
def z8{l:List bf}{k:Nat}{m:bf}(h:l[k]?=some m):oy l k=m.aa:=by rw[oy,h];rfl
def B8(s v:Nat):Nat:=(1023^^^s)|||2 ^ v
def zW(l:List bf)(v s:Nat):Bool:=s7 l v&& !lE (B8 s v) (oy l v)
def abj(k:Nat):(1023:Nat).testBit k=decide (k<10):=by
 rw[show(1023:Nat)=2 ^ 10 - 1 from rfl,Nat.testBit_two_pow_sub_one]
def BK{s:Nat}(hs:s<1024)(v k:Nat):(B8 s v).testBit k=(decide (k<10)&& !s.testBit k||decide (v=k)):=by
 rw[B8,Nat.testBit_or,Nat.testBit_xor,abj,Nat.testBit_two_pow]
 by_cases hk:k<10
 ·simp[hk]
 ·have:s.testBit k=false:=by
   cases h:s.testBit k with
   |false=>rfl
   |true=>exact absurd (Nx hs h) hk
  simp[hk,this]
def Pz{s v:Nat}(hs:s<1024)(hv:v<10):B8 s v<1024:=I6 λk hk=>by
 rw[BK hs]at hk;simp at hk;omega
def Ut{s v:Nat}(hs:s<1024)(hv:v<10):qY .i64 (zX .i64 1023 (s:Int)) (bV .i64 1 (v:Int))=((B8 s v:Nat):Int):=by
 obtain⟨c,h1,h2,h3⟩:=Ko 1023 s (by omega) (by omega)
 have h1':zX .i64 1023 (s:Int)=(c:Int):=h1;rw[h1',xe v (by omega),ER c (2 ^ v) (by omega) (Nat.pow_lt_pow_right (by omega) (by omega))]
 congr 1;refine Cc λk=> ?_
 rw[BK hs,Nat.testBit_or,h3,abj,Nat.testBit_two_pow]
def WG{s v:Nat}(hs:s<1024)(hv:v<10):qY .i64 (cU .i64 1023 (s:Int)) (bV .i64 1 (v:Int))=((B8 s v:Nat):Int):=by
 have h1:cU .i64 1023 (s:Int)=((1023 - s:Nat):Int):=by rw[pz (by omega) (by omega)];omega
 rw[h1,xe v (by omega),ER _ (2 ^ v) (by omega) (Nat.pow_lt_pow_right (by omega) (by omega))]
 congr 1;refine Cc λk=> ?_
 rw[BK hs,Nat.testBit_or,Nat.testBit_two_pow]
 have h2:(1023 - s).testBit k=(decide (k<10)&& !s.testBit k):=by
  have:=Nat.testBit_two_pow_sub_succ (x:=s) (n:=10) (by omega) k
  rw[show 2 ^ 10 - (s+1)=1023 - s by omega]at this
  exact this
 rw[h2]
def Rh{c:bd}(hc:zo c){v s:Nat}(hs:s<1024):nW c v s=some (zW c.bn v s):=by
 unfold nW zW;rw[BC hs,Kr hc.len];simp only[Qa,Qo,Ql,pj,sH (C1 _),xu]
 cases hd:s7 c.bn v with
 |false=>
  have:(decide (v<10)&&(jG c.bn).testBit v)=false:=by
   rw[show(jG c.bn).testBit v=s7 c.bn v from rfl,hd];simp
  simp[this]
 |true=>
  obtain⟨h10,m,hm,hdm⟩:=yE hd
  have:(decide (v<10)&&(jG c.bn).testBit v)=true:=by
   rw[show(jG c.bn).testBit v=s7 c.bn v from rfl,hd];simp[h10]
  rw[bg,hm,Ut hs h10];have h0:¬(v:Int)<0:=by omega
  have hmem:m∈c.bn:=Q8 hm;simp only[this,Qo,Ql,Qa,h0,Qu,etas,IJ (Pz hs h10) (hc.aO m hmem),z8 hm,Bool.true_and]
def Me{c:bd}(hc:zo c){v s:Nat}(hs:s<1024):rZ c v s=some (zW c.bn v s):=by
 unfold rZ zW;rw[wD hs,Cs hc.len];simp only[Qa,Qo,Ql,lX,sH (C1 _),xu]
 cases hd:s7 c.bn v with
 |false=>
  have:(decide (v<10)&&(jG c.bn).testBit v)=false:=by
   rw[show(jG c.bn).testBit v=s7 c.bn v from rfl,hd];simp
  simp[this]
 |true=>
  obtain⟨h10,m,hm,hdm⟩:=yE hd
  have:(decide (v<10)&&(jG c.bn).testBit v)=true:=by
   rw[show(jG c.bn).testBit v=s7 c.bn v from rfl,hd];simp[h10]
  rw[bg,hm,WG hs h10];have h0:¬(v:Int)<0:=by omega
  have hmem:m∈c.bn:=Q8 hm;simp only[this,Qo,Ql,Qa,h0,Qu,etas,Bb (Pz hs h10) (hc.aO m hmem),z8 hm,Bool.true_and]
end
section
def nG(s:Nat):List Int:=(wy 10).filter (oS s)
theorem acV{n:Nat}{x:Int}:x∈wy n↔∃k:Nat,k<n/\x=k:=by
 grind [wy]
def BN{s:Nat}{x:Int}:x∈nG s↔∃k:Nat,k<10/\x=k/\s.testBit k=true:=by
 grind [nG,acV,xu]
theorem MB(step:(Int×List Int×Unit)->Option ((Int×List Int×Unit)⊕List Int))(s:Nat)
  (h1:∀(i:Nat) (acc:List Int),i<10->acc.length<=i->step ((i:Int),acc,())=some (.inl (((i+1:Nat):Int),(if oS s i then acc++[(i:Int)]else acc),())))
  (h2:∀acc,step (((10:Nat):Int),acc,())=some (.inr acc)):aB step (0,[],())=some (nG s):=by
 suffices key:∀(k i:Nat) (acc:List Int),i+k=10->acc=(wy i).filter (oS s)->aB step ((i:Int),acc,())=some (nG s)from key 10 0 [] rfl rfl
 intro k
 induction k with
 |zero=>
  intro i acc hi ha;obtain rfl:i=10:=by omega
  rw[bM (h2 acc),ha];rfl
 |succ k ih=>
  intro i acc hi ha;have hlen:acc.length<=i:=by rw[ha];exact QK (List.length_filter_le _ _) (by simp)
  rw[bw (h1 i acc (by omega) hlen)]
  refine ih (i+1) _ (by omega) ?_
  rw[RX,List.filter_append,<-ha];cases hh:oS s i<;>simp[hh]
def T7{s:Nat}(hs:s<1024):qD (s:Int)=some (nG s):=by
 grind [qD,MB,aA,bH,aQ,pj,sH,bK,oS]
def HE{s:Nat}(hs:s<1024):tk (s:Int)=some (nG s):=by
 grind [tk,MB,aA,bH,aQ,lX,sH,bK,oS]
def Fl(l:List bf)(s r:Nat):Prop:=∀k,r.testBit k=true->s.testBit k=true/\s7 l k=true/\lE r (oy l k)=true
structure yP (l:List bf) (s q:Nat):Prop where
 inside:Fl l s q
 max:∀r,Fl l s r->∀k,r.testBit k=true->q.testBit k=true
def yP.unique{l:List bf}{s q q':Nat}(h:yP l s q)(h':yP l s q'):q=q':=by
 refine Cc λk=> ?_
 rw[QW];exact⟨h'.max q h.inside k,h.max q' h'.inside k⟩
def yP.lt{l:List bf}{s q:Nat}(h:yP l s q):q<1024:=I6 λk hk=>(yE (h.inside k hk).2.1).1
def oJ(l:List bf)(s:Nat):Option Int:=(nG s).find? λx=> !lE s (oy l x.toNat)
def A7{l:List bf}{s:Nat}{x:Int}(h:oJ l s=some x):∃k:Nat,x=k/\k<10/\s.testBit k=true/\lE s (oy l k)=false:=by
 have h1:=List.mem_of_find?_eq_some h;have h2:=List.find?_some h;obtain⟨k,hk,rfl,hb⟩:=BN.1 h1;simp at h2;exact⟨k,rfl,hk,hb,h2⟩
def Ri{l:List bf}{s:Nat}(hs:s<1024)(h:oJ l s=none):∀k,s.testBit k=true->lE s (oy l k)=true:=by
 intro k hk;have:=List.find?_eq_none.1 h (k:Int) (BN.2 ⟨k,Nx hs hk,rfl,hk⟩);simpa using this
def aca:∀s,s<1024->∀k,k<10->s.testBit k=true->s - 2 ^ k=s^^^2 ^ k:=by decide+kernel
def EF{s k:Nat}(hs:s<1024)(hk:s.testBit k=true):2 ^ k<=s/\∀j,(s - 2 ^ k).testBit j=(s.testBit j&& !decide (k=j)):=by
 have hle:2 ^ k<=s:=Nat.ge_two_pow_of_testBit hk;refine⟨hle,?_⟩;have hx:s - 2 ^ k=s^^^2 ^ k:=aca s hs k (Nx hs hk) hk
 grind
structure oH (l:List bf) (s0 s:Nat):Prop where
 lt:s<1024
 sub:∀k,s.testBit k=true->s0.testBit k=true/\s7 l k=true
 max:∀r,Fl l s0 r->∀k,r.testBit k=true->s.testBit k=true
def oH.first(l:List bf){s:Nat}(hs:s<1024):oH l s (s&&&jG l):=by
 refine⟨Nat.lt_of_le_of_lt Nat.and_le_left hs,λk hk=> ?_,λr hr k hk=> ?_⟩
 ·rw[Nat.testBit_and,Qm]at hk;exact hk
 ·rw[Nat.testBit_and,Qm];exact⟨(hr k hk).1,(hr k hk).2.1⟩
def oH.next{l:List bf}{s0 s k:Nat}(h:oH l s0 s)(hk:s.testBit k=true)(hu:lE s (oy l k)=false):oH l s0 (s - 2 ^ k):=by
 obtain⟨h1,h2⟩:=EF h.lt hk;refine⟨Nat.lt_of_le_of_lt (Nat.sub_le _ _) h.lt,λj hj=> ?_,λr hr j hj=> ?_⟩
 ·rw[h2]at hj;simp at hj;exact h.sub j hj.1
 ·rw[h2,h.max r hr j hj]
  have:k≠j:=by
   intro e;subst e;have:=Pc (λi hi=>h.max r hr i hi) _ (hr k hj).2.2
   rw[hu]at this;cases this
  simp[this]
def oH.done{l:List bf}{s0 s:Nat}(h:oH l s0 s)(hn:oJ l s=none):yP l s0 s:=
 ⟨λk hk=>⟨(h.sub k hk).1,(h.sub k hk).2,Ri h.lt hn k hk⟩,h.max⟩
def PR{l:List Int}{ρ:Type}{f:Int->Bool}{hit:Int->ρ}{fin:Unit->Option ρ}{g:Int->Unit->Option (Unit⊕ρ)}(hg:∀x∈l,∀s,g x s=some (if f x then .inr (hit x)else .inl ())):
  fD g fin l ()=match l.find? f with|some x=>some (hit x)|none=>fin ():=by
 induction l with
 |nil=>rfl
 |cons x l ih=>
  grind [fD]
def yr(s:Nat):(nG s).length<=10:=QK (List.length_filter_le _ _) (by simp)
def V0{c:bd}(hc:zo c){s:Nat}(hs:s<1024)(hsub:∀k,s.testBit k=true->s7 c.bn k=true):
  nU c s=some (match oJ c.bn s with|some x=>(x,true,())|none=>(0,false,())):=by
 unfold nU;rw[T7 hs,Qa];have hlen:=yr s;rw[ig (nG s) (by omega) (λi (_:Unit)=>(i,())) (λx (_:Unit)=>(nV c x s).map λr=>if r then .inl ()else .inr (x,true,())) (λ_=>some (0,false,())) (λi x u hd hx hw=> ?_) (λu hd=> ?_) ()]
 ·rw[PR (f:=λx=> !lE s (oy c.bn x.toNat)) (hit:=λx=>(x,true,()))]
  ·grind [oJ,nG]
  ·intro x hx u;obtain⟨k,hk,rfl,hb⟩:=BN.1 hx;obtain⟨_,m,hm,_⟩:=yE (hsub k hb);unfold nV;rw[bg,hm];simp only[Qa,etas,IJ hs (hc.aO m (Q8 hm)),Qe,QV,z8 hm];cases lE s m.aa<;>rfl
 ·simp only[hd,hx,hw,Qk,Qa]
  cases nV c x s with
  |none=>rfl
  |some r=>cases r<;>rfl
 ·simp only[hd,Ql]
def Xy{s k:Nat}(hs:s<1024)(hk:s.testBit k=true):zX .i64 (s:Int) (bV .i64 1 (k:Int))=((s - 2 ^ k:Nat):Int):=by
 have h10:=Nx hs hk;obtain⟨c,h1,_,h3⟩:=Ko s (2 ^ k) (by omega) (Nat.pow_lt_pow_right (by omega) (by omega))
 rw[xe k (by omega),h1]
 congr 1;refine Cc λj=> ?_
 rw[h3,(EF hs hk).2,Nat.testBit_two_pow]
def UL{c:bd}(hc:zo c){s:Nat}(hs:s<1024):Yd (kL c s) λq=>∃n:Nat,q=n/\yP c.bn s n:=by
 unfold kL tL;rw[BC hs,Kr hc.len];simp only[Qa,Qo,Ql];have hdl:=C1 c.bn;rw[C6 s (jG c.bn) (by omega) (by omega)]
 suffices key:∀(n t:Nat) (out:List Int),t<n->oH c.bn s t->out.length+t<=1024->Yd (aB (λ(v3:Int×(List Int)×Unit)=>
   Option.bind (nU c v3.1) λr4=>
   bif (!r4.2.1)then
   Option.map Sum.inr (some (v3.1,v3.2.1,()))
   else
   bif bl 8 (List.length v3.2.1+List.length [r4.1])then
   if r4.1<0 then none else
   some (Sum.inl ((zX .i64 v3.1 (bV .i64 (1:Int) r4.1)),(v3.2.1++[r4.1]),()))
   else none) ((t:Int),out,())) λp=>∃n:Nat,p.1=n/\yP c.bn s n by
  have hfirst:=oH.first c.bn hs
  have hb:=hfirst.lt;refine(key 1024 (s&&&jG c.bn) [] hb hfirst (by simp;omega)).bind λp hp=>Yd.some hp
 intro n
 induction n with
 |zero=>intro t out h;omega
 |succ n ih=>
  intro t out ht hinv hout;refine Yd.loop ?_;rw[V0 hc hinv.lt λk hk=>(hinv.sub k hk).2]
  simp only[Qa]
  cases hu:oJ c.bn t with
  |none=>exact Yd.some ⟨t,rfl,hinv.done hu⟩
  |some x=>
   obtain⟨k,rfl,hk10,hkb,hks⟩:=A7 hu;have h0:¬(k:Int)<0:=by omega
   have hlb:=(EF hinv.lt hkb).1;have hp:0<2 ^ k:=Nat.pow_pos (by omega)
   simp only[Qo,Ql];rw[bK (by simp;omega),Qs h0,Xy hinv.lt hkb]
   exact Yd.some (ih (t - 2 ^ k) _ (by omega) (hinv.next hkb hks) (by simp;omega))
theorem YQ{c:bd}(hc:zo c){s:Nat}(hs:s<1024):∃q,yP c.bn s q:=by
 suffices key:∀(n t:Nat),t<n->oH c.bn s t->∃q,yP c.bn s q from key _ _ (Nat.lt_succ_self _) (oH.first c.bn hs)
 intro n
 induction n with
 |zero=>intro t h;omega
 |succ n ih=>
  intro t ht hinv
  cases hu:oJ c.bn t with
  |none=>exact⟨t,hinv.done hu⟩
  |some x=>
   obtain⟨k,rfl,_,hkb,hks⟩:=A7 hu;have hp:0<2 ^ k:=Nat.pow_pos (by omega)
   have:=(EF hinv.lt hkb).1;exact ih (t - 2 ^ k) (by omega) (hinv.next hkb hks)
open Classical in
 def gq(l:List bf)(s:Nat):Nat:=if h:∃q,yP l s q then Classical.choose h else 0
def Gk{c:bd}(hc:zo c){s:Nat}(hs:s<1024):yP c.bn s (gq c.bn s):=by
 grind [YQ,gq]
def Kq{c:bd}(hc:zo c){s:Nat}(hs:s<1024):kL c s=some ((gq c.bn s:Nat):Int):=by
 obtain⟨q,h1,n,rfl,h2⟩:=UL hc hs;rw[h1,h2.unique (Gk hc hs)]
def wz(s:Nat):List Int->Nat
 |[]=>s
 |x::l=>wz (s - 2 ^ x.toNat) l
def LI(s:Nat):∀(l:List Int) (x:Int),wz s (l++[x])=wz s l - 2 ^ x.toNat
 |[],x=>rfl
 |y::l,x=>by rw[List.cons_append,wz,LI _ l x,wz]
def Jm(s:Nat):List Int->Prop
 |[]=>True
 |x::l=>(∃k:Nat,x=k/\k<10/\2 ^ k<=s)/\Jm (s - 2 ^ x.toNat) l
def Re{s:Nat}:∀{l:List Int} {k:Nat},Jm s l->k<10->2 ^ k<=wz s l->Jm s (l++[(k:Int)])
 |[],k,_,h1,h2=>⟨⟨k,rfl,h1,h2⟩,trivial⟩
 |_::_,_,h,h1,h2=>⟨h.1,Re h.2 h1 h2⟩
theorem R3{t k:Nat}(hk:k<10)(h:2 ^ k<=t)(ht:t<1024):cU .i64 (t:Int) (bV .i64 1 (k:Int))=((t - 2 ^ k:Nat):Int):=by
 grind [xe,pz]
def ad3{c:bd}(hc:zo c){s:Nat}(hs:s<1024):Yd (tK c s) λout=>Jm (s&&&jG c.bn) out/\yP c.bn s (wz (s&&&jG c.bn) out)/\out.length<=1024:=by
 unfold tK;rw[wD hs,Cs hc.len];simp only[Qa,Qo,Ql];have hdl:=C1 c.bn;rw[C6 s (jG c.bn) (by omega) (by omega)]
 generalize hs0:s&&&jG c.bn=s0
 suffices key:∀(n t:Nat) (b:Bool) (out:List Int),t<n->oH c.bn s t->(b=false->oJ c.bn t=none)->out.length+t<=1024->Jm s0 out->wz s0 out=t->
   Yd (aB (λ(v3:Int×Bool×(List Int)×Unit)=>
    bif v3.2.1 then
    Option.bind (tk v3.1) λr4=>
    aB (λ(v5:Int×Bool×Int×(List Int)×Unit)=>
    bif (decide (v5.2.2.1<((List.length r4:Nat):Int)))then
    Option.bind (idx r4 v5.2.2.1) λx6=>
    Option.bind (idx c.bn x6) λx7=>
    Option.bind (ly (ak.mk x7.aa.aH x7.aa.aX x7.aa.aL) v5.1) λr8=>
    bif (!r8)then
    if x6<0 then none else
    bif bl 8 (List.length v5.2.2.2.1+List.length [x6])then
    Option.map Sum.inr (some (Sum.inl ((cU .i64 v5.1 (bV .i64 (1:Int) x6)),true,(v5.2.2.2.1++[x6]),())))
    else none
    else
    some (Sum.inl (v5.1,v5.2.1,(aA .i64 v5.2.2.1 (1:Int)),v5.2.2.2.1,()))
    else
    Option.map Sum.inr (some (Sum.inl (v5.1,v5.2.1,v5.2.2.2.1,())))) (v3.1,false,(0:Int),v3.2.2.1,())
    else
    Option.map Sum.inr (some v3.2.2.1)) ((t:Int),b,out,())) λout=>Jm s0 out/\yP c.bn s (wz s0 out)/\out.length<=1024 by
  have hfirst:=oH.first c.bn hs
  rw[hs0]at hfirst;have hb:=hfirst.lt;exact key 1024 s0 true [] hb hfirst (λh=>by cases h) (by simp;omega) trivial rfl
 intro n
 induction n with
 |zero=>intro t b out h;omega
 |succ n ih=>
  intro t b out ht hinv hb hout hso hsub;refine Yd.loop ?_
  cases b with
  |false=>
   simp only[Ql];refine Yd.inr (Yd.some ⟨hso,?_,by omega⟩)
   rw[hsub];exact hinv.done (hb rfl)
  |true=>
   simp only[Qk];rw[HE hinv.lt,Qa];have hlen:=yr t;rw[ig (nG t) (by omega) (λi (_:Unit)=>((t:Int),false,i,out,())) (λx (_:Unit)=>some (if !lE t (oy c.bn x.toNat)then .inr (Sum.inl ((cU .i64 (t:Int) (bV .i64 (1:Int) x)),true,(out++[x]),()))else .inl ())) (λ_=>some (Sum.inl ((t:Int),false,out,()))) (λi x u hd hx hw=> ?_) (λu hd=> ?_) ()]
   ·rw[PR (f:=λx=> !lE t (oy c.bn x.toNat)) (hit:=λx=>Sum.inl ((cU .i64 (t:Int) (bV .i64 (1:Int) x)),true,(out++[x]),())) (λx hx u=>rfl)]
    cases hu:oJ c.bn t with
    |none=>
     rw[oJ]at hu;rw[hu];refine Yd.some ?_;refine Yd.loop ?_;simp only[Ql];refine Yd.inr (Yd.some ⟨hso,?_,by omega⟩)
     rw[hsub];exact hinv.done hu
    |some x=>
     obtain⟨k,rfl,hk10,hkb,hks⟩:=A7 hu;rw[oJ]at hu;rw[hu];have hlb:=(EF hinv.lt hkb).1;have hp:0<2 ^ k:=Nat.pow_pos (by omega)
     simp only;rw[R3 hk10 hlb hinv.lt];refine Yd.some (ih (t - 2 ^ k) true _ (by omega) (hinv.next hkb hks) (λh=>by cases h) (by simp;omega) (Re hso hk10 (by rw[hsub];exact hlb)) (by rw[LI,hsub];rfl))
   ·have hmem:x∈nG t:=by
     rw[bg]at hx;exact Q8 hx
    obtain⟨k,hk10,rfl,hkb⟩:=BN.1 hmem;obtain⟨_,m,hm,_⟩:=yE (hinv.sub k hkb).2;have h0:¬(k:Int)<0:=by omega
    simp only[hd,hx,hw,Qk,Qa,bg c.bn,hm,etas,Bb hinv.lt (hc.aO m (Q8 hm)),h0,Qu,QV,z8 hm];rw[bK (by simp;omega)]
    cases lE t m.aa<;>rfl
   ·simp only[hd,Ql]
def HG{c:bd}(hc:zo c){s:Nat}(hs:s<1024):sW c s=some ((gq c.bn s:Nat):Int):=by
 unfold sW;rw[wD hs,Cs hc.len];simp only[Qa,Qo,Ql];have hdl:=C1 c.bn;rw[C6 s (jG c.bn) (by omega) (by omega)]
 obtain⟨out,h1,h2,h3,h4⟩:=ad3 hc hs;rw[h1,Qa];rw[ig out (by omega) (λi (t:Int)=>(t,i,())) (λx (t:Int)=>if x<0 then none else some (.inl (cU .i64 t (bV .i64 1 x)))) (λt=>some t) (λi x u hd hx hw=> ?_) (λu hd=> ?_) _]
 ·rw[<-h3.unique (Gk hc hs)];have hlt:s&&&jG c.bn<1024:=Nat.lt_of_le_of_lt Nat.and_le_left hs;generalize s&&&jG c.bn=t at h2 hlt;clear h1 h3 h4
  induction out generalizing t with
  |nil=>rfl
  |cons x l ih=>
   obtain⟨⟨k,rfl,hk,hle⟩,h2⟩:=h2
   grind [fD,R3,wz]
 ·grind
 ·simp only[hd,Ql]
end
section
structure sv (l:List aj):Prop where
 len:l.length<=100000
 aO:∀e∈l,cQ e.aa
def kZ{e:aj}(h:bc e=true):0<=e.al/\e.al<10:=by
 simp only[bc,gK,yH,Qm,Qi]at h;exact⟨h.1.1.1.1.1.1.1,h.1.1.1.1.1.1.2⟩
def iQ:bf:=⟨false,⟨0,[],[]⟩⟩
 def fu(ms:List bf)(e:aj):List bf:=
 if bc e&& !((ms[e.al.toNat]?).any (·.fm))then ms.set e.al.toNat ⟨true,e.aa⟩else ms
 def jZ(aD:Nat)(t:ak)(l:List aj):List bf:=l.foldl fu ((List.replicate 10 iQ).set aD ⟨true,t⟩)
def yb(ms:List bf)(e:aj):(fu ms e).length=ms.length:=by
 unfold fu;split
 ·rw[QY]
 ·rfl
def EC:∀(l:List aj) (ms:List bf),(l.foldl fu ms).length=ms.length
 |[],_=>rfl
 |e::l,ms=>by rw[QU,EC l,yb]
def Hi(aD:Nat)(t:ak)(l:List aj):(jZ aD t l).length=10:=by
 rw[jZ,EC,QY,List.length_replicate]
def RL{ms:List bf}(hl:ms.length=10){n:Int}(h0:0<=n)(h1:n<10):∃m,ms[n.toNat]?=some m/\idx ms n=some m:=by
 have:n.toNat<ms.length:=by omega
 exact⟨ms[n.toNat],Qv this,by rw[M3 _ h0];exact Qv this⟩
def VQ{aD:Nat}(hn:aD<10){t:ak}(ht:cQ t){l:List aj}(hl:sv l):sb aD t l=some ⟨jZ aD t l⟩:=by
 unfold sb
 have h1:(decide ((10:Int)<=10)&&decide ((0:Int)<=10)&&bl 64 (Int.toNat 10))=true:=by
  rw[bK (by decide)];rfl
 have h2:¬(aD:Int)<0:=by omega
 have h3:¬(10:Int)<=aD:=by omega
 rw[h1];simp only[Qk,h2,h3,decide_false,Ql,Qa,etas,kF ht,aQ];obtain⟨m,hm1,hm2⟩:=RL (ms:=List.replicate 10 iQ) (by simp) (n:=(aD:Int)) (by omega) (by omega)
 have e10:List.replicate (Int.toNat 10) (bf.mk false (ak.mk 0 [] []))=List.replicate 10 iQ:=rfl;rw[e10,hm2,hm1,Qa,Qa];have hlen:=hl.len
 suffices key:∀(k i:Nat) (ms:List bf) (c:bd),i+k=l.length->ms.length=10->aB _ ((i:Int),c,ms,())=some (bd.mk ((l.drop i).foldl fu ms))by
  have:=key l.length 0 ((List.replicate 10 iQ).set aD ⟨true,t⟩) ⟨[]⟩ (by omega) (by simp)
  simpa[jZ]using this
 intro k
 induction k with
 |zero=>
  intro i ms c hi hms;obtain rfl:i=l.length:=by omega
  refine bM ?_;have hd:decide ((l.length:Int)<(l.length:Int))=false:=Qh (Qq64 _);simp only[hd,Ql,Qq66,List.foldl_nil]
 |succ k ih=>
  intro i ms c hi hms;have hlt:i<l.length:=by omega
  have hd:decide ((i:Int)<(l.length:Int))=true:=Qg (by omega)
  have hw:aA .i64 (i:Int) 1=((i+1:Nat):Int):=bH (by omega) (by omega)
  have hx:idx l (i:Int)=some l[i]:=by rw[bg];exact Qv hlt
  have hsm:=hl.aO _ (Q0 hlt);rw[QM hlt,QU];refine Eq.trans (bw (s':=(((i+1:Nat):Int),⟨[]⟩,fu ms l[i],())) ?_) (ih (i+1) _ _ (by omega) (by rw[yb];exact hms))
  simp only[hd,hx,hw,Qk,Qa,qP hsm];unfold fu
  cases hv:bc l[i]with
  |false=>simp
  |true=>
   obtain⟨h4,h5⟩:=kZ hv;obtain⟨m,hm1,hm2⟩:=RL hms h4 h5;simp only[Qk,hm1,hm2,Qa,kF hsm,Option.any_some,Bool.true_and];cases m.fm<;>simp
def Cr{aD:Nat}(hn:aD<10){t:ak}{l:List aj}(hl:sv l):mF aD t l=some ⟨jZ aD t l⟩:=by
 unfold mF
 have h1:(decide ((10:Int)<=10)&&decide ((0:Int)<=10)&&bl 64 (Int.toNat 10))=true:=by
  rw[bK (by decide)];rfl
 have h2:¬(aD:Int)<0:=by omega
 have h3:¬(9:Int)<aD:=by omega
 rw[h1];simp only[Qk,h2,h3,decide_false,Ql,Qa,etas,aQ];obtain⟨m,hm1,hm2⟩:=RL (ms:=List.replicate 10 iQ) (by simp) (n:=(aD:Int)) (by omega) (by omega)
 have e10:List.replicate (Int.toNat 10) (bf.mk false (ak.mk 0 [] []))=List.replicate 10 iQ:=rfl;rw[e10,hm2,hm1,Qa,Qa];have hlen:=hl.len
 suffices key:∀(k i:Nat) (ms:List bf) (c:bd),i+k=l.length->ms.length=10->aB _ ((i:Int),c,ms,())=some (bd.mk ((l.drop i).foldl fu ms))by
  have:=key l.length 0 ((List.replicate 10 iQ).set aD ⟨true,t⟩) ⟨[]⟩ (by omega) (by simp)
  simpa[jZ]using this
 intro k
 induction k with
 |zero=>
  intro i ms c hi hms;obtain rfl:i=l.length:=by omega
  refine bM ?_;have hd:decide ((l.length:Int)<(l.length:Int))=false:=Qh (Qq64 _);simp only[hd,Ql,Qq66,List.foldl_nil]
 |succ k ih=>
  intro i ms c hi hms;have hlt:i<l.length:=by omega
  have hd:decide ((i:Int)<(l.length:Int))=true:=Qg (by omega)
  have hw:aA .i64 (i:Int) 1=((i+1:Nat):Int):=bH (by omega) (by omega)
  have hx:idx l (i:Int)=some l[i]:=by rw[bg];exact Qv hlt
  have hsm:=hl.aO _ (Q0 hlt);rw[QM hlt,QU];refine Eq.trans (bw (s':=(((i+1:Nat):Int),⟨[]⟩,fu ms l[i],())) ?_) (ih (i+1) _ _ (by omega) (by rw[yb];exact hms))
  simp only[hd,hx,hw,Qk,Qa,jC hsm];unfold fu
  cases hv:bc l[i]with
  |false=>simp
  |true=>
   obtain⟨h4,h5⟩:=kZ hv;obtain⟨m,hm1,hm2⟩:=RL hms h4 h5;simp only[Qk,hm1,hm2,Qa,Option.any_some,Bool.true_and];cases m.fm<;>simp
def oI{aD:Nat}{t:ak}(ht:cQ t){l:List aj}(hl:sv l):zo ⟨jZ aD t l⟩:=by
 refine⟨by rw[Hi];omega,?_⟩
 have key:∀(l:List aj) (ms:List bf),(∀e∈l,cQ e.aa)->(∀m∈ms,cQ m.aa)->∀m∈l.foldl fu ms,cQ m.aa:=by
  intro l
  induction l with
  |nil=>intro ms _ h;exact h
  |cons e l ih=>
   intro ms he h;rw[QU];refine ih _ (λe' h'=>he e' (by simp[h'])) λm hm=> ?_
   unfold fu at hm;split at hm
   ·rcases List.mem_or_eq_of_mem_set hm with hm|rfl
    ·exact h m hm
    ·exact he e (by simp)
   ·exact h m hm
 refine key l _ hl.aO λm hm=> ?_
 rcases List.mem_or_eq_of_mem_set hm with hm|rfl
 ·rw[List.eq_of_mem_replicate hm];exact .mk _ (by simp[iQ]) (by simp[iQ]) (by simp[iQ])
 ·exact ht
 def cO(l:List aj):List aj:=l.filter bc
def Zu{l:List aj}(hl:sv l):qG l=some ((cO l).map bJ.mk):=by
 unfold qG;have hlen:=hl.len;simp only[aQ]
 suffices key:∀(k i:Nat) (acc:List bJ),i+k=l.length->acc=(cO (l.take i)).map bJ.mk->aB _ ((i:Int),acc,())=some ((cO l).map bJ.mk)from key l.length 0 [] (by omega) rfl
 intro k
 induction k with
 |zero=>
  intro i acc hi ha;obtain rfl:i=l.length:=by omega
  refine bM ?_;have hd:decide ((l.length:Int)<(l.length:Int))=false:=Qh (Qq64 _);simp only[hd,Ql,Qe,ha,Qq62]
 |succ k ih=>
  intro i acc hi ha;have hlt:i<l.length:=by omega
  have hd:decide ((i:Int)<(l.length:Int))=true:=Qg (by omega)
  have hw:aA .i64 (i:Int) 1=((i+1:Nat):Int):=bH (by omega) (by omega)
  have hx:idx l (i:Int)=some l[i]:=by rw[bg];exact Qv hlt
  have hsm:=hl.aO _ (Q0 hlt)
  have hal:acc.length<=i:=by
   rw[ha,QC];exact QK (List.length_filter_le _ _) (by rw[List.length_take];omega)
  refine Eq.trans (bw (s':=(((i+1:Nat):Int),(if bc l[i]then acc++[bJ.mk l[i]]else acc),())) ?_) (ih (i+1) _ (by omega) ?_)
  ·simp only[hd,hx,hw,Qk,Qa,etas,qP hsm];rw[bK (by simp;omega)]
   cases bc l[i]<;>simp
  ·rw[Q7 hlt,cO,List.filter_append,ha];cases hv:bc l[i]<;>simp[cO,hv]
def eZ(p:aj->Bool):List aj->Nat
 |[]=>0
 |e::l=>(if p e then 2 ^ e.al.toNat else 0)|||eZ p l
def zp(p:aj->Bool)(k:Nat):∀(l:List aj),(eZ p l).testBit k=l.any λe=>p e&&decide (e.al.toNat=k)
 |[]=>by simp[eZ]
 |e::l=>by
  rw[eZ,Nat.testBit_or,zp p k l,List.any_cons];cases p e<;>simp[Nat.testBit_two_pow]
def xS(l:List aj):Prop:=∀e∈l,0<=e.al/\e.al<10
def mu(l:List aj):xS (cO l):=λ_ he=>kZ (List.mem_filter.1 he).2
def BI(l:List aj):(cO l).length<=l.length:=List.length_filter_le _ _
def mS{p:aj->Bool}{l:List aj}(h:xS l):eZ p l<1024:=I6 λk hk=>by
 rw[zp,List.any_eq_true]at hk;obtain⟨e,he,h1⟩:=hk;simp only[Qm,Qi]at h1;have:=h e he;omega
def Fq(p:aj->Bool)(l:List aj)(hin:xS l)(step:(Int×Int×Unit)->Option ((Int×Int×Unit)⊕Int))
  (h1:∀(i:Nat) (e:aj) (s:Int),l[i]?=some e->step (s,(i:Int),())=if p e then(if e.al<0 then none else some (.inl (qY .i64 s (bV .i64 1 e.al),((i+1:Nat):Int),())))else some (.inl (s,((i+1:Nat):Int),())))
  (h2:∀s:Int,step (s,(l.length:Int),())=some (.inr s)):aB step (0,0,())=some ((eZ p l:Nat):Int):=by
 suffices key:∀(k i s:Nat),i+k=l.length->s<1024->aB step ((s:Int),(i:Int),())=some ((s|||eZ p (l.drop i):Nat):Int)by
  have:=key l.length 0 0 (by omega) (by omega)
  simpa using this
 intro k
 induction k with
 |zero=>
  intro i s hi hs;obtain rfl:i=l.length:=by omega
  rw[bM (h2 s),Qq66,eZ];simp
 |succ k ih=>
  intro i s hi hs;have hlt:i<l.length:=by omega
  have hm:=hin l[i] (Q0 hlt);rw[QM hlt,eZ];have hst:=h1 i l[i] s (Qv hlt)
  cases hp:p l[i]with
  |false=>
   rw[hp]at hst;rw[bw hst,ih (i+1) s (by omega) hs]
   simp
  |true=>
   rw[hp,Qr rfl,Qs (by omega),pL hs hm.1 hm.2]at hst
   rw[bw hst,ih (i+1) _ (by omega) (Ad hs hm.2)]
   simp[Nat.or_assoc]
def Kp{v:bd}{aD:Int}{l:List aj}(hl:l.length<=1000000)(hin:xS l)(b:ae):jr ⟨aD,v,l.map bJ.mk⟩ b=some ((eZ (dZ · b) l:Nat):Int):=by
 unfold jr;refine Fq (dZ · b) l hin _ (λi e s he=> ?_) (λs=> ?_)
 ·have hlt:i<l.length:=(Qw.1 he).1;have hd:decide ((i:Int)<(((l.map bJ.mk).length:Nat):Int))=true:=Qg (by rw[QC];omega)
  have hw:aA .i64 (i:Int) 1=((i+1:Nat):Int):=bH (by omega) (by omega)
  have hx:idx (l.map bJ.mk) (i:Int)=some ⟨e⟩:=by rw[bg,QT,he];rfl
  simp only[hd,hx,hw,Qk,Qa,etas,lM,ug,aQ];cases dZ e b<;>simp
 ·have hd:decide ((l.length:Int)<(((l.map bJ.mk).length:Nat):Int))=false:=Qh (by rw[QC];exact Qq64 _)
  simp only[hd,Ql,Qe]
def XE{v:bd}{aD:Int}{l:List aj}(hl:l.length<=1000000)(hin:xS l)(b:ae):gG ⟨aD,v,l.map bJ.mk⟩ b b=some ((eZ (λe=>ru e b||dZ e b) l:Nat):Int):=by
 unfold gG;refine Fq (λe=>ru e b||dZ e b) l hin _ (λi e s he=> ?_) (λs=> ?_)
 ·have hlt:i<l.length:=(Qw.1 he).1;have hd:decide ((i:Int)<(((l.map bJ.mk).length:Nat):Int))=true:=Qg (by rw[QC];omega)
  have hw:aA .i64 (i:Int) 1=((i+1:Nat):Int):=bH (by omega) (by omega)
  have hx:idx (l.map bJ.mk) (i:Int)=some ⟨e⟩:=by rw[bg,QT,he];rfl
  simp only[hd,hx,hw,Qk,Qa,etas,aj.eta,jw,lM,qX,ug,Dq,aQ,k8,Bool.cond_true_left];cases (ru e b||dZ e b)<;>simp
 ·have hd:decide ((l.length:Int)<(((l.map bJ.mk).length:Nat):Int))=false:=Qh (by rw[QC];exact Qq64 _)
  simp only[hd,Ql,Qe]
 def ql(ms:List bf)(v dE accepts:Nat):Bool:=zW ms v accepts||(gq ms (dE|||accepts)).testBit v
def Bg{c:bd}(hc:zo c){v dE accepts:Nat}(hv:v<10)(h1:dE<1024)(h2:accepts<1024):iA c v dE accepts=some (ql c.bn v dE accepts):=by
 unfold iA ql;have h3:dE|||accepts<1024:=Nat.or_lt_two_pow (n:=10) h1 h2
 rw[BC h1,BC h2,Rh hc h2,ER dE accepts (by omega) (by omega),Kq hc h3]
 simp[sH (Gk hc h3).lt,xu,hv]
def zQ{c:bd}(hc:zo c){v accepts:Nat}(hv:v<10)(h2:accepts<1024):fl c v accepts=some ((gq c.bn accepts).testBit v):=by
 unfold fl;rw[Kq hc h2];simp[sH (Gk hc h2).lt,xu,hv]
 def oo(aD:Nat)(t:ak)(l:List aj)(b:ae):Bool:=
 ql (jZ aD t l) aD (eZ (λe=>ru e b||dZ e b) (cO l)) (eZ (dZ · b) (cO l))
 def my(aD:Nat)(t:ak)(l:List aj)(b:ae):Bool:=
 (gq (jZ aD t l) (eZ (dZ · b) (cO l))).testBit aD
def OV{aD:Nat}(hn:aD<10){t:ak}(ht:cQ t){l:List aj}(hl:sv l):fO aD t l=some ⟨aD,⟨jZ aD t l⟩,(cO l).map bJ.mk⟩:=by
 unfold fO;simp only[etas,VQ hn ht hl,Zu hl,Qa]
end
section
def aa0{α:Type}{l l':List α}(h:l.Perm l')(p:α->Bool):l.any p=l'.any p:=by
 rw[QW,List.any_eq_true,List.any_eq_true];exact⟨λ⟨x,h1,h2⟩=>⟨x,h.mem_iff.1 h1,h2⟩,λ⟨x,h1,h2⟩=>⟨x,h.mem_iff.2 h1,h2⟩⟩
def XO{l l':List aj}(h:l.Perm l')(p:aj->Bool):eZ p l=eZ p l':=Cc λk=>by rw[zp,zp,aa0 h]
def Um{l l':List aj}(h:l.Perm l'):(cO l).Perm (cO l'):=h.filter _
def Ao(l:List aj):Prop:=∀a∈l,∀b∈l,a.al=b.al->a=b
def Ao.perm{l l':List aj}(h:Ao l)(hp:l.Perm l'):Ao l':=λa ha b hb=>h a (hp.mem_iff.2 ha) b (hp.mem_iff.2 hb)
 def oN(l:List aj)(k:Nat):Option aj:=l.find? λe=>bc e&&decide (e.al.toNat=k)
def D8{l:List aj}{k:Nat}{e:aj}(h:oN l k=some e):e∈l/\bc e=true/\e.al=k:=by
 unfold oN at h;have h1:=List.mem_of_find?_eq_some h;have h2:=List.find?_some h;simp only[Qm,Qi]at h2;have:=kZ h2.1;exact⟨h1,h2.1,by omega⟩
def Mz{l:List aj}(ha:Ao l){k:Nat}{e:aj}(h1:e∈l)(h2:bc e=true)(h3:e.al=k):oN l k=some e:=by
 cases h:oN l k with
 |none=>
  unfold oN at h;rw[List.find?_eq_none]at h;have:=h e h1;simp[h2,h3]at this
 |some e'=>
  obtain⟨g1,g2,g3⟩:=D8 h;rw[ha e' g1 e h1 (by omega)]
def Uu{l l':List aj}(ha:Ao l)(h:l.Perm l')(k:Nat):oN l k=oN l' k:=by
 cases h1:oN l k with
 |some e=>
  obtain⟨g1,g2,g3⟩:=D8 h1;exact(Mz (ha.perm h) (h.mem_iff.1 g1) g2 g3).symm
 |none=>
  cases h2:oN l' k with
  |none=>rfl
  |some e=>
   obtain⟨g1,g2,g3⟩:=D8 h2;rw[Mz ha (h.mem_iff.2 g1) g2 g3]at h1;cases h1
def O1:∀(l:List aj) (ms:List bf),ms.length=10->(∀m∈ms,m.fm=false->m=iQ)->∀k,k<10->(l.foldl fu ms)[k]?=some (match ms[k]? with
  |some m=>if m.fm then m else(match oN l k with
   |some e=>⟨true,e.aa⟩
   |none=>iQ)
  |none=>iQ)
 |[],ms,hl,hn,k,hk=>by
  have hk':k<ms.length:=by omega
  rw[List.foldl_nil,Qv hk']
  cases hd:ms[k].fm with
  |true=>simp[hd]
  |false=>
   have:=hn _ (Q0 hk') hd;simp[oN,this]
 |e::l,ms,hl,hn,k,hk=>by
  have hk':k<ms.length:=by omega
  rw[QU];have hlen:(fu ms e).length=10:=by rw[yb];exact hl
  have hn':∀m∈fu ms e,m.fm=false->m=iQ:=by
   unfold fu;split
   ·intro m hm hd;rcases List.mem_or_eq_of_mem_set hm with hm|rfl
    ·exact hn m hm hd
    ·cases hd
   ·exact hn
  rw[O1 l (fu ms e) hlen hn' k hk];congr 1
  have hof:oN (e::l) k=if(bc e&&decide (e.al.toNat=k))=true then some e else oN l k:=by
   unfold oN;rw[List.find?_cons];cases bc e&&decide (e.al.toNat=k)<;>rfl
  rw[hof];unfold fu
  by_cases hv:bc e=true
  ·have hnode:=kZ hv;have hi:e.al.toNat<ms.length:=by omega
   rw[hv,Bool.true_and,Bool.true_and]
   by_cases hke:e.al.toNat=k
   ·subst hke;rw[Qv hi]
    cases hd:ms[e.al.toNat].fm with
    |true=>simp[hd,Qv hi]
    |false=>simp[hd,hi]
   ·have hne:decide (e.al.toNat=k)=false:=Qh hke
    have hset:∀c:Bool,(if c=true then ms.set e.al.toNat ⟨true,e.aa⟩else ms)[k]?=ms[k]?:=λc=>by
     cases c
     ·rfl
     ·rw[Qr rfl,List.getElem?_set_ne hke]
    rw[hne,hset];simp
  ·have hv':bc e=false:=by simpa using hv
   simp[hv']
def Hh{aD:Nat}(hn:aD<10)(t:ak)(l:List aj){k:Nat}(hk:k<10):(jZ aD t l)[k]?=some (if k=aD then⟨true,t⟩else match oN l k with
  |some e=>⟨true,e.aa⟩
  |none=>iQ):=by
 rw[jZ,O1 l _ (by simp) (λm hm hd=> ?_) k hk]
 ·by_cases h:k=aD
  ·subst h;simp[hn]
  ·rw[List.getElem?_set_ne (λe=>h e.symm),List.getElem?_replicate,Qr hk]
   simp[h,iQ]
 ·rcases List.mem_or_eq_of_mem_set hm with hm|rfl
  ·exact(List.mem_replicate.1 hm).2
  ·cases hd
def VW{aD:Nat}(hn:aD<10)(t:ak){l l':List aj}(ha:Ao l)(h:l.Perm l'):jZ aD t l=jZ aD t l':=by
 refine List.ext_getElem? λk=> ?_
 by_cases hk:k<10
 ·rw[Hh hn t l hk,Hh hn t l' hk,Uu ha h]
 ·rw[Qq72 (by rw[Hi];omega),Qq72 (by rw[Hi];omega)]
end
section
def Zl{τ ρ:Type}(n:Nat)(mk:Int->τ){step:τ->Option (τ⊕ρ)}{fin:Option ρ}(h1:∀i:Nat,i<n->step (mk (i:Int))=some (.inl (mk ((i+1:Nat):Int))))(h2:step (mk (n:Int))=Option.map Sum.inr fin):aB step (mk 0)=fin:=by
 suffices key:∀(k i:Nat),i+k=n->aB step (mk (i:Int))=fin from key n 0 (by omega)
 intro k
 induction k with
 |zero=>
  intro i hi;obtain rfl:i=n:=by omega
  rw[fb,h2];cases fin<;>rfl
 |succ k ih=>exact λi hi=>(bw (h1 i (by omega))).trans (ih (i+1) (by omega))
def X0{ρ:Type}(n:Nat)(hn:n<=1000000){fin:Option ρ}{step:Int×Unit->Option ((Int×Unit)⊕ρ)}
  (h1:∀i:Nat,i<n->decide ((i:Int)<((n:Nat):Int))=true->aA .i64 (i:Int) 1=((i+1:Nat):Int)->step ((i:Int),())=some (.inl (((i+1:Nat):Int),())))
  (h2:decide (((n:Nat):Int)<((n:Nat):Int))=false->step ((n:Int),())=Option.map Sum.inr fin):aB step (0,())=fin:=
 Zl n (λi=>(i,())) (λi hi=>h1 i hi (Qg (by omega)) (bH (by omega) (by omega))) (h2 (Qh (Qq64 _)))
end
section
def Gm:List UInt8->Nat
 |[]=>0
 |a::l=>a.toNat*256 ^ l.length+Gm l
def Jg:∀l:List UInt8,Gm l<256 ^ l.length
 |[]=>by simp[Gm]
 |a::l=>by
  have h1:=Jg l;have h2:a.toNat<256:=a.toNat_lt;rw[Gm,QE,Nat.pow_succ];have h3:(a.toNat+1)*256 ^ l.length<=256*256 ^ l.length:=Qq63 _ h2;rw[Qq73,Nat.one_mul,Nat.mul_comm 256]at h3;omega
def Zi:∀{x y:List UInt8},x.length=y.length->Op.bytesLess x y=true->Gm x<Gm y
 |[],[],_,h=>by simp[Op.bytesLess]at h
 |[],_::_,hl,_=>by simp at hl
 |_::_,[],hl,_=>by simp at hl
 |a::x,b::y,hl,h=>by
  simp only[QE,Nat.add_right_cancel_iff]at hl;simp only[Op.bytesLess,Qn,Qi,Qm,beq_iff_eq]at h;rw[Gm,Gm,hl];rcases h with h|⟨rfl,h⟩
  ·have h1:=Jg x;rw[hl]at h1;have h2:a.toNat<b.toNat:=UInt8.lt_iff_toNat_lt.1 h;have h3:(a.toNat+1)*256 ^ y.length<=b.toNat*256 ^ y.length:=Qq63 _ h2;rw[Qq73,Nat.one_mul]at h3;omega
  ·have:=Zi hl h;omega
def WV:Nat:=256 ^ 201
def OM(v:ByteArray):Nat:=v.size*256 ^ 200+Gm v.toList
def toList_len(v:ByteArray):v.toList.length=v.size:=by
 rw[Lib.toList_data];cases v;simp[ByteArray.size]
def Yg{a b:Nat}(h:a<=b):(256:Nat) ^ a<=256 ^ b:=Nat.pow_le_pow_right (by omega) h
def VE{v:ByteArray}(h:v.size<=200):OM v<WV:=by
 have h1:=Jg v.toList;rw[toList_len]at h1;have h2:=Yg h;have h3:v.size*256 ^ 200<=200*256 ^ 200:=Qq63 _ h;have h4:WV=256*256 ^ 200:=by rw[WV,Nat.pow_succ,Nat.mul_comm]
 unfold OM;rw[h4];generalize (256:Nat) ^ 200=Z at*;omega
def YF{a b:ByteArray}(hb:b.size<=200)(h:bO a b=true):OM a<OM b:=by
 unfold bO at h;unfold OM
 by_cases hs:a.size=b.size
 ·rw[Qr hs]at h;have:=Zi (x:=a.toList) (y:=b.toList) (by rw[toList_len,toList_len,hs]) h
  rw[hs];omega
 ·rw[Qs hs,Qi]at h;have h1:=Jg a.toList;rw[toList_len]at h1;have h2:=Yg (show a.size<=200 by omega)
  have h3:(a.size+1)*256 ^ 200<=b.size*256 ^ 200:=Qq63 _ h;rw[Qq73,Nat.one_mul]at h3;generalize (256:Nat) ^ 200=Z at*;omega
def Sm(b:ae):Prop:=0<=b.ai/\b.ai<=1000/\b.Value.size<=200
def n5(b:ae):Nat:=b.ai.toNat*WV+OM b.Value
def WB:Nat:=1001*WV
def rK{b:ae}(h:Sm b):n5 b<WB:=by
 obtain⟨h1,h2,h3⟩:=h;have h4:=VE h3;unfold n5 WB;have h5:b.ai.toNat*WV<=1000*WV:=Qq63 _ (by omega)
 generalize WV=Z at*;omega
def xN{a b:ae}(ha:Sm a)(hb:Sm b)(h:bB a b=true):n5 a<n5 b:=by
 unfold bB at h;unfold n5
 by_cases hc:a.ai=b.ai
 ·rw[Qr hc]at h;have:=YF hb.2.2 h;rw[hc];omega
 ·rw[Qs hc,Qi]at h;have h1:=VE ha.2.2;have h2:=ha.1;have h3:(a.ai.toNat+1)*WV<=b.ai.toNat*WV:=Qq63 _ (by omega)
  rw[Qq73,Nat.one_mul]at h3;generalize WV=Z at*;omega
def Yd.down{σ ρ:Type}{step:σ->Option (σ⊕ρ)}{p:ρ->Prop}(inv:σ->Prop)(μ:σ->Nat)(h:∀s,inv s->Yd (step s) λy=>match y with| .inl s'=>inv s'/\μ s'<μ s| .inr r=>p r){s:σ}(hs:inv s):Yd (aB step s) p:=by
 suffices key:∀(n:Nat) (s:σ),μ s<n->inv s->Yd (aB step s) p from key _ s (Nat.lt_succ_self _) hs
 intro n
 induction n with
 |zero=>intro s h0;omega
 |succ n ih=>
  intro s hn hi;refine Yd.loop ((h s hi).mono λy hy=> ?_)
  cases y with
  |inl s'=>exact ih s' (by have:=hy.2;omega) hy.1
  |inr r=>exact hy
end
section
def bZ:ae:=⟨0,gC⟩
def ft(m:af):Int:=if(!aM m.aw&&bQ m.aw m.ab)=true then m.aw.ai else 0
def dR(m:af):aj:=
 if m.aP=1 then⟨m.al,m.aK,m.aG,m.aa,m.aP,m.ab,m.ao,m.az,m.aY,ft m⟩
 else if m.aP=2 then⟨m.al,m.aK,m.aG,m.aa,m.aP,m.ab,m.ao,bZ,m.aY,m.bq⟩
 else⟨m.al,m.aK,m.aG,m.aa,m.aP,m.ab,bZ,bZ,m.aY,m.bq⟩
def xQ(m:af):(dR m).al=m.al:=by unfold dR;split<;>(try split)<;>rfl
def DP(m:af):(dR m).aK=m.aK:=by unfold dR;split<;>(try split)<;>rfl
def Tn(m:af):(dR m).aG=m.aG:=by unfold dR;split<;>(try split)<;>rfl
def vx(m:af):(dR m).aa=m.aa:=by unfold dR;split<;>(try split)<;>rfl
def YZ(m:af):(dR m).bC=m.aP:=by unfold dR;split<;>(try split)<;>rfl
def BW(m:af):kl m=some (dR m):=by
 unfold kl dR ft;simp only[aQ,etas,dg,gy,Qa]
 by_cases h1:m.aP=1
 ·rw[Qg h1,Qr h1];cases aM m.aw<;>cases bQ m.aw m.ab<;>rfl
 ·rw[Qh h1,Qs h1]
  by_cases h2:m.aP=2
  ·rw[Qg h2,Qr h2];rfl
  ·rw[Qh h2,Qs h2];rfl
def iP(m:af):aj:={dR m with aG:=bD (dR m).aG 1}
def yF(e:aj):List aj->List aj
 |[]=>[e]
 |x::l=>if e.al<x.al then e::x::l else x::yF e l
def DM(e:aj):∀l,(yF e l).Perm (l++[e])
 |[]=> .refl _
 |x::l=>by
  unfold yF;split
  ·exact(List.perm_append_singleton e (x::l)).symm
  ·exact(DM e l).cons x
def bN(m:af):List aj:=if aM m.ab=true then m.ar else yF (iP m) m.ar
def NG{m:af}(h:m.ar.length<=1000):mm m=some (bN m):=by
 unfold mm bN;simp only[etas,dg,BW,Qa]
 cases aM m.ab with
 |true=>rfl
 |false=>
  simp only[Ql,Qq,Qu];have hown:aj.mk (dR m).al (dR m).aK (bD (dR m).aG 1) (dR m).aa (dR m).bC (dR m).ab (dR m).ao (dR m).az (dR m).aY (dR m).bq=iP m:=rfl;have hnode:(dR m).al=(iP m).al:=rfl;rw[hown,hnode];generalize iP m=e
  suffices key:∀(k i:Nat) (b:Bool) (o:List aj),i+k=m.ar.length->o.length<=i+(bif b then 1 else 0)->aB _ (b,(i:Int),o,())=some (o++if b=true then m.ar.drop i else yF e (m.ar.drop i))from(key m.ar.length 0 false [] (by omega) (by simp)).trans (by simp)
  intro k
  induction k with
  |zero=>
   intro i b o hi ho;obtain rfl:i=m.ar.length:=by omega
   have hd:decide ((m.ar.length:Int)<(m.ar.length:Int))=false:=Qh (Qq64 _);refine bM ?_;rw[Qq66];simp only[hd,Ql,aQ]
   cases b with
   |true=>simp
   |false=>
    simp only[Ql]at ho;rw[bK (by simp;omega)]
    simp[yF]
  |succ k ih=>
   intro i b o hi ho;have hlt:i<m.ar.length:=by omega
   have hd:decide ((i:Int)<(m.ar.length:Int))=true:=Qg (by omega)
   have hw:aA .i64 (i:Int) 1=((i+1:Nat):Int):=bH (by omega) (by omega)
   have hx:idx m.ar (i:Int)=some m.ar[i]:=by rw[bg];exact Qv hlt
   rw[QM hlt]
   cases b with
   |true=>
    simp only[Qk]at ho;have:=ih (i+1) true (o++[m.ar[i]]) (by omega) (by simp;omega)
    simp only[Qt]at this ⊢;rw[show o++m.ar[i]::m.ar.drop (i+1)=(o++[m.ar[i]])++m.ar.drop (i+1)by simp]
    refine Eq.trans (bw ?_) this;simp only[hd,hx,hw,Qk,aQ,Qa,Qo,Ql];rw[bK (by simp;omega),Qk]
   |false=>
    simp only[Ql]at ho
    by_cases hn:e.al<m.ar[i].al
    ·have:=ih (i+1) true (o++[e]++[m.ar[i]]) (by omega) (by simp;omega)
     simp only[Qt,Qq,Qu]at this ⊢;rw[yF,Qr hn,show o++e::m.ar[i]::m.ar.drop (i+1)=(o++[e]++[m.ar[i]])++m.ar.drop (i+1)by simp]
     refine Eq.trans (bw ?_) this;simp only[hd,hx,hw,Qk,aQ,Qa,Qp,Qg hn];rw[bK (by simp;omega),Qk,bK (by simp;omega),Qk]
    ·have:=ih (i+1) false (o++[m.ar[i]]) (by omega) (by simp;omega)
     simp only[Qq,Qu]at this ⊢;rw[yF,Qs hn,show o++m.ar[i]::yF e (m.ar.drop (i+1))=(o++[m.ar[i]])++yF e (m.ar.drop (i+1))by simp]
     refine Eq.trans (bw ?_) this;simp only[hd,hx,hw,Qk,aQ,Qa,Qp,Qh hn,Ql];rw[bK (by simp;omega),Qk]
def FG(a b:ae):Bool:=decide (a.ai=b.ai)&&decide (a.Value=b.Value)
def Pe{a b:ae}:FG a b=true↔a=b:=by
 cases a;cases b;simp[FG]
def Dz(a b:af):Bool:=decide (a.aP=b.aP)&&FG a.ab b.ab&&FG a.ao b.ao&&FG a.az b.az&&FG a.aw b.aw&&decide (a.aY=b.aY)&&decide (a.bq=b.bq)
def aaL(a b:Bool):(bif a then b else false)=(a&&b):=by cases a<;>rfl
def aeg(a b:af):o0 a b=some (Dz a b):=by
 unfold o0 Dz FG;simp only[AO,Qa,k8,aaL]
end
section
def wV(v:ByteArray)(n:Int)(x:ae):Int:=
 if(cD x&&eJ x ⟨n,v⟩)=true then(if eJ x ⟨x.ai,v⟩=true then x.ai+1 else x.ai)else n
def kT(v:ByteArray)(n:Int)(p q:ae):Int:=wV v (wV v (bD n 1) p) q
def SM(v:ByteArray)(n:Int)(p q:ae):vK v n p q=some (kT v n p q):=by
 unfold vK kT;generalize bD n 1=k
 have hst:∀(i:Nat) (x:ae) (k:Int),i<2->[p,q][i]?=some x->
   (λ(v1:Int×Int×Unit)=>
    bif (decide (v1.2.1<(2:Int)))then
    bb (λ(v2:Int×Unit)=>some (Sum.inl (v2.1,(aA .i64 v1.2.1 (1:Int)),v2.2))) λj3=>
    Option.bind (idx [p,q] v1.2.1) λx4=>
    Option.bind (jb x4) λr5=>
    Option.bind (bif r5 then Option.bind (gz x4 (ae.mk v1.1 v)) λr6=>some r6 else some false) λb7=>
    bif b7 then Option.bind (gz x4 (ae.mk x4.ai v)) λr8=>
     bif r8 then j3 ((aA .i64 x4.ai (1:Int)),())else j3 (x4.ai,())
    else j3 (v1.1,())
    else(Option.map Sum.inr (some v1.1):Option ((Int×Int×Unit)⊕Int))) (k,(i:Int),())=some (Sum.inl (wV v k x,((i+1:Nat):Int),())):=by
  intro i x k hi hx;have hd:decide ((i:Int)<2)=true:=Qg (by omega)
  have hw:aA .i64 (i:Int) 1=((i+1:Nat):Int):=bH (by omega) (by omega)
  have hx':idx [p,q] (i:Int)=some x:=by rw[bg];exact hx
  simp only[hd,hw,hx',Qk,aQ,Qa,xD,Bz];unfold wV
  cases hv:cD x with
  |false=>simp
  |true=>
   have hc:aA .i64 x.ai 1=x.ai+1:=by
    have:1<=x.ai/\x.ai<=1000000:=by
     simp only[cD,Qm,Qn,Qi]at hv;omega
    exact bH (by omega) (by omega)
   cases h1:eJ x ⟨k,v⟩with
   |false=>simp
   |true=>cases h2:eJ x ⟨x.ai,v⟩<;>simp[hc]
 refine(bw (hst 0 p k (by omega) rfl)).trans ((bw (hst 1 q _ (by omega) rfl)).trans (bM ?_))
 rfl
def aax(b:ae):vI b=some (if 1000<b.ai then⟨1000,b.Value⟩else b):=by
 unfold vI
 by_cases h:1000<b.ai
 ·simp[h]
 ·simp[h]
end
section
def WM{lo k:Int}{v:ByteArray}{p:ae}(h:lo<=k)(hl:bB ⟨k,v⟩ p=true):bB ⟨lo,v⟩ p=true:=by
 unfold bB at hl ⊢;simp only at hl ⊢
 by_cases h1:lo=k
 ·rw[h1];exact hl
 ·have h2:lo<p.ai:=by
   split at hl
   ·omega
   ·simp only[Qi]at hl;omega
  rw[Qs (by omega)]
  simpa using h2
def UJ{lo k:Int}{v:ByteArray}{p:ae}(h:lo<=k)(ha:eJ p ⟨lo,v⟩=false):eJ p ⟨k,v⟩=false:=by
 cases hk:eJ p ⟨k,v⟩with
 |false=>rfl
 |true=>
  simp only[eJ,Qm,bQ]at hk;simp only[eJ,bQ,hk.1.1,hk.1.2,WM h hk.2]at ha;cases ha
def k7(p b:ae):jo p b=true↔aM p=false/\p.Value=b.Value/\b.ai<=p.ai:=by
 simp[jo,bQ,and_assoc]
def MH{b:ae}(h:1<=b.ai):aM b=false:=by
 have:¬b.ai=0:=by omega
 simp[aM,this]
end
section
def agf{n:Nat}(h:n<1000000):bx .u64 (n:Int)=n:=by
 unfold bx IntKind.wrap;simp[IntKind.signed,IntKind.bits];omega
def vE(b p:ae)(j:Nat)(t:ak):aj:=⟨j,1,1,t,1,b,p,⟨0,bE⟩,0,0⟩
structure T8 (b:ae):Prop where
 lo:1<=b.ai
 hi:b.ai<=6
 val:NI b.Value
def T8.valid{b:ae}(h:T8 b):cD b=true:=Hj h.lo (by have:=h.hi;omega) h.val
def T8.nz{b:ae}(h:T8 b):aM b=false:=MH h.lo
def Wc{l:List aj}(h:∀e∈l,bc e=true):cO l=l:=List.filter_eq_self.2 h
end
section
def Fp(b p:ae)(ts:List ak)(q n:Nat)(l:List aj):Prop:=
 l.length<=n/\(∀e∈l,∃i t,i<n/\q.testBit i=true/\ts[i]?=some t/\e=vE b p i t)/\∀i t,i<n->q.testBit i=true->ts[i]?=some t->vE b p i t∈l
def Fp.nil(b p:ae)(ts:List ak)(q:Nat):Fp b p ts q 0 []:=⟨by simp,by simp,λi t h=>by omega⟩
def Fp.take{b p:ae}{ts:List ak}{q n:Nat}{l:List aj}(h:Fp b p ts q n l)(hq:q.testBit n=true){t:ak}(ht:ts[n]?=some t):Fp b p ts q (n+1) (l++[vE b p n t]):=by
 obtain⟨h1,h2,h3⟩:=h;refine⟨by simp;omega,λe he=> ?_,λi t' hi hb ht'=> ?_⟩
 ·rcases Qz.1 he with he|he
  ·obtain⟨i,t,a,b,c⟩:=h2 e he;exact⟨i,t,by omega,b,c⟩
  ·simp only[Q5]at he;exact⟨n,t,by omega,hq,ht,he⟩
 ·rcases Nat.lt_or_ge i n with h|h
  ·exact Qz.2 (.inl (h3 i t' h hb ht'))
  ·obtain rfl:i=n:=by omega
   rw[ht]at ht';injection ht' with ht'
   subst ht';exact Qz.2 (.inr (by simp))
section
variable {b p : ae} (hb : T8 b) (hp : aM p = true \/ cD p = true) {ts : List ak} (hts : ∀ t ∈ ts, dO t) {q : Nat} {l : List aj} (hlen : ts.length <= 5) (hc : Fp b p ts q ts.length l)
 include hb hp hts hlen hc
end
end
section
section
variable {α : Type}
structure SWO (lt:α->α->Bool):Prop where
 asymm:∀x y,lt x y=true->lt y x=false
 trans:∀x y z,lt y x=false->lt z y=false->lt z x=false
end
end
section
section
variable {α : Type}
 def TB(eq ne:α->α->Bool)(z:α)(K:Int)(n:Nat)(v6:Int×Int×(List α)×Unit):Option ((Int×Int×(List α)×Unit)⊕((Int×(List α)×Unit)⊕List α)):=
 bif (decide (v6.2.1<((List.length ((v6.2.2.1.drop (Int.toNat K)).take (Int.toNat (n:Int) - Int.toNat K)):Nat):Int)))then
 bb (λ(v7:Int×(List α)×Unit)=>
 some (Sum.inl (v7.1,(aA .i64 v6.2.1 (1:Int)),v7.2.1,()))) λj8=>
 Option.bind (idx ((v6.2.2.1.drop (Int.toNat K)).take (Int.toNat (n:Int) - Int.toNat K)) v6.2.1) λx9=>
 Option.bind (v6.2.2.1[((Int.toNat K)+Int.toNat v6.2.1)]?) λx10=>
 Option.bind (idx ((v6.2.2.1.drop (Int.toNat K)).take (Int.toNat (n:Int) - Int.toNat K)) (cU .i64 v6.2.1 (1:Int))) λx11=>
 Option.bind (v6.2.2.1[((Int.toNat K)+Int.toNat (cU .i64 v6.2.1 (1:Int)))]?) λx12=>
 bif (ne x10 x12)then
 Option.bind (idx ((v6.2.2.1.drop (Int.toNat K)).take (Int.toNat (n:Int) - Int.toNat K)) v6.2.1) λx13=>
 Option.bind (v6.2.2.1[((Int.toNat K)+Int.toNat v6.2.1)]?) λx14=>
 Option.bind (idx v6.2.2.1 v6.1) λx15=>
 Option.bind (v6.2.2.1[(Int.toNat v6.1)]?) λx16=>
 j8 ((aA .i64 v6.1 (1:Int)),(v6.2.2.1.set (Int.toNat v6.1) x14),())
 else
 j8 (v6.1,v6.2.2.1,())
 else
 Option.map Sum.inr (bif cz v6.1 ((List.length v6.2.2.1):Int) (List.length v6.2.2.1)then
 bif cz (0:Int) v6.1 (List.length (v6.2.2.1.take (Int.toNat v6.1)++List.replicate (Int.toNat ((List.length v6.2.2.1):Int) - Int.toNat v6.1) z++v6.2.2.1.drop ((Int.toNat v6.1)+(Int.toNat ((List.length v6.2.2.1):Int) - Int.toNat v6.1))))then
 Option.map Sum.inr (some ((v6.2.2.1.take (Int.toNat v6.1)++List.replicate (Int.toNat ((List.length v6.2.2.1):Int) - Int.toNat v6.1) z++v6.2.2.1.drop ((Int.toNat v6.1)+(Int.toNat ((List.length v6.2.2.1):Int) - Int.toNat v6.1))).take (Int.toNat v6.1 - Int.toNat (0:Int))))
 else none
 else none)
 def Nr(eq ne:α->α->Bool)(z:α)(v1:Int×(List α)×Unit):Option ((Int×(List α)×Unit)⊕List α):=
 bif (decide (v1.1<((List.length v1.2.1:Nat):Int)))then
 Option.bind (idx v1.2.1 v1.1) λx2=>
 Option.bind (v1.2.1[(Int.toNat v1.1)]?) λx3=>
 Option.bind (idx v1.2.1 (cU .i64 v1.1 (1:Int))) λx4=>
 Option.bind (v1.2.1[(Int.toNat (cU .i64 v1.1 (1:Int)))]?) λx5=>
 bif (eq x3 x5)then
 bif cz v1.1 ((List.length v1.2.1):Int) (List.length v1.2.1)then
 aB (TB eq ne z v1.1 (List.length v1.2.1)) (v1.1,(1:Int),v1.2.1,())
 else none
 else
 some (Sum.inl ((aA .i64 v1.1 (1:Int)),v1.2.1,()))
 else
 Option.map Sum.inr (some v1.2.1)
 def Lb(eq ne:α->α->Bool)(z:α)(s:List α):Option (List α):=
 bif (decide (((List.length s:Nat):Int)<(2:Int)))then
 some s
 else
 aB (Nr eq ne z) ((1:Int),s,())
def RU(d:List α){K n m:Nat}(hm:m<n - K):idx ((d.drop K).take (n - K)) (m:Int)=d[K+m]?:=by
 grind [bg]
variable [DecidableEq α]
def rL(acc:List α)(x:α):List α:=if acc.getLast?=some x then acc else acc++[x]
def dd(l:List α):List α:=l.foldl rL []
theorem VJ(l:List α)(x:α):dd (l++[x])=rL (dd l) x:=by simp[dd,List.foldl_append]
theorem adA(l:List α):(dd l).getLast?=l.getLast?:=by
 suffices h:∀r:List α,(dd r.reverse).getLast?=r.reverse.getLast? by
  have:=h l.reverse
  rwa [List.reverse_reverse]at this
 intro r
 induction r with
 |nil=>rfl
 |cons x r ih=>
  grind [VJ,rL]
def VI{s:List α}{k:Nat}{x:α}(h:s[k]?=some x):dd (s.take (k+1))=rL (dd (s.take k)) x:=by
 obtain⟨hl,hx⟩:=Qw.1 h;rw[Q7 hl,hx,VJ]
def PG{s:List α}{k:Nat}{x:α}(h:s[k]?=some x):(dd (s.take (k+1))).getLast?=some x:=by
 grind [adA]
variable {eq ne : α -> α -> Bool} {z : α}
def Lo(hne:∀x y,ne x y= !decide (x=y)){s:List α}{K:Nat}(hn:s.length<1000000000):∀(r i k2:Nat) (d:List α),k2+r=s.length - K->1<=k2->i<=K+k2 - 1->d.length=s.length->d.take i=dd (s.take (K+k2))->(∀j,K+k2 - 1<=j->d[j]?=s[j]?)->
  aB (TB eq ne z (K:Int) s.length) ((i:Int),(k2:Int),d,())=some (.inr (dd s))
 |0,i,k2,d,hr,h1,hi,hd,ht,hs=>by
  have hKn:K+k2=s.length:=by omega
  refine bM ?_;have e1:(((d.drop K).take (s.length - K)).length)=s.length - K:=by simp;omega
  have e2:decide ((k2:Int)<((s.length - K:Nat):Int))=false:=Qh (by omega)
  have e3:∀n,cz (i:Int) (d.length:Int) n=decide (d.length<=n):=by
   intro n;have:i<=d.length:=by omega
   simp only[cz];have h1:decide ((0:Int)<=(i:Int))=true:=Qg (by omega)
   have h2:decide ((i:Int)<=(d.length:Int))=true:=Qg (by omega)
   rw[h1,h2,Bool.and_self,Bool.true_and,decide_eq_decide];omega
  have e4:(d.take i++List.replicate (d.length - i) z++d.drop (i+(d.length - i))).length=d.length:=by simp;omega
  have e5:cz (0:Int) (i:Int) d.length=true:=by
   simp only[cz,Qm,Qi];omega
  have e6:(d.take i++List.replicate (d.length - i) z++d.drop (i+(d.length - i))).take (i - 0)=dd s:=by
   rw[Nat.sub_zero,QL,List.take_append_of_le_length (by simp;omega),List.take_take,Nat.min_self,ht,hKn,Qq62]
  simp only[TB,QV,e1,e2,Ql,e3,QI,decide_true,Qk,e4,e5,Int.toNat_zero,e6,Qe]
 |r+1,i,k2,d,hr,h1,hi,hd,ht,hs=>by
  have hKn:K+k2<s.length:=by omega
  obtain⟨x,hx⟩:∃x,s[K+k2]?=some x:=⟨_,Qv hKn⟩;obtain⟨y,hy⟩:∃y,s[K+(k2 - 1)]?=some y:=⟨_,Qv (by omega)⟩
  have e1:(((d.drop K).take (s.length - K)).length)=s.length - K:=by simp;omega
  have e2:decide ((k2:Int)<((s.length - K:Nat):Int))=true:=Qg (by omega)
  have e3:cU .i64 (k2:Int) 1=((k2 - 1:Nat):Int):=by rw[pz (by omega) (by omega)];omega
  have e4:aA .i64 (k2:Int) 1=((k2+1:Nat):Int):=bH (by omega) (by omega)
  have e5:aA .i64 (i:Int) 1=((i+1:Nat):Int):=bH (by omega) (by omega)
  have hdx:d[K+k2]?=some x:=by rw[hs _ (by omega),hx]
  have hdy:d[K+(k2 - 1)]?=some y:=by rw[hs _ (by omega),hy]
  have hv1:=RU d (K:=K) (n:=s.length) (m:=k2) (by omega)
  have hv2:=RU d (K:=K) (n:=s.length) (m:=k2 - 1) (by omega)
  obtain⟨w,hw⟩:∃w,d[i]?=some w:=⟨_,Qv (by omega)⟩
  have hstep:=VI hx
  have hlast:(dd (s.take (K+k2))).getLast?=some y:=by
   have:=PG hy
   rwa [show K+(k2 - 1)+1=K+k2 by omega]at this
  rw[rL,hlast]at hstep;have hil:i<d.length:=by omega
  by_cases hxy:x=y
  ·refine Eq.trans (bw (s':=((i:Int),((k2+1:Nat):Int),d,())) ?_) (Lo hne hn r i (k2+1) d (by omega) (by omega) (by omega) hd ?_ λj hj=>hs j (by omega))
   ·simp only[TB,QV,e1,e2,Qk,aQ,hv1,hdx,Qa,e3,hv2,hdy,hne,hxy,decide_true,Qo,Ql,e4]
   ·rw[show K+(k2+1)=K+k2+1 by omega,hstep,Qr (by rw[hxy]),ht]
  ·refine Eq.trans (bw (s':=(((i+1:Nat):Int),((k2+1:Nat):Int),d.set i x,())) ?_) (Lo hne hn r (i+1) (k2+1) (d.set i x) (by omega) (by omega) (by omega) (by rw[QY];exact hd) ?_ λj hj=> ?_)
   ·simp only[TB,QV,e1,e2,Qk,aQ,hv1,hdx,Qa,e3,hv2,hdy,hne,hxy,decide_false,Qp,e4,e5,bg,hw]
   ·rw[show K+(k2+1)=K+k2+1 by omega,hstep,Qs (λe=>hxy (by injection e with e;exact e.symm)),<-ht,Q7 (by rw[QY];exact hil)]
    congr 1
    ·rw[List.take_set_of_le (QI _)]
    ·simp
   ·rw[List.getElem?_set,Qs (by omega)]
    exact hs j (by omega)
def TA(heq:∀x y,eq x y=decide (x=y))(hne:∀x y,ne x y= !decide (x=y)){s:List α}(hn:s.length<1000000000):∀(r k:Nat),k+r=s.length->1<=k->dd (s.take k)=s.take k->aB (Nr eq ne z) ((k:Int),s,())=some (dd s)
 |0,k,hr,h1,h=>by
  refine bM ?_;have hk:k=s.length:=by omega
  have e2:decide ((k:Int)<(s.length:Int))=false:=Qh (by omega)
  rw[hk,Qq62]at h;simp only[Nr,e2,Ql,Qe,h]
 |r+1,k,hr,h1,h=>by
  have hk:k<s.length:=by omega
  obtain⟨x,hx⟩:∃x,s[k]?=some x:=⟨_,Qv hk⟩;obtain⟨y,hy⟩:∃y,s[k - 1]?=some y:=⟨_,Qv (by omega)⟩
  have e2:decide ((k:Int)<(s.length:Int))=true:=Qg (by omega)
  have e3:cU .i64 (k:Int) 1=((k - 1:Nat):Int):=by rw[pz (by omega) (by omega)];omega
  have e4:aA .i64 (k:Int) 1=((k+1:Nat):Int):=bH (by omega) (by omega)
  have hstep:=VI hx
  have hlast:(dd (s.take k)).getLast?=some y:=by
   have:=PG hy
   rwa [show k - 1+1=k by omega]at this
  rw[rL,hlast]at hstep
  by_cases hxy:x=y
  ·rw[Qr (by rw[hxy])]at hstep
   have e5:cz (k:Int) (s.length:Int) s.length=true:=by
    simp only[cz,Qm,Qi];omega
   have hin:=Lo (eq:=eq) (z:=z) (K:=k) hne hn (s.length - k - 1) k 1 s (by omega) (by omega) (by omega) rfl (by rw[hstep,h]) (λ_ _=>rfl)
   refine bM ?_;simp only[Nr,e2,Qk,bg,QV,hx,hy,e3,Qa,heq,hxy,decide_true,e5];exact hin
  ·rw[Qs (λe=>hxy (by injection e with e;exact e.symm))]at hstep
   refine Eq.trans (bw (s':=(((k+1:Nat):Int),s,())) ?_) (TA heq hne hn r (k+1) (by omega) (by omega) ?_)
   ·simp only[Nr,e2,Qk,bg,QV,hx,hy,e3,Qa,heq,hxy,decide_false,Ql,e4]
   ·obtain⟨hl,hx'⟩:=Qw.1 hx;rw[hstep,h,Q7 hl,hx']
def BY(heq:∀x y,eq x y=decide (x=y))(hne:∀x y,ne x y= !decide (x=y))(s:List α)(hn:s.length<1000000000):Lb eq ne z s=some (dd s):=by
 unfold Lb
 by_cases h:s.length<2
 ·have e:decide ((s.length:Int)<2)=true:=Qg (by omega)
  rw[e,Qk]
  match s,h with
  |[],_|[x],_=>rfl
 ·have e:decide ((s.length:Int)<2)=false:=Qh (by omega)
  rw[e,Ql];refine TA heq hne hn (s.length - 1) 1 (by omega) (by omega) ?_
  cases s with
  |nil|cons x l=>rfl
def Xk(acc:List α)(x:α):∀y,y∈rL acc x↔y∈acc\/y=x:=by
 grind [rL]
def HS:∀(l acc:List α) (y:α),y∈l.foldl rL acc↔y∈acc\/y∈l
 |[],acc,y=>by simp
 |x::l,acc,y=>by
  rw[QU,HS l,Xk];simp[or_assoc]
def aeO(l:List α)(y:α):y∈dd l↔y∈l:=by rw[dd,HS];simp
def Tx(l:List α):(dd l).length<=l.length:=by
 suffices h:∀(l acc:List α),(l.foldl rL acc).length<=acc.length+l.length by simpa[dd]using h l []
 intro l
 induction l with
 |nil=>intro acc;simp
 |cons x l ih=>
  grind [rL]
def Y4{lt:α->α->Bool}(ho:SWO lt)(hto:∀x y,lt x y=false->lt y x=false->x=y){l:List α}(hl:l.Pairwise (λa b=>lt b a=false)):(dd l).Pairwise (λa b=>lt a b=true):=by
 suffices h:∀(l acc:List α),(acc++l).Pairwise (λa b=>lt b a=false)->acc.Pairwise (λa b=>lt a b=true)->(l.foldl rL acc).Pairwise (λa b=>lt a b=true)from h l [] (by simpa using hl) .nil
 intro l
 induction l with
 |nil=>intro acc _ h;exact h
 |cons x l ih=>
  intro acc h1 h2;rw[QU];unfold rL;split
  ·rename_i hlast;refine ih acc ?_ h2
   grind
  ·rename_i hlast;refine ih _ (by simpa using h1) ?_
   rw[Qq69]at h1 ⊢;refine⟨h2,by simp,λa ha b hb=> ?_⟩
   rw[Q5.1 hb];have hax:lt x a=false:=h1.2.2 a ha x (by simp)
   cases hc:lt a x with
   |true=>rfl
   |false=>
    exfalso;have e:=hto a x hc hax;subst e
    obtain⟨y,hy⟩:∃y,acc.getLast?=some y:=by
     cases hg:acc.getLast? with
     |none=>rw[List.getLast?_eq_none_iff.1 hg]at ha;cases ha
     |some y=>exact⟨y,rfl⟩
    obtain⟨pre,rfl⟩:∃pre,acc=pre++[y]:=by
     have:=List.getLast?_eq_some_iff.1 hy;exact this
    rcases Qz.1 ha with ha|ha
    ·rw[Qq69]at h2;have h3:=h2.2.2 a ha y (by simp)
     have h4:=h1.2.2 y (by simp) a (by simp)
     rw[h3]at h4;cases h4
    ·rw[Q5.1 ha]at hlast;exact hlast hy
end
end
section
def aaJ(s:List Int):oY s=Lb (λx y=>decide (x=y)) (λx y=> !decide (x=y)) 0 s:=rfl
 def jF(v:ByteArray)(e:aj):Bool:=bc e&&decide (e.ab.Value=v)&& !decide (e.aY=0)
 def ends(v:ByteArray)(l:List aj):List Int:=l.flatMap λe=>if jF v e then[e.aY,e.bq]else[]
def CD{v:ByteArray}{l:List aj}{x:Int}:x∈ends v l↔∃e∈l,jF v e=true/\(x=e.aY\/x=e.bq):=by
 simp only[ends,QQ];constructor
 ·rintro⟨e,he,hx⟩;split at hx
  ·rename_i h;exact⟨e,he,h,by simpa using hx⟩
  ·cases hx
 ·rintro⟨e,he,h,hx⟩;exact⟨e,he,by rw[Qr h];simpa using hx⟩
end
section
def IH{v:bd}{aD:Int}{l:List aj}(hl:l.length<=1000000)(hin:xS l)(val:ByteArray)(lo hi:Int):jq ⟨aD,v,l.map bJ.mk⟩ val lo hi=some ((eZ (iw · val lo hi) l:Nat):Int):=by
 unfold jq;refine Fq (iw · val lo hi) l hin _ (λi e s he=> ?_) (λs=> ?_)
 ·have hlt:i<l.length:=(Qw.1 he).1;have hd:decide ((i:Int)<(((l.map bJ.mk).length:Nat):Int))=true:=Qg (by rw[QC];omega)
  have hw:aA .i64 (i:Int) 1=((i+1:Nat):Int):=bH (by omega) (by omega)
  have hx:idx (l.map bJ.mk) (i:Int)=some ⟨e⟩:=by rw[bg,QT,he];rfl
  simp only[hd,hx,hw,Qk,Qa,etas,mN,vf,aQ];cases iw e val lo hi<;>simp
 ·have hd:decide ((l.length:Int)<(((l.map bJ.mk).length:Nat):Int))=false:=Qh (by rw[QC];exact Qq64 _)
  simp only[hd,Ql,Qe]
def UK{v:bd}{aD:Int}{l:List aj}(hl:l.length<=1000000)(hin:xS l)(val:ByteArray)(lo hi:Int):gF ⟨aD,v,l.map bJ.mk⟩ val lo hi val lo hi=some ((eZ (λe=>ui e val lo hi||iw e val lo hi) l:Nat):Int):=by
 unfold gF;refine Fq (λe=>ui e val lo hi||iw e val lo hi) l hin _ (λi e s he=> ?_) (λs=> ?_)
 ·have hlt:i<l.length:=(Qw.1 he).1;have hd:decide ((i:Int)<(((l.map bJ.mk).length:Nat):Int))=true:=Qg (by rw[QC];omega)
  have hw:aA .i64 (i:Int) 1=((i+1:Nat):Int):=bH (by omega) (by omega)
  have hx:idx (l.map bJ.mk) (i:Int)=some ⟨e⟩:=by rw[bg,QT,he];rfl
  simp only[hd,hx,hw,Qk,Qa,etas,aj.eta,jv,mN,xF,vf,EA,aQ,k8,Bool.cond_true_left];cases (ui e val lo hi||iw e val lo hi)<;>simp
 ·have hd:decide ((l.length:Int)<(((l.map bJ.mk).length:Nat):Int))=false:=Qh (by rw[QC];exact Qq64 _)
  simp only[hd,Ql,Qe]
 def Hr(aD:Nat)(t:ak)(l:List aj):gE:=⟨aD,⟨jZ aD t l⟩,(cO l).map bJ.mk⟩
 def mD(aD:Nat)(t:ak)(l:List aj)(val:ByteArray)(lo hi:Int):Bool:=
 ql (jZ aD t l) aD (eZ (λe=>ui e val lo hi||iw e val lo hi) (cO l)) (eZ (iw · val lo hi) (cO l))
 def uN(aD:Nat)(t:ak)(l:List aj)(val:ByteArray)(lo hi:Int):Bool:=
 (gq (jZ aD t l) (eZ (iw · val lo hi) (cO l))).testBit aD
section
variable {aD : Nat} (hn : aD < 10) {t : ak} (ht : cQ t) {l : List aj} (hl : sv l)
 include hn ht hl
theorem Sd(val:ByteArray)(lo hi:Int):ik (Hr aD t l) val lo hi=some (mD aD t l val lo hi):=by
 have hlen:=hl.len;have hrl:=BI l;have hin:=mu l
 simp only[Hr,ik,pt,km,Qa,UK (by omega:(cO l).length<=1000000) hin,IH (by omega:(cO l).length<=1000000) hin,
  Bg (oI ht hl) hn (mS hin) (mS hin),mD]
theorem ab9(val:ByteArray)(lo hi:Int):nv (Hr aD t l) val lo hi=some (uN aD t l val lo hi):=by
 have hlen:=hl.len;have hrl:=BI l;have hin:=mu l;simp only[Hr,nv,pt,lY,Qa,IH (by omega:(cO l).length<=1000000) hin,zQ (oI ht hl) hn (mS hin),uN]
theorem look_eq:fO aD t l=some (Hr aD t l):=OV hn ht hl
end
def cZ(q:Int->Bool):List Int->Int->Int
 |[],lo=>lo
 |e::l,lo=>if lo<=e then cZ q l lo else if q e then cZ q l e else lo
def Cf{p:Int->Option Bool}{q:Int->Bool}(h:∀e,p e=some (q e)):∀(l:List Int) (lo:Int),mX (λ(m5:Nat) (e6:Int) (v4:Int×Unit)=>
  bif (decide (v4.1<=e6))then some (Sum.inl (v4.1,()))else
  Option.bind (p e6) λr7=>bif (!r7)then Option.map Sum.inr (some v4.1)else some (Sum.inl (e6,()))) (λv8=>some v8.1) l (lo,())=some (cZ q l lo)
 |[],lo=>rfl
 |e::l,lo=>by
  rw[mX,cZ]
  by_cases hle:lo<=e
  ·rw[Qr hle];simp only[hle,decide_true,Qk];exact Cf h l lo
  ·rw[Qs hle];simp only[hle,decide_false,Ql,h,Qa]
   cases hq:q e with
   |true=>
    simp only[Qo,Ql,Qt];have:=Cf h l e;simp only[h,Qa]at this;exact this
   |false=>rfl
def flat(n:Nat)(k:Int):ak:=⟨k,wy n,[]⟩
structure GL (n:Nat) (k:Int) (l:List aj):Prop where
 n10:n<=10
 k1:1<=k
 kn:k<=n
 valid:∀e∈l,bc e=true
 aO:∀e∈l,e.aa=flat n k
 few:l.length<=1000
 all:∀i,i<n->∃e∈l,e.al.toNat=i
def GL.gR{n:Nat}{k:Int}{l:List aj}(h:GL n k l):dO (flat n k):=PO n h.n10 k h.k1 h.kn
def GL.sm{n:Nat}{k:Int}{l:List aj}(h:GL n k l):sv l:=⟨by have:=h.few;omega,λe he=>by rw[h.aO e he];exact h.gR.sm⟩
def GL.cO{n:Nat}{k:Int}{l:List aj}(h:GL n k l):Go.Proofs.YtofedieniojipaaGreat.cO l=l:=Wc h.valid
def cE(n:Nat)(k:Int)(c:Int)(v:ByteArray)(lo hi:Nat->Int)(i:Nat):aj:=⟨i,1,1,flat n k,2,⟨c,v⟩,⟨c,v⟩,⟨0,bE⟩,lo i,hi i⟩
end
section
def CX(b:List Int)(sure:Int->Int->Bool):Int×Int×Bool×Unit:=
 match b.reverse.find? (λe=>sure e e)with
 |some e=>(cZ (λx=>sure x e) b.reverse e,e,true,())
 |none=>(0,0,false,())
def VA{p:Int->Option Bool}{q:Int->Bool}{d:Int->Option Int}{f:Int->Int}(hp:∀e,p e=some (q e))(hd:∀e,d e=some (f e)):∀r:List Int,mX (λ(m5:Nat) (e6:Int) (v4:Int×Int×Bool×Unit)=>
  Option.bind (p e6) λr7=>bif r7 then Option.bind (d e6) λr8=>Option.map Sum.inr (some (r8,e6,true,()))else some (Sum.inl (v4.1,v4.2.1,v4.2.2.1,()))) (λ(v9:Int×Int×Bool×Unit)=>some ((0:Int),(0:Int),false,())) r ((0:Int),(0:Int),false,())=
  some (match r.find? q with|some e=>(f e,e,true,())|none=>(0,0,false,()))
 |[]=>rfl
 |e::r=>by
  have ih:=VA hp hd r;rw[mX,List.find?_cons];simp only[hp,hd,Qa,Qe]at ih ⊢
  cases q e with
  |true=>rfl
  |false=>simp only[Ql];exact ih
section
variable {aD : Nat} (hn : aD < 10) {t : ak} (ht : cQ t) {l : List aj} (hl : sv l)
 include hn ht hl
end
section
variable {n : Nat} {k c : Int} {v : ByteArray} {lo hi : Nat -> Int} (h : GL n k ((List.range n).map (cE n k c v lo hi))) {i : Nat} (hi' : i < n)
 include h hi'
end
end
section
section
variable {α : Type}
structure wR (lt:α->α->Bool):Prop where
 irrefl:∀x,lt x x=false
 trans:∀x y z,lt x y=true->lt y z=true->lt x z=true
 total:∀x y,lt x y=false->lt y x=false->x=y
variable {lt : α -> α -> Bool}
def wR.asymm(h:wR lt){x y:α}(hxy:lt x y=true):lt y x=false:=by
 cases hc:lt y x with
 |false=>rfl
 |true=>have:=h.trans x y x hxy hc;rw[h.irrefl]at this;cases this
def wR.ntrans(h:wR lt){x y z:α}(h1:lt x y=false)(h2:lt y z=false):lt x z=false:=by
 cases hc:lt x z with
 |false=>rfl
 |true=>
  cases hyx:lt y x with
  |false=>rw[h.total x y h1 hyx,h2]at hc;cases hc
  |true=>have:=h.trans y x z hyx hc;rw[h2]at this;cases this
def wR.kit(h:wR lt):Go.Sort.SWO lt:=⟨h.irrefl,h.trans,λ_ _ _=>h.ntrans⟩
def wR.own(h:wR lt):SWO lt:=⟨λ_ _=>h.asymm,λ_ _ _ h1 h2=>h.ntrans h2 h1⟩
def wR.flip(h:wR lt):wR λa b=>lt b a:=⟨h.irrefl,λx y z h1 h2=>h.trans z y x h2 h1,λx y h1 h2=>h.total x y h2 h1⟩
def wR.unique(h:wR lt):∀{a b:List α},a.Pairwise (λx y=>lt x y=true)->b.Pairwise (λx y=>lt x y=true)->(∀x,x∈a↔x∈b)->a=b
 |[],[],_,_,_=>rfl
 |[],y::b,_,_,h'=>by have:=(h' y).2 (by simp);cases this
 |x::a,[],_,_,h'=>by have:=(h' x).1 (by simp);cases this
 |x::a,y::b,ha,hb,h'=>by
  rw[Q4]at ha hb
  have hxy:x=y:=by
   have h1:=(h' x).1 (by simp)
   have h2:=(h' y).2 (by simp)
   rcases QA.1 h1 with h1|h1
   ·exact h1
   ·rcases QA.1 h2 with h2|h2
    ·exact h2.symm
    ·have q1:=ha.1 y h2;have q2:=hb.1 x h1;rw[h.asymm q1]at q2;cases q2
  subst hxy;congr 1;refine h.unique ha.2 hb.2 λz=>⟨λhz=> ?_,λhz=> ?_⟩
  ·rcases QA.1 ((h' z).1 (by simp[hz]))with e|e
   ·subst e;have:=ha.1 z hz;rw[h.irrefl]at this;cases this
   ·exact e
  ·rcases QA.1 ((h' z).2 (by simp[hz]))with e|e
   ·subst e;have:=hb.1 z hz;rw[h.irrefl]at this;cases this
   ·exact e
def wR.V3[DecidableEq α](h:wR lt){cmp:α->α->Option Int}{c:α->α->Int}(hc:∀x y,cmp x y=some (c x y))(hlt:∀x y,decide (c x y<0)=lt x y)(s:List α)(hs:s.length<1000000000):
  ∃t,A8 cmp s=some ((),t)/\t.length=s.length/\(dd t).Pairwise (λx y=>lt x y=true)/\∀x,x∈dd t↔x∈s:=by
 have hcf:IA cmp=c:=funext λx=>funext λy=>by unfold IA;rw[hc];rfl
 have hl:Go.Proofs.ltOf (IA cmp)=lt:=by
  rw[hcf];exact funext λx=>funext λy=>hlt x y
 have hok:abX cmp:=⟨λx y=>by rw[hcf];exact hc x y,by rw[hl];exact h.kit,λx y h1 h2=>by rw[hl]at h1 h2;exact h.total x y h1 h2⟩
 refine⟨s.mergeSort λx y=> !lt y x,?_,List.length_mergeSort s,Y4 h.own h.total ?_,λx=>by rw[aeO,List.mem_mergeSort]⟩
 ·unfold A8;rw[Qr ⟨hok,by omega⟩,hl]
 ·refine(List.pairwise_mergeSort (le:=λx y=> !lt y x) (λa b c h1 h2=> ?_) (λa b=> ?_) s).imp λ{a b} hab=>by simpa using hab
  ·simp only[Bool.not_eq_true']at h1 h2 ⊢;exact h.ntrans h2 h1
  ·cases hab:lt a b with
   |false=>simp
   |true=>rw[h.asymm hab];rfl
end
def IX:wR λa b:Int=>decide (a<b):=
 ⟨λx=>Qh (Qq64 x),λx y z h1 h2=>by simp only[Qi]at*;omega,λx y h1 h2=>by simp only[Qj]at*;omega⟩
def TN:∀{x y z:List UInt8},Op.bytesLess x y=true->Op.bytesLess y z=true->Op.bytesLess x z=true
 |[],[],_,h,_=>by simp[Op.bytesLess]at h
 |_::_,[],_,h,_=>by simp[Op.bytesLess]at h
 |[],_::_,[],_,h=>by simp[Op.bytesLess]at h
 |[],_::_,_::_,_,_=>rfl
 |_::_,_::_,[],_,h=>by simp[Op.bytesLess]at h
 |a::x,b::y,c::z,h,h'=>by
  simp only[Op.bytesLess,Qn,Qi,Qm,beq_iff_eq]at h h' ⊢;rcases h with h|⟨rfl,h⟩
  ·rcases h' with h'|⟨rfl,h'⟩
   ·exact .inl (UInt8.lt_trans h h')
   ·exact .inl h
  ·rcases h' with h'|⟨rfl,h'⟩
   ·exact .inl h'
   ·exact .inr ⟨rfl,TN h h'⟩
def Ui{a b c:ByteArray}(h:kO a b=true)(h':kO b c=true):kO a c=true:=TN h h'
def Uj{a b:ByteArray}(h:a≠b):kO a b=true\/kO b a=true:=
 TO λe=>h (by
  rw[Lib.toList_data,Lib.toList_data]at e;cases a;cases b;rename_i x y;cases x;cases y
  simp_all)
def jd:wR bO:=by
 refine⟨λx=>by rw[bO,Qr rfl,Cn],λx y z h1 h2=> ?_,λx y h1 h2=> ?_⟩
 ·unfold bO at*
  by_cases e1:x.size=y.size
  ·rw[Qr e1]at h1
   by_cases e2:y.size=z.size
   ·rw[Qr e2]at h2;rw[Qr (e1.trans e2)];exact Ui h1 h2
   ·rw[Qs e2]at h2;rw[Qs (by omega),e1]
    exact h2
  ·rw[Qs e1,Qi]at h1
   by_cases e2:y.size=z.size
   ·rw[Qs (by omega),<-e2]
    exact Qg h1
   ·rw[Qs e2,Qi]at h2;rw[Qs (by omega)]
    exact Qg (by omega)
 ·unfold bO at*
  by_cases e1:x.size=y.size
  ·rw[Qr e1]at h1;rw[Qr e1.symm]at h2;refine Classical.byContradiction λhne=> ?_
   rcases Uj hne with h|h
   ·rw[h]at h1;cases h1
   ·rw[h]at h2;cases h2
  ·rw[Qs e1,Qj]at h1;rw[Qs (λe=>e1 e.symm),Qj]at h2
   omega
def Du:wR bB:=by
 refine⟨λx=>by rw[bB,Qr rfl,jd.irrefl],λx y z h1 h2=> ?_,λx y h1 h2=> ?_⟩
 ·unfold bB at*
  by_cases e1:x.ai=y.ai
  ·rw[Qr e1]at h1
   by_cases e2:y.ai=z.ai
   ·rw[Qr e2]at h2;rw[Qr (e1.trans e2)];exact jd.trans _ _ _ h1 h2
   ·rw[Qs e2]at h2;rw[Qs (by omega),e1]
    exact h2
  ·rw[Qs e1,Qi]at h1
   by_cases e2:y.ai=z.ai
   ·rw[Qs (by omega),<-e2]
    exact Qg h1
   ·rw[Qs e2,Qi]at h2;rw[Qs (by omega)]
    exact Qg (by omega)
 ·unfold bB at*
  by_cases e1:x.ai=y.ai
  ·rw[Qr e1]at h1;rw[Qr e1.symm]at h2;have:=jd.total _ _ h1 h2;cases x;cases y
   simp_all
  ·rw[Qs e1,Qj]at h1;rw[Qs (λe=>e1 e.symm),Qj]at h2
   omega
end
section
structure NU (n:Nat) (l:List aj):Prop where
 of:∀e∈l,∃i:Nat,i<n/\NV i 1 n e
 Ff:l.Pairwise λa b=>a.al<b.al
 len:l.length<=n
def NU.valid{n:Nat}{l:List aj}(h:NU n l):∀e∈l,bc e=true:=λe he=>by
 obtain⟨i,_,hi⟩:=h.of e he;rw[bc,Aq hi.aO];exact hi.valid
def NU.sm{n:Nat}{l:List aj}(h:NU n l)(hn:n<=1000):sv l:=⟨by have:=h.len;omega,λe he=>by
 obtain⟨i,_,hi⟩:=h.of e he
 exact hi.aO.sm⟩
def Fl.mono{l:List bf}{s s' r:Nat}(h:∀k,s.testBit k=true->s'.testBit k=true)(hi:Fl l s r):Fl l s' r:=λk hk=>⟨h k (hi k hk).1,(hi k hk).2⟩
section
variable {aD : Nat} {t : ak} (ht : cQ t) {l : List aj} (hl : sv l) {v : ByteArray} {lo hi k : Int} (h1 : lo <= k) (h2 : k <= hi)
 include ht hl h1 h2
end
end
section
section
variable {α : Type}
 def tt(p:α->Option Bool)(a0:List α)(v1:Int×Unit):Option ((Int×Unit)⊕Int):=
 bif (decide (v1.1<((List.length a0:Nat):Int)))then
  Option.bind (idx a0 v1.1) λx2=>Option.bind (p x2) λr3=>bif r3 then Option.map Sum.inr (some v1.1)else some (Sum.inl ((aA .i64 v1.1 (1:Int)),()))
 else Option.map Sum.inr (some (-1:Int))
 def YR(p:α->Option Bool)(a0:List α):Option Int:=aB (tt p a0) ((0:Int),())
 def E7(p:α->Option Bool)(z:α)(v2:Int×Int×(List α)×Unit):Option ((Int×Int×(List α)×Unit)⊕List α):=
 bif (decide (v2.2.1<((List.length v2.2.2.1:Nat):Int)))then
  bb (λ(v3:Int×(List α)×Unit)=>some (Sum.inl (v3.1,(aA .i64 v2.2.1 (1:Int)),v3.2.1,()))) λj4=>
  Option.bind (idx v2.2.2.1 v2.2.1) λx5=>Option.bind (v2.2.2.1[(Int.toNat v2.2.1)]?) λx6=>Option.bind (p x6) λr7=>
  bif (!r7)then
   Option.bind (idx v2.2.2.1 v2.1) λx8=>Option.bind (v2.2.2.1[(Int.toNat v2.1)]?) λx9=>j4 ((aA .i64 v2.1 (1:Int)),(v2.2.2.1.set (Int.toNat v2.1) x6),())
  else j4 (v2.1,v2.2.2.1,())
 else
  Option.map Sum.inr (bif cz v2.1 ((List.length v2.2.2.1):Int) (List.length v2.2.2.1)then
   bif cz (0:Int) v2.1 (List.length (v2.2.2.1.take (Int.toNat v2.1)++List.replicate (Int.toNat ((List.length v2.2.2.1):Int) - Int.toNat v2.1) z++v2.2.2.1.drop ((Int.toNat v2.1)+(Int.toNat ((List.length v2.2.2.1):Int) - Int.toNat v2.1))))then
    some ((v2.2.2.1.take (Int.toNat v2.1)++List.replicate (Int.toNat ((List.length v2.2.2.1):Int) - Int.toNat v2.1) z++v2.2.2.1.drop ((Int.toNat v2.1)+(Int.toNat ((List.length v2.2.2.1):Int) - Int.toNat v2.1))).take (Int.toNat v2.1 - Int.toNat (0:Int)))
   else none
  else none)
 def Vw(p:α->Option Bool)(z:α)(s:List α):Option (List α):=
 Option.bind (YR p s) λr1=>bif (decide (r1=(-1:Int)))then some s else aB (E7 p z) (r1,(aA .i64 r1 (1:Int)),s,())
def Eo{q:α->Bool}{s:List α}{j:Nat}{x:α}(h:s[j]?=some x):(s.take (j+1)).filter q=(s.take j).filter q++if q x then[x]else[]:=by
 obtain⟨hl,hx⟩:=Qw.1 h;rw[Q7 hl,List.filter_append,hx];congr 1;cases hq:q x<;>simp[hq]
variable {p : α -> Option Bool} {q : α -> Bool} (hp : ∀ x, p x = some (q x)) {z : α}
 include hp
theorem Ta{s:List α}(hs:s.length<1000000000):∀(k i:Nat),i+k=s.length->(s.take i).filter (λx=> !q x)=s.take i->
  (∃m:Nat,∃x,aB (tt p s) ((i:Int),())=some (m:Int)/\(s.take m).filter (λx=> !q x)=s.take m/\s[m]?=some x/\q x=true)\/(aB (tt p s) ((i:Int),())=some (-1)/\s.filter (λx=> !q x)=s)
 |0,i,hi,hf=>by
  have hd:decide ((i:Int)<(s.length:Int))=false:=Qh (by omega)
  refine .inr ⟨bM ?_,?_⟩
  ·simp only[tt,hd,Ql,Qe]
  ·rwa [show i=s.length by omega,Qq62]at hf
 |k+1,i,hi,hf=>by
  have hd:decide ((i:Int)<(s.length:Int))=true:=Qg (by omega)
  have hw:aA .i64 (i:Int) 1=((i+1:Nat):Int):=bH (by omega) (by omega)
  obtain⟨x,hx⟩:∃x,s[i]?=some x:=⟨_,Qv (by omega)⟩
  cases hq:q x with
  |true=>
   refine .inl ⟨i,x,bM ?_,hf,hx,hq⟩;simp only[tt,hd,Qk,bg,hx,Qa,hp,hq,Qe]
  |false=>
   have hstep:aB (tt p s) ((i:Int),())=aB (tt p s) (((i+1:Nat):Int),()):=bw (by simp only[tt,hd,Qk,bg,hx,Qa,hp,hq,Ql,hw])
   rw[hstep];refine Ta hs k (i+1) (by omega) ?_
   rw[Eo hx,hf,hq];obtain⟨hl,hx'⟩:=Qw.1 hx;rw[Q7 hl,hx'];rfl
theorem Lh{s:List α}(hs:s.length<1000000000):∀(r i j:Nat) (d:List α),j+r=s.length->i<j->d.length=s.length->d.take i=(s.take j).filter (λx=> !q x)->(∀m,j<=m->d[m]?=s[m]?)->
  aB (E7 p z) ((i:Int),(j:Int),d,())=some (s.filter λx=> !q x)
 |0,i,j,d,hr,hij,hd,ht,hm=>by
  have e2:decide ((j:Int)<(d.length:Int))=false:=Qh (by omega)
  refine bM ?_
  have e3:∀n,cz (i:Int) (d.length:Int) n=decide (d.length<=n):=by
   intro n;simp only[cz];have h1:decide ((0:Int)<=(i:Int))=true:=Qg (by omega)
   have h2:decide ((i:Int)<=(d.length:Int))=true:=Qg (by omega)
   rw[h1,h2,Bool.and_self,Bool.true_and,decide_eq_decide];omega
  have e4:(d.take i++List.replicate (d.length - i) z++d.drop (i+(d.length - i))).length=d.length:=by simp;omega
  have e5:cz (0:Int) (i:Int) d.length=true:=by
   simp only[cz,Qm,Qi];omega
  have e6:(d.take i++List.replicate (d.length - i) z++d.drop (i+(d.length - i))).take (i - 0)=s.filter λx=> !q x:=by
   rw[Nat.sub_zero,QL,List.take_append_of_le_length (by simp;omega),List.take_take,Nat.min_self,ht,show j=s.length by omega,Qq62]
  simp only[E7,e2,Ql,QV,e3,QI,decide_true,Qk,e4,e5,Int.toNat_zero,e6,Qe]
 |r+1,i,j,d,hr,hij,hd,ht,hm=>by
  have e2:decide ((j:Int)<(d.length:Int))=true:=Qg (by omega)
  have ej:aA .i64 (j:Int) 1=((j+1:Nat):Int):=bH (by omega) (by omega)
  have ei:aA .i64 (i:Int) 1=((i+1:Nat):Int):=bH (by omega) (by omega)
  obtain⟨x,hx⟩:∃x,s[j]?=some x:=⟨_,Qv (by omega)⟩
  obtain⟨y,hy⟩:∃y,d[i]?=some y:=⟨_,Qv (by omega)⟩
  have hdx:d[j]?=some x:=by rw[hm j (QI _),hx]
  have hstep:=Eo (q:=λx=> !q x) hx
  cases hq:q x with
  |true=>
   rw[hq]at hstep;refine(bw (s':=((i:Int),((j+1:Nat):Int),d,())) ?_).trans (Lh hs r i (j+1) d (by omega) (by omega) hd (by rw[hstep,ht];simp) λm h=>hm m (by omega))
   simp only[E7,e2,Qk,aQ,bg,QV,hdx,Qa,hp,hq,Qo,Ql,ej]
  |false=>
   rw[hq]at hstep;refine(bw (s':=(((i+1:Nat):Int),((j+1:Nat):Int),d.set i x,())) ?_).trans (Lh hs r (i+1) (j+1) (d.set i x) (by omega) (by omega) (by rw[QY];exact hd) ?_ λm h=> ?_)
   ·simp only[E7,e2,Qk,aQ,bg,QV,hdx,hy,Qa,hp,hq,Qp,ej,ei]
   ·rw[hstep,<-ht,Q7 (by rw[QY];omega),List.take_set_of_le (QI _)]
    simp
   ·rw[List.getElem?_set,Qs (by omega)]
    exact hm m (by omega)
theorem WX(s:List α)(hs:s.length<1000000000):Vw p z s=some (s.filter λx=> !q x):=by
 rw[Vw,YR];rcases Ta hp hs s.length 0 (by omega) (by simp)with⟨m,x,h1,h2,h3,h4⟩|⟨h1,h2⟩
 ·have hm:m<s.length:=(Qw.1 h3).1;have h1':aB (tt p s) ((0:Int),())=some (m:Int):=h1;have e:decide ((m:Int)= -1)=false:=Qh (by omega)
  rw[h1',Qa,e,Ql,show aA .i64 (m:Int) 1=((m+1:Nat):Int)from bH (by omega) (by omega)]
  refine Lh hp hs (s.length - (m+1)) m (m+1) s (by omega) (by omega) rfl ?_ λ_ _=>rfl
  rw[Eo h3,h2,h4];simp
 ·have h1':aB (tt p s) ((0:Int),())=some (-1):=h1;rw[h1',Qa,h2];rfl
end
def Gu{α β ρ:Type}(l:List α)(hl:l.length<=1000000)(f:α->List β)(hf:∀x∈l,(f x).length<=3){step:Int×List β×Unit->Option ((Int×List β×Unit)⊕ρ)}{fin:List β->Option ρ}
  (h1:∀(i:Nat) (x:α) (acc:List β),x∈l->decide ((i:Int)<(l.length:Int))=true->idx l (i:Int)=some x->aA .i64 (i:Int) 1=((i+1:Nat):Int)->(∀bytes n:Nat,bytes<=40->n<=3->acc.length<=3000000->bl bytes (acc.length+n)=true)->acc.length<=3000000->step ((i:Int),acc,())=some (.inl (((i+1:Nat):Int),acc++f x,())))
  (h2:∀acc,decide ((l.length:Int)<(l.length:Int))=false->step ((l.length:Int),acc,())=Option.map Sum.inr (fin acc)):aB step ((0:Int),([]:List β),())=fin (l.flatMap f):=by
 suffices key:∀(k i:Nat) (acc:List β),i+k=l.length->acc=(l.take i).flatMap f->acc.length<=3*i->aB step ((i:Int),acc,())=fin (l.flatMap f)from key l.length 0 [] (by omega) (by simp) (by simp)
 intro k
 induction k with
 |zero=>
  intro i acc hi ha hal;obtain rfl:i=l.length:=by omega
  rw[Qq62]at ha;rw[fb,h2 acc (Qh (Qq64 _)),ha];cases fin (l.flatMap f)<;>rfl
 |succ k ih=>
  intro i acc hi ha hal;have hlt:i<l.length:=by omega
  have hx:l[i]?=some l[i]:=Qv hlt;have:=hf _ (Q0 hlt);refine(bw (h1 i l[i] acc (Q0 hlt) (Qg (by omega)) (by rw[bg];exact hx) (bH (by omega) (by omega)) (λbytes n hb hn ha=> ?_) (by omega))).trans (ih (i+1) _ (by omega) ?_ (by rw[QB];omega))
  ·simp only[bl,Qm,Qi];exact⟨QK (Nat.mul_le_mul (show acc.length+n<=3000003 by omega) hb) (show 3000003*40<=140737488355328 by decide),QK (show acc.length+n<=3000003 by omega) (by simp[maxLen])⟩
  ·rw[Q7 hlt,List.flatMap_append,ha];simp
instance:Inhabited ae:=⟨⟨0,bE⟩⟩
instance:DecidableEq ae:=λa b=>decidable_of_iff (a.ai=b.ai/\a.Value=b.Value) (by cases a;cases b;simp)
def ab5(s:List ae)(hs:s.length<1000000000):∃b,eW s=some b/\b.Pairwise (λx y=>bB y x=true)/\b.length<=s.length/\∀x,x∈b↔x∈s:=by
 obtain⟨t,h1,h2,h3,h4⟩:=Du.flip.V3 (cmp:=ni) (c:=λx y=>TG y x) (λx y=>by simp[ni]) (λx y=>TF y x) s hs
 have hc:=BY (eq:=λx y:ae=>lC false x.ai y.ai x.Value y.Value) (ne:=λx y=>lC true x.ai y.ai x.Value y.Value) (z:=ae.mk 0 bE) (λx y=>by
  rw[AO,QW];cases x;cases y;simp) (λx y=>by
  rw[aay];congr 1;rw[QW];cases x;cases y
  simp) t (by omega)
 refine⟨dd t,?_,h3,by have:=Tx t;omega,h4⟩
 have h1':gd s=some ((),t):=h1;have hc':iz t=some (dd t):=hc;simp only[eW,h1',hc',Qa]
def ab3(s:List ByteArray)(hs:s.length<1000000000):∃b,fV s=some b/\b.Pairwise (λx y=>bO x y=true)/\b.length<=s.length/\∀x,x∈b↔x∈s:=by
 obtain⟨t,h1,h2,h3,h4⟩:=jd.V3 (cmp:=gP) (c:=wb) (λx y=>Bm x y) uQ s hs
 have hc:=BY (eq:=λx y:ByteArray=>decide (x=y)) (ne:=λx y=> !decide (x=y)) (z:=bE) (λ_ _=>rfl) (λ_ _=>rfl) t (by omega)
 refine⟨dd t,?_,h3,by have:=Tx t;omega,h4⟩
 have h1':iT s=some ((),t):=h1;have hc':eK t=some (dd t):=hc;simp only[fV,h1',hc',Qa]
def aaO(a b:Int):decide (xw a b<0)=decide (a<b):=by rw[decide_eq_decide];exact Gv a b
def ab4(s:List Int)(hs:s.length<1000000000):∃b,gN s=some b/\b.Pairwise (·<·)/\b.length<=s.length/\∀x,x∈b↔x∈s:=by
 obtain⟨t,h1,h2,h3,h4⟩:=IX.V3 (cmp:=eX) (c:=xw) (λx y=>GM x y) aaO s hs
 have hc:=BY (eq:=λx y:Int=>decide (x=y)) (ne:=λx y=> !decide (x=y)) (z:=0) (λ_ _=>rfl) (λ_ _=>rfl) t (by omega)
 refine⟨dd t,?_,h3.imp λh=>of_decide_eq_true h,by have:=Tx t;omega,h4⟩
 have h1':lf s=some ((),t):=h1;simp only[gN,h1',Qa,aaJ,hc]
 def said(e:aj):List ae:=if bc e then(if e.bC=1 then[e.ab,e.ao,e.az]else if e.bC=2 then[e.ao,at_ e 1000000]else[at_ e 1000000])else[]
def FH(e:aj):(said e).length<=3:=by
 unfold said;split
 ·split
  ·simp
  ·split<;>simp
 ·simp
def uK{α β:Type}(f:α->List β)(hf:∀x,(f x).length<=3):∀l:List α,(l.flatMap f).length<=3*l.length
 |[]=>by simp
 |x::l=>by
  have:=uK f hf l;have:=hf x;rw[List.flatMap_cons,QB,QE];omega
section
variable {l : List aj} (hl : ∀ e ∈ l, cQ e.aa) (hlen : l.length <= 1000)
 include hl hlen
theorem XM:∃b,iB l=some b/\b.Pairwise (λx y=>bB y x=true)/\b.length<=3000/\∀x,x∈b↔∃e∈l,x∈said e/\aM x=false:=by
 have hd:=WX (p:=bA) (q:=aM) df (z:=ae.mk 0 bE) (l.flatMap said) (by have:=uK said FH l;omega)
 obtain⟨b,h1,h2,hbl,h3⟩:=ab5 ((l.flatMap said).filter λx=> !aM x) (by have:=uK said FH l;have:=List.length_filter_le (λx=> !aM x) (l.flatMap said);omega)
 refine⟨b,?_,h2,by have:=uK said FH l;have:=List.length_filter_le (λx=> !aM x) (l.flatMap said);omega,λx=> ?_⟩
 ·unfold iB;refine(Gu l (by omega) said (λe _=>FH e) (fin:=λacc=>Option.bind (ec acc) λr8=>Option.bind (eW r8) λr9=>some r9) (λi e acc he hd hx hw hok hal=> ?_) (λacc hd=> ?_)).trans ?_
  ·have o1:=hok 24 3 (by omega) (by omega) hal
   have o2:=hok 24 2 (by omega) (by omega) hal
   have o3:=hok 24 1 (by omega) (by omega) hal
   simp only[hd,hx,hw,Qk,aQ,Qa,etas,qP (hl e he),BA,QE,QZ,o1,o2,o3,Nat.zero_add,Nat.reduceAdd];unfold said at_
   cases bc e<;>by_cases k1:e.bC=1<;>by_cases k2:e.bC=2<;>simp[k1,k2]
  ·simp only[hd,Ql]
  ·have hd':ec (l.flatMap said)=_:=hd;simp only[hd',h1,Qa]
 ·rw[h3,List.mem_filter,QQ];constructor
  ·rintro⟨⟨e,he,hx⟩,hz⟩;exact⟨e,he,hx,by simpa using hz⟩
  ·rintro⟨e,he,hx,hz⟩;exact⟨⟨e,he,hx⟩,by simpa using hz⟩
theorem Zr:∃b,kK l=some b/\b.Pairwise (λx y=>bO x y=true)/\b.length<=3000/\∀x,x∈b↔∃e∈l,bc e=true/\x=e.ab.Value:=by
 have hf:∀e:aj,(if bc e then[e.ab.Value]else[]).length<=3:=λe=>by split<;>simp
 obtain⟨b,h1,h2,hbl,h3⟩:=ab3 (l.flatMap λe=>if bc e then[e.ab.Value]else[]) (by have:=uK _ hf l;omega)
 refine⟨b,?_,h2,by have:=uK _ hf l;omega,λx=> ?_⟩
 ·unfold kK;refine(Gu l (by omega) (λe=>if bc e then[e.ab.Value]else[]) (λe _=>hf e) (fin:=λacc=>Option.bind (fV acc) λr6=>some r6) (λi e acc he hd hx hw hok hal=> ?_) (λacc hd=> ?_)).trans ?_
  ·have o3:=hok 16 1 (by omega) (by omega) hal
   simp only[hd,hx,hw,Qk,aQ,Qa,etas,qP (hl e he),QE,QZ,o3,Nat.zero_add];cases bc e<;>simp
  ·simp only[hd,Ql]
  ·simp only[h1,Qa]
 ·rw[h3,QQ];constructor
  ·rintro⟨e,he,hx⟩;split at hx
   ·rename_i hv;exact⟨e,he,hv,by simpa using hx⟩
   ·cases hx
  ·rintro⟨e,he,hv,hx⟩;exact⟨e,he,by rw[Qr hv];simpa using hx⟩
theorem XL(v:ByteArray):∃b,fW l v=some b/\b.Pairwise (·<·)/\b.length<=3000/\∀x,x∈b↔x∈ends v l:=by
 have hf:∀e:aj,(if jF v e then[e.aY,e.bq]else[]).length<=3:=λe=>by split<;>simp
 obtain⟨b,h1,h2,hbl,h3⟩:=ab4 (ends v l) (by have:=uK _ hf l;unfold ends;omega)
 refine⟨b,?_,h2,by have:=uK _ hf l;unfold ends at hbl;omega,h3⟩
 unfold fW;refine(Gu l (by omega) (λe=>if jF v e then[e.aY,e.bq]else[]) (λe _=>hf e) (fin:=λacc=>Option.bind (gN acc) λr6=>some r6) (λi e acc he hd hx hw hok hal=> ?_) (λacc hd=> ?_)).trans ?_
 ·have o3:=hok 8 2 (by omega) (by omega) hal
  simp only[hd,hx,hw,Qk,aQ,Qa,etas,qP (hl e he),QE,QZ,o3,Nat.zero_add,Nat.reduceAdd];unfold jF;cases bc e<;>cases decide (e.ab.Value=v)<;>cases decide (e.aY=0)<;>simp
 ·simp only[hd,Ql]
 ·exact(congrArg (λo=>Option.bind o λr6=>some r6) h1)
end
end
section
def acW{e:aj}(hv:bc e=true):e.bC=1/\0<=e.aY/\e.aY<=e.bq\/e.bC≠1/\1<=e.aY/\e.aY<=e.bq:=by
 unfold bc gK at hv;rw[Qm]at hv;have h:=hv.2
 by_cases k1:e.bC=1
 ·rw[Qr k1]at h;simp only[gL,Qm,Qi]at h;omega
 ·rw[Qs k1]at h
  by_cases k2:e.bC=2
  ·rw[Qr k2]at h;simp only[uO,s5,Qm,Qi]at h;omega
  ·rw[Qs k2]at h
   by_cases k3:e.bC=3
   ·rw[Qr k3]at h;simp only[Al,s5,Qm,Qi]at h;omega
   ·rw[Qs k3]at h;cases h
end
section
def GU:ae:=⟨0,gC⟩
def BV{α τ:Type}(l:List α)(hl:l.length<=1000000)(mk:Int->τ)(P:α->Bool)(z:α){step:τ->Option (τ⊕α)}
  (h1:∀(i:Nat) (x:α),decide ((i:Int)<(l.length:Int))=true->idx l (i:Int)=some x->aA .i64 (i:Int) 1=((i+1:Nat):Int)->step (mk (i:Int))=some (bif P x then .inr x else .inl (mk ((i+1:Nat):Int))))
  (h2:decide ((l.length:Int)<(l.length:Int))=false->step (mk (l.length:Int))=some (.inr z)):aB step (mk 0)=some ((l.find? P).getD z):=by
 suffices key:∀(k i:Nat),i+k=l.length->aB step (mk (i:Int))=some (((l.drop i).find? P).getD z)from key l.length 0 (by omega)
 intro k
 induction k with
 |zero=>
  intro i hi;obtain rfl:i=l.length:=by omega
  rw[bM (h2 (Qh (Qq64 _))),Qq66];rfl
 |succ k ih=>
  intro i hi;have hlt:i<l.length:=by omega
  have hs:=h1 i l[i] (Qg (by omega)) (by rw[bg];exact Qv hlt) (bH (by omega) (by omega))
  rw[QM hlt,List.find?_cons]
  cases hP:P l[i]with
  |true=>rw[hP]at hs;rw[bM hs];rfl
  |false=>rw[hP]at hs;rw[bw hs];exact ih (i+1) (by omega)
 def fe(l:List aj):List ae:=(iB l).getD []
section
variable {l : List aj} (hl : ∀ e ∈ l, cQ e.aa) (hlen : l.length <= 1000)
 include hl hlen
theorem ot:iB l=some (fe l)/\(fe l).Pairwise (λx y=>bB y x=true)/\(fe l).length<=3000/\∀x,x∈fe l↔∃e∈l,x∈said e/\aM x=false:=by
 obtain⟨b,h1,h2,h3,h4⟩:=XM hl hlen;have:fe l=b:=by rw[fe,h1];rfl
 rw[this];exact⟨h1,h2,h3,h4⟩
end
def pO(b:ae):ae:=if 1000<=b.ai then⟨1000000,b.Value⟩else b
def Xg(b:ae):ju b=some (pO b):=by
 unfold ju pO;simp only[aQ,Ch,zO]
def Sn{e:aj}(h:cQ e.aa)(b:ae):qW e b=some (bc e&&dZ e b):=by
 simp only[qW,etas,jC h,Qa,dg,gy,tJ]
 cases hv:bc e with
 |false=>simp
 |true=>
  cases hz:aM b with
  |true=>simp[dZ,hz]
  |false=>
   by_cases k1:e.bC=1
   ·simp[dZ,hz,k1]
   ·by_cases k3:e.bC=3
    ·simp[dZ,hz,k3]
    ·by_cases k2:e.bC=2
     ·have hp:aM e.az=true:=by
       unfold bc gK at hv;rw[Qm,Qs k1,Qr k2]at hv;simp only[uO,Qm]at hv;exact hv.2.1.1.2
      simp[dZ,hz,k2,dU,jo,hp]
     ·unfold bc gK at hv;rw[Qs k1,Qs k2,Qs k3]at hv;simp at hv
end
section
 def gr(l:List aj):List ByteArray:=(kK l).getD []
 def bs(l:List aj)(v:ByteArray):List Int:=(fW l v).getD []
section
variable {l : List aj} (hl : ∀ e ∈ l, cQ e.aa) (hlen : l.length <= 1000)
 include hl hlen
theorem vi:kK l=some (gr l)/\(gr l).Pairwise (λx y=>bO x y=true)/\(gr l).length<=3000/\∀x,x∈gr l↔∃e∈l,bc e=true/\x=e.ab.Value:=by
 obtain⟨b,h1,h2,h3,h4⟩:=Zr hl hlen;have:gr l=b:=by rw[gr,h1];rfl
 rw[this];exact⟨h1,h2,h3,h4⟩
theorem jk(v:ByteArray):fW l v=some (bs l v)/\(bs l v).Pairwise (·<·)/\(bs l v).length<=3000/\∀x,x∈bs l v↔x∈ends v l:=by
 obtain⟨b,h1,h2,h3,h4⟩:=XL hl hlen v;have:bs l v=b:=by rw[bs,h1];rfl
 rw[this];exact⟨h1,h2,h3,h4⟩
end
def DW{l:List aj}(hl:sv l)(hlen:l.length<=1000)(v:ByteArray):∀x∈bs l v,1<=x/\x<=1000:=by
 obtain⟨_,_,_,h⟩:=jk hl.aO hlen v;intro x hx;obtain⟨e,he,hb,hy⟩:=CD.1 ((h x).1 hx);simp only[jF,Qm,Bool.not_eq_true',Qj]at hb;have hv:=hb.1.1;have h0:=hb.2;unfold bc gK at hv;rw[Qm]at hv;have hv:=hv.2
 by_cases k1:e.bC=1
 ·rw[Qr k1]at hv;simp only[gL,finite,Qm,Qi]at hv;omega
 ·rw[Qs k1]at hv
  by_cases k2:e.bC=2
  ·rw[Qr k2]at hv;simp only[uO,s5,Qm,Qi]at hv;omega
  ·rw[Qs k2]at hv
   by_cases k3:e.bC=3
   ·rw[Qr k3]at hv;simp only[Al,s5,Qm,Qi]at hv;omega
   ·rw[Qs k3]at hv;cases hv
def Ni{α A B ρ:Type}(l:List α)(hl:l.length<=1000000)(f:A×B->α->A×B){step:A×Int×B×Unit->Option ((A×Int×B×Unit)⊕ρ)}{fin:A×B->Option ρ}
  (h1:∀(i:Nat) (x:α) (a:A) (b:B),x∈l->decide ((i:Int)<(l.length:Int))=true->idx l (i:Int)=some x->aA .i64 (i:Int) 1=((i+1:Nat):Int)->step (a,(i:Int),b,())=some (.inl ((f (a,b) x).1,((i+1:Nat):Int),(f (a,b) x).2,())))
  (h2:∀a b,decide ((l.length:Int)<(l.length:Int))=false->step (a,(l.length:Int),b,())=Option.map Sum.inr (fin (a,b))) (a:A) (b:B):aB step (a,(0:Int),b,())=fin (l.foldl f (a,b)):=by
 suffices key:∀(k i:Nat) (a:A) (b:B),i+k=l.length->aB step (a,(i:Int),b,())=fin ((l.drop i).foldl f (a,b))from key l.length 0 a b (by omega)
 intro k
 induction k with
 |zero=>
  intro i a b hi;obtain rfl:i=l.length:=by omega
  rw[fb,h2 a b (Qh (Qq64 _)),Qq66,List.foldl_nil];cases fin (a,b)<;>rfl
 |succ k ih=>
  intro i a b hi;have hlt:i<l.length:=by omega
  rw[bw (h1 i l[i] a b (Q0 hlt) (Qg (by omega)) (by rw[bg];exact Qv hlt) (bH (by omega) (by omega))),ih (i+1) _ _ (by omega),QM hlt,QU]
def nL(p q:ae)(v:ByteArray)(n:Int):Bool:=eJ p ⟨n,v⟩||eJ q ⟨n,v⟩
def NQ(v:ByteArray)(n:Int)(p q:ae):pw v n p q=some (nL p q v n):=by
 simp only[pw,tM,Qa,k8,Bool.cond_true_left,nL]
 def Er(b:List Int)(ready:Int->Int->Bool)(low cg:Int):Int×Int:=
 match b.reverse.find? (λn=>decide (cg<n)&&ready n n)with
 |none=>(cZ (λx=>ready x cg) b.reverse low,cg)
 |some n=>
  let bottom:=cZ (λx=>ready x n) b.reverse n
  (cZ (λx=>ready x n) b.reverse (if cg<bottom - 1\/bottom<low then bottom else low),n)
 def Ce(S:gE)(b:List Int)(v:ByteArray)(m8:Nat)(e9:Int)(v7:Int×Int×Unit):Option ((Int×Int×Unit)⊕(Int×Int×Unit)):=
 Option.bind (bif (decide (e9<=v7.2.1))then some true else Option.bind (ik S v e9 e9) λr10=>some (!r10)) λb11=>
 bif b11 then some (Sum.inl (v7.1,v7.2.1,()))else
 Option.bind (jY b e9 S v e9) λr12=>
 bb (λ(v13:Int×Unit)=>Option.map Sum.inr (Option.bind (il b v13.1 S v e9) λr5=>some (r5,e9,()))) λj14=>
 Option.bind (bif (decide (v7.2.1<(cU .i64 r12 (1:Int))))then some true else some (decide (r12<v7.1))) λb15=>
 bif b15 then j14 (r12,())else j14 (v7.1,())
 def YV(S:gE)(b:List Int)(v:ByteArray)(v16:Int×Int×Unit):Option (Int×Int×Unit):=Option.bind (il b v16.1 S v v16.2.1) λr5=>some (r5,v16.2.1,())
section
variable {aD : Nat} (hn : aD < 10) {t : ak} (ht : cQ t) {l : List aj} (hl : sv l)
 include hn ht hl
end
end
section
section
variable {α : Type} [DecidableEq α] {lt : α -> α -> Bool}
def dL(lt:α->α->Bool)(x:α):List α->List α
 |[]=>[x]
 |y::l=>if lt y x then y::dL lt x l else if y=x then y::l else x::y::l
def FX(x:α):∀(l:List α) (z:α),z∈dL lt x l↔z=x\/z∈l
 |[],z=>by simp[dL]
 |y::l,z=>by
  rw[dL];split
  ·rw[QA,FX x l z,QA];constructor
   ·rintro(h|h|h)
    ·exact .inr (.inl h)
    ·exact .inl h
    ·exact .inr (.inr h)
   ·rintro(h|h|h)
    ·exact .inr (.inl h)
    ·exact .inl h
    ·exact .inr (.inr h)
  ·split
   ·rename_i h;rw[QA];constructor
    ·exact .inr
    ·rintro(h1|h1)
     ·exact .inl (h1.trans h.symm)
     ·exact h1
   ·rw[QA]
def wR.dL(h:wR lt)(x:α):∀{l:List α},l.Pairwise (λa b=>lt a b=true)->(Go.Proofs.YtofedieniojipaaGreat.dL lt x l).Pairwise (λa b=>lt a b=true)
 |[],_=>by rw[Go.Proofs.YtofedieniojipaaGreat.dL];exact List.pairwise_singleton _ _
 |y::l,hp=>by
  rw[Q4]at hp;rw[Go.Proofs.YtofedieniojipaaGreat.dL];split
  ·rename_i hy;rw[Q4];refine⟨λz hz=> ?_,h.dL x hp.2⟩
   rcases(FX x l z).1 hz with rfl|hz
   ·exact hy
   ·exact hp.1 z hz
  ·rename_i hy;split
   ·exact Q4.2 hp
   ·rename_i hne
    have hxy:lt x y=true:=by
     cases hc:lt x y with
     |true=>rfl
     |false=>exact absurd (h.total y x (by simpa using hy) hc) hne
    rw[Q4,Q4];refine⟨λz hz=> ?_,hp⟩
    rcases QA.1 hz with rfl|hz
    ·exact hxy
    ·exact h.trans _ _ _ hxy (hp.1 z hz)
def uI(x:α):∀l:List α,(dL lt x l).length<=l.length+1
 |[]=>by simp[dL]
 |y::l=>by
  have:=uI x l;rw[dL];split
  ·simp;omega
  ·split<;>simp
def OB(x:α):∀(l:List α) (i:Nat),(∀j,j<i->∃y,l[j]?=some y/\lt y x=true)->(∀y,l[i]?=some y->lt y x=false)->dL lt x l=if l[i]?=some x then l else l.take i++x::l.drop i
 |[],i,h1,h2=>by
  cases i with
  |zero=>simp[dL]
  |succ i=>obtain⟨y,hy,_⟩:=h1 0 (by omega);simp at hy
 |y::l,i,h1,h2=>by
  cases i with
  |zero=>
   have hy:=h2 y rfl;rw[dL,hy,Qs (by simp)]
   by_cases h:y=x
   ·simp[h]
   ·simp[h]
  |succ i=>
   obtain⟨y',hy',hlt⟩:=h1 0 (by omega)
   simp only[List.getElem?_cons_zero,Qf]at hy';subst hy'
   rw[dL,Qr hlt,OB x l i (λj hj=>by
    obtain⟨z,hz,h⟩:=h1 (j+1) (by omega)
    exact⟨z,by simpa using hz,h⟩) (λz hz=>h2 z (by simpa using hz))]
   simp only[List.getElem?_cons_succ,List.take_succ_cons,List.drop_succ_cons];split<;>simp
def Ie(h:wR lt):∀(xs l:List α),l.Pairwise (λa b=>lt a b=true)->(xs.foldl (λl x=>dL lt x l) l).Pairwise (λa b=>lt a b=true)/\∀z,z∈xs.foldl (λl x=>dL lt x l) l↔z∈xs\/z∈l
 |[],l,hp=>⟨hp,by simp⟩
 |x::xs,l,hp=>by
  obtain⟨h1,h2⟩:=Ie h xs _ (h.dL x hp);rw[QU];refine⟨h1,λz=> ?_⟩
  rw[h2,FX,QA];constructor
  ·rintro(a|a|a)
   ·exact .inl (.inr a)
   ·exact .inl (.inl a)
   ·exact .inr a
  ·rintro((a|a)|a)
   ·exact .inr (.inl a)
   ·exact .inl a
   ·exact .inr (.inr a)
def MZ:∀(xs l:List α),(xs.foldl (λl x=>dL lt x l) l).length<=l.length+xs.length
 |[],l=>by simp
 |x::xs,l=>by
  have:=MZ xs (dL lt x l);have:=uI (lt:=lt) x l;rw[QU,QE];omega
end
def vk{α:Type}(l:List α)(i:Nat):(l.take (Int.toNat (i:Int))).drop (Int.toNat (0:Int))=l.take i:=by simp
def zt{α:Type}(l:List α)(i:Nat):(l.take (Int.toNat (l.length:Int))).drop (Int.toNat (i:Int))=l.drop i:=by simp
def EI{i n:Nat}(h:i<=n):cz (0:Int) (i:Int) n=true:=by
 simp only[cz,Qm,Qi];omega
def EJ{i n:Nat}(h:i<=n):cz (i:Int) (n:Int) n=true:=by
 simp only[cz,Qm,Qi];omega
def iR{bytes n:Nat}(h:bytes<=200)(hn:n<=1000000):bl bytes n=true:=
 bK ⟨QK (Nat.mul_le_mul hn h) (by decide),hn⟩
def Zx{α ρ:Type}(l:List α)(hl:l.length<=1000000)(P:α->Bool){step:Int×Unit->Option ((Int×Unit)⊕ρ)}{r:Nat->Option ρ}
  (h1:∀(i:Nat) (y:α),l[i]?=some y->decide ((i:Int)<(l.length:Int))=true->idx l (i:Int)=some y->P y=true->aA .i64 (i:Int) 1=((i+1:Nat):Int)->step ((i:Int),())=some (.inl (((i+1:Nat):Int),())))
  (h2:∀(i:Nat) (y:α),l[i]?=some y->decide ((i:Int)<(l.length:Int))=true->idx l (i:Int)=some y->P y=false->step ((i:Int),())=Option.map Sum.inr (r i))
  (h3:decide ((l.length:Int)<(l.length:Int))=false->step ((l.length:Int),())=Option.map Sum.inr (r l.length)):
  ∃i,i<=l.length/\(∀j,j<i->∃y,l[j]?=some y/\P y=true)/\(∀y,l[i]?=some y->P y=false)/\aB step ((0:Int),())=r i:=by
 suffices key:∀(k i:Nat),i+k=l.length->(∀j,j<i->∃y,l[j]?=some y/\P y=true)->∃m,m<=l.length/\(∀j,j<m->∃y,l[j]?=some y/\P y=true)/\(∀y,l[m]?=some y->P y=false)/\aB step ((i:Int),())=r m from key l.length 0 (by omega) (λj hj=>absurd hj (Nat.not_lt_zero _))
 intro k
 induction k with
 |zero=>
  intro i hi hj;obtain rfl:i=l.length:=by omega
  refine⟨l.length,QI _,hj,λy hy=>by simp at hy,?_⟩
  rw[fb,h3 (Qh (Qq64 _))];cases r l.length<;>rfl
 |succ k ih=>
  intro i hi hj;have hx:l[i]?=some l[i]:=Qv (by omega)
  have hd:decide ((i:Int)<(l.length:Int))=true:=Qg (by omega)
  cases hP:P l[i]with
  |true=>
   rw[bw (h1 i _ hx hd (by rw[bg];exact hx) hP (bH (by omega) (by omega)))]
   refine ih (i+1) (by omega) λj hj'=> ?_
   rcases Nat.lt_or_ge j i with h|h
   ·exact hj j h
   ·obtain rfl:j=i:=by omega
    exact⟨_,hx,hP⟩
  |false=>
   refine⟨i,by omega,hj,λy hy=> ?_,?_⟩
   ·rw[hx]at hy;injection hy with hy
    rw[<-hy];exact hP
   ·rw[fb,h2 i _ hx hd (by rw[bg];exact hx) hP]
    cases r i<;>rfl
def Ic{α ρ:Type}[DecidableEq α]{lt:α->α->Bool}(l:List α)(hl:l.length<=1000000)(x:α){step:Int×Unit->Option ((Int×Unit)⊕ρ)}{k:List α->Option ρ}
  (h1:∀(i:Nat) (y:α),decide ((i:Int)<(l.length:Int))=true->idx l (i:Int)=some y->lt y x=true->aA .i64 (i:Int) 1=((i+1:Nat):Int)->step ((i:Int),())=some (.inl (((i+1:Nat):Int),())))
  (h2:∀(i:Nat) (y:α),i<l.length->decide ((i:Int)<(l.length:Int))=true->decide ((i:Int)=(l.length:Int))=false->idx l (i:Int)=some y->lt y x=false->step ((i:Int),())=Option.map Sum.inr (k (if y=x then l else l.take i++x::l.drop i)))
  (h3:decide ((l.length:Int)<(l.length:Int))=false->decide ((l.length:Int)=(l.length:Int))=true->step ((l.length:Int),())=Option.map Sum.inr (k (l++[x]))):aB step ((0:Int),())=k (dL lt x l):=by
 obtain⟨i,hi,g1,g2,g3⟩:=Zx l hl (λy=>lt y x) (step:=step) (r:=λi=>k (if l[i]?=some x then l else l.take i++x::l.drop i)) (λi y hy hd hx hP hw=>h1 i y hd hx hP hw) (λi y hy hd hx hP=>by
   have hlt:=(Qw.1 hy).1;rw[h2 i y hlt hd (Qh (by omega)) hx hP,hy]
   by_cases hyx:y=x
   ·simp[hyx]
   ·have:¬(some y=some x):=λh=>hyx (by injection h)
    rw[Qs hyx,Qs this]) (λhd=>by
   rw[h3 hd (Qg rfl),Qs (by simp),Qq62,Qq66])
 rw[g3,OB x l i g1 g2]
def ac3(l:List ae)(hl:l.length<=900000)(b:ae):yX l b=some (if aM b then l else dL (λx y=>bB y x) b l):=by
 unfold yX;rw[dg,Qa]
 cases hz:aM b with
 |true=>rfl
 |false=>
  simp only[Ql,aQ]
  have he:∀y:ae,(decide (y.ai=b.ai)&&decide (y.Value=b.Value))=decide (y=b):=λy=>by
   rw[QW];cases y;cases b;simp
  refine Ic (lt:=λx y=>bB y x) l (by omega) b (k:=λt=>some t) (λi y hd hx hlt hw=> ?_) (λi y hi hd hde hx hlt=> ?_) (λhd hde=> ?_)
  ·simp only[hd,hx,hw,Qk,Qa,jJ,hlt]
  ·have e1:=vk l i;have e2:=zt l i;simp only[hd,hx,Qk,Qa,jJ,hlt,Ql,AO,e1,e2,EI (show i<=l.length by omega),EJ (show i<=l.length by omega),he]
   rw[iR (by omega) (by simp;omega),iR (by omega) (by simp;omega),iR (by omega) (by simp;omega)]
   by_cases hyb:y=b<;>simp[hyb]
  ·have e1:=vk l l.length;have e2:=zt l l.length;simp only[hd,Ql,e1,e2,EI (QI l.length),EJ (QI l.length),Qk];rw[iR (by omega) (by simp;omega),iR (by omega) (by simp;omega),iR (by omega) (by simp;omega)]
   simp
def DO{α σ ρ:Type}(l:List α)(hl:l.length<=1000000)(f:σ->α->σ)(Inv:Nat->σ->Prop){step:σ×Int×Unit->Option ((σ×Int×Unit)⊕ρ)}{fin:σ->Option ρ}
  (hI:∀i s x,x∈l->Inv i s->Inv (i+1) (f s x))
  (h1:∀(i:Nat) (x:α) (s:σ),Inv i s->i<=l.length->x∈l->decide ((i:Int)<(l.length:Int))=true->idx l (i:Int)=some x->aA .i64 (i:Int) 1=((i+1:Nat):Int)->step (s,(i:Int),())=some (.inl (f s x,((i+1:Nat):Int),())))
  (h2:∀s,decide ((l.length:Int)<(l.length:Int))=false->step (s,(l.length:Int),())=Option.map Sum.inr (fin s)) (s:σ) (hs:Inv 0 s):aB step (s,(0:Int),())=fin (l.foldl f s):=by
 suffices key:∀(k i:Nat) (s:σ),i+k=l.length->Inv i s->aB step (s,(i:Int),())=fin ((l.drop i).foldl f s)from key l.length 0 s (by omega) hs
 intro k
 induction k with
 |zero=>
  intro i s hi hs;obtain rfl:i=l.length:=by omega
  rw[fb,h2 s (Qh (Qq64 _)),Qq66,List.foldl_nil];cases fin s<;>rfl
 |succ k ih=>
  intro i s hi hs;have hlt:i<l.length:=by omega
  rw[bw (h1 i l[i] s hs (by omega) (Q0 hlt) (Qg (by omega)) (by rw[bg];exact Qv hlt) (bH (by omega) (by omega))),ih (i+1) _ (by omega) (hI i s _ (Q0 hlt) hs),QM hlt,QU]
 def tQ(e:aj):List ae:=if bc e then(if e.bC=1 then[e.ab,e.ao,e.az]else[e.ao,at_ e 1000000])else[]
def LZ{e:aj}{x:ae}(hz:aM x=false):x∈tQ e↔x∈said e:=by
 unfold tQ said
 cases hv:bc e with
 |false=>simp
 |true=>
  by_cases k1:e.bC=1
  ·simp[k1]
  ·by_cases k2:e.bC=2
   ·simp[k2]
   ·have hp:aM e.ao=true:=by
     unfold bc gK at hv;rw[Qm,Qs k1,Qs k2]at hv;have h:=hv.2
     by_cases k3:e.bC=3
     ·rw[Qr k3]at h;simp only[Al,Qm]at h;exact h.1.1.2
     ·rw[Qs k3]at h;cases h
    simp only[Qt,k1,k2,Qu,QA,QR,or_false];constructor
    ·rintro(h|h)
     ·rw[h,hp]at hz;cases hz
     ·exact h
    ·exact .inr
def vu(l:List ae)(b:ae):List ae:=if aM b then l else dL (λx y=>bB y x) b l
def Ke:∀(xs l:List ae),xs.foldl vu l=(xs.filter λb=> !aM b).foldl (λl x=>dL (λx y=>bB y x) x l) l
 |[],l=>rfl
 |x::xs,l=>by
  rw[QU,Ke xs,List.filter_cons];cases hz:aM x<;>simp[vu,hz]
def PI(l:List ae)(b:ae):(vu l b).length<=l.length+1:=by
 unfold vu;split
 ·omega
 ·exact uI b l
section
variable {l : List aj} (hl : ∀ e ∈ l, cQ e.aa) (hlen : l.length <= 1000)
 include hl hlen
theorem J4:qx l=some (fe l):=by
 have hfold:∀xs:List ae,xs.length<=3->∀s:List ae,(xs.foldl vu s).length<=s.length+xs.length:=by
  intro xs _
  induction xs with
  |nil=>intro s;simp
  |cons x xs ih=>
   intro s;have:=ih (by simp at*;omega) (vu s x)
   have:=PI s x;rw[QU,QE];omega
 have hr3:∀e,(tQ e).length<=3:=λe=>by
  unfold tQ;split
  ·split<;>simp
  ·simp
 have hF:qx l=some (l.foldl (λs e=>(tQ e).foldl vu s) []):=by
  unfold qx;refine DO l (by omega) (λs e=>(tQ e).foldl vu s) (λi s=>s.length<=3*i) (fin:=λs=>some s) (λi s x _ hs=> ?_) (λi e s hs hi he hd hx hw=> ?_) (λs hd=> ?_) [] (by simp)
  ·have:=hfold (tQ x) (hr3 x) s;have:=hr3 x;show(List.foldl vu s (tQ x)).length<=3*(i+1);omega
  ·simp only[hd,hx,hw,Qk,aQ,Qa,etas,jC (hl e he)]
   have inner:∀L:List ae,L.length<=3->aB (λ(v8:(List ae)×Int×Unit)=>
     bif (decide (v8.2.1<((List.length L:Nat):Int)))then Option.bind (idx L v8.2.1) λx9=>Option.bind (yX v8.1 x9) λr10=>some (Sum.inl (r10,(aA .i64 v8.2.1 (1:Int)),()))
     else Option.map Sum.inr (some (Sum.inl (v8.1,((i+1:Nat):Int),()):((List ae)×Int×Unit)⊕(List ae)))) (s,(0:Int),())=some (Sum.inl (L.foldl vu s,((i+1:Nat):Int),())):=by
    intro L hL;refine DO L (by omega) vu (λk t=>t.length<=s.length+k) (fin:=λt=>some (Sum.inl (t,((i+1:Nat):Int),()))) (λk t x _ ht=> ?_) (λk x t ht hk hx' hd' hxx hw'=> ?_) (λt hd'=> ?_) s (by simp)
    ·have:=PI t x;omega
    ·simp only[hd',hxx,hw',Qk,Qa,ac3 t (by omega)]
     rfl
    ·simp only[hd',Ql]
   cases hv:bc e with
   |false=>simp[tQ,hv]
   |true=>
    by_cases k1:e.bC=1
    ·have i3:=inner [e.ab,e.ao,e.az] (by simp)
     simp only[Qo,Ql,k1,decide_true,i3,tQ,hv,Qt]
    ·have i2:=inner [e.ao,⟨1000000,e.ab.Value⟩] (by simp)
     simp only[Qo,Qp,Ql,Qk,k1,decide_false,i2,tQ,hv,Qt,Qu,at_]
  ·simp only[hd,Ql]
 obtain⟨_,h2,_,h4⟩:=ot hl hlen;have hflat:l.foldl (λs e=>(tQ e).foldl vu s) []=(l.flatMap tQ).foldl vu []:=by rw[List.foldl_flatMap]
 rw[hF,hflat,Ke];obtain⟨h5,h6⟩:=Ie Du.flip ((l.flatMap tQ).filter λb=> !aM b) [] .nil
 congr 1;refine Du.flip.unique h5 h2 λx=> ?_
 rw[h6,h4];simp only[List.mem_filter,QQ,QR,or_false,Bool.not_eq_true'];constructor
 ·rintro⟨⟨e,he,hx⟩,hz⟩;exact⟨e,he,(LZ hz).1 hx,hz⟩
 ·rintro⟨e,he,hx,hz⟩;exact⟨⟨e,he,(LZ hz).2 hx⟩,hz⟩
end
section
variable {l : List aj} (hl : ∀ e ∈ l, cQ e.aa) (hlen : l.length <= 1000)
 include hl hlen
theorem Wl:vJ l=some (gr l):=by
 have hF:vJ l=some (l.foldl (λs e=>if bc e then dL bO e.ab.Value s else s) []):=by
  unfold vJ;refine DO l (by omega) (λs e=>if bc e then dL bO e.ab.Value s else s) (λi s=>s.length<=i) (fin:=λs=>some s) (λi s x _ hs=> ?_) (λi e s hs hi he hd hx hw=> ?_) (λs hd=> ?_) [] (by simp)
  ·show(if bc x then dL bO x.ab.Value s else s).length<=i+1
   have:=uI (lt:=bO) x.ab.Value s;split<;>omega
  ·simp only[hd,hx,hw,Qk,aQ,Qa,etas,jC (hl e he)]
   cases hv:bc e with
   |false=>simp
   |true=>
    simp only[Qo,Ql,Qt];refine Ic (lt:=bO) s (by omega) e.ab.Value (k:=λt=>some (Sum.inl (t,((i+1:Nat):Int),()))) (λj y hd' hx' hlt hw'=> ?_) (λj y hj hd' hde hx' hlt=> ?_) (λhd' hde=> ?_)
    ·simp only[hd',hx',hw',Qk,Qa,yY,hlt]
    ·have e1:=vk s j;have e2:=zt s j;simp only[hd',hx',hde,Qk,Ql,Qa,yY,hlt,e1,e2,EI (show j<=s.length by omega),EJ (show j<=s.length by omega)]
     rw[iR (by omega) (by simp;omega),iR (by omega) (by simp;omega),iR (by omega) (by simp;omega)]
     by_cases hyx:y=e.ab.Value<;>simp[hyx]
    ·have e1:=vk s s.length;have e2:=zt s s.length;simp only[hd',Qk,Ql,e1,e2,EI (QI s.length),EJ (QI s.length)];rw[iR (by omega) (by simp;omega),iR (by omega) (by simp;omega),iR (by omega) (by simp;omega)]
     simp
  ·simp only[hd,Ql]
 obtain⟨_,h2,_,h4⟩:=vi hl hlen
 have hflat:l.foldl (λs e=>if bc e then dL bO e.ab.Value s else s) []=(l.flatMap λe=>if bc e then[e.ab.Value]else[]).foldl (λl x=>dL bO x l) []:=by
  rw[List.foldl_flatMap];congr 1
  funext s e
  split<;>rfl
 rw[hF,hflat];obtain⟨h5,h6⟩:=Ie jd (l.flatMap λe=>if bc e then[e.ab.Value]else[]) [] .nil
 congr 1;refine jd.unique h5 h2 λx=> ?_
 rw[h6,h4];simp only[QQ,QR,or_false];constructor
 ·rintro⟨e,he,hx⟩;split at hx
  ·rename_i hv;exact⟨e,he,hv,by simpa using hx⟩
  ·cases hx
 ·rintro⟨e,he,hv,hx⟩;exact⟨e,he,by rw[Qr hv];simpa using hx⟩
theorem yj(v:ByteArray):kG l v=some (bs l v):=by
 have hF:kG l v=some (l.foldl (λs e=>if jF v e then dL (λa b=>decide (a<b)) e.bq (dL (λa b=>decide (a<b)) e.aY s)else s) []):=by
  unfold kG;refine DO l (by omega) (λs e=>if jF v e then dL (λa b=>decide (a<b)) e.bq (dL (λa b=>decide (a<b)) e.aY s)else s) (λi s=>s.length<=2*i) (fin:=λs=>some s) (λi s x _ hs=> ?_) (λi e s hs hi he hd hx hw=> ?_) (λs hd=> ?_) [] (by simp)
  ·show(if jF v x then dL (λa b=>decide (a<b)) x.bq (dL (λa b=>decide (a<b)) x.aY s)else s).length<=2*(i+1)
   have h1:=uI (lt:=λa b:Int=>decide (a<b)) x.aY s
   have h2:=uI (lt:=λa b:Int=>decide (a<b)) x.bq (dL (λa b=>decide (a<b)) x.aY s)
   split<;>omega
  ·simp only[hd,hx,hw,Qk,aQ,Qa,etas,jC (hl e he)]
   have inner:∀(t:List Int) (x:Int) (z:Int),t.length<=3000->aB (λ(v12:Int×Unit)=>
     Option.bind (bif (decide (v12.1<((List.length t:Nat):Int)))then Option.bind (idx t v12.1) λx13=>some (decide (x13<x))else some false) λb14=>
     bif b14 then some (Sum.inl ((aA .i64 v12.1 (1:Int)),()))else
     Option.map Sum.inr (Option.bind (bif (decide (v12.1=((List.length t:Nat):Int)))then some true else Option.bind (idx t v12.1) λx15=>some (!decide (x15=x))) λb16=>
     bif b16 then
     bif cz (0:Int) v12.1 (List.length t)then
     bif bl 8 (List.length ((t.take (Int.toNat v12.1)).drop (Int.toNat (0:Int))))then
     bif bl 8 (List.length ((t.take (Int.toNat v12.1)).drop (Int.toNat (0:Int)))+List.length [x])then
     bif cz v12.1 (t.length:Int) (List.length t)then
     bif bl 8 (List.length (((t.take (Int.toNat v12.1)).drop (Int.toNat (0:Int)))++[x])+List.length ((t.take (Int.toNat (t.length:Int))).drop (Int.toNat v12.1)))then
     some (Sum.inl (((((t.take (Int.toNat v12.1)).drop (Int.toNat (0:Int)))++[x])++((t.take (Int.toNat (t.length:Int))).drop (Int.toNat v12.1))),z,()):((List Int)×Int×Unit)⊕(((List Int)×Int×Unit)⊕(List Int)))
     else none else none else none else none else none
     else some (Sum.inl (t,z,())))) ((0:Int),())=some (Sum.inl (dL (λa b=>decide (a<b)) x t,z,())):=by
    intro t x z ht;refine Ic (lt:=λa b:Int=>decide (a<b)) t (by omega) x (k:=λt=>some (Sum.inl (t,z,()))) (λj y hd' hx' hlt hw'=> ?_) (λj y hj hd' hde hx' hlt=> ?_) (λhd' hde=> ?_)
    ·simp only[hd',hx',hw',Qk,Qa,hlt]
    ·have e1:=vk t j;have e2:=zt t j;simp only[hd',hx',hde,Qk,Ql,Qa,hlt,e1,e2,EI (show j<=t.length by omega),EJ (show j<=t.length by omega)]
     rw[iR (by omega) (by simp;omega),iR (by omega) (by simp;omega),iR (by omega) (by simp;omega)]
     by_cases hyx:y=x<;>simp[hyx]
    ·have e1:=vk t t.length;have e2:=zt t t.length;simp only[hd',Qk,Ql,Qa,e1,e2,EI (QI t.length),EJ (QI t.length)];rw[iR (by omega) (by simp;omega),iR (by omega) (by simp;omega),iR (by omega) (by simp;omega)]
     simp
   have hw1:aA .i64 (0:Int) 1=1:=rfl;have hw2:aA .i64 (1:Int) 1=2:=rfl;have hd0:decide ((0:Int)<2)=true:=rfl;have hd1:decide ((1:Int)<2)=true:=rfl;have hd2:decide ((2:Int)<2)=false:=rfl;have hx0:idx [e.aY,e.bq] 0=some e.aY:=rfl;have hx1:idx [e.aY,e.bq] 1=some e.bq:=rfl;have hl1:=uI (lt:=λa b:Int=>decide (a<b)) e.aY s
   unfold jF
   cases hv:bc e with
   |false=>simp
   |true=>
    by_cases hvv:e.ab.Value=v
    ·by_cases hlo:e.aY=0
     ·simp[hvv,hlo]
     ·simp only[Qo,Ql,hvv,decide_true,hlo,decide_false,Bool.and_self,Qp,Qa,Qt];refine(bw (s':=(dL (λa b=>decide (a<b)) e.aY s,(1:Int),())) ?_).trans ((bw (s':=(dL (λa b=>decide (a<b)) e.bq (dL (λa b=>decide (a<b)) e.aY s),(2:Int),())) ?_).trans (bM ?_))
      ·simp only[hd0,hx0,hw1,Qk,Qa];exact inner s e.aY 1 (by omega)
      ·simp only[hd1,hx1,hw2,Qk,Qa];exact inner _ e.bq 2 (by omega)
      ·simp only[hd2,Ql,Qe]
    ·simp[hvv]
  ·simp only[hd,Ql]
 obtain⟨_,h2,_,h4⟩:=jk hl hlen v
 have hflat:l.foldl (λs e=>if jF v e then dL (λa b=>decide (a<b)) e.bq (dL (λa b=>decide (a<b)) e.aY s)else s) []=(ends v l).foldl (λl x=>dL (λa b=>decide (a<b)) x l) []:=by
  rw[ends,List.foldl_flatMap];congr 1
  funext s e
  split<;>rfl
 rw[hF,hflat];obtain⟨h5,h6⟩:=Ie IX (ends v l) [] .nil;congr 1;refine IX.unique h5 (h2.imp λh=>Qg h) λx=> ?_
 rw[h6,h4];simp
end
end
section
def kinds{e:aj}(hv:bc e=true):e.bC=1\/e.bC=2\/e.bC=3:=by
 unfold bc gK at hv;rw[Qm]at hv;have h:=hv.2
 by_cases k1:e.bC=1
 ·exact .inl k1
 ·by_cases k2:e.bC=2
  ·exact .inr (.inl k2)
  ·by_cases k3:e.bC=3
   ·exact .inr (.inr k3)
   ·rw[Qs k1,Qs k2,Qs k3]at h;cases h
def Wj{e:aj}(h:cQ e.aa)(b:ae):sS e b=some (bc e&&ru e b):=by
 simp only[sS,etas,jC h,Qa,dg,gy,By]
 cases hv:bc e with
 |false=>simp
 |true=>
  cases hz:aM b with
  |true=>simp[ru,hz]
  |false=>by_cases k1:e.bC=1<;>simp[ru,hz,k1]
def Sp{e:aj}(h:cQ e.aa)(v:ByteArray)(lo hi:Int):rU e v lo hi=some (bc e&&iw e v lo hi):=by
 simp only[rU,etas,jC h,Qa,k8,iw,Jd]
 cases hv:bc e with
 |false=>simp
 |true=>
  have hk:=kinds hv
  by_cases a1:lo<1<;>by_cases a2:hi<lo<;>by_cases a3:e.ab.Value=v<;>by_cases a4:lo<e.aY<;>by_cases k1:e.bC=1<;>by_cases k3:e.bC=3<;>simp_all<;>grind
def Wk{e:aj}(h:cQ e.aa)(v:ByteArray)(lo hi:Int):tI e v lo hi=some (bc e&&ui e v lo hi):=by
 simp only[tI,etas,jC h,Qa,k8,ui,Jd]
 cases hv:bc e with
 |false=>simp
 |true=>
  have hl:=acW hv
  by_cases a1:lo<1<;>by_cases a2:hi<lo<;>by_cases a3:e.ab.Value=v<;>by_cases a4:lo<e.aY<;>by_cases k1:e.bC=1<;>by_cases a5:e.aY=0<;>simp_all<;>grind
def wx(p:aj->Bool):∀l:List aj,eZ (λe=>bc e&&p e) l=eZ p (cO l)
 |[]=>rfl
 |e::l=>by
  have ih:=wx p l;rw[eZ,ih];cases hv:bc e<;>simp[cO,hv,eZ]
def Da(l:List aj)(hlen:l.length<=1000)(p:aj->Bool)(hp:∀e∈l,p e=true->0<=e.al/\e.al<10):ja l (l.map p)=some ((eZ p l:Nat):Int):=by
 unfold ja
 suffices key:∀(k i s:Nat),i+k=l.length->s<1024->aB _ ((s:Int),(i:Int),())=some ((s|||eZ p (l.drop i):Nat):Int)by
  have:=key l.length 0 0 (by omega) (by omega)
  rw[Nat.zero_or,List.drop_zero]at this;exact this
 intro k
 induction k with
 |zero=>
  intro i s hi hs;obtain rfl:i=l.length:=by omega
  have hd:decide ((l.length:Int)<(l.length:Int))=false:=Qh (Qq64 _);rw[bM (r:=(s:Int)) (by simp only[hd,Ql,Qe]),Qq66,eZ]
  simp
 |succ k ih=>
  intro i s hi hs;have hlt:i<l.length:=by omega
  have hd:decide ((i:Int)<(l.length:Int))=true:=Qg (by omega)
  have hd2:decide ((i:Int)<(((l.map p).length:Nat):Int))=true:=Qg (by rw[QC];omega)
  have hw:aA .i64 (i:Int) 1=((i+1:Nat):Int):=bH (by omega) (by omega)
  have hx:idx l (i:Int)=some l[i]:=by rw[bg];exact Qv hlt
  have hx2:idx (l.map p) (i:Int)=some (p l[i]):=by rw[bg,QT,Qv hlt];rfl
  rw[QM hlt,eZ]
  cases hpe:p l[i]with
  |false=>
   rw[bw (s':=((s:Int),((i+1:Nat):Int),())) (by simp only[hd,hd2,hx,hx2,hw,hpe,Qk,Ql,aQ,Qa]),ih (i+1) s (by omega) hs]
   simp
  |true=>
   obtain⟨h0,h1⟩:=hp _ (Q0 hlt) hpe
   have hc:bx .u64 l[i].al=l[i].al:=by
    obtain⟨n,hn⟩:∃n:Nat,l[i].al=n:=⟨l[i].al.toNat,by omega⟩
    rw[hn];exact agf (by omega)
   have hn0:¬l[i].al<0:=by omega
   have d1:decide ((0:Int)<=l[i].al)=true:=Qg h0;have d2:decide (l[i].al<=(9:Int))=true:=Qg (by omega)
   rw[bw (s':=(((s|||2 ^ l[i].al.toNat:Nat):Int),((i+1:Nat):Int),())) (by
    simp only[hd,hd2,hx,hx2,hw,hpe,Qk,aQ,Qa,d1,d2,hc,hn0,Qu]
    rw[pL hs h0 h1]),ih (i+1) _ (by omega) (Ad hs h1)]
   simp[Nat.or_assoc]
def R1{ρ:Type}(l:List aj)(hl:l.length<=1000)(p q:aj->Bool){step:Int×List Bool×List Bool×Unit->Option ((Int×List Bool×List Bool×Unit)⊕ρ)}{fin:List Bool->List Bool->Option ρ}
  (h1:∀(i:Nat) (e:aj) (vs as_:List Bool),e∈l->decide ((i:Int)<(l.length:Int))=true->idx l (i:Int)=some e->aA .i64 (i:Int) 1=((i+1:Nat):Int)->(∀x:Bool,bl 1 (vs.length+[x].length)=true)->(∀x:Bool,bl 1 (as_.length+[x].length)=true)->step ((i:Int),vs,as_,())=some (.inl (((i+1:Nat):Int),vs++[p e],as_++[q e],())))
  (h2:∀vs as_,decide ((l.length:Int)<(l.length:Int))=false->step ((l.length:Int),vs,as_,())=Option.map Sum.inr (fin vs as_)):aB step ((0:Int),[],[],())=fin (l.map p) (l.map q):=by
 suffices key:∀(k i:Nat),i+k=l.length->aB step ((i:Int),(l.take i).map p,(l.take i).map q,())=fin (l.map p) (l.map q)from key l.length 0 (by omega)
 intro k
 induction k with
 |zero=>
  intro i hi;obtain rfl:i=l.length:=by omega
  rw[fb,h2 _ _ (Qh (Qq64 _)),Qq62];cases fin (l.map p) (l.map q)<;>rfl
 |succ k ih=>
  intro i hi;have hlt:i<l.length:=by omega
  rw[bw (h1 i l[i] _ _ (Q0 hlt) (Qg (by omega)) (by rw[bg];exact Qv hlt) (bH (by omega) (by omega)) (λx=>iR (by omega) (by simp;omega)) (λx=>iR (by omega) (by simp;omega))),<-ih (i+1) (by omega),Q7 hlt,List.map_append,List.map_append]
  rfl
def Fu{p:aj->Bool}{l:List aj}:∀e∈l,(bc e&&p e)=true->0<=e.al/\e.al<10:=λe _ h=>by
 rw[Qm]at h;exact kZ h.1
section
variable {l : List aj} (hl : ∀ e ∈ l, cQ e.aa) (hlen : l.length <= 1000)
 include hl hlen
theorem O9(b:ae):yW l b=some (((eZ (λe=>ru e b||dZ e b) (cO l):Nat):Int),((eZ (dZ · b) (cO l):Nat):Int),()):=by
 unfold yW;refine(R1 l hlen (λe=>bc e&&(ru e b||dZ e b)) (λe=>bc e&&dZ e b) (fin:=λvs as_=>Option.bind (ja l vs) λr6=>Option.bind (ja l as_) λr7=>some (r6,r7,())) (λi e vs as_ he hd hx hw o1 o2=> ?_) (λvs as_ hd=> ?_)).trans ?_
 ·simp only[hd,hx,hw,Qk,Qa,etas,Sn (hl e he),Wj (hl e he),k8,o1,o2];cases bc e<;>cases ru e b<;>cases dZ e b<;>rfl
 ·simp only[hd,Ql]
 ·rw[Da l hlen _ Fu,Da l hlen _ Fu,Qa,Qa,wx,wx]
theorem O8(v:ByteArray)(lo hi:Int):yT l v lo hi=some (((eZ (λe=>ui e v lo hi||iw e v lo hi) (cO l):Nat):Int),((eZ (iw · v lo hi) (cO l):Nat):Int),()):=by
 unfold yT;refine(R1 l hlen (λe=>bc e&&(ui e v lo hi||iw e v lo hi)) (λe=>bc e&&iw e v lo hi) (fin:=λvs as_=>Option.bind (ja l vs) λr6=>Option.bind (ja l as_) λr7=>some (r6,r7,())) (λi e vs as_ he hd hx hw o1 o2=> ?_) (λvs as_ hd=> ?_)).trans ?_
 ·simp only[hd,hx,hw,Qk,Qa,etas,Sp (hl e he),Wk (hl e he),k8,o1,o2];cases bc e<;>cases ui e v lo hi<;>cases iw e v lo hi<;>rfl
 ·simp only[hd,Ql]
 ·rw[Da l hlen _ Fu,Da l hlen _ Fu,Qa,Qa,wx,wx]
end
def vn{c:bd}(hc:zo c){v a b:Nat}(hv:v<10)(h1:a<1024)(h2:b<1024):qz c v a b=some (ql c.bn v a b):=by
 unfold qz ql;have h3:a|||b<1024:=Nat.or_lt_two_pow (n:=10) h1 h2
 rw[wD h1,wD h2,Me hc h2,ER a b (by omega) (by omega),HG hc h3]
 simp[sH (Gk hc h3).lt,xu,hv]
def tT{c:bd}(hc:zo c){v b:Nat}(hv:v<10)(h2:b<1024):iV c v b=some ((gq c.bn b).testBit v):=by
 unfold iV;rw[HG hc h2];simp[sH (Gk hc h2).lt,xu,hv]
end
section
def LR{c:bd}{aD:Int}{l:List aj}(hlen:l.length<=100000)(b:ae):gU ⟨aD,c,(cO l).map bJ.mk⟩ b=iA c aD ((eZ (λe=>ru e b||dZ e b) (cO l):Nat):Int) ((eZ (dZ · b) (cO l):Nat):Int):=by
 have hrl:=BI l;have hin:=mu l;simp only[gU,nQ,kp,Qa,Option.bind_fun_some,XE (by omega:(cO l).length<=1000000) hin,Kp (by omega:(cO l).length<=1000000) hin]
def KB{c:bd}{aD:Int}{l:List aj}(hlen:l.length<=100000)(b:ae):fp ⟨aD,c,(cO l).map bJ.mk⟩ b=fl c aD ((eZ (dZ · b) (cO l):Nat):Int):=by
 have hrl:=BI l;have hin:=mu l;simp only[fp,Qa,Option.bind_fun_some,Kp (by omega:(cO l).length<=1000000) hin]
def X3(b:ae):oC b=some (pO b):=by
 unfold oC pO;simp only[aQ,Ch,zO]
def BM(x:ae->Bool)(p q:ae)(v:ByteArray)(b:ae):Bool:=(decide (v=gC)||decide (b.Value=v))&& !dU (pO p) (pO q) b&&x b
def BU(y:ae->Bool)(a b:ae):Bool:=bB a b&&decide (b.ai<=1000)&&y b
section
variable {aD : Int} {t : ak} {l : List aj} (hl : sv l) (hlen : l.length <= 1000) {c : bd} {x y : ae -> Bool}
 include hl hlen
theorem acT(hL:fO aD t l=some ⟨aD,c,(cO l).map bJ.mk⟩)(hx:∀b,gU ⟨aD,c,(cO l).map bJ.mk⟩ b=some (x b))(p q:ae)(v:ByteArray):oD aD t l p q v=some (((fe l).find? (BM x p q v)).getD GU):=by
 obtain⟨h1,_,h3,_⟩:=ot hl.aO hlen;unfold oD;simp only[etas,hL,h1,Qa];refine BV (fe l) (by omega) (λi=>(i,ae.mk (0:Int) bE,())) (BM x p q v) GU (λi b hd hx' hw=> ?_) (λhd=> ?_)
 ·simp only[hd,hx',hw,Qk,aQ,Qa,Xg,sn,hx];unfold BM gC;cases decide (v=bE)<;>cases decide (b.Value=v)<;>cases dU (pO p) (pO q) b<;>cases x b<;>simp
 ·simp only[hd,Ql,Qe];rfl
theorem ZL(hx:∀b,ua aD t l b=some (x b))(p q:ae)(v:ByteArray):u9 aD t l p q v=some (((fe l).find? (BM x p q v)).getD GU):=by
 obtain⟨h1,_,h3,_⟩:=ot hl.aO hlen;unfold u9;simp only[etas,J4 hl.aO hlen,Qa];refine BV (fe l) (by omega) (λi=>(i,ae.mk (0:Int) bE,())) (BM x p q v) GU (λi b hd hx' hw=> ?_) (λhd=> ?_)
 ·simp only[hd,hx',hw,Qk,aQ,Qa,X3,tJ,hx];unfold BM gC;cases decide (v=bE)<;>cases decide (b.Value=v)<;>cases dU (pO p) (pO q) b<;>cases x b<;>simp
 ·simp only[hd,Ql,Qe];rfl
theorem ac5(hL:fO aD t l=some ⟨aD,c,(cO l).map bJ.mk⟩)(hy:∀b,fp ⟨aD,c,(cO l).map bJ.mk⟩ b=some (y b))(a:ae):lz aD t l a=some (((fe l).find? (BU y a)).getD GU):=by
 obtain⟨h1,_,h3,_⟩:=ot hl.aO hlen;unfold lz;simp only[etas,hL,h1,Qa];refine BV (fe l) (by omega) (λi=>(i,ae.mk (0:Int) bE,())) (BU y a) GU (λi b hd hx' hw=> ?_) (λhd=> ?_)
 ·simp only[hd,hx',hw,Qk,aQ,Qa,jA,nQ,hy];unfold BU;cases bB a b<;>cases decide (b.ai<=1000)<;>cases y b<;>simp
 ·simp only[hd,Ql,Qe];rfl
theorem ZM(hy:∀b,sR aD t l b=some (y b))(a:ae):qw aD t l a=some (((fe l).find? (BU y a)).getD GU):=by
 obtain⟨h1,_,h3,_⟩:=ot hl.aO hlen;unfold qw;simp only[etas,J4 hl.aO hlen,Qa];refine BV (fe l) (by omega) (λi=>(i,ae.mk (0:Int) bE,())) (BU y a) GU (λi b hd hx' hw=> ?_) (λhd=> ?_)
 ·simp only[hd,hx',hw,Qk,Qa,jJ,hy];unfold BU;cases bB a b<;>cases decide (b.ai<=1000)<;>cases y b<;>simp
 ·simp only[hd,Ql,Qe];rfl
end
end
section
def iO{A ρ:Type}(g:A->Int->A⊕ρ)(fin:A->Option ρ):List Int->A->Option ρ
 |[],a=>fin a
 |x::l,a=>match g a x with
  | .inl a'=>iO g fin l a'
  | .inr r=>some r
def yn{A σ ρ:Type}(b:List Int)(hb:b.length<=1000000)(st:A->Int->σ)(g:A->Int->A⊕ρ)(fin:A->Option ρ){step:σ->Option (σ⊕ρ)}
  (h1:∀(i:Nat) (x:Int) (a:A),idx b (i:Int)=some x->decide ((0:Int)<=(i:Int))=true->cU .i64 (i:Int) 1=(i:Int) - 1->step (st a (i:Int))=some (match g a x with| .inl a'=> .inl (st a' ((i:Int) - 1))| .inr r=> .inr r))
  (h2:∀a,decide ((0:Int)<=(-1:Int))=false->step (st a (-1))=Option.map Sum.inr (fin a)):∀n:Nat,n<=b.length->∀a:A,aB step (st a ((n:Int) - 1))=iO g fin (b.take n).reverse a
 |0,_,a=>by
  rw[show((0:Nat):Int) - 1= -1 by omega,fb,h2 a rfl,List.take_zero,List.reverse_nil,iO]
  cases fin a<;>rfl
 |n+1,hn,a=>by
  have hlt:n<b.length:=by omega
  have hs:=h1 n b[n] a (by rw[bg];exact Qv hlt) (Qg (by omega)) (pz (by omega) (by omega))
  rw[show((n+1:Nat):Int) - 1=(n:Int)by omega,Q7 hlt,List.reverse_append,List.reverse_singleton,List.singleton_append,iO]
  cases hg:g a b[n]with
  |inl a'=>rw[hg]at hs;rw[bw hs,yn b hb st g fin h1 h2 n (by omega) a']
  |inr r=>rw[hg]at hs;rw[bM hs]
def IW(b:List Int)(hb:b.length<=1000000):cU .i64 (b.length:Int) 1=(b.length:Int) - 1:=pz (by omega) (by omega)
def DA{ρ:Type}(q:Int->Bool)(f:Int->ρ):∀(l:List Int) (lo:Int),iO (λlo x=>if lo<=x then .inl lo else if q x then .inl x else .inr (f lo)) (λlo=>some (f lo)) l lo=some (f (cZ q l lo))
 |[],lo=>rfl
 |x::l,lo=>by
  rw[iO,cZ]
  by_cases h1:lo<=x
  ·rw[Qr h1,Qr h1];exact DA q f l lo
  ·rw[Qs h1,Qs h1]
   cases hq:q x with
   |true=>rw[Qr rfl,Qr rfl];exact DA q f l x
   |false=>rw[Qs (by simp),Qs (by simp)]
def Pf{A ρ:Type}(s:A)(c p:Int->Bool)(f:Int->ρ)(d:ρ)(g:A->Int->A⊕ρ)(fin:A->Option ρ)(hg:∀z,g s z=if c z then(if p z then .inr (f z)else .inl s)else .inr d)(hfin:fin s=some d)(hc:∀a b,b<a->c b=true->c a=true):
  ∀r:List Int,r.Pairwise (λa b=>b<a)->iO g fin r s=some (match r.find? (λn=>c n&&p n)with|some n=>f n|none=>d)
 |[],_=>hfin
 |z::r,h=>by
  rw[iO,hg,List.find?_cons];rw[Q4]at h
  cases hz:c z with
  |false=>
   have:r.find? (λn=>c n&&p n)=none:=by
    rw[List.find?_eq_none];intro n hn hcn;rw[Qm]at hcn;rw[hc z n (h.1 n hn) hcn.1]at hz;cases hz
   simp[this]
  |true=>
   cases hp:p z with
   |true=>simp
   |false=>
    simp only[Qt,Bool.true_and];exact Pf s c p f d g fin hg hfin hc r h.2
def LX{ρ:Type}(q:Int->Bool)(f:Int->ρ):∀(r:List Int) (lo:Int),(∀z∈r,z<lo)->r.Pairwise (λa b=>b<a)->iO (λlo z=>if q z then .inl z else .inr (f lo)) (λlo=>some (f lo)) r lo=some (f (cZ q r lo))
 |[],lo,_,_=>rfl
 |z::r,lo,h,hs=>by
  rw[Q4]at hs;have hz:=h z (by simp)
  have h0:¬lo<=z:=by omega
  rw[iO,cZ,Qs h0]
  cases hq:q z with
  |true=>rw[Qr rfl,Qr rfl];exact LX q f r z hs.1 hs.2
  |false=>rw[Qs (by simp),Qs (by simp)]
def Nh{α B ρ:Type}(l:List α)(hl:l.length<=1000000)(f:B->α->B){step:Int×B×Unit->Option ((Int×B×Unit)⊕ρ)}{fin:B->Option ρ}
  (h1:∀(i:Nat) (x:α) (b:B),x∈l->decide ((i:Int)<(l.length:Int))=true->idx l (i:Int)=some x->aA .i64 (i:Int) 1=((i+1:Nat):Int)->step ((i:Int),b,())=some (.inl (((i+1:Nat):Int),f b x,())))
  (h2:∀b,decide ((l.length:Int)<(l.length:Int))=false->step ((l.length:Int),b,())=Option.map Sum.inr (fin b)) (b:B):aB step ((0:Int),b,())=fin (l.foldl f b):=by
 suffices key:∀(k i:Nat) (b:B),i+k=l.length->aB step ((i:Int),b,())=fin ((l.drop i).foldl f b)from key l.length 0 b (by omega)
 intro k
 induction k with
 |zero=>
  intro i b hi;obtain rfl:i=l.length:=by omega
  rw[fb,h2 b (Qh (Qq64 _)),Qq66,List.foldl_nil];cases fin b<;>rfl
 |succ k ih=>
  intro i b hi;have hlt:i<l.length:=by omega
  rw[bw (h1 i l[i] b (Q0 hlt) (Qg (by omega)) (by rw[bg];exact Qv hlt) (bH (by omega) (by omega))),ih (i+1) _ (by omega),QM hlt,QU]
def Kj(q:Int->Bool):∀(l r:List Int) (lo:Int),(∀x∈l,lo<=x)->cZ q (l++r) lo=cZ q r lo
 |[],r,lo,_=>rfl
 |x::l,r,lo,h=>by
  rw[List.cons_append,cZ,Qr (h x (by simp))]
  exact Kj q l r lo λy hy=>h y (by simp[hy])
def Gp(q:Int->Bool):∀(r:List Int) (lo:Int),(∀x∈r,0<=x/\x<=1000000)->0<=lo/\lo<=1000000->0<=cZ q r lo/\cZ q r lo<=1000000
 |[],lo,_,h=>h
 |x::r,lo,hx,h=>by
  rw[cZ];split
  ·exact Gp q r lo (λy hy=>hx y (by simp[hy])) h
  ·split
   ·exact Gp q r x (λy hy=>hx y (by simp[hy])) (hx x (by simp))
   ·exact h
 def fR(x:ByteArray->Int->Int->Bool)(p q:ae)(v:ByteArray)(s:Bool×ae)(n:Int):Bool×ae:=
 if bB s.2 ⟨n,v⟩&& !nL p q v n&&x v n n then(true,⟨n,v⟩)else s
 def gS(x:ByteArray->Int->Int->Bool)(l:List aj)(p q:ae):Bool×ae:=
 (gr l).foldl (λs v=>(bs l v).foldl (fR x p q v) s) (false,⟨0,gC⟩)
 def qk(x:ByteArray->Int->Int->Bool)(l:List aj)(p q:ae)(s:Bool×ae):ByteArray×Int×Int×Bool×Unit:=
 if s.1 then(s.2.Value,cZ (λn=> !nL p q s.2.Value n&&x s.2.Value n s.2.ai) (bs l s.2.Value).reverse s.2.ai,s.2.ai,true,())else(gC,0,0,false,())
section
variable {S : gE} {x y : ByteArray -> Int -> Int -> Bool} (hx : ∀ v lo hi, ik S v lo hi = some (x v lo hi)) (hy : ∀ v lo hi, nv S v lo hi = some (y v lo hi))
section
 include hx
theorem aaB(b:List Int)(lo:Int)(p q z:ae):jM b lo p q z S=some (cZ (λn=> !nL p q z.Value n&&x z.Value n z.ai) b.reverse lo):=by
 have:=Cf (p:=λe=>nj e p q z S) (q:=λn=> !nL p q z.Value n&&x z.Value n z.ai) (λe=>by
  simp only[nj,NQ,hx,Qa,k8]
  cases nL p q z.Value e<;>simp) b.reverse lo
 simp only[jM,cn,aQ,Qa];exact this
theorem aaA(b:List Int)(lo:Int)(v:ByteArray)(hi:Int):jY b lo S v hi=some (cZ (λz=>x v z hi) b.reverse lo):=by
 have:=Cf (p:=λe=>rq e S v hi) (q:=λz=>x v z hi) (λe=>by simp only[rq,hx,Qa]) b.reverse lo
 simp only[jY,cn,aQ,Qa];exact this
theorem Tr(b:List Int)(lo:Int)(v:ByteArray)(hi:Int):il b lo S v hi=some (cZ (λz=>x v z hi) b.reverse lo):=by
 have:=Cf (p:=λe=>rp e S v hi) (q:=λz=>x v z hi) (λe=>by simp only[rp,hx,Qa]) b.reverse lo
 simp only[il,cn,aQ,Qa];exact this
theorem PT(b:List Int)(v:ByteArray)(low cg:Int)(hb:∀x∈b,0<=x/\x<=1000000):∀r:List Int,(∀x∈r,x∈b)->mX (Ce S b v) (YV S b v) r (low,cg,())=
  some (match r.find? (λn=>decide (cg<n)&&x v n n)with
   |none=>(cZ (λz=>x v z cg) b.reverse low,cg,())
   |some n=>(cZ (λz=>x v z n) b.reverse (if cg<cZ (λz=>x v z n) b.reverse n - 1\/cZ (λz=>x v z n) b.reverse n<low then cZ (λz=>x v z n) b.reverse n else low),n,()))
 |[],_=>by simp only[mX,YV,Tr hx,Qa,List.find?_nil]
 |e::r,hr=>by
  have ih:=PT b v low cg hb r (λx hx=>hr x (by simp[hx]))
  rw[List.find?_cons,mX]
  by_cases hle:e<=cg
  ·have h2:decide (cg<e)=false:=Qh (by omega)
   have h1:decide (e<=cg)=true:=Qg hle;have hst:Ce S b v r.length e (low,cg,())=some (.inl (low,cg,())):=by simp only[Ce,h1,Qk,Qa]
   rw[hst,h2,Bool.false_and];exact ih
  ·have h2:decide (cg<e)=true:=Qg (by omega)
   have h1:decide (e<=cg)=false:=Qh hle;rw[h2,Bool.true_and]
   cases hr':x v e e with
   |false=>
    have hst:Ce S b v r.length e (low,cg,())=some (.inl (low,cg,())):=by simp only[Ce,h1,Ql,hx,hr',Qp,Qa,Qk]
    rw[hst];exact ih
   |true=>
    have hb9:=Gp (λz=>x v z e) b.reverse e (λz hz=>hb z (by simpa using hz)) (hb e (hr e (by simp)))
    simp only[Ce,h1,Ql,hx,hr',Qo,aaA hx,Tr hx,Qa,aQ,k8,Bool.cond_true_left,Qe];generalize cZ (λz=>x v z e) b.reverse e=bt at*
    have e3:cU .i64 bt 1=bt - 1:=pz (by omega) (by omega)
    rw[e3]
    by_cases hc:cg<bt - 1\/bt<low
    ·have:(decide (cg<bt - 1)||decide (bt<low))=true:=by rw[Qn];simpa using hc
     rw[this,Qr hc];rfl
    ·have:(decide (cg<bt - 1)||decide (bt<low))=false:=by
      rw[<-QX,Qn];simpa using hc
     rw[this,Qs hc];rfl
end
section
 include hy
theorem ads(b:List Int)(lo:Int)(v:ByteArray)(hi:Int):jX b lo S v hi=some (cZ (λz=>y v z hi) b.reverse lo):=by
 have:=Cf (p:=λe=>sY e S v hi) (q:=λz=>y v z hi) (λe=>by simp only[sY,hy,Qa]) b.reverse lo
 simp only[jX,cn,aQ,Qa];exact this
end
variable {aD : Int} {t : ak} {l : List aj} (hl : sv l) (hlen : l.length <= 1000) (hL : fO aD t l = some S)
 include hl hlen hL
section
 include hx
theorem afp(p q:ae):si aD t l p q=some (qk x l p q (gS x l p q)):=by
 obtain⟨h1,_,h3,_⟩:=vi hl.aO hlen;unfold si;simp only[etas,hL,h1,Qa];refine(Ni (gr l) (by omega) (λs v=>(bs l v).foldl (fR x p q v) s) (fin:=λs=>some (qk x l p q s)) (λi v a b hv hd hx' hw=> ?_) (λa b hd=> ?_) false ⟨0,bE⟩)
 ·obtain⟨g1,_,g3,_⟩:=jk hl.aO hlen v;simp only[hd,hx',hw,Qk,Qa,g1];refine(Ni (bs l v) (by omega) (fR x p q v) (fin:=λs=>some (Sum.inl (s.1,((i+1:Nat):Int),s.2,()))) (λi' n a' b' hv' hd' hx'' hw'=> ?_) (λa' b' hd'=> ?_) a b)
  ·simp only[hd',hx'',hw',Qk,aQ,Qa,jA,NQ,hx,k8];unfold fR;cases bB b' ⟨n,v⟩<;>cases nL p q v n<;>cases x v n n<;>simp
  ·simp only[hd',Ql]
 ·simp only[hd,Ql];obtain⟨g1,_,g3,_⟩:=jk hl.aO hlen b.Value;unfold qk;cases a
  ·rfl
  ·simp only[Qo,Ql,g1,Qa,aaB hx,Qt]
theorem ad2(v:ByteArray)(low cg:Int):qH aD t l v low cg=some ((Er (bs l v) (x v) low cg).1,(Er (bs l v) (x v) low cg).2,()):=by
 obtain⟨h1,_,_,_⟩:=jk hl.aO hlen v;have hin:=DW hl hlen v;unfold qH;simp only[etas,hL,h1,Qa,cn];refine(PT hx (bs l v) v low cg (λx hx=>by have:=hin x hx;omega) (bs l v).reverse (by simp)).trans ?_
 unfold Er;cases (bs l v).reverse.find? (λn=>decide (cg<n)&&x v n n)<;>rfl
end
section
 include hy
theorem afq(v:ByteArray):sj aD t l v=some (CX (bs l v) (y v)):=by
 obtain⟨h1,_,_,_⟩:=jk hl.aO hlen v
 have:=VA (p:=λe=>nv S v e e) (q:=λe=>y v e e) (d:=λe=>jX (bs l v) e S v e) (f:=λe=>cZ (λz=>y v z e) (bs l v).reverse e)
  (λe=>hy v e e) (λe=>ads hy (bs l v) e v e) (bs l v).reverse
 simp only[sj,etas,hL,h1,cn,Qa,CX];exact this
end
end
 def Dv(x:ByteArray->Int->Int->Bool)(p q:ae)(v:ByteArray)(s:ae)(n:Int):ae:=if bB s ⟨n,v⟩&& !nL p q v n&&x v n n then⟨n,v⟩else s
def TP{x:ByteArray->Int->Int->Bool}{p q:ae}(v:ByteArray):∀(b:List Int),(∀n∈b,1<=n)->∀s:Bool×ae,s.1= !aM s.2->
  (b.foldl (fR x p q v) s).2=b.foldl (Dv x p q v) s.2/\(b.foldl (fR x p q v) s).1= !aM (b.foldl (fR x p q v) s).2
 |[],_,s,h=>⟨rfl,h⟩
 |n::b,hb,s,h=>by
  rw[QU,QU];have hn:=hb n (by simp)
  have h1:(fR x p q v s n).2=Dv x p q v s.2 n:=by unfold fR Dv;split<;>rfl
  have h2:(fR x p q v s n).1= !aM (fR x p q v s n).2:=by
   unfold fR;split
   ·have:decide (n=0)=false:=Qh (by omega)
    simp[aM,this]
   ·exact h
  rw[<-h1];exact TP v b (λn hn=>hb n (by simp[hn])) _ h2
def TR{x:ByteArray->Int->Int->Bool}{p q:ae}{l:List aj}(hl:sv l)(hlen:l.length<=1000):∀(vs:List ByteArray) (s:Bool×ae),s.1= !aM s.2->
  (vs.foldl (λs v=>(bs l v).foldl (fR x p q v) s) s).2=vs.foldl (λs v=>(bs l v).foldl (Dv x p q v) s) s.2/\(vs.foldl (λs v=>(bs l v).foldl (fR x p q v) s) s).1= !aM (vs.foldl (λs v=>(bs l v).foldl (fR x p q v) s) s).2
 |[],s,h=>⟨rfl,h⟩
 |v::vs,s,h=>by
  rw[QU,QU];obtain⟨h1,h2⟩:=TP (x:=x) (p:=p) (q:=q) v (bs l v) (λn hn=>(DW hl hlen v n hn).1) s h
  rw[<-h1];exact TR hl hlen vs _ h2
section
variable {aD : Int} {t : ak} {l : List aj} (hl : sv l) (hlen : l.length <= 1000) {x y : ByteArray -> Int -> Int -> Bool} (hx : ∀ v lo hi, lh aD t l v lo hi = some (x v lo hi)) (hy : ∀ v lo hi, pb aD t l v lo hi = some (y v lo hi))
 include hl hlen
section
 include hx
theorem ZS(v:ByteArray)(lo hi:Int):yV aD t l v lo hi=some (cZ (λz=>x v z hi) (bs l v).reverse lo):=by
 obtain⟨_,_,h3,_⟩:=jk hl.aO hlen v;unfold yV;simp only[etas,yj hl.aO hlen,Qa,IW _ (by omega:(bs l v).length<=1000000),aQ]
 refine(yn (bs l v) (by omega) (λlo i=>(lo,i,())) (λlo z=>if lo<=z then .inl lo else if x v z hi then .inl z else .inr lo) (λlo=>some lo) (λi z a hi' hd hs=> ?_) (λa hd=> ?_) (bs l v).length (QI _) lo).trans ?_
 ·simp only[hi',hd,hs,Qk,Qa,hx]
  by_cases h1:a<=z
  ·simp[h1]
  ·cases x v z hi<;>simp[h1]
 ·simp only[hd,Ql]
 ·rw[Qq62];exact DA (λz=>x v z hi) (λlo=>lo) _ _
theorem ZZ(v:ByteArray)(low cg:Int):rS aD t l v low cg=some ((Er (bs l v) (x v) low cg).1,(Er (bs l v) (x v) low cg).2,()):=by
 obtain⟨_,h2,h3,_⟩:=jk hl.aO hlen v;have hin:=DW hl hlen v;unfold rS;simp only[etas,yj hl.aO hlen,ZS hl hlen hx,Qa,IW _ (by omega:(bs l v).length<=1000000),aQ]
 refine(yn (bs l v) (by omega) (λ(s:Int×Int) i=>(s.1,s.2,i,()))
  (λs z=>if s.2<z then(if x v z z then .inr (cZ (λw=>x v w z) (bs l v).reverse (if s.2<cZ (λw=>x v w z) (bs l v).reverse z - 1\/cZ (λw=>x v w z) (bs l v).reverse z<s.1 then cZ (λw=>x v w z) (bs l v).reverse z else s.1),z,())else .inl s)
   else .inr (cZ (λw=>x v w s.2) (bs l v).reverse s.1,s.2,()))
  (λs=>some (cZ (λw=>x v w s.2) (bs l v).reverse s.1,s.2,())) (λi z s hi' hd hs=> ?_) (λs hd=> ?_) (bs l v).length (QI _) (low,cg)).trans ?_
 ·have hz:z∈bs l v:=by rw[bg]at hi';exact Q8 hi'
  have hb9:=Gp (λw=>x v w z) (bs l v).reverse z (λw hw=>by have:=hin w (by simpa using hw);omega) (by have:=hin z hz;omega)
  simp only[hi',hd,hs,Qk,Qa,hx]
  by_cases h1:s.2<z
  ·simp only[h1,decide_true,Qk,Qt]
   cases hxz:x v z z with
   |false=>simp
   |true=>
    generalize cZ (λw=>x v w z) (bs l v).reverse z=bt at*
    have e3:cU .i64 bt 1=bt - 1:=pz (by omega) (by omega)
    simp only[Qo,Ql,e3,Qt]
    by_cases h4:s.2<bt - 1
    ·simp[h4]
    ·by_cases h5:bt<s.1
     ·simp[h4,h5,dJ]
     ·simp[h4,h5,dJ]
  ·simp[h1]
 ·simp only[hd,Ql,Qa]
 ·rw[Qq62]
  refine(Pf (low,cg) (λz=>decide (cg<z)) (λz=>x v z z) (λz=>(cZ (λw=>x v w z) (bs l v).reverse (if cg<cZ (λw=>x v w z) (bs l v).reverse z - 1\/cZ (λw=>x v w z) (bs l v).reverse z<low then cZ (λw=>x v w z) (bs l v).reverse z else low),z,()))
   (cZ (λw=>x v w cg) (bs l v).reverse low,cg,()) _ _ (λz=> ?_) rfl (λa b h h'=> ?_) _ (List.pairwise_reverse.2 h2)).trans ?_
  ·by_cases h4:cg<z<;>simp[h4]
  ·simp only[Qi]at h' ⊢;omega
  ·unfold Er;cases (bs l v).reverse.find? (λn=>decide (cg<n)&&x v n n)<;>rfl
 omit hl hlen hx in
theorem Vz(p q:ae)(n:Int)(v:ByteArray):yU p q n v=some (!nL p q v n):=by
  simp only[yU,Bz,Qa,nL];cases eJ p ⟨n,v⟩<;>cases eJ q ⟨n,v⟩<;>rfl
theorem acq(p q:ae):te aD t l p q=some (qk x l p q (gS x l p q)):=by
 obtain⟨_,_,h3,_⟩:=vi hl.aO hlen;obtain⟨e1,e2⟩:=TR (x:=x) (p:=p) (q:=q) hl hlen (gr l) (false,⟨0,gC⟩) rfl;unfold te;simp only[etas,Wl hl.aO hlen,Qa];refine(Nh (gr l) (by omega) (λs v=>(bs l v).foldl (Dv x p q v) s) (fin:=λs=>some (qk x l p q (!aM s,s))) (λi v b hv hd hx' hw=> ?_) (λb hd=> ?_) ⟨0,bE⟩).trans ?_
 ·obtain⟨_,_,g3,_⟩:=jk hl.aO hlen v;simp only[hd,hx',hw,Qk,Qa,yj hl.aO hlen];refine(Nh (bs l v) (by omega) (Dv x p q v) (fin:=λs=>some (Sum.inl (((i+1:Nat):Int),s,()))) (λi' n b' hv' hd' hx'' hw'=> ?_) (λb' hd'=> ?_) b)
  ·simp only[hd',hx'',hw',Qk,aQ,Qa,jJ,Vz,hx,k8];unfold Dv;cases bB b' ⟨n,v⟩<;>cases nL p q v n<;>cases x v n n<;>simp
  ·simp only[hd',Ql]
 ·obtain⟨_,_,g3,_⟩:=jk hl.aO hlen b.Value;simp only[hd,Ql,dg,Qa];unfold qk
  cases aM b with
  |true=>rfl
  |false=>
   simp only[Qp,Qt,Ql,yj hl.aO hlen,Qa,aQ,IW _ (by omega:(bs l b.Value).length<=1000000)]
   refine congrArg (Option.map Sum.inr) ((yn (bs l b.Value) (by omega) (λlo i=>(lo,i,())) (λlo z=>if lo<=z then .inl lo else if !nL p q b.Value z&&x b.Value z b.ai then .inl z else .inr (b.Value,lo,b.ai,true,())) (λlo=>some (b.Value,lo,b.ai,true,())) (λi z a hi' hd hs=> ?_) (λa hd=> ?_) (bs l b.Value).length (QI _) b.ai).trans ?_)
   ·simp only[hi',hd,hs,Qk,Qa,hx,Vz]
    by_cases h1:a<=z
    ·simp[h1]
    ·cases nL p q b.Value z<;>cases x b.Value z b.ai<;>simp[h1]
   ·simp only[hd,Ql]
   ·rw[Qq62];exact DA (λz=> !nL p q b.Value z&&x b.Value z b.ai) (λlo=>(b.Value,lo,b.ai,true,())) _ _
 ·unfold gS;rw[show(gr l).foldl (λs v=>(bs l v).foldl (Dv x p q v) s) ⟨0,bE⟩=((gr l).foldl (λs v=>(bs l v).foldl (fR x p q v) s) (false,⟨0,gC⟩)).2 from e1.symm,<-e2]
end
section
 include hy
theorem acs(v:ByteArray):tf aD t l v=some (CX (bs l v) (y v)):=by
 obtain⟨_,h2,h3,_⟩:=jk hl.aO hlen v;unfold tf;simp only[etas,yj hl.aO hlen,Qa,IW _ (by omega:(bs l v).length<=1000000),aQ]
 unfold CX;generalize bs l v=b at*
 suffices key:∀n:Nat,n<=b.length->aB _ (((n:Nat):Int) - 1,())=some (match(b.take n).reverse.find? (λe=>y v e e)with|some e=>(cZ (λz=>y v z e) b.reverse e,e,true,())|none=>(0,0,false,()))by
  have:=key b.length (QI _);rw[Qq62]at this;exact this
 intro n
 induction n with
 |zero=>
  intro _;rw[show((0:Nat):Int) - 1= -1 by omega]
  have hd:decide ((0:Int)<= -1)=false:=rfl;exact bM (by simp only[hd,Ql,Qe,List.take_zero,List.reverse_nil,List.find?_nil])
 |succ n ih=>
  intro hn;have hlt:n<b.length:=by omega
  have hxn:idx b (n:Int)=some b[n]:=by rw[bg];exact Qv hlt
  have hd:decide ((0:Int)<=(n:Int))=true:=Qg (by omega)
  have hs:cU .i64 (n:Int) 1=(n:Int) - 1:=pz (by omega) (by omega)
  rw[show((n+1:Nat):Int) - 1=(n:Int)by omega,Q7 hlt,List.reverse_append,List.reverse_singleton,List.singleton_append,List.find?_cons]
  cases hyn:y v b[n] b[n]with
  |false=>
   rw[bw (s':=((n:Int) - 1,())) (by simp only[hd,hxn,hs,hy,hyn,Qk,Qa,Qp])]
   exact ih (by omega)
  |true=>
   have hb:b=b.take n++b[n]::b.drop (n+1):=by rw[<-QM hlt,List.take_append_drop]
   have hp:(b.take n++b[n]::b.drop (n+1)).Pairwise (·<·):=hb▸h2;rw[Qq69,Q4]at hp;obtain⟨p1,⟨p2,p3⟩,p4⟩:=hp;refine bM ?_;simp only[hd,hxn,hs,hy,hyn,Qk,Ql,Qa,Qo];refine(yn b (by omega) (λlo i=>(lo,i,())) (λlo z=>if y v z b[n]then .inl z else .inr (.inr (lo,b[n],true,()))) (λlo=>some (.inr (lo,b[n],true,()))) (λi z a hi' hd' hs'=> ?_) (λa hd'=> ?_) n (by omega) b[n]).trans ?_
   ·simp only[hi',hd',hs',Qk,Qa];cases y v z b[n]<;>simp
   ·simp only[hd',Ql,Qe]
   ·rw[LX (λz=>y v z b[n]) (λlo=>Sum.inr (lo,b[n],true,())) _ _ (λz hz=>p4 z (List.mem_reverse.1 hz) _ (Qx ..)) (List.pairwise_reverse.2 p1)]
    have:cZ (λz=>y v z b[n]) b.reverse b[n]=cZ (λz=>y v z b[n]) (b.take n).reverse b[n]:=by
     have hr:b.reverse=((b.drop (n+1)).reverse++[b[n]])++(b.take n).reverse:=by
      rw[<-List.reverse_cons,<-List.reverse_append,<-hb]
     rw[hr];refine Kj _ _ _ _ λz hz=> ?_
     rw[Qz,List.mem_reverse,Q5]at hz;rcases hz with hz|rfl
     ·exact Int.le_of_lt (p2 z hz)
     ·exact Int.le_refl _
    rw[this]
end
end
end
section
section
variable {aD : Nat} (hn : aD < 10) {t : ak} (ht : cQ t) {l : List aj} (hl : sv l) (hlen : l.length <= 1000)
 include hn ht hl hlen
theorem aer(b:ae):ua aD t l b=some (oo aD t l b):=by
 have hin:=mu l;have hsm:=oI (aD:=aD) ht hl;simp only[ua,etas,O9 hl.aO hlen,Cr hn hl,Qa,vn hsm hn (mS hin) (mS hin)];rfl
theorem acu(b:ae):sR aD t l b=some (my aD t l b):=by
 have hin:=mu l;have hsm:=oI (aD:=aD) ht hl;simp only[sR,etas,O9 hl.aO hlen,Cr hn hl,Qa,tT hsm hn (mS hin)];rfl
theorem aeF(b:ae):gU ⟨aD,⟨jZ aD t l⟩,(cO l).map bJ.mk⟩ b=some (oo aD t l b):=by
 have hin:=mu l;have hsm:=oI (aD:=aD) ht hl;rw[LR hl.len,Bg hsm hn (mS hin) (mS hin)];rfl
theorem acL(b:ae):fp ⟨aD,⟨jZ aD t l⟩,(cO l).map bJ.mk⟩ b=some (my aD t l b):=by
 have hin:=mu l;have hsm:=oI (aD:=aD) ht hl;rw[KB hl.len,zQ hsm hn (mS hin)];rfl
 def jD(aD:Nat)(t:ak)(l:List aj)(p q:ae)(v:ByteArray):ae:=((fe l).find? (BM (oo aD t l) p q v)).getD GU
 def yG(aD:Nat)(t:ak)(l:List aj)(a:ae):ae:=((fe l).find? (BU (my aD t l) a)).getD GU
theorem acm(p q:ae)(v:ByteArray):u9 aD t l p q v=some (jD aD t l p q v):=ZL hl hlen (aer hn ht hl hlen) p q v
theorem aco(a:ae):qw aD t l a=some (yG aD t l a):=ZM hl hlen (acu hn ht hl hlen) a
theorem acI(p q:ae)(v:ByteArray):oD aD t l p q v=some (jD aD t l p q v):=acT hl hlen (OV hn ht hl) (aeF hn ht hl hlen) p q v
theorem acJ(a:ae):lz aD t l a=some (yG aD t l a):=ac5 hl hlen (OV hn ht hl) (acL hn ht hl hlen) a
end
end
end Go.Proofs.YtofedieniojipaaGreat
end
