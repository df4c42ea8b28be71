/-
  Texts made small by a program (see NOTES). Conditions: those that each theorem names.
-/
import Derived.Test.YtkgenianmdfmdaaGreatMachineCatchesMd
set_option linter.unusedVariables false
set_option linter.unusedSimpArgs false
set_option linter.unusedSectionVars false
set_option maxHeartbeats 2000000
noncomputable section
namespace Go.TQ
@[simp] theorem bA {σ ρ:Type} (j:σ->Option ρ) (f:(σ->Option ρ)->Option ρ):bO j f=f j:=rfl
@[simp] theorem oM {α:Type} (b:Bool) (x y:α):(bif b then some x else some y)=some (bif b then x else y):=by cases b<;>rfl
@[simp] theorem Yb {α:Type} (b:Bool) (x:α):(bif b then x else x)=x:=by cases b<;>rfl
theorem yP{α:Type}(p:Prop)[Decidable p](x y:α):(bif decide p then x else y)=if p then x else y:=by
 by_cases h:p<;>simp[h]
theorem wc{α:Type}(p:Prop)[Decidable p](x y:α):(if p then some x else some y)=some (if p then x else y):=by split<;>rfl
@[simp] theorem MW {α:Type} (b:Bool) (x y:α):(bif !b then x else y)=bif b then y else x:=by cases b<;>rfl
@[simp] theorem BY (a b:Int) (s t:ByteArray):kZ false a b s t=(decide (a=b)&&decide (s=t)):=by simp[kZ]
@[simp] theorem Sa (a b:Int) (s t:ByteArray):kZ true a b s t= !(decide (a=b)&&decide (s=t)):=by simp[kZ]
def Yd{α:Type}(o:Option α)(p:α->Prop):Prop:=∃x,o=some x/\p x
theorem Yd.bind{α β:Type}{o:Option α}{p:α->Prop}{f:α->Option β}{q:β->Prop}(h:Yd o p)(k:∀x,p x->Yd (f x) q):Yd (o.bind f) q:=by
 obtain⟨x,rfl,hx⟩:=h;exact k x hx
theorem Yd.mono{α:Type}{o:Option α}{p q:α->Prop}(h:Yd o p)(k:∀x,p x->q x):Yd o q:=by
 obtain⟨x,h1,hx⟩:=h;exact⟨x,h1,k x hx⟩
theorem Yd.some{α:Type}{x:α}{p:α->Prop}(h:p x):Yd (Option.some x) p:=⟨x,rfl,h⟩
theorem Yd.of_eq{α:Type}{o:Option α}{x:α}{p:α->Prop}(h:o=Option.some x)(hp:p x):Yd o p:=⟨x,h,hp⟩
theorem Yd.cond{α:Type}{b:Bool}{x y:Option α}{p:α->Prop}(h1:b=true->Yd x p)(h2:b=false->Yd y p):Yd (bif b then x else y) p:=by
 cases b
 ·exact h2 rfl
 ·exact h1 rfl
theorem Yd.map{α β:Type}{o:Option α}{f:α->β}{p:β->Prop}(h:Yd o fun x=>p (f x)):Yd (o.map f) p:=by
 obtain⟨x,rfl,hx⟩:=h;exact⟨f x,rfl,hx⟩
theorem Yd.eq_true{o:Option Bool}(h:Yd o (·=true)):o=Option.some true:=by
 obtain⟨x,h1,rfl⟩:=h;exact h1
theorem wrap64{n:Int}(h1: -9223372036854775808<=n)(h2:n<=9223372036854775807):IntKind.i64.wrap n=n:=i64_in h1 h2
theorem b0{a b:Int}(h1: -9223372036854775808<=a+b)(h2:a+b<=9223372036854775807):aI .i64 a b=a+b:=wrap64 h1 h2
theorem y4{a b:Int}(h1: -9223372036854775808<=a - b)(h2:a - b<=9223372036854775807):gf .i64 a b=a - b:=wrap64 h1 h2
theorem bK{α:Type}(l:List α)(i:Nat):idx l (i:Int)=l[i]?:=by simp[idx]
theorem Py{α:Type}(l:List α){n:Int}(h:0<=n):idx l n=l[n.toNat]?:=by simp[idx,h]
@[simp] theorem VT (n:Nat) (h:n<256):xg .i64 (n:Int)=n:=wrap64 (by omega) (by omega)
@[simp] theorem ez {bytes n:Nat} (h:n*bytes<=140737488355328/\n<=1000000):bZ bytes n=true:=by
 simp only[bZ,Qm,Qi];exact⟨h.1,QK h.2 (by simp[maxLen])⟩
theorem ot(a:Nat)(h:a<2 ^ 62):(BitVec.ofInt 64 (a:Int)).toNat=a:=by
 rw[BitVec.ofInt_natCast,BitVec.toNat_ofNat];exact Nat.mod_eq_of_lt (by omega)
theorem yW(n:Nat)(h:n<2 ^ 62):IntKind.i64.wrap (n:Int)=n:=wrap64 (by omega) (by omega)
theorem EV(a b:Nat)(ha:a<2 ^ 62)(hb:b<2 ^ 62):Cd .i64 (a:Int) (b:Int)=((a&&&b:Nat):Int):=by
 show IntKind.i64.wrap (((BitVec.ofInt 64 (a:Int)&&&BitVec.ofInt 64 (b:Int)).toNat:Nat):Int)=_;rw[BitVec.toNat_and,ot a ha,ot b hb];exact yW _ (Nat.lt_of_le_of_lt Nat.and_le_left ha)
theorem yq(a b:Nat)(ha:a<2 ^ 62)(hb:b<2 ^ 62):oi .i64 (a:Int) (b:Int)=((a|||b:Nat):Int):=by
 show IntKind.i64.wrap (((BitVec.ofInt 64 (a:Int)|||BitVec.ofInt 64 (b:Int)).toNat:Nat):Int)=_
 rw[BitVec.toNat_or,ot a ha,ot b hb];exact yW _ (Nat.or_lt_two_pow ha hb)
theorem U0(s k:Nat):s&&&2 ^ k=if s.testBit k then 2 ^ k else 0:=by
 refine Nat.eq_of_testBit_eq fun i=> ?_
 rw[Nat.testBit_and,Nat.testBit_two_pow]
 by_cases h:k=i
 ·subst h;cases hs:s.testBit k<;>simp
 ·cases hs:s.testBit k<;>simp[h]
theorem qF(k:Nat)(h:k<=60):iB .i64 1 (k:Int)=((2 ^ k:Nat):Int):=by
 show IntKind.i64.wrap (1*2 ^ min (k:Int).toNat 64)=_;rw[QV,show min k 64=k from Nat.min_eq_left (by omega),Int.one_mul]
 have:=yW (2 ^ k) (Nat.pow_lt_pow_right (by omega) (by omega))
 simpa using this
theorem Rz(a k:Nat)(h:k<=60):RA .i64 (a:Int) (k:Int)=((a>>>k:Nat):Int):=by
 show(a:Int).fdiv (2 ^ min (k:Int).toNat 64)=_;rw[QV,show min k 64=k from Nat.min_eq_left (by omega),Nat.shiftRight_eq_div_pow]
 rw[show(2:Int) ^ k=((2 ^ k:Nat):Int)by simp,Int.fdiv_eq_ediv_of_nonneg _ (Int.natCast_nonneg _)]
 exact(Int.natCast_ediv a (2 ^ k)).symm
theorem bU{σ ρ:Type}{step:σ->Option (σ⊕ρ)}{s:σ}{r:ρ}(h:step s=some (.inr r)):aG step s=some r:=by rw[kM,h]
theorem bq{σ ρ:Type}{step:σ->Option (σ⊕ρ)}{s s':σ}(h:step s=some (.inl s')):aG step s=aG step s':=by rw[kM,h]
theorem FZ{σ ρ:Type}{step:σ->Option (σ⊕ρ)}{s:σ}(h:step s=none):aG step s=none:=by rw[kM,h]
theorem Yd.loop{σ ρ:Type}{step:σ->Option (σ⊕ρ)}{s:σ}{p:ρ->Prop}(h:Yd (step s) fun y=>match y with| .inl s'=>Yd (aG step s') p| .inr r=>p r):Yd (aG step s) p:=by
 obtain⟨y,h1,h2⟩:=h
 cases y with
 |inl s'=>rw[bq h1];exact h2
 |inr r=>exact⟨r,bU h1,h2⟩
theorem Yd.inr{σ ρ:Type}{o:Option ρ}{p:σ⊕ρ->Prop}(h:Yd o fun r=>p (.inr r)):Yd (Option.map Sum.inr o) p:=h.map
def dW{α σ ρ:Type}(g:α->σ->Option (σ⊕ρ))(fin:σ->Option ρ):List α->σ->Option ρ
 |[],s=>fin s
 |x::l,s=>match g x s with
  |none=>none
  |some (.inr r)=>some r
  |some (.inl s')=>dW g fin l s'
theorem NP{α σ τ ρ:Type}(l:List α)(mk:Int->σ->τ){step:τ->Option (τ⊕ρ)}(g:α->σ->Option (σ⊕ρ))(fin:σ->Option ρ)
  (h1:∀(i:Nat) (x:α) (s:σ),i<l.length->l[i]?=some x->step (mk i s)=match g x s with|none=>none|some (.inr r)=>some (.inr r)|some (.inl s')=>some (.inl (mk (i+1:Nat) s')))
  (h2:∀s,step (mk l.length s)=(fin s).map Sum.inr) (s:σ):aG step (mk 0 s)=dW g fin l s:=by
 suffices h:∀(k:Nat) (i:Nat) (s:σ),i+k=l.length->aG step (mk i s)=dW g fin (l.drop i) s by
  have:=h l.length 0 s (by omega)
  simpa using this
 intro k
 induction k with
 |zero=>
  intro i s hi;obtain rfl:i=l.length:=by omega
  rw[List.drop_length,dW,kM,h2];cases fin s<;>rfl
 |succ k ih=>
  intro i s hi;have hlt:i<l.length:=by omega
  rw[QM hlt,dW,kM,h1 i l[i] s hlt (Qv hlt)]
  cases hg:g l[i] s with
  |none=>rfl
  |some y=>
   cases y with
   |inr r=>rfl
   |inl s'=>exact ih (i+1) s' (by omega)
theorem gO{α σ τ ρ:Type}(l:List α)(hl:l.length<=9223372036854775807)(mk:Int->σ->τ){step:τ->Option (τ⊕ρ)}(g:α->σ->Option (σ⊕ρ))(fin:σ->Option ρ)
  (h1:∀(i:Nat) (x:α) (s:σ),decide ((i:Int)<((l.length:Nat):Int))=true->idx l (i:Int)=some x->aI .i64 (i:Int) 1=((i+1:Nat):Int)->step (mk i s)=match g x s with|none=>none|some (.inr r)=>some (.inr r)|some (.inl s')=>some (.inl (mk (i+1:Nat) s')))
  (h2:∀s,decide (((l.length:Nat):Int)<((l.length:Nat):Int))=false->step (mk l.length s)=(fin s).map Sum.inr) (s:σ):aG step (mk 0 s)=dW g fin l s:=
 NP l mk g fin (fun i x s hi hx=>h1 i x s (Qg (Int.ofNat_lt.2 hi)) (by rw[bK];exact hx) (b0 (by omega) (by omega))) (fun s=>h2 s (Qh (Int.lt_irrefl _))) s
end Go.TQ
namespace Go.Proofs.YtkgenianmdfmdaaGreat
open Go.TQ
def iy:ByteArray:=⟨#[]⟩
def aD(b:ae):Bool:=decide (b.ai=0)&&decide (b.Value=iy)
def lF(a b:ByteArray):Bool:=if a.size=b.size then iU a b else decide (a.size<b.size)
def ba(a b:ae):Bool:=if a.ai=b.ai then lF a.Value b.Value else decide (a.ai<b.ai)
def bB(a b:ae):Bool:=decide (a.Value=b.Value)
def fX(p b:ae):Bool:= !aD p&&bB p b&&decide (b.ai<=p.ai)
def c9(p q b:ae):Bool:=fX p b||fX q b||(!aD q&&ba b q)
def dS(p b:ae):Bool:= !aD p&& !bB p b&&ba b p
def cd(b:ae):Bool:=(decide (1<=b.ai)&&decide (b.ai<=1000)||decide (b.ai=1000000))&&decide (1<=b.Value.size)&&decide (b.Value.size<=200)
theorem IS:∀x:List UInt8,Op.bytesLess x x=false
 |[]=>rfl
 |a::l=>by simp[Op.bytesLess,IS l]
theorem Lc:∀{x y:List UInt8},x≠y->Op.bytesLess x y=true\/Op.bytesLess y x=true
 |[],[],h=>absurd rfl h
 |[],_::_,_=> .inl rfl
 |_::_,[],_=> .inr rfl
 |a::l,b::m,h=>by
  simp only[Op.bytesLess]
  by_cases hab:a=b
  ·subst hab;have:l≠m:=fun e=>h (by rw[e])
   simpa using Lc this
  ·rcases Nat.lt_or_gt_of_ne (fun e=>hab (UInt8.toNat_inj.1 e))with h1|h1
   ·have h2:a<b:=h1;simp[h2]
   ·have h2:b<a:=h1;simp[h2]
theorem JL(a:ByteArray):iU a a=false:=IS _
@[simp] theorem bY (b:ae):aU b=some (aD b):=by unfold aU aD;rw[BY];rfl
@[simp] theorem TB (b:ae):gR b=some (aD b):=by unfold gR aD;rw[BY];rfl
@[simp] theorem dZ (a b:ae):bC a b=some (bB a b):=rfl
@[simp] theorem M9 (a b:ae):iu a b=some (bB a b):=rfl
@[simp] theorem oQ (b:ae):eW b=some (cd b):=by
 have h1:decide ((1:Int)<=(b.Value.size:Nat))=decide (1<=b.Value.size):=by rw[decide_eq_decide];omega
 have h2:decide (((b.Value.size:Nat):Int)<=200)=decide (b.Value.size<=200):=by rw[decide_eq_decide];omega
 simp only[eW,cd,h1,h2,oM,Qa,Bool.cond_false_right,Bool.cond_true_left]
@[simp] theorem SM (b:ae):lu b=some (cd b):=oQ b
@[simp] theorem OF (a b:ByteArray):mq a b=some (lF a b):=by
 simp only[mq,lF,MW,Int.ofNat_inj,Int.ofNat_lt,yP,wc]
@[simp] theorem TC (a b:ae):mM a b=some (ba a b):=by
 simp[mM,ba,yP,wc]
@[simp] theorem Rl (a b:ae):mN a b=some (fX a b):=by simp[mN,fX]
@[simp] theorem OL (a b:ae):il a b=some (fX a b):=by simp[il,fX]
@[simp] theorem OJ (p q b:ae):np p q b=some (c9 p q b):=by simp[np,c9]
@[simp] theorem Rm (p b:ae):mO p b=some (dS p b):=by simp[mO,dS]
def uC(a b:Int):Int:=if a<b then -1 else if b<a then 1 else 0
def K4(a b:ByteArray):Int:=if iU a b then -1 else if iU a b||decide (a=b)then 0 else 1
def Tc:List Int->Int
 |[]=>0
 |x::l=>if x=0 then Tc l else x
@[simp] theorem Al (a b:Int):gD a b=some (uC a b):=by
 simp[gD,n2,uC,yP,wc]
@[simp] theorem LA (a b:ByteArray):kr a b=some (K4 a b):=by
 simp only[kr,lT,K4];cases h1:iU a b<;>by_cases h2:a=b<;>simp[h2]
theorem GP(l:List Int)(hl:l.length<=1000000):mT l=some (Tc l):=by
 unfold mT;rw[gO l (by omega) (fun i (_:Unit)=>(i,())) (fun x _=>some (if x=0 then .inl ()else .inr x)) (fun _=>some 0) (fun i x s hd hx hw=> ?_) (fun s hd=> ?_) ()]
 ·induction l with
  |nil=>rfl
  |cons x l ih=>
   rw[dW,Tc]
   by_cases h:x=0
   ·simp only[h,Qt];exact ih (by simp at hl;omega)
   ·simp only[Qs h]
 ·by_cases h:x=0<;>simp only[hd,hx,hw,h,Qk,Qa]<;>simp
 ·simp only[hd,Ql]
@[simp] theorem SN (a b:Int):mT [a,b]=some (if a=0 then b else a):=by
 rw[GP _ (by simp)]
 simp only[Tc]
 by_cases h:a=0<;>by_cases h':b=0<;>simp[h,h']
def HE(a b:ByteArray):Int:=if uC a.size b.size=0 then K4 a b else uC a.size b.size
def K6(a b:ae):Int:=if uC a.ai b.ai=0 then HE a.Value b.Value else uC a.ai b.ai
@[simp] theorem uF (a b:ByteArray):fe a b=some (HE a b):=by simp[fe,HE]
@[simp] theorem OG (a b:ae):ke a b=some (K6 a b):=by simp[ke,K6]
theorem xh(a b:Int):uC a b=0↔a=b:=by unfold uC;split<;>(try split)<;>omega
theorem EN(a b:Int):uC a b<0↔a<b:=by unfold uC;split<;>(try split)<;>omega
theorem Sp(a b:ByteArray):K4 a b<0↔iU a b=true:=by
 unfold K4;split
 ·rename_i h;simp[h]
 ·rename_i h;split<;>simp[h]
theorem K3(a b:ByteArray):decide (HE a b<0)=lF a b:=by
 unfold HE lF
 by_cases h:a.size=b.size
 ·rw[Qr ((xh _ _).2 (by rw[h])),Qr h]
  rw[QW,Qi,Sp]
 ·rw[Qs (fun e=>h (by have:=(xh _ _).1 e;omega)),Qs h,decide_eq_decide,EN]
  omega
theorem K5(a b:ae):decide (K6 a b<0)=ba a b:=by
 unfold K6 ba
 by_cases h:a.ai=b.ai
 ·rw[Qr ((xh _ _).2 h),Qr h,K3]
 ·rw[Qs (fun e=>h ((xh _ _).1 e)),Qs h,decide_eq_decide,EN]
@[simp] theorem gE (a b:ae):di a b=some (ba a b):=by simp[di,K5]
@[simp] theorem mU (p q b:ae):fc p q b=some (c9 p q b):=by simp[fc,c9]
@[simp] theorem nR (p b:ae):dj p b=some (dS p b):=by simp[dj,dS]
def finite(b:ae):Bool:=cd b&&decide (b.ai<=1000)
@[simp] theorem yU (b:ae):jB b=some (finite b):=by simp[jB,finite]
@[simp] theorem wU (b:ae):iN b=some (aD b||cd b):=by simp[iN]
@[simp] theorem uT (e:aj) (n:Int):kH e n=some ⟨n,e.aa.Value⟩:=rfl
end Go.Proofs.YtkgenianmdfmdaaGreat
namespace Go.Proofs.YtkgenianmdfmdaaGreat
open Go.TQ
theorem HQ{rec:(ao×Unit)->Option Int}{t:ao}(hl:t.aR.length<=9223372036854775807):
  gG rec t=dW (fun u m=>(rec (u,())).map fun r=> .inl (bd m r)) (fun m=>some (aI .i64 m 1)) t.aR 0:=by
 unfold gG;rw[gO t.aR hl (fun i (m:Int)=>(m,i,())) (fun u m=>(rec (u,())).map fun r=> .inl (bd m r)) (fun m=>some (aI .i64 m 1)) (fun i x s hd hx hw=> ?_) (fun s hd=> ?_) 0]
 ·simp only[hd,hx,hw,Qk,Qa,ao.eta];cases rec (x,())<;>rfl
 ·simp only[hd,Ql]
theorem Ly{rec:(ao×Unit)->Option Int}{t:ao}(hl:t.aR.length<=9223372036854775807):
  im rec t=dW (fun u m=>(rec (u,())).map fun r=> .inl (aI .i64 m r)) (fun m=>some m) t.aR (aI .i64 t.bp.length t.aR.length):=by
 unfold im;rw[gO t.aR hl (fun i (m:Int)=>(m,i,())) (fun u m=>(rec (u,())).map fun r=> .inl (aI .i64 m r)) (fun m=>some m) (fun i x s hd hx hw=> ?_) (fun s hd=> ?_) (aI .i64 t.bp.length t.aR.length)]
 ·simp only[hd,hx,hw,Qk,Qa,ao.eta];cases rec (x,())<;>rfl
 ·simp only[hd,Ql]
theorem O0(t:ao):uE t=iP t:=rfl
theorem RG(t:ao):wF t=jh t:=rfl
def dp(x:Int):Bool:=decide (0<=x)&&decide (x<10)
def tr(s x:Int):Bool:=decide (0<=s)&&decide (s<1024)&&dp x&&s.toNat.testBit x.toNat
theorem CL(s:Int):dM s=some (decide (0<=s)&&decide (s<1024)):=by
 have:iB .i64 1 10=1024:=qF 10 (by omega)
 simp[dM,sM,this]
theorem Lf{s x:Int}(h1:0<=s)(h2:s<1024)(h3:0<=x)(h4:x<10):(Cd .i64 s (iB .i64 1 x)=0)=(s.toNat.testBit x.toNat=false):=by
 obtain⟨n,rfl⟩:=Int.eq_ofNat_of_zero_le h1;obtain⟨j,rfl⟩:=Int.eq_ofNat_of_zero_le h3;have hj:2 ^ j<=2 ^ 10:=Nat.pow_le_pow_right (by omega) (by omega)
 rw[qF j (by omega),EV n (2 ^ j) (by omega) (by omega),U0]
 simp only[QV];have hp:2 ^ j≠0:=Nat.pos_iff_ne_zero.1 (Nat.pow_pos (by omega))
 cases n.testBit j
 ·simp
 ·rw[Qr rfl];simp only[Bool.true_eq_false,eq_iff_iff,iff_false];omega
@[simp] theorem jl (s x:Int):hZ s x=some (tr s x):=by
 unfold hZ tr dp;rw[CL]
 by_cases h1:0<=s
 ·by_cases h2:s<1024
  ·by_cases h3:0<=x
   ·by_cases h4:x<10
    ·have h5:¬x<0:=by omega
     have:=Lf h1 h2 h3 h4;simp[h1,h2,h3,h4,h5,this]
    ·simp[h1,h2,h3,h4]
   ·simp[h1,h2,h3]
  ·simp[h1,h2]
 ·simp[h1]
theorem LG{s x:Int}(h1:0<=s)(h2:s<1024)(h3:0<=x)(h4:x<10):(Cd .i64 (RA .i64 s x) 1=1)=(s.toNat.testBit x.toNat=true):=by
 obtain⟨n,rfl⟩:=Int.eq_ofNat_of_zero_le h1;obtain⟨j,rfl⟩:=Int.eq_ofNat_of_zero_le h3;have hle:n>>>j<=n:=by rw[Nat.shiftRight_eq_div_pow];exact Nat.div_le_self _ _
 rw[Rz n j (by omega),show(1:Int)=((1:Nat):Int)from rfl,EV _ 1 (by omega) (by omega)]
 simp only[QV,Int.ofNat_inj,Nat.testBit,eq_iff_iff];rw[Nat.and_comm];simp
@[simp] theorem tE (s x:Int):jt s x=some (tr s x):=by
 unfold jt dL tr dp
 by_cases h1:0<=s
 ·by_cases h2:s<1024
  ·have h2':s<=1023:=by omega
   by_cases h3:0<=x
   ·by_cases h4:x<10
    ·have h5:¬x<0:=by omega
     have:=LG h1 h2 h3 h4;simp[h1,h2,h2',h3,h4,h5,this]
    ·simp[h1,h2,h2',h3,h4]
   ·simp[h1,h2,h2',h3]
  ·have h2':¬s<=1023:=by omega
   simp[h1,h2,h2']
 ·simp[h1]
theorem yr{s:Nat}{x:Int}(h1:s<1024)(h3:0<=x)(h4:x<10):oi .i64 (s:Int) (iB .i64 1 x)=((s|||2 ^ x.toNat:Nat):Int):=by
 obtain⟨j,rfl⟩:=Int.eq_ofNat_of_zero_le h3;have hj:2 ^ j<=2 ^ 9:=Nat.pow_le_pow_right (by omega) (by omega)
 rw[qF j (by omega)]
 exact yq s (2 ^ j) (by omega) (by omega)
theorem Jn{s:Nat}{x:Int}(h1:s<1024)(h4:x<10):s|||2 ^ x.toNat<1024:=by
 have hj:2 ^ x.toNat<=2 ^ 9:=Nat.pow_le_pow_right (by omega) (by omega)
 exact Nat.or_lt_two_pow (n:=10) h1 (by omega)
def nc(s:Nat):List Int->Int×Int×Unit
 |[]=>(s,0,())
 |x::l=>if dp x then(if s.testBit x.toNat then(0,6,())else nc (s|||2 ^ x.toNat) l)else(0,5,())
theorem Mw(g:Int->Int->Option (Int⊕(Int×Int×Unit)))
  (hg:∀x (s:Nat),s<1024->g x s=some (if dp x then(if s.testBit x.toNat then .inr (0,6,())else .inl ((s|||2 ^ x.toNat:Nat):Int))else .inr (0,5,()))):
  ∀(l:List Int) (s:Nat),s<1024->dW g (fun s=>some (s,0,())) l s=some (nc s l)
 |[],s,_=>rfl
 |x::l,s,hs=>by
  rw[dW,hg x s hs,nc]
  cases h1:dp x with
  |false=>simp
  |true=>
   cases h2:s.testBit x.toNat with
   |true=>simp
   |false=>
    simp only[Qt,Qq,Qu];have h3:x<10:=by simp[dp]at h1;omega
    exact Mw g hg l _ (Jn hs h3)
theorem xk(l:List Int)(hl:l.length<=9223372036854775807):mQ l=some (nc 0 l):=by
 unfold mQ;rw[gO l hl (fun i (s:Int)=>(s,i,())) (fun x s=>if dp x then(if tr s x then some (.inr (0,6,()))else some (.inl (oi .i64 s (iB .i64 1 x))))else some (.inr (0,5,()))) (fun s=>some (s,0,())) (fun i x s hd hx hw=> ?_) (fun s hd=> ?_) 0]
 ·refine Mw _ (fun x s hs=> ?_) l 0 (by omega)
  cases h1:dp x with
  |false=>simp
  |true=>
   have h3:0<=x/\x<10:=by simp[dp]at h1;omega
   have h2:tr s x=s.testBit x.toNat:=by simp[tr,h1];omega
   rw[h2,yr hs h3.1 h3.2];cases s.testBit x.toNat<;>simp
 ·simp only[hd,hx,hw,Qk,Qa,jl]
  by_cases h0:x<0
  ·have:¬0<=x:=by omega
   simp[h0,dp,this]
  ·have h0':0<=x:=by omega
   by_cases h10:10<=x
   ·have:¬x<10:=by omega
    simp[h0,h10,dp,this,h0']
   ·have h10':x<10:=by omega
    cases h:tr s x<;>simp[h0,h10,dp,h0',h10']
 ·simp only[hd,Ql]
theorem Ji(l:List Int)(hl:l.length<=9223372036854775807):sK l=some (nc 0 l):=by
 have:sK l=mQ l:=by
  unfold sK mQ;simp only[tE,jl]
 rw[this,xk l hl]
@[simp] theorem qu (x:Int):jc x=some (!dp x):=by simp[jc,q7,dp]
theorem Dk(l:List Int)(hl:l.length<=9223372036854775807):eK l=some (l.any fun x=> !dp x):=by
 have key:∀(i:Nat) (k:Nat),i+k=l.length->Yd (aG (fun(v1:Int×Unit)=>bif (decide (v1.1<((List.length l:Nat):Int)))then Option.bind (idx l v1.1) fun x2=>Option.bind (jc x2) fun r3=>bif r3 then Option.map Sum.inr (some v1.1)else some (Sum.inl ((aI .i64 v1.1 (1:Int)),()))else Option.map Sum.inr (some (-1:Int))) ((i:Int),())) fun r=>decide (0<=r)=(l.drop i).any fun x=> !dp x:=by
  intro i k
  induction k generalizing i with
  |zero=>
   intro hi;refine⟨-1,bU ?_,?_⟩
   ·have:¬((i:Int)<(l.length:Int)):=by omega
    simp[this]
   ·rw[List.drop_eq_nil_of_le (by omega)];rfl
  |succ k ih=>
   intro hi;have hlt:i<l.length:=by omega
   have hd:decide ((i:Int)<((l.length:Nat):Int))=true:=Qg (Int.ofNat_lt.2 hlt);have hx:idx l (i:Int)=some l[i]:=by rw[bK];exact Qv hlt
   have hw:aI .i64 (i:Int) 1=((i+1:Nat):Int):=b0 (by omega) (by omega)
   rw[QM hlt,List.any_cons]
   cases h:dp l[i]with
   |true=>
    rw[bq (s':=(((i+1:Nat):Int),())) (by simp only[hd,hx,hw,Qk,Qa,qu,h];rfl)]
    exact(ih (i+1) (by omega)).mono fun r hr=>by simpa using hr
   |false=>
    refine⟨i,bU (by simp only[hd,hx,Qk,Qa,qu,h];rfl),?_⟩
    simp
 obtain⟨r,h1,h2⟩:=key 0 l.length (by omega)
 unfold eK iC;simp only[Int.natCast_zero]at h1;rw[h1];simpa using h2
def mE(rec:ao->Option Int)(t:ao):Option Int:=
 if t.aX<1\/aI .i64 t.bp.length t.aR.length<t.aX then some 4
 else if(t.bp.any fun x=> !dp x)then some 5
 else if(nc 0 t.bp).2.1=0 then dW (fun u (_:Unit)=>(rec u).map fun r=>if r=0 then .inl ()else .inr r) (fun _=>some 0) t.aR ()
 else some (nc 0 t.bp).2.1
theorem HP{rec:(ao×Unit)->Option Int}{t:ao}(hn:t.bp.length<=9223372036854775807)(hl:t.aR.length<=9223372036854775807):gF rec t=mE (fun u=>rec (u,())) t:=by
 unfold gF mE;rw[Dk _ hn,xk _ hn];rw[gO t.aR hl (fun i (_:Unit)=>(i,())) (fun u (_:Unit)=>(rec (u,())).map fun r=>if r=0 then .inl ()else .inr r) (fun _=>some 0) (fun i x s hd hx hw=> ?_) (fun s hd=> ?_) ()]
 ·by_cases h1:t.aX<1
  ·simp[h1]
  ·by_cases h2:aI .i64 t.bp.length t.aR.length<t.aX
   ·simp[h1,h2]
   ·simp only[h1,h2,decide_false,Ql,Qa,or_self,Qu]
    cases (t.bp.any fun x=> !dp x)with
    |true=>simp
    |false=>
     by_cases h3:(nc 0 t.bp).2.1=0<;>simp[h3]
 ·simp only[hd,hx,hw,Qk,Qa,ao.eta]
  cases rec (x,())with
  |none=>rfl
  |some r=>by_cases h:r=0<;>simp[h]
 ·simp only[hd,Ql]
theorem U9{rec:(ao×Unit)->Option Int}{t:ao}(hn:t.bp.length<=9223372036854775807)(hl:t.aR.length<=9223372036854775807):nD rec t=mE (fun u=>rec (u,())) t:=by
 unfold nD mE;rw[gO t.bp hn (fun i (_:Unit)=>(i,())) (fun x (_:Unit)=>some (if dp x then .inl ()else .inr 5)) (fun _=>if(nc 0 t.bp).2.1=0 then dW (fun u (_:Unit)=>(rec (u,())).map fun r=>if r=0 then .inl ()else .inr r) (fun _=>some 0) t.aR ()else some (nc 0 t.bp).2.1) (fun i x s hd hx hw=> ?_) (fun s hd=> ?_) ()]
 ·by_cases h1:t.aX<1
  ·simp[h1]
  ·by_cases h2:aI .i64 t.bp.length t.aR.length<t.aX
   ·simp[h1,h2]
   ·simp only[h1,h2,decide_false,Ql,Qa,or_self,Qu]
    have:∀(l:List Int) (fin:Unit->Option Int),dW (fun x (_:Unit)=>some (if dp x then .inl ()else .inr 5)) fin l ()=if(l.any fun x=> !dp x)then some 5 else fin ():=by
     intro l fin
     induction l with
     |nil=>rfl
     |cons x l ih=>
      rw[dW,List.any_cons]
      cases h:dp x with
      |true=>simpa using ih
      |false=>simp
    exact this _ _
 ·simp only[hd,hx,hw,Qk,Qa,dp]
  by_cases h0:x<0
  ·have h0':¬0<=x:=by omega
   simp[h0,h0']
  ·have h0':0<=x:=by omega
   by_cases h1:10<=x
   ·have h1':¬x<10:=by omega
    simp[h0,h0',h1,h1']
   ·have h1':x<10:=by omega
    simp[h0,h0',h1,h1']
 ·simp only[hd,Ql];rw[Ji _ hn,Qa];rw[gO t.aR hl (fun i (_:Unit)=>(i,())) (fun u (_:Unit)=>(rec (u,())).map fun r=>if r=0 then .inl ()else .inr r) (fun _=>some 0) (fun i x s hd hx hw=> ?_) (fun s hd=> ?_) ()]
  ·by_cases h3:(nc 0 t.bp).2.1=0<;>simp[h3]
  ·simp only[hd,hx,hw,Qk,Qa,ao.eta]
   cases rec (x,())with
   |none=>rfl
   |some r=>by_cases h:r=0<;>simp[h]
  ·simp only[hd,Ql]
structure iY (t:ao):Prop where
 nodes:∀x∈t.bp,0<=x/\x<10
 nodup:t.bp.Nodup
 len:t.bp.length<=10
 inner:t.aR=[]\/∃x,0<=x/\x<10/\t.aR=[⟨1,[x],[]⟩]
 th:1<=t.aX/\t.aX<=t.bp.length+t.aR.length
theorem zy:∀(l:List Int) (s:Nat),(∀x∈l,0<=x/\x<10)->l.Nodup->(∀x∈l,s.testBit x.toNat=false)->(nc s l).2.1=0
 |[],s,_,_,_=>rfl
 |x::l,s,h1,h2,h3=>by
  rw[List.nodup_cons]at h2;have hx:=h1 x (by simp)
  have:dp x=true:=by simp[dp];omega
  rw[nc,this,h3 x (by simp)]
  simp only[Qt,Qq,Qu];refine zy l _ (fun y hy=>h1 y (by simp[hy])) h2.2 fun y hy=> ?_
  have hy1:=h1 y (by simp[hy])
  rw[Nat.testBit_or,h3 y (by simp[hy]),Nat.testBit_two_pow]
  have:x.toNat≠y.toNat:=fun e=>by
   have:x=y:=by omega
   subst this;exact h2.1 hy
  simp[this]
theorem Le{l:List Int}(h:∀x∈l,0<=x/\x<10):(l.any fun x=> !dp x)=false:=by
 rw[List.any_eq_false];intro x hx;have:=h x hx;simp[dp];omega
theorem L0{rec:ao->Option Int}{x:Int}(h0:0<=x)(h1:x<10):mE rec ⟨1,[x],[]⟩=some 0:=by
 have h2:aI .i64 (1:Nat) (0:Nat)=1:=rfl;have h3:(nc 0 [x]).2.1=0:=zy [x] 0 (by simp;omega) (by simp) (by simp)
 have h4:([x].any fun x=> !dp x)=false:=Le (by simp;omega)
 simp only[mE,QE,QZ,Nat.zero_add,h2,h3,h4];simp[dW]
theorem NQ{t:ao}(h:iY t){rec:ao->Option Int}(hr:∀x,0<=x->x<10->rec ⟨1,[x],[]⟩=some 0):mE rec t=some 0:=by
 have hil:t.aR.length<=1:=by rcases h.inner with e|⟨x,_,_,e⟩<;>rw[e]<;>simp
 have hlen:=h.len;have h2:aI .i64 t.bp.length t.aR.length=t.bp.length+t.aR.length:=b0 (by omega) (by omega)
 have h3:(nc 0 t.bp).2.1=0:=zy _ 0 h.nodes h.nodup (by simp)
 have h4:=Le h.nodes;have h5:=h.th;unfold mE;rw[h2,Qs (by omega),h4,h3]
 simp only[Qq,Qu,Qt];rcases h.inner with e|⟨x,hx0,hx1,e⟩
 ·rw[e];rfl
 ·rw[e,dW,hr x hx0 hx1];rfl
theorem JI(t:ao):∃n,SizeOf.sizeOf t=n+1:=by
 have:1<=SizeOf.sizeOf t:=by
  cases t;simp only[ao.mk.sizeOf_spec];omega
 exact⟨SizeOf.sizeOf t - 1,by omega⟩
theorem Oe(n:Nat)(th:Int)(l:List Int):jZ (n+1) (⟨th,l,[]⟩,())=some 1:=by
 show gG _ _=_;rw[HQ (by simp)]
 rfl
theorem size_leaf(n:Nat)(th:Int)(l:List Int):kR (n+1) (⟨th,l,[]⟩,())=some (aI .i64 l.length (0:Nat)):=by
 show im _ _=_;rw[Ly (by simp)]
 rfl
theorem Of{t:ao}(h:iY t):∃d,iP t=some d/\d<=2:=by
 obtain⟨n,hn⟩:=JI t;have hil:t.aR.length<=1:=by rcases h.inner with e|⟨x,_,_,e⟩<;>rw[e]<;>simp
 unfold iP;rw[hn];show∃d,gG (jZ (n+1)) t=some d/\d<=2;rw[HQ (by omega)]
 rcases h.inner with e|⟨x,_,_,e⟩
 ·rw[e];exact⟨1,rfl,by omega⟩
 ·rw[e,dW,Oe n 1 [x]];exact⟨2,rfl,by omega⟩
theorem OZ{t:ao}(h:iY t):∃d,jh t=some d/\d<=200:=by
 obtain⟨n,hn⟩:=JI t;have hil:t.aR.length<=1:=by rcases h.inner with e|⟨x,_,_,e⟩<;>rw[e]<;>simp
 have hlen:=h.len;unfold jh;rw[hn];show∃d,im (kR (n+1)) t=some d/\d<=200;rw[Ly (by omega),b0 (by omega) (by omega)]
 rcases h.inner with e|⟨x,_,_,e⟩
 ·rw[e];exact⟨_,rfl,by simp;omega⟩
 ·rw[e,dW,size_leaf n 1 [x]];have h1:aI .i64 (([x]:List Int).length:Nat) (0:Nat)=1:=rfl;rw[h1];refine⟨_,rfl,?_⟩;simp only[QE,QZ];rw[b0 (by omega) (by omega)]
  omega
theorem ma{t:ao}(h:iY t):dm t=some 0:=by
 obtain⟨d,h1,h2⟩:=Of h;obtain⟨z,h3,h4⟩:=OZ h;obtain⟨n,hn⟩:=JI t;have hil:t.aR.length<=1:=by rcases h.inner with e|⟨x,_,_,e⟩<;>rw[e]<;>simp
 have hlen:=h.len
 have h5:j0 t=some 0:=by
  unfold j0;rw[hn];show gF (gy (n+1)) t=some 0;rw[HP (by omega) (by omega)]
  refine NQ h fun x hx0 hx1=> ?_
  show gF (gy n) ⟨1,[x],[]⟩=some 0;rw[HP (by simp) (by simp)]
  exact L0 hx0 hx1
 have h6:¬4<d:=by omega
 have h7:¬200<z:=by omega
 simp[dm,h1,h3,h5,h6,h7]
end Go.Proofs.YtkgenianmdfmdaaGreat
namespace Go.Proofs.YtkgenianmdfmdaaGreat
open Go.TQ
structure M6 (s:nj):Prop where
 len:s.L.length<=800
 lo:0<=s.At
 hi:s.At<=800
theorem V7(l:List Int):Yd (vk l) fun s=>M6 s:=by
 have h:df (l.length:Int) 800=((min l.length 800:Nat):Int):=by unfold df;split<;>omega
 have h2:dJ 0 ((min l.length 800:Nat):Int) l.length=true:=by
  simp only[dJ,Qm,Qi];omega
 unfold vk;rw[h,h2];refine Yd.some ⟨?_,by simp,by simp⟩
 simp only[QV,List.length_drop,List.length_take];omega
theorem TJ(x n:Int)(hn:1<=n): -n<x.tmod n/\x.tmod n<n:=by
 have h2:=Int.emod_nonneg x (show n≠0 by omega)
 have h3:=Int.emod_lt_of_pos x (show 0<n by omega)
 rw[Int.tmod_eq_emod];split
 ·omega
 ·rw[Int.natAbs_of_nonneg (by omega)];omega
theorem Yc{s:nj}(h:M6 s){n:Int}(hn:n<=1000000000):Yd (sL s n) fun p=>M6 p.2/\0<=p.1/\(1<=n->p.1<n)/\(n<1->p.1=0):=by
 unfold sL;simp only[bA];refine Yd.cond (fun h1=> ?_) (fun h1=> ?_)
 ·exact Yd.some ⟨h,by simp,fun _=>by simp;omega,fun _=>rfl⟩
 ·simp only[Qj,Int.not_le]at h1;refine Yd.cond (fun h2=> ?_) (fun h2=> ?_)
  ·simp only[Qi]at h2;exact Yd.some ⟨h,by simp,fun _=>by simp;omega,fun _=>rfl⟩
  ·simp only[Qj,Int.not_lt]at h2;obtain⟨hl,hlo,hhi⟩:=h;have e1:aI .i64 s.At 1=s.At+1:=b0 (by omega) (by omega)
   have e2:gf .i64 (s.At+1) 1=s.At:=by rw[y4 (by omega) (by omega)];omega
   rw[e1,e2];have hlt:s.At.toNat<s.L.length:=by omega
   rw[Py _ hlo,Qv hlt,Qa,Qs (by omega),Qs (by omega)]
   have hb:=TJ s.L[s.At.toNat] n h2;have e3:Ns .i64 s.L[s.At.toNat] n=s.L[s.At.toNat].tmod n:=rfl;rw[e3];generalize s.L[s.At.toNat].tmod n=y at hb;have e4:aI .i64 y n=y+n:=b0 (by omega) (by omega)
   rw[e4];have h5:Ns .i64 (y+n) n=(y+n) % n:=Int.tmod_eq_emod_of_nonneg (by omega)
   rw[h5];exact Yd.some ⟨⟨hl,by simp;omega,by simp;omega⟩,Int.emod_nonneg _ (by omega),fun _=>Int.emod_lt_of_pos _ (by omega),fun _=>by omega⟩
theorem EW{s:nj}(h:M6 s){a b:Int}(h1:0<=a)(h2:a<=b+1)(h3:b<=1000000):Yd (jk s a b) fun p=>M6 p.2/\a<=p.1/\(a<=b->p.1<=b)/\(b<a->p.1=a):=by
 unfold jk;have e1:gf .i64 b a=b - a:=y4 (by omega) (by omega)
 have e2:aI .i64 (b - a) 1=b - a+1:=b0 (by omega) (by omega)
 rw[e1,e2];refine(Yc h (by omega)).bind fun p ⟨h4,h5,h6,h7⟩=> ?_
 have e3:aI .i64 a p.1=a+p.1:=by
  by_cases hq:b - a+1<1
  ·rw[h7 hq];exact b0 (by omega) (by omega)
  ·have:=h6 (by omega);exact b0 (by omega) (by omega)
 rw[e3];refine Yd.some ⟨h4,by simp;omega,fun hab=> ?_,fun hab=> ?_⟩
 ·have:=h6 (by omega)
  show a+p.1<=b;omega
 ·have:=h7 (by omega)
  show a+p.1=a;omega
def M0(v:ByteArray):Prop:=v∈[(ByteArray.mk #[97]),(ByteArray.mk #[98]),(ByteArray.mk #[99]),(ByteArray.mk #[97,97])]
theorem M0.size{v:ByteArray}(h:M0 v):1<=v.size/\v.size<=2:=by
 simp only[M0,QA,QR,or_false]at h;rcases h with rfl|rfl|rfl|rfl<;>exact⟨by decide,by decide⟩
end Go.Proofs.YtkgenianmdfmdaaGreat
namespace Go.Proofs.YtkgenianmdfmdaaGreat
open Go.TQ
def at_(e:aj)(n:Int):ae:=⟨n,e.aa.Value⟩
def vm(e:aj):Bool:=aD e.aw||(!aD e.al&&ba e.aw e.al&& !bB e.aw e.al)
def fp(e:aj):Bool:=
 finite e.aa&&(aD e.al||cd e.al)&&(aD e.aw||cd e.aw)&&vm e&&decide (0<=e.aM)&&decide (e.aM<=e.bb)&&decide (e.bb<=e.aa.ai)
  &&(decide (e.bb=0)||c9 e.al e.aw (at_ e e.bb))&&(decide (e.aM=0)||(!dS e.al (at_ e e.aM)&& !dS e.aw (at_ e e.aM)))
def tV(e:aj):Bool:=decide (1<=e.aM)&&decide (e.aM<=e.bb)&&decide (e.bb<=1000)
def um(e:aj):Bool:=finite e.aa&&cd e.al&&bB e.al e.aa&&aD e.aw&&tV e&&decide (e.bb<=e.al.ai)
def zS(e:aj):Bool:=cd e.aa&&aD e.al&&aD e.aw&&tV e
def wg(e:aj):Bool:=decide (0<=e.ar)&&decide (e.ar<10)&&decide (1<=e.bx)&&decide (e.bx<=1000000)&&decide (1<=e.aK)&&decide (e.aK<=1000000)
def jU(tv:Int)(e:aj):Bool:=
 wg e&&decide (tv=0)&&(if e.bR=1 then fp e else if e.bR=2 then um e else if e.bR=3 then zS e else false)
theorem VR(a b:Int):decide (a<b)= !decide (b<=a):=by by_cases h:a<b<;>simp[h]<;>omega
theorem Jj(e:aj):kq e=some (fp e):=by
 unfold kq fp vm at_
 simp only[bY,gE,dZ,yU,wU,uT,nR,mU,Qa,oM,bA,VR,MW];cases finite e.aa<;>cases (aD e.al||cd e.al)<;>cases (aD e.aw||cd e.aw)<;>simp
 by_cases h:e.bb=0<;>simp[h,Bool.and_assoc]
theorem sP{e:aj}{tv:Int}(hT:dm e.af=some tv):cu e=some (jU tv e):=by
 unfold cu jU wg;simp[Jj,hT,VR,um,zS,tV]
 grind
theorem EX{e:aj}{tv:Int}(hT:lv e.af=some tv):jS e=some (jU tv e):=by
 unfold jS jU wg;simp[hT,VR,um,zS,tV,fp,finite,vm,at_]
 have h9:decide (e.ar<=9)= !decide (10<=e.ar):=by by_cases h:e.ar<=9<;>simp[h]<;>omega
 rw[h9];generalize (decide (0<=e.ar)&& !decide (10<=e.ar)&&decide (1<=e.bx)&&decide (e.bx<=1000000)&&decide (1<=e.aK)&&decide (e.aK<=1000000)&&decide (tv=0))=hd
 by_cases k1:e.bR=1
 ·simp only[k1,decide_true,Qk,Qt]
  by_cases hl:0<=e.aM
  ·by_cases hh:e.aM<=e.bb
   ·have:decide (e.bb<=0)=decide (e.bb=0):=by rw[decide_eq_decide];omega
    rw[this]
    grind
   ·simp[hh]
  ·simp[hl]
 ·by_cases k2:e.bR=2
  ·simp only[k2,decide_true,Qk,Qt]
   grind
  ·simp only[k1,k2,decide_false,Ql,Qu]
   grind
def Jv(e:aj)(v:ByteArray)(lo hi:Int):Bool:=decide (1<=lo)&&decide (lo<=hi)&&decide (e.aa.Value=v)&&decide (e.aM<=lo)
def qa(e:aj)(v:ByteArray)(lo hi:Int):Bool:=Jv e v lo hi&&(!decide (e.bR=1)||(!decide (e.aM=0)&&decide (hi<=e.bb)))
def fj(e:aj)(v:ByteArray)(lo hi:Int):Bool:=Jv e v lo hi&&(decide (e.bR=3)||(decide (e.bR=2)&&decide (hi<=e.bb)))
def mz(e:aj)(b:ae):Bool:= !aD b&&(if e.bR=1 then fX e.aa b else bB e.aa b)
def cQ(e:aj)(b:ae):Bool:= !aD b&&(if e.bR=1 then c9 e.al e.aw b else if e.bR=2 then fX e.al b else bB e.aa b)
def cm(e:aj):Int:=if e.bR=3 then 1000000 else e.aa.ai
@[simp] theorem xX (r:bc) (v:ByteArray) (lo hi:Int):fW r v lo hi=some (qa r.av v lo hi):=by
 simp[fW,gS,qa,Jv]
@[simp] theorem oR (r:bc) (v:ByteArray) (lo hi:Int):fA r v lo hi=some (fj r.av v lo hi):=by
 simp[fA,gS,fj,Jv]
@[simp] theorem wV (r:bc) (b:ae):fS r b=some (mz r.av b):=by
 simp only[fS,mz];cases hz:aD b<;>by_cases h:r.av.bR=1<;>simp[h,hz]
@[simp] theorem n3 (r:bc) (b:ae):fm r b=some (cQ r.av b):=by
 simp only[fm,cQ];cases hz:aD b<;>by_cases h:r.av.bR=1<;>by_cases h2:r.av.bR=2<;>simp[h,h2,hz]
@[simp] theorem SO (r:bc):jb r=some (cm r.av):=by
 simp[jb,cm,yP,wc]
section
variable {e : aj} {tv : Int} (hT : dm e.af = some tv)
 include hT
theorem Lu:gL e=some (if jU tv e then cm e else 0):=by
 simp only[gL,ao.eta,aj.eta,sP hT,Qa];cases jU tv e<;>simp
end
def kI(n:Nat):List Int:=(List.range n).map fun i:Nat=>(i:Int)
theorem DP(n:Nat):kI (n+1)=kI n++[(n:Int)]:=by simp[kI,List.range_succ]
@[simp] theorem Nf (n:Nat):(kI n).length=n:=by simp[kI]
theorem M8(n:Nat)(hn:n<=1000)(k:Int):mg n k=some ⟨k,kI n,[]⟩:=by
 unfold mg
 suffices key:∀(m i:Nat) (t:ao),i+m=n->t.aX=k->t.aR=[]->aG (fun(v1:Int×ao×(List Int)×Unit)=>
   bif (decide (v1.1<(n:Int)))then
   bif bZ 8 (List.length v1.2.2.1+List.length [v1.1])then
   some (Sum.inl ((aI .i64 v1.1 (1:Int)),(ao.mk v1.2.1.aX ([]:List Int) v1.2.1.aR),(v1.2.2.1++[v1.1]),()))
   else none
   else
   Option.map Sum.inr (some (ao.mk v1.2.1.aX v1.2.2.1 v1.2.1.aR))) ((i:Int),t,kI i,())=some ⟨k,kI n,[]⟩from key n 0 _ (by omega) rfl rfl
 intro m
 induction m with
 |zero=>
  intro i t hi h1 h2;obtain rfl:i=n:=by omega
  refine bU ?_;have hd:decide ((i:Int)<(i:Int))=false:=Qh (Int.lt_irrefl _);simp only[hd,Ql,h1,h2,Qe]
 |succ m ih=>
  intro i t hi h1 h2;have hd:decide ((i:Int)<(n:Int))=true:=Qg (by omega)
  have hw:aI .i64 (i:Int) 1=((i+1:Nat):Int):=b0 (by omega) (by omega)
  rw[bq (s':=(((i+1:Nat):Int),⟨t.aX,[],t.aR⟩,kI (i+1),()))]
  ·exact ih (i+1) _ (by omega) h1 h2
  ·simp only[hd,hw,Qk];rw[ez (by simp;omega)]
   simp[DP]
theorem rI(n:Nat)(hn:n<=10)(k:Int)(h1:1<=k)(h2:k<=n):iY ⟨k,kI n,[]⟩:=by
 refine⟨fun x hx=> ?_,?_,by simpa using hn,.inl rfl,h1,by simpa using h2⟩
 ·simp only[kI,QP,List.mem_range]at hx;obtain⟨i,hi,rfl⟩:=hx;omega
 ·show(kI n).Nodup;exact List.Pairwise.map _ (fun a b h e=>h (by omega)) List.nodup_range
structure Xj (ay bL n:Int) (e:aj):Prop where
 ay:e.ar=ay
 bL:e.bx=bL
 seq:1<=e.aK/\e.aK<=9
 aY:iY e.af
 nodes:∀x∈e.af.bp,x<n
 ne:e.af.bp≠[]
 val:M0 e.aa.Value
 valid:jU 0 e=true
theorem OQ{b:ae}(h1:1<=b.ai)(h2:b.ai<=1000)(h3:M0 b.Value):cd b=true:=by
 have:=h3.size;have h4:b.Value.size<=200:=by omega
 simp[cd,h1,h2,h4,this.1]
end Go.Proofs.YtkgenianmdfmdaaGreat
namespace Go.Proofs.YtkgenianmdfmdaaGreat
open Go.TQ
inductive eJ:ao->Prop where
 |mk (t:ao) (h1:t.bp.length<=1000000) (h2:t.aR.length<=1000000) (h3:∀u∈t.aR,eJ u):eJ t
theorem eJ.nodes{t:ao}:eJ t->t.bp.length<=1000000| .mk _ h _ _=>h
theorem eJ.len{t:ao}:eJ t->t.aR.length<=1000000| .mk _ _ h _=>h
theorem eJ.inner{t:ao}:eJ t->∀u∈t.aR,eJ u| .mk _ _ _ h=>h
theorem tn{t u:ao}(h:u∈t.aR):SizeOf.sizeOf u<SizeOf.sizeOf t:=by
 have h1:=List.sizeOf_lt_of_mem h
 cases t with
 |mk th ns is=>
  simp only[ao.mk.sizeOf_spec]at h1 ⊢;omega
theorem iY.sm{t:ao}(h:iY t):eJ t:=by
 have:=h.len;refine .mk t (by omega) ?_ fun u hu=> ?_
 ·rcases h.inner with e|⟨x,_,_,e⟩<;>rw[e]<;>simp
 ·rcases h.inner with e|⟨x,_,_,e⟩
  ·rw[e]at hu;cases hu
  ·rw[e]at hu;simp only[List.mem_singleton]at hu;subst hu;exact .mk _ (by simp) (by simp) (by simp)
@[simp] theorem Sr (l:List Int) (h:l.length<=1000000):js l=some l:=by
 unfold js;rw[ez (by simp;omega)]
 cases l with
 |nil=>simp
 |cons x l=>simp
theorem SL{n:Nat}:∀{t:ao},SizeOf.sizeOf t<n->eJ t->pt n (t,())=some t:=by
 induction n with
 |zero=>intro t h;omega
 |succ n ih=>
  intro t hs hm;show pz (pt n) t=some t;unfold pz;have hl:=hm.len;rw[Sr _ hm.nodes,Qa]
  suffices key:∀(k i:Nat) (t':ao),i+k=t.aR.length->t'.aX=t.aX->t'.bp=t.bp->aG (fun(v2:Int×ao×(List ao)×Unit)=>
    bif (decide (v2.1<((List.length t.aR:Nat):Int)))then
    Option.bind (idx t.aR v2.1) fun x3=>
    Option.bind (pt n ((ao.mk x3.aX x3.bp x3.aR),())) fun r4=>
    bif bZ 56 (List.length v2.2.2.1+List.length [(ao.mk r4.aX r4.bp r4.aR)])then
    some (Sum.inl ((aI .i64 v2.1 (1:Int)),(ao.mk v2.2.1.aX v2.2.1.bp ([]:List ao)),(v2.2.2.1++[(ao.mk r4.aX r4.bp r4.aR)]),()))
    else none
    else
    Option.map Sum.inr (some (ao.mk v2.2.1.aX v2.2.1.bp v2.2.2.1))) ((i:Int),t',t.aR.take i,())=some t by
   have:=key t.aR.length 0 ⟨t.aX,t.bp,[]⟩ (by omega) rfl rfl
   simpa using this
  intro k
  induction k with
  |zero=>
   intro i t' hi h1 h2;refine bU ?_;have hd:decide ((i:Int)<((t.aR.length:Nat):Int))=false:=Qh (by omega)
   simp only[hd,Ql,Qe,h1,h2];rw[List.take_of_length_le (by omega),ao.eta]
  |succ k ihk=>
   intro i t' hi h1 h2;have hlt:i<t.aR.length:=by omega
   have hd:decide ((i:Int)<((t.aR.length:Nat):Int))=true:=Qg (by omega)
   have hx:idx t.aR (i:Int)=some t.aR[i]:=by rw[bK];exact Qv hlt
   have hw:aI .i64 (i:Int) 1=((i+1:Nat):Int):=b0 (by omega) (by omega)
   have hmem:t.aR[i]∈t.aR:=Q0 hlt;have hr:=ih (t:=t.aR[i]) (by have:=tn hmem;omega) (hm.inner _ hmem)
   rw[bq (s':=(((i+1:Nat):Int),⟨t'.aX,t'.bp,[]⟩,t.aR.take (i+1),()))]
   ·exact ihk (i+1) _ (by omega) h1 h2
   ·simp only[hd,Qk,hx,hw,Qa,ao.eta,hr];rw[ez (by simp;omega),List.take_succ_eq_append_getElem hlt]
    rfl
@[simp] theorem rL {t:ao} (h:eJ t):jn t=some t:=SL (by omega) h
theorem tO{α σ ρ:Type}{g:α->σ->Option (σ⊕ρ)}{fin:σ->Option ρ}(hf:∀s,∃r,fin s=some r):∀(l:List α),(∀x∈l,∀s,∃y,g x s=some y)->∀s,∃r,dW g fin l s=some r
 |[],_,s=>hf s
 |x::l,h,s=>by
  obtain⟨y,hy⟩:=h x (by simp) s
  rw[dW,hy]
  cases y with
  |inr r=>exact⟨r,rfl⟩
  |inl s'=>exact tO hf l (fun x hx=>h x (by simp[hx])) s'
theorem Dz{α σ ρ:Type}{g g':α->σ->Option (σ⊕ρ)}{fin:σ->Option ρ}:∀(l:List α),(∀x∈l,∀s,g x s=g' x s)->∀s,dW g fin l s=dW g' fin l s
 |[],_,s=>rfl
 |x::l,h,s=>by
  rw[dW,dW,h x (by simp) s]
  cases g' x s with
  |none=>rfl
  |some y=>
   cases y with
   |inr r=>rfl
   |inl s'=>exact Dz l (fun x hx=>h x (by simp[hx])) s'
theorem L9{n:Nat}:∀{t:ao},SizeOf.sizeOf t<n->eJ t->∃d,jZ n (t,())=some d:=by
 induction n with
 |zero=>intro t h;omega
 |succ n ih=>
  intro t hs hm;show∃d,gG (jZ n) t=some d;have hl:=hm.len;rw[HQ (by omega)]
  refine tO (fun s=>⟨_,rfl⟩) _ (fun u hu s=> ?_) _
  obtain⟨d,hd⟩:=ih (t:=u) (by have:=tn hu;omega) (hm.inner u hu)
  exact⟨_,by rw[hd];rfl⟩
theorem Nj{n:Nat}:∀{t:ao},SizeOf.sizeOf t<n->eJ t->∃d,kR n (t,())=some d:=by
 induction n with
 |zero=>intro t h;omega
 |succ n ih=>
  intro t hs hm;show∃d,im (kR n) t=some d;have hl:=hm.len;rw[Ly (by omega)]
  refine tO (fun s=>⟨_,rfl⟩) _ (fun u hu s=> ?_) _
  obtain⟨d,hd⟩:=ih (t:=u) (by have:=tn hu;omega) (hm.inner u hu)
  exact⟨_,by rw[hd];rfl⟩
theorem Kp{rec:ao->Option Int}{t:ao}(h:∀u∈t.aR,∃r,rec u=some r):∃r,mE rec t=some r:=by
 unfold mE;split
 ·exact⟨_,rfl⟩
 ·split
  ·exact⟨_,rfl⟩
  ·split
   ·refine tO (fun s=>⟨_,rfl⟩) _ (fun u hu s=> ?_) _
    obtain⟨r,hr⟩:=h u hu;exact⟨_,by rw[hr];rfl⟩
   ·exact⟨_,rfl⟩
theorem Kq{rec rec':ao->Option Int}{t:ao}(h:∀u∈t.aR,rec u=rec' u):mE rec t=mE rec' t:=by
 unfold mE;rw[Dz _ fun u hu s=>by rw[h u hu]]
theorem LZ{n:Nat}:∀{t:ao},SizeOf.sizeOf t<n->eJ t->∃d,gy n (t,())=some d/\qC n (t,())=some d:=by
 induction n with
 |zero=>intro t h;omega
 |succ n ih=>
  intro t hs hm;show∃d,gF (gy n) t=some d/\nD (qC n) t=some d;have hl:=hm.len;have hn:=hm.nodes;rw[HP (by omega) (by omega),U9 (by omega) (by omega)]
  have hih:∀u∈t.aR,∃r,gy n (u,())=some r/\qC n (u,())=some r:=fun u hu=>ih (t:=u) (by have:=tn hu;omega) (hm.inner u hu)
  obtain⟨r,hr⟩:=Kp (rec:=fun u=>gy n (u,())) (t:=t) fun u hu=>by obtain⟨r,h1,_⟩:=hih u hu;exact⟨r,h1⟩
  refine⟨r,hr,?_⟩;rw[<-hr];refine Kq fun u hu=> ?_
  obtain⟨r,h1,h2⟩:=hih u hu;rw[h1,h2]
theorem EZ{t:ao}(h:eJ t):∃v,dm t=some v/\lv t=some v:=by
 obtain⟨d,hd⟩:∃d,iP t=some d:=L9 (by omega) h
 obtain⟨z,hz⟩:∃z,jh t=some z:=Nj (by omega) h
 obtain⟨l,hl1,hl2⟩:∃l,j0 t=some l/\uD t=some l:=LZ (by omega) h
 simp[dm,lv,O0,RG,hd,hz,hl1,hl2]
 def y2(t:ao):Int:=(dm t).getD 1
theorem Mg{t:ao}(h:eJ t):dm t=some (y2 t):=by
 obtain⟨v,h1,_⟩:=EZ h;rw[y2,h1];rfl
theorem Rt{t:ao}(h:eJ t):lv t=some (y2 t):=by
 obtain⟨v,h1,h2⟩:=EZ h;rw[y2,h1,h2];rfl
theorem AR{t:ao}(h:iY t):y2 t=0:=by rw[y2,ma h];rfl
 def aZ(e:aj):Bool:=jU (y2 e.af) e
theorem lZ{e:aj}(h:eJ e.af):cu e=some (aZ e):=sP (Mg h)
theorem O4{e:aj}(h:eJ e.af):jS e=some (aZ e):=EX (Rt h)
def gw(s:Nat)(x:Int):Bool:=dp x&&s.testBit x.toNat
theorem tq{s:Nat}(h:s<1024)(x:Int):tr s x=gw s x:=by
 have h1:decide (0<=(s:Int))=true:=Qg (by omega)
 have h2:decide ((s:Int)<1024)=true:=Qg (by omega)
 simp only[tr,gw,h1,h2,Bool.true_and,QV]
mutual
def jv(s:Nat):ao->Bool
 |⟨th,ns,is⟩=>decide (th<=((ns.countP (gw s)+qG s is:Nat):Int))
def qG(s:Nat):List ao->Nat
 |[]=>0
 |t::l=>(if jv s t then 1 else 0)+qG s l
end
theorem Cq(s:Nat)(t:ao):jv s t=decide (t.aX<=((t.bp.countP (gw s)+qG s t.aR:Nat):Int)):=by
 cases t;rw[jv]
theorem z1(s:Nat)(hs:s<1024)(fin:Int->Option Bool):∀(l:List Int) (n:Nat),n+l.length<=9000000->
  dW (fun x (m:Int)=>some (.inl (if tr s x then aI .i64 m 1 else m))) fin l n=fin ((n+l.countP (gw s):Nat):Int)
 |[],n,_=>by simp[dW]
 |x::l,n,h=>by
  simp at h;rw[dW,tq hs,List.countP_cons]
  cases hx:gw s x with
  |false=>
   simp only[Qq,Qu,Nat.add_zero];exact z1 s hs fin l n (by omega)
  |true=>
   simp only[Qt];rw[b0 (by omega) (by omega)]
   rw[show(n:Int)+1=((n+1:Nat):Int)by omega,z1 s hs fin l (n+1) (by omega)]
   congr 2;omega
theorem DT(s:Nat)(rec:ao->Option Bool)(fin:Int->Option Bool):∀(l:List ao) (n:Nat),n+l.length<=9000000->(∀u∈l,rec u=some (jv s u))->
  dW (fun u (m:Int)=>(rec u).map fun r=> .inl (if r then aI .i64 m 1 else m)) fin l n=fin ((n+qG s l:Nat):Int)
 |[],n,_,_=>by simp[dW,qG]
 |u::l,n,h,hr=>by
  simp at h;rw[dW,hr u (by simp),qG]
  cases hx:jv s u with
  |false=>
   simp only[Qe,Qq,Qu,Nat.zero_add];exact DT s rec fin l n (by omega) fun u hu=>hr u (by simp[hu])
  |true=>
   simp only[Qe,Qt];rw[b0 (by omega) (by omega)]
   rw[show(n:Int)+1=((n+1:Nat):Int)by omega,DT s rec fin l (n+1) (by omega) fun u hu=>hr u (by simp[hu])]
   congr 2;omega
theorem Xk{rec:(ao×Int×Unit)->Option Bool}{t:ao}{s:Nat}(hs:s<1024)(hm:eJ t)(hr:∀u∈t.aR,rec (u,(s:Int),())=some (jv s u)):eO rec t s=some (jv s t):=by
 unfold eO;have hn:=hm.nodes;have hl:=hm.len;have hv:dM (s:Int)=some true:=by rw[CL];simp;omega
 rw[hv];simp only[Qa,Qo,Ql,bA];rw[gO t.bp (by omega) (fun i (m:Int)=>(m,i,())) (fun x (m:Int)=>some (.inl (if tr s x then aI .i64 m 1 else m))) (fun m=>dW (fun u (m:Int)=>(rec (u,(s:Int),())).map fun r=> .inl (if r then aI .i64 m 1 else m)) (fun m=>some (decide (t.aX<=m))) t.aR m) (fun i x m hd hx hw=> ?_) (fun m hd=> ?_) 0]
 ·rw[show(0:Int)=((0:Nat):Int)from rfl,z1 s hs _ t.bp 0 (by omega)]
  rw[DT s (fun u=>rec (u,(s:Int),())) _ t.aR _ (by have:=List.countP_le_length (p:=gw s) (l:=t.bp);omega) hr,Cq]
  simp
 ·simp only[hd,hx,hw,Qk,Qa,jl];cases tr s x<;>rfl
 ·simp only[hd,Ql];rw[gO t.aR (by omega) (fun i (m:Int)=>(m,i,())) (fun u (m:Int)=>(rec (u,(s:Int),())).map fun r=> .inl (if r then aI .i64 m 1 else m)) (fun m=>some (decide (t.aX<=m))) (fun i x m hd hx hw=> ?_) (fun m hd=> ?_) m]
  ·simp only[hd,hx,hw,Qk,Qa,ao.eta]
   cases rec (x,(s:Int),())with
   |none=>rfl
   |some r=>cases r<;>rfl
  ·simp only[hd,Ql]
theorem Xg{s:Nat}(hs:s<1024){n:Nat}:∀{t:ao},SizeOf.sizeOf t<n->eJ t->jJ n (t,(s:Int),())=some (jv s t):=by
 induction n with
 |zero=>intro t h;omega
 |succ n ih=>
  intro t hz hm;show eO (jJ n) t s=some (jv s t);exact Xk hs hm fun u hu=>ih (t:=u) (by have:=tn hu;omega) (hm.inner u hu)
theorem wz{s:Nat}(hs:s<1024){t:ao}(hm:eJ t):fV t s=some (jv s t):=Xg hs (by omega) hm
theorem Nw(t:ao)(s:Int):iQ t s=fV t s:=by
 have hB:∀(rec:(ao×Int×Unit)->Option Bool) (t:ao) (s:Int),my rec t s=eO rec t s:=by
  intro rec t s;unfold my eO
  have hv:dL s=dM s:=by
   rw[CL];unfold dL;simp;congr 1;rw[decide_eq_decide];omega
  simp only[hv,tE,jl]
 unfold iQ fV uQ jJ;congr 1;congr 1
 funext rec a
 exact hB rec a.1 a.2.1
theorem Ja{s:Nat}(hs:s<1024){t:ao}(hm:eJ t):iQ t s=some (jv s t):=by rw[Nw];exact wz hs hm
theorem Ix{s s':Nat}(h:∀k,s.testBit k=true->s'.testBit k=true)(x:Int)(hx:gw s x=true):gw s' x=true:=by
 simp only[gw,Qm]at hx ⊢;exact⟨hx.1,h _ hx.2⟩
mutual
theorem HW{s s':Nat}(h:∀k,s.testBit k=true->s'.testBit k=true):∀(t:ao),jv s t=true->jv s' t=true
 |⟨th,ns,is⟩,ht=>by
  rw[jv,Qi]at ht ⊢;have h1:=HX h is;have h2:ns.countP (gw s)<=ns.countP (gw s'):=List.countP_mono_left fun x _ hx=>Ix h x hx
  omega
theorem HX{s s':Nat}(h:∀k,s.testBit k=true->s'.testBit k=true):∀(l:List ao),qG s l<=qG s' l
 |[]=>by simp[qG]
 |t::l=>by
  have h1:=HX h l;have h2:=HW h t;rw[qG,qG]
  cases hs:jv s t with
  |false=>simp;omega
  |true=>rw[h2 hs];simp;omega
end
end Go.Proofs.YtkgenianmdfmdaaGreat
namespace Go.Proofs.YtkgenianmdfmdaaGreat
open Go.TQ
theorem TS(s:Int):dL s=some (decide (0<=s)&&decide (s<1024)):=by
 unfold dL;simp;congr 1;rw[decide_eq_decide];omega
theorem uU{s:Nat}(h:s<1024):dM (s:Int)=some true:=by rw[CL];simp;omega
theorem LJ{s:Nat}(h:s<1024):dL (s:Int)=some true:=by rw[TS];simp;omega
theorem DH(a b:Nat)(ha:a<2 ^ 62)(hb:b<2 ^ 62):∃c:Nat,tD .i64 (a:Int) (b:Int)=(c:Int)/\c<=a/\∀k,c.testBit k=(a.testBit k&& !b.testBit k):=by
 refine⟨((BitVec.ofInt 64 (a:Int)&&& ~~~ BitVec.ofInt 64 (b:Int)).toNat),?_,?_,fun k=> ?_⟩
 ·have hle:(BitVec.ofInt 64 (a:Int)&&& ~~~ BitVec.ofInt 64 (b:Int)).toNat<=a:=by
   rw[BitVec.toNat_and,ot a ha];exact Nat.and_le_left
  show IntKind.i64.wrap (((BitVec.ofInt 64 (a:Int)&&& ~~~ BitVec.ofInt 64 (b:Int)).toNat:Nat):Int)=_;exact yW _ (by omega)
 ·rw[BitVec.toNat_and,ot a ha];exact Nat.and_le_left
 ·have h1:∀i (x:Nat),x<2 ^ 62->(BitVec.ofInt 64 (x:Int)).getLsbD i=x.testBit i:=by
   intro i x hx;rw[<-BitVec.testBit_toNat,ot x hx]
  rw[BitVec.testBit_toNat,BitVec.getLsbD_and,BitVec.getLsbD_not,h1 k a ha,h1 k b hb]
  by_cases hk:k<64
  ·simp[hk]
  ·have:a.testBit k=false:=Nat.testBit_lt_two_pow (QJ ha (Nat.pow_le_pow_right (by omega) (by omega)))
   simp[this]
theorem vq{a b:Nat}(h:∀k,a.testBit k=b.testBit k):a=b:=Nat.eq_of_testBit_eq h
theorem GA{s k:Nat}(hs:s<1024)(hk:s.testBit k=true):k<10:=by
 rcases Nat.lt_or_ge k 10 with h|h
 ·exact h
 ·have:s.testBit k=false:=Nat.testBit_lt_two_pow (QJ hs (show 2 ^ 10<=2 ^ k from Nat.pow_le_pow_right (by omega) h))
  rw[this]at hk;cases hk
theorem yu{s:Nat}(h:∀k,s.testBit k=true->k<10):s<1024:=by
 rcases Nat.lt_or_ge s 1024 with h1|h1
 ·exact h1
 ·obtain⟨k,hk1,hk2⟩:=Nat.exists_ge_and_testBit_of_ge_two_pow (n:=10) h1;have:=h k hk2;omega
theorem tt(s k:Nat):gw s (k:Int)=(decide (k<10)&&s.testBit k):=by
 have h1:decide ((k:Int)<10)=decide (k<10):=by rw[decide_eq_decide];omega
 have h2:decide (0<=(k:Int))=true:=Qg (by omega)
 simp only[gw,dp,h1,h2,Bool.true_and,QV]
def zX(i:Nat)(s:Nat):List aT->Nat
 |[]=>s
 |m::l=>zX (i+1) (if m.cZ&&decide (i<10)then s|||2 ^ i else s) l
def kj(l:List aT):Nat:=zX 0 0 l
theorem II:∀(l:List aT) (i s k:Nat),(zX i s l).testBit k=(s.testBit k||(decide (i<=k)&&decide (k<10)&&((l[k - i]?).any (·.cZ))))
 |[],i,s,k=>by simp[zX]
 |m::l,i,s,k=>by
  rw[zX,II l (i+1)]
  by_cases hk:k=i
  ·subst hk;have h1:¬(k+1<=k):=by omega
   cases hm:m.cZ<;>by_cases hi:k<10<;>simp[hm,hi,h1,Nat.testBit_or]
  ·have h2:i<=k↔i+1<=k:=by omega
   have h3:∀b:Bool,(if(b&&decide (i<10))=true then s|||2 ^ i else s).testBit k=s.testBit k:=by
    intro b;split
    ·rw[Nat.testBit_or,Nat.testBit_two_pow];have:¬i=k:=fun e=>hk e.symm
     simp[this]
    ·rfl
   rw[h3]
   by_cases hik:i+1<=k
   ·have h4:(m::l)[k - i]?=l[k - (i+1)]?:=by
     rw[show k - i=(k - (i+1))+1 by omega,List.getElem?_cons_succ]
    rw[h4];have:i<=k:=by omega
    simp[this,hik]
   ·have:¬i<=k:=by omega
    simp[this,hik]
theorem BZ(l:List aT)(k:Nat):(kj l).testBit k=(decide (k<10)&&((l[k]?).any (·.cZ))):=by
 rw[kj,II];simp
theorem EG(l:List aT):kj l<1024:=yu fun k hk=>by
 rw[BZ]at hk;simp at hk;exact hk.1
theorem IH(step:(Int×Int×Unit)->Option ((Int×Int×Unit)⊕Int))(l:List aT)
  (h1:∀(i:Nat) (m:aT) (s:Nat),l[i]?=some m->s<1024->step ((s:Int),(i:Int),())=some (.inl (((if m.cZ&&decide (i<10)then s|||2 ^ i else s:Nat):Int),((i+1:Nat):Int),())))
  (h2:∀s:Int,step (s,(l.length:Int),())=some (.inr s)):aG step (0,0,())=some ((kj l:Nat):Int):=by
 suffices key:∀(k i s:Nat),i+k=l.length->s<1024->aG step ((s:Int),(i:Int),())=some ((zX i s (l.drop i):Nat):Int)by
  have:=key l.length 0 0 (by omega) (by omega)
  simpa[kj]using this
 intro k
 induction k with
 |zero=>
  intro i s hi hs;obtain rfl:i=l.length:=by omega
  rw[bU (h2 s),List.drop_length];rfl
 |succ k ih=>
  intro i s hi hs;have hlt:i<l.length:=by omega
  rw[QM hlt,zX,bq (h1 i l[i] s (Qv hlt) hs)];refine ih (i+1) _ (by omega) ?_
  split
  ·rename_i hc;simp only[Qm,Qi]at hc;have:=Jn (x:=(i:Int)) hs (by omega)
   simpa using this
  ·exact hs
theorem DN{c:bf}(h:c.bg.length<=1000000):fZ c=some ((kj c.bg:Nat):Int):=by
 unfold fZ;refine IH _ _ (fun i m s hm hs=> ?_) (fun s=> ?_)
 ·have hlt:i<c.bg.length:=(Qw.1 hm).1;have hd:decide ((i:Int)<((c.bg.length:Nat):Int))=true:=Qg (by omega)
  have hw:aI .i64 (i:Int) 1=((i+1:Nat):Int):=b0 (by omega) (by omega)
  have hx:idx c.bg (i:Int)=some m:=by rw[bK];exact hm
  have h0:¬(i:Int)<0:=by omega
  simp only[hd,hx,hw,Qk,Qa,bA,h0,Qu]
  cases m.cZ with
  |false=>simp
  |true=>
   by_cases h10:i<10
   ·have:(i:Int)<10:=by omega
    have ho:=yr (x:=(i:Int)) hs (by omega) (by omega)
    simp only[QV]at ho;simp[this,h10,ho]
   ·have:¬(i:Int)<10:=by omega
    simp[this,h10]
 ·have hd:decide (((c.bg.length:Nat):Int)<((c.bg.length:Nat):Int))=false:=Qh (Int.lt_irrefl _);simp only[hd,Ql,Qe]
theorem J6{c:bf}(h:c.bg.length<=1000000):ji c=some ((kj c.bg:Nat):Int):=by
 unfold ji;refine IH _ _ (fun i m s hm hs=> ?_) (fun s=> ?_)
 ·have hlt:i<c.bg.length:=(Qw.1 hm).1;have hd:decide ((i:Int)<((c.bg.length:Nat):Int))=true:=Qg (by omega)
  have hw:aI .i64 (i:Int) 1=((i+1:Nat):Int):=b0 (by omega) (by omega)
  have hx:idx c.bg (i:Int)=some m:=by rw[bK];exact hm
  have h0:¬(i:Int)<0:=by omega
  simp only[hd,hx,hw,Qk,Qa,bA,h0,Qu]
  by_cases h10:i<10
  ·have:(i:Int)<10:=by omega
   have ho:=yr (x:=(i:Int)) hs (by omega) (by omega)
   simp only[QV]at ho;cases m.cZ<;>simp[this,h10,ho]
  ·have:¬(i:Int)<10:=by omega
   cases m.cZ<;>simp[this,h10]
 ·have hd:decide (((c.bg.length:Nat):Int)<((c.bg.length:Nat):Int))=false:=Qh (Int.lt_irrefl _);simp only[hd,Ql,Qe]
structure DJ (c:bf):Prop where
 len:c.bg.length<=1000000
 aY:∀m∈c.bg,eJ m.af
def kv(l:List aT)(k:Nat):ao:=((l[k]?).map (·.af)).getD ⟨0,[],[]⟩
def jX(l:List aT)(k:Nat):Bool:=(kj l).testBit k
theorem vg{l:List aT}{k:Nat}(h:jX l k=true):k<10/\∃m,l[k]?=some m/\m.cZ=true:=by
 rw[jX,BZ]at h;simp only[Qm,Qi,Option.any_eq_true]at h;obtain⟨h1,m,h2,h3⟩:=h;exact⟨h1,m,h2,h3⟩
theorem qb{l:List aT}{k:Nat}{m:aT}(h:l[k]?=some m):kv l k=m.af:=by rw[kv,h];rfl
def rC(s v:Nat):Nat:=(1023^^^s)|||2 ^ v
def lp(l:List aT)(v s:Nat):Bool:=jX l v&& !jv (rC s v) (kv l v)
theorem SV(k:Nat):(1023:Nat).testBit k=decide (k<10):=by
 rw[show(1023:Nat)=2 ^ 10 - 1 from rfl,Nat.testBit_two_pow_sub_one]
theorem sn{s:Nat}(hs:s<1024)(v k:Nat):(rC s v).testBit k=(decide (k<10)&& !s.testBit k||decide (v=k)):=by
 rw[rC,Nat.testBit_or,Nat.testBit_xor,SV,Nat.testBit_two_pow]
 by_cases hk:k<10
 ·simp[hk]
 ·have:s.testBit k=false:=by
   cases h:s.testBit k with
   |false=>rfl
   |true=>exact absurd (GA hs h) hk
  simp[hk,this]
theorem Io{s v:Nat}(hs:s<1024)(hv:v<10):rC s v<1024:=yu fun k hk=>by
 rw[sn hs]at hk;simp at hk;omega
theorem LU{s v:Nat}(hs:s<1024)(hv:v<10):oi .i64 (tD .i64 1023 (s:Int)) (iB .i64 1 (v:Int))=((rC s v:Nat):Int):=by
 obtain⟨c,h1,h2,h3⟩:=DH 1023 s (by omega) (by omega)
 have h1':tD .i64 1023 (s:Int)=(c:Int):=h1;rw[h1',qF v (by omega),yq c (2 ^ v) (by omega) (Nat.pow_lt_pow_right (by omega) (by omega))]
 congr 1;refine vq fun k=> ?_
 rw[sn hs,Nat.testBit_or,h3,SV,Nat.testBit_two_pow]
theorem NH{s v:Nat}(hs:s<1024)(hv:v<10):oi .i64 (gf .i64 1023 (s:Int)) (iB .i64 1 (v:Int))=((rC s v:Nat):Int):=by
 have h1:gf .i64 1023 (s:Int)=((1023 - s:Nat):Int):=by rw[y4 (by omega) (by omega)];omega
 rw[h1,qF v (by omega),yq _ (2 ^ v) (by omega) (Nat.pow_lt_pow_right (by omega) (by omega))]
 congr 1;refine vq fun k=> ?_
 rw[sn hs,Nat.testBit_or,Nat.testBit_two_pow]
 have h2:(1023 - s).testBit k=(decide (k<10)&& !s.testBit k):=by
  have:=Nat.testBit_two_pow_sub_succ (x:=s) (n:=10) (by omega) k
  rw[show 2 ^ 10 - (s+1)=1023 - s by omega]at this
  exact this
 rw[h2]
theorem IX{c:bf}(hc:DJ c){v s:Nat}(hs:s<1024):kc c v s=some (lp c.bg v s):=by
 unfold kc lp;rw[uU hs,DN hc.len];simp only[Qa,Qo,Ql,jl,tq (EG _),tt]
 cases hd:jX c.bg v with
 |false=>
  have:(decide (v<10)&&(kj c.bg).testBit v)=false:=by
   rw[show(kj c.bg).testBit v=jX c.bg v from rfl,hd];simp
  simp[this]
 |true=>
  obtain⟨h10,m,hm,hdm⟩:=vg hd
  have:(decide (v<10)&&(kj c.bg).testBit v)=true:=by
   rw[show(kj c.bg).testBit v=jX c.bg v from rfl,hd];simp[h10]
  rw[bK,hm,LU hs h10];have h0:¬(v:Int)<0:=by omega
  have hmem:m∈c.bg:=List.mem_of_getElem? hm;simp only[this,Qo,Ql,Qa,h0,Qu,ao.eta,wz (Io hs h10) (hc.aY m hmem),qb hm,Bool.true_and]
theorem Nx{c:bf}(hc:DJ c){v s:Nat}(hs:s<1024):kE c v s=some (lp c.bg v s):=by
 unfold kE lp;rw[LJ hs,J6 hc.len];simp only[Qa,Qo,Ql,tE,tq (EG _),tt]
 cases hd:jX c.bg v with
 |false=>
  have:(decide (v<10)&&(kj c.bg).testBit v)=false:=by
   rw[show(kj c.bg).testBit v=jX c.bg v from rfl,hd];simp
  simp[this]
 |true=>
  obtain⟨h10,m,hm,hdm⟩:=vg hd
  have:(decide (v<10)&&(kj c.bg).testBit v)=true:=by
   rw[show(kj c.bg).testBit v=jX c.bg v from rfl,hd];simp[h10]
  rw[bK,hm,NH hs h10];have h0:¬(v:Int)<0:=by omega
  have hmem:m∈c.bg:=List.mem_of_getElem? hm;simp only[this,Qo,Ql,Qa,h0,Qu,ao.eta,Ja (Io hs h10) (hc.aY m hmem),qb hm,Bool.true_and]
end Go.Proofs.YtkgenianmdfmdaaGreat
namespace Go.Proofs.YtkgenianmdfmdaaGreat
open Go.TQ
def ss(s:Nat):List Int:=(kI 10).filter (gw s)
theorem Hj{n:Nat}{x:Int}:x∈kI n↔∃k:Nat,k<n/\x=k:=by
 simp only[kI,QP,List.mem_range];exact⟨fun⟨k,h1,h2⟩=>⟨k,h1,h2.symm⟩,fun⟨k,h1,h2⟩=>⟨k,h1,h2.symm⟩⟩
theorem zD{s:Nat}{x:Int}:x∈ss s↔∃k:Nat,k<10/\x=k/\s.testBit k=true:=by
 rw[ss,List.mem_filter,Hj];constructor
 ·rintro⟨⟨k,h1,rfl⟩,h2⟩;rw[tt]at h2;simp at h2;exact⟨k,h1,rfl,h2.2⟩
 ·rintro⟨k,h1,rfl,h2⟩;exact⟨⟨k,h1,rfl⟩,by rw[tt];simp[h1,h2]⟩
theorem NJ(step:(Int×List Int×Unit)->Option ((Int×List Int×Unit)⊕List Int))(s:Nat)
  (h1:∀(i:Nat) (acc:List Int),i<10->acc.length<=i->step ((i:Int),acc,())=some (.inl (((i+1:Nat):Int),(if gw s i then acc++[(i:Int)]else acc),())))
  (h2:∀acc,step (((10:Nat):Int),acc,())=some (.inr acc)):aG step (0,[],())=some (ss s):=by
 suffices key:∀(k i:Nat) (acc:List Int),i+k=10->acc=(kI i).filter (gw s)->aG step ((i:Int),acc,())=some (ss s)from key 10 0 [] rfl rfl
 intro k
 induction k with
 |zero=>
  intro i acc hi ha;obtain rfl:i=10:=by omega
  rw[bU (h2 acc),ha];rfl
 |succ k ih=>
  intro i acc hi ha;have hlen:acc.length<=i:=by rw[ha];exact QK (List.length_filter_le _ _) (by simp)
  rw[bq (h1 i acc (by omega) hlen)]
  refine ih (i+1) _ (by omega) ?_
  rw[DP,List.filter_append,<-ha];cases hh:gw s i<;>simp[hh]
theorem SH{s:Nat}(hs:s<1024):nX (s:Int)=some (ss s):=by
 unfold nX;refine NJ _ s (fun i acc hi hl=> ?_) (fun acc=> ?_)
 ·have hd:decide ((i:Int)<10)=true:=Qg (by omega)
  have hw:aI .i64 (i:Int) 1=((i+1:Nat):Int):=b0 (by omega) (by omega)
  simp only[hd,hw,Qk,bA,jl,tq hs,Qa];rw[ez (by simp;omega)]
  cases gw s i<;>simp
 ·rfl
def yT(l:List aT)(s r:Nat):Prop:=∀k,r.testBit k=true->s.testBit k=true/\jX l k=true/\jv r (kv l k)=true
structure wB (l:List aT) (s q:Nat):Prop where
 inside:yT l s q
 max:∀r,yT l s r->∀k,r.testBit k=true->q.testBit k=true
theorem wB.unique{l:List aT}{s q q':Nat}(h:wB l s q)(h':wB l s q'):q=q':=by
 refine vq fun k=> ?_
 rw[QW];exact⟨h'.max q h.inside k,h.max q' h'.inside k⟩
theorem wB.lt{l:List aT}{s q:Nat}(h:wB l s q):q<1024:=yu fun k hk=>(vg (h.inside k hk).2.1).1
def s9(l:List aT)(s:Nat):Option Int:=(ss s).find? fun x=> !jv s (kv l x.toNat)
theorem IY{l:List aT}{s:Nat}{x:Int}(h:s9 l s=some x):∃k:Nat,x=k/\k<10/\s.testBit k=true/\jv s (kv l k)=false:=by
 have h1:=List.mem_of_find?_eq_some h;have h2:=List.find?_some h;obtain⟨k,hk,rfl,hb⟩:=zD.1 h1;simp at h2;exact⟨k,rfl,hk,hb,h2⟩
theorem IZ{l:List aT}{s:Nat}(hs:s<1024)(h:s9 l s=none):∀k,s.testBit k=true->jv s (kv l k)=true:=by
 intro k hk;have:=List.find?_eq_none.1 h (k:Int) (zD.2 ⟨k,GA hs hk,rfl,hk⟩);simpa using this
theorem TN:∀s,s<1024->∀k,k<10->s.testBit k=true->s - 2 ^ k=s^^^2 ^ k:=by decide+kernel
theorem GV{s k:Nat}(hs:s<1024)(hk:s.testBit k=true):2 ^ k<=s/\∀j,(s - 2 ^ k).testBit j=(s.testBit j&& !decide (k=j)):=by
 have hle:2 ^ k<=s:=Nat.ge_two_pow_of_testBit hk;refine⟨hle,?_⟩;have hx:s - 2 ^ k=s^^^2 ^ k:=TN s hs k (GA hs hk) hk;intro j;rw[hx,Nat.testBit_xor,Nat.testBit_two_pow]
 by_cases hj:k=j
 ·subst hj;simp[hk]
 ·simp[hj]
structure py (l:List aT) (s0 s:Nat):Prop where
 lt:s<1024
 sub:∀k,s.testBit k=true->s0.testBit k=true/\jX l k=true
 max:∀r,yT l s0 r->∀k,r.testBit k=true->s.testBit k=true
theorem py.first(l:List aT){s:Nat}(hs:s<1024):py l s (s&&&kj l):=by
 refine⟨Nat.lt_of_le_of_lt Nat.and_le_left hs,fun k hk=> ?_,fun r hr k hk=> ?_⟩
 ·rw[Nat.testBit_and,Qm]at hk;exact hk
 ·rw[Nat.testBit_and,Qm];exact⟨(hr k hk).1,(hr k hk).2.1⟩
theorem py.next{l:List aT}{s0 s k:Nat}(h:py l s0 s)(hk:s.testBit k=true)(hu:jv s (kv l k)=false):py l s0 (s - 2 ^ k):=by
 obtain⟨h1,h2⟩:=GV h.lt hk;refine⟨Nat.lt_of_le_of_lt (Nat.sub_le _ _) h.lt,fun j hj=> ?_,fun r hr j hj=> ?_⟩
 ·rw[h2]at hj;simp at hj;exact h.sub j hj.1
 ·rw[h2,h.max r hr j hj]
  have:k≠j:=by
   intro e;subst e;have:=HW (fun i hi=>h.max r hr i hi) _ (hr k hj).2.2
   rw[hu]at this;cases this
  simp[this]
theorem py.done{l:List aT}{s0 s:Nat}(h:py l s0 s)(hn:s9 l s=none):wB l s0 s:=
 ⟨fun k hk=>⟨(h.sub k hk).1,(h.sub k hk).2,IZ h.lt hn k hk⟩,h.max⟩
theorem PH{l:List Int}{ρ:Type}{f:Int->Bool}{hit:Int->ρ}{fin:Unit->Option ρ}{g:Int->Unit->Option (Unit⊕ρ)}(hg:∀x∈l,∀s,g x s=some (if f x then .inr (hit x)else .inl ())):
  dW g fin l ()=match l.find? f with|some x=>some (hit x)|none=>fin ():=by
 induction l with
 |nil=>rfl
 |cons x l ih=>
  rw[dW,hg x (by simp),List.find?_cons]
  cases hx:f x with
  |true=>simp
  |false=>
   simp only[Qq,Qu];exact ih fun y hy=>hg y (by simp[hy])
theorem NK(s:Nat):(ss s).length<=10:=QK (List.length_filter_le _ _) (by simp)
theorem Ng{c:bf}(hc:DJ c){s:Nat}(hs:s<1024)(hsub:∀k,s.testBit k=true->jX c.bg k=true):
  ka c s=some (match s9 c.bg s with|some x=>(x,true,())|none=>(0,false,())):=by
 unfold ka;rw[SH hs,Qa];have hlen:=NK s;rw[gO (ss s) (by omega) (fun i (_:Unit)=>(i,())) (fun x (_:Unit)=>(kb c x s).map fun r=>if r then .inl ()else .inr (x,true,())) (fun _=>some (0,false,())) (fun i x u hd hx hw=> ?_) (fun u hd=> ?_) ()]
 ·rw[PH (f:=fun x=> !jv s (kv c.bg x.toNat)) (hit:=fun x=>(x,true,()))]
  ·unfold s9;cases (ss s).find? _<;>rfl
  ·intro x hx u;obtain⟨k,hk,rfl,hb⟩:=zD.1 hx;obtain⟨_,m,hm,_⟩:=vg (hsub k hb);unfold kb;rw[bK,hm];simp only[Qa,ao.eta,wz hs (hc.aY m (List.mem_of_getElem? hm)),Qe,QV,qb hm];cases jv s m.af<;>rfl
 ·simp only[hd,hx,hw,Qk,Qa]
  cases kb c x s with
  |none=>rfl
  |some r=>cases r<;>rfl
 ·simp only[hd,Ql]
theorem Oz{s k:Nat}(hs:s<1024)(hk:s.testBit k=true):tD .i64 (s:Int) (iB .i64 1 (k:Int))=((s - 2 ^ k:Nat):Int):=by
 have h10:=GA hs hk;obtain⟨c,h1,_,h3⟩:=DH s (2 ^ k) (by omega) (Nat.pow_lt_pow_right (by omega) (by omega))
 rw[qF k (by omega),h1]
 congr 1;refine vq fun j=> ?_
 rw[h3,(GV hs hk).2,Nat.testBit_two_pow]
theorem DL{c:bf}(hc:DJ c){s:Nat}(hs:s<1024):Yd (ix c s) fun q=>∃n:Nat,q=n/\wB c.bg s n:=by
 unfold ix nQ;rw[uU hs,DN hc.len];simp only[Qa,Qo,Ql];have hdl:=EG c.bg;rw[EV s (kj c.bg) (by omega) (by omega)]
 suffices key:∀(n t:Nat) (out:List Int),t<n->py c.bg s t->out.length+t<=1024->Yd (aG (fun(v3:Int×(List Int)×Unit)=>
   Option.bind (ka c v3.1) fun r4=>
   bif (!r4.2.1)then
   Option.map Sum.inr (some (v3.1,v3.2.1,()))
   else
   bif bZ 8 (List.length v3.2.1+List.length [r4.1])then
   if r4.1<0 then none else
   some (Sum.inl ((tD .i64 v3.1 (iB .i64 (1:Int) r4.1)),(v3.2.1++[r4.1]),()))
   else none) ((t:Int),out,())) fun p=>∃n:Nat,p.1=n/\wB c.bg s n by
  have hfirst:=py.first c.bg hs
  have hb:=hfirst.lt;refine(key 1024 (s&&&kj c.bg) [] hb hfirst (by simp;omega)).bind fun p hp=>Yd.some hp
 intro n
 induction n with
 |zero=>intro t out h;omega
 |succ n ih=>
  intro t out ht hinv hout;refine Yd.loop ?_;rw[Ng hc hinv.lt fun k hk=>(hinv.sub k hk).2]
  simp only[Qa]
  cases hu:s9 c.bg t with
  |none=>exact Yd.some ⟨t,rfl,hinv.done hu⟩
  |some x=>
   obtain⟨k,rfl,hk10,hkb,hks⟩:=IY hu;have h0:¬(k:Int)<0:=by omega
   have hlb:=(GV hinv.lt hkb).1;have hp:0<2 ^ k:=Nat.pow_pos (by omega)
   simp only[Qo,Ql];rw[ez (by simp;omega),Qs h0,Oz hinv.lt hkb]
   exact Yd.some (ih (t - 2 ^ k) _ (by omega) (hinv.next hkb hks) (by simp;omega))
theorem PB{c:bf}(hc:DJ c){s:Nat}(hs:s<1024):∃q,wB c.bg s q:=by
 obtain⟨_,_,n,_,h⟩:=DL hc hs;exact⟨n,h⟩
open Classical in
 def gq(l:List aT)(s:Nat):Nat:=if h:∃q,wB l s q then Classical.choose h else 0
theorem Gk{c:bf}(hc:DJ c){s:Nat}(hs:s<1024):wB c.bg s (gq c.bg s):=by
 have h:=PB hc hs;rw[gq,dif_pos h];exact Classical.choose_spec h
theorem DM{c:bf}(hc:DJ c){s:Nat}(hs:s<1024):ix c s=some ((gq c.bg s:Nat):Int):=by
 obtain⟨q,h1,n,rfl,h2⟩:=DL hc hs;rw[h1,h2.unique (Gk hc hs)]
end Go.Proofs.YtkgenianmdfmdaaGreat
namespace Go.Proofs.YtkgenianmdfmdaaGreat
open Go.TQ
structure mK (l:List aj):Prop where
 len:l.length<=100000
 aY:∀e∈l,eJ e.af
theorem iG{e:aj}(h:aZ e=true):0<=e.ar/\e.ar<10:=by
 simp only[aZ,jU,wg,Qm,Qi]at h;exact⟨h.1.1.1.1.1.1.1,h.1.1.1.1.1.1.2⟩
def eM:aT:=⟨false,⟨0,[],[]⟩⟩
 def cz(ms:List aT)(e:aj):List aT:=
 if aZ e&& !((ms[e.ar.toNat]?).any (·.cZ))then ms.set e.ar.toNat ⟨true,e.af⟩else ms
 def dU(ay:Nat)(t:ao)(l:List aj):List aT:=l.foldl cz ((List.replicate 10 eM).set ay ⟨true,t⟩)
theorem rU(ms:List aT)(e:aj):(cz ms e).length=ms.length:=by
 unfold cz;split
 ·rw[QY]
 ·rfl
theorem xY:∀(l:List aj) (ms:List aT),(l.foldl cz ms).length=ms.length
 |[],_=>rfl
 |e::l,ms=>by rw[QU,xY l,rU]
theorem AP(ay:Nat)(t:ao)(l:List aj):(dU ay t l).length=10:=by
 rw[dU,xY,QY,List.length_replicate]
theorem Jt{ms:List aT}(hl:ms.length=10){n:Int}(h0:0<=n)(h1:n<10):∃m,ms[n.toNat]?=some m/\idx ms n=some m:=by
 have:n.toNat<ms.length:=by omega
 exact⟨ms[n.toNat],Qv this,by rw[Py _ h0];exact Qv this⟩
theorem MZ{ay:Nat}(hn:ay<10){t:ao}(ht:eJ t){l:List aj}(hl:mK l):mP ay t l=some ⟨dU ay t l⟩:=by
 unfold mP
 have h1:(decide ((10:Int)=10)&&decide ((0:Int)<=10)&&bZ 64 (Int.toNat 10))=true:=by
  rw[ez (by decide)];rfl
 have h2:¬(ay:Int)<0:=by omega
 have h3:¬(10:Int)<=ay:=by omega
 rw[h1];simp only[Qk,h2,h3,decide_false,Ql,Qa,ao.eta,rL ht,bA];obtain⟨m,hm1,hm2⟩:=Jt (ms:=List.replicate 10 eM) (by simp) (n:=(ay:Int)) (by omega) (by omega)
 have e10:List.replicate (Int.toNat 10) (aT.mk false (ao.mk 0 [] []))=List.replicate 10 eM:=rfl;rw[e10,hm2,hm1,Qa,Qa];have hlen:=hl.len
 suffices key:∀(k i:Nat) (ms:List aT) (c:bf),i+k=l.length->ms.length=10->aG _ ((i:Int),c,ms,())=some (bf.mk ((l.drop i).foldl cz ms))by
  have:=key l.length 0 ((List.replicate 10 eM).set ay ⟨true,t⟩) ⟨[]⟩ (by omega) (by simp)
  simpa[dU]using this
 intro k
 induction k with
 |zero=>
  intro i ms c hi hms;obtain rfl:i=l.length:=by omega
  refine bU ?_;have hd:decide (((l.length:Nat):Int)<((l.length:Nat):Int))=false:=Qh (Int.lt_irrefl _);simp only[hd,Ql,List.drop_length,List.foldl_nil]
 |succ k ih=>
  intro i ms c hi hms;have hlt:i<l.length:=by omega
  have hd:decide ((i:Int)<((l.length:Nat):Int))=true:=Qg (by omega)
  have hw:aI .i64 (i:Int) 1=((i+1:Nat):Int):=b0 (by omega) (by omega)
  have hx:idx l (i:Int)=some l[i]:=by rw[bK];exact Qv hlt
  have hsm:=hl.aY _ (Q0 hlt);rw[QM hlt,QU];refine Eq.trans (bq (s':=(((i+1:Nat):Int),⟨[]⟩,cz ms l[i],())) ?_) (ih (i+1) _ _ (by omega) (by rw[rU];exact hms))
  simp only[hd,hx,hw,Qk,Qa,lZ hsm];unfold cz
  cases hv:aZ l[i]with
  |false=>simp
  |true=>
   obtain⟨h4,h5⟩:=iG hv;obtain⟨m,hm1,hm2⟩:=Jt hms h4 h5;simp only[Qk,hm1,hm2,Qa,rL hsm,Option.any_some,Bool.true_and];cases m.cZ<;>simp
theorem RI{ay:Nat}(hn:ay<10){t:ao}{l:List aj}(hl:mK l):kT ay t l=some ⟨dU ay t l⟩:=by
 unfold kT
 have h1:(decide ((10:Int)=10)&&decide ((0:Int)<=10)&&bZ 64 (Int.toNat 10))=true:=by
  rw[ez (by decide)];rfl
 have h2:¬(ay:Int)<0:=by omega
 have h3:¬(9:Int)<ay:=by omega
 rw[h1];simp only[Qk,h2,h3,decide_false,Ql,Qa,ao.eta,bA];obtain⟨m,hm1,hm2⟩:=Jt (ms:=List.replicate 10 eM) (by simp) (n:=(ay:Int)) (by omega) (by omega)
 have e10:List.replicate (Int.toNat 10) (aT.mk false (ao.mk 0 [] []))=List.replicate 10 eM:=rfl;rw[e10,hm2,hm1,Qa,Qa];have hlen:=hl.len
 suffices key:∀(k i:Nat) (ms:List aT) (c:bf),i+k=l.length->ms.length=10->aG _ ((i:Int),c,ms,())=some (bf.mk ((l.drop i).foldl cz ms))by
  have:=key l.length 0 ((List.replicate 10 eM).set ay ⟨true,t⟩) ⟨[]⟩ (by omega) (by simp)
  simpa[dU]using this
 intro k
 induction k with
 |zero=>
  intro i ms c hi hms;obtain rfl:i=l.length:=by omega
  refine bU ?_;have hd:decide (((l.length:Nat):Int)<((l.length:Nat):Int))=false:=Qh (Int.lt_irrefl _);simp only[hd,Ql,List.drop_length,List.foldl_nil]
 |succ k ih=>
  intro i ms c hi hms;have hlt:i<l.length:=by omega
  have hd:decide ((i:Int)<((l.length:Nat):Int))=true:=Qg (by omega)
  have hw:aI .i64 (i:Int) 1=((i+1:Nat):Int):=b0 (by omega) (by omega)
  have hx:idx l (i:Int)=some l[i]:=by rw[bK];exact Qv hlt
  have hsm:=hl.aY _ (Q0 hlt);rw[QM hlt,QU];refine Eq.trans (bq (s':=(((i+1:Nat):Int),⟨[]⟩,cz ms l[i],())) ?_) (ih (i+1) _ _ (by omega) (by rw[rU];exact hms))
  simp only[hd,hx,hw,Qk,Qa,O4 hsm];unfold cz
  cases hv:aZ l[i]with
  |false=>simp
  |true=>
   obtain⟨h4,h5⟩:=iG hv;obtain⟨m,hm1,hm2⟩:=Jt hms h4 h5;simp only[Qk,hm1,hm2,Qa,Option.any_some,Bool.true_and];cases m.cZ<;>simp
theorem n4{ay:Nat}{t:ao}(ht:eJ t){l:List aj}(hl:mK l):DJ ⟨dU ay t l⟩:=by
 refine⟨by rw[AP];omega,?_⟩
 have key:∀(l:List aj) (ms:List aT),(∀e∈l,eJ e.af)->(∀m∈ms,eJ m.af)->∀m∈l.foldl cz ms,eJ m.af:=by
  intro l
  induction l with
  |nil=>intro ms _ h;exact h
  |cons e l ih=>
   intro ms he h;rw[QU];refine ih _ (fun e' h'=>he e' (by simp[h'])) fun m hm=> ?_
   unfold cz at hm;split at hm
   ·rcases List.mem_or_eq_of_mem_set hm with hm|rfl
    ·exact h m hm
    ·exact he e (by simp)
   ·exact h m hm
 refine key l _ hl.aY fun m hm=> ?_
 rcases List.mem_or_eq_of_mem_set hm with hm|rfl
 ·rw[List.eq_of_mem_replicate hm];exact .mk _ (by simp[eM]) (by simp[eM]) (by simp[eM])
 ·exact ht
 def bH(l:List aj):List aj:=l.filter aZ
theorem Rh{l:List aj}(hl:mK l):lR l=some ((bH l).map bc.mk):=by
 unfold lR;have hlen:=hl.len;simp only[bA]
 suffices key:∀(k i:Nat) (acc:List bc),i+k=l.length->acc=(bH (l.take i)).map bc.mk->aG _ ((i:Int),acc,())=some ((bH l).map bc.mk)from key l.length 0 [] (by omega) rfl
 intro k
 induction k with
 |zero=>
  intro i acc hi ha;obtain rfl:i=l.length:=by omega
  refine bU ?_;have hd:decide (((l.length:Nat):Int)<((l.length:Nat):Int))=false:=Qh (Int.lt_irrefl _);simp only[hd,Ql,Qe,ha,List.take_length]
 |succ k ih=>
  intro i acc hi ha;have hlt:i<l.length:=by omega
  have hd:decide ((i:Int)<((l.length:Nat):Int))=true:=Qg (by omega)
  have hw:aI .i64 (i:Int) 1=((i+1:Nat):Int):=b0 (by omega) (by omega)
  have hx:idx l (i:Int)=some l[i]:=by rw[bK];exact Qv hlt
  have hsm:=hl.aY _ (Q0 hlt)
  have hal:acc.length<=i:=by
   rw[ha,QC];exact QK (List.length_filter_le _ _) (by rw[List.length_take];omega)
  refine Eq.trans (bq (s':=(((i+1:Nat):Int),(if aZ l[i]then acc++[bc.mk l[i]]else acc),())) ?_) (ih (i+1) _ (by omega) ?_)
  ·simp only[hd,hx,hw,Qk,Qa,ao.eta,aj.eta,lZ hsm];rw[ez (by simp;omega)]
   cases aZ l[i]<;>simp
  ·rw[List.take_succ_eq_append_getElem hlt,bH,List.filter_append,ha];cases hv:aZ l[i]<;>simp[bH,hv]
def de(p:aj->Bool):List aj->Nat
 |[]=>0
 |e::l=>(if p e then 2 ^ e.ar.toNat else 0)|||de p l
theorem mX(p:aj->Bool)(k:Nat):∀(l:List aj),(de p l).testBit k=l.any fun e=>p e&&decide (e.ar.toNat=k)
 |[]=>by simp[de]
 |e::l=>by
  rw[de,Nat.testBit_or,mX p k l,List.any_cons];cases p e<;>simp[Nat.testBit_two_pow]
def mL(l:List aj):Prop:=∀e∈l,0<=e.ar/\e.ar<10
theorem oe(l:List aj):mL (bH l):=fun _ he=>iG (List.mem_filter.1 he).2
theorem u5(l:List aj):(bH l).length<=l.length:=List.length_filter_le _ _
theorem oU{p:aj->Bool}{l:List aj}(h:mL l):de p l<1024:=yu fun k hk=>by
 rw[mX,List.any_eq_true]at hk;obtain⟨e,he,h1⟩:=hk;simp only[Qm,Qi]at h1;have:=h e he;omega
theorem yY(p:aj->Bool)(l:List aj)(hin:mL l)(step:(Int×Int×Unit)->Option ((Int×Int×Unit)⊕Int))
  (h1:∀(i:Nat) (e:aj) (s:Int),l[i]?=some e->step (s,(i:Int),())=if p e then(if e.ar<0 then none else some (.inl (oi .i64 s (iB .i64 1 e.ar),((i+1:Nat):Int),())))else some (.inl (s,((i+1:Nat):Int),())))
  (h2:∀s:Int,step (s,(l.length:Int),())=some (.inr s)):aG step (0,0,())=some ((de p l:Nat):Int):=by
 suffices key:∀(k i s:Nat),i+k=l.length->s<1024->aG step ((s:Int),(i:Int),())=some ((s|||de p (l.drop i):Nat):Int)by
  have:=key l.length 0 0 (by omega) (by omega)
  simpa using this
 intro k
 induction k with
 |zero=>
  intro i s hi hs;obtain rfl:i=l.length:=by omega
  rw[bU (h2 s),List.drop_length,de];simp
 |succ k ih=>
  intro i s hi hs;have hlt:i<l.length:=by omega
  have hm:=hin l[i] (Q0 hlt);rw[QM hlt,de];have hst:=h1 i l[i] s (Qv hlt)
  cases hp:p l[i]with
  |false=>
   rw[hp]at hst;rw[bq hst,ih (i+1) s (by omega) hs]
   simp
  |true=>
   rw[hp,Qr rfl,Qs (by omega),yr hs hm.1 hm.2]at hst
   rw[bq hst,ih (i+1) _ (by omega) (Jn hs hm.2)]
   simp[Nat.or_assoc]
theorem DI{v:bf}{ay:Int}{l:List aj}(hl:l.length<=1000000)(hin:mL l)(b:ae):gu ⟨ay,v,l.map bc.mk⟩ b=some ((de (cQ · b) l:Nat):Int):=by
 unfold gu;refine yY (cQ · b) l hin _ (fun i e s he=> ?_) (fun s=> ?_)
 ·have hlt:i<l.length:=(Qw.1 he).1;have hd:decide ((i:Int)<(((l.map bc.mk).length:Nat):Int))=true:=Qg (by rw[QC];omega)
  have hw:aI .i64 (i:Int) 1=((i+1:Nat):Int):=b0 (by omega) (by omega)
  have hx:idx (l.map bc.mk) (i:Int)=some ⟨e⟩:=by rw[bK,QT,he];rfl
  simp only[hd,hx,hw,Qk,Qa,ao.eta,aj.eta,jd,n3,bA];cases cQ e b<;>simp
 ·have hd:decide (((l.length:Nat):Int)<(((l.map bc.mk).length:Nat):Int))=false:=Qh (by rw[QC];exact Int.lt_irrefl _)
  simp only[hd,Ql,Qe]
theorem OC{v:bf}{ay:Int}{l:List aj}(hl:l.length<=1000000)(hin:mL l)(b:ae):eV ⟨ay,v,l.map bc.mk⟩ b b=some ((de (fun e=>mz e b||cQ e b) l:Nat):Int):=by
 unfold eV;refine yY (fun e=>mz e b||cQ e b) l hin _ (fun i e s he=> ?_) (fun s=> ?_)
 ·have hlt:i<l.length:=(Qw.1 he).1;have hd:decide ((i:Int)<(((l.map bc.mk).length:Nat):Int))=true:=Qg (by rw[QC];omega)
  have hw:aI .i64 (i:Int) 1=((i+1:Nat):Int):=b0 (by omega) (by omega)
  have hx:idx (l.map bc.mk) (i:Int)=some ⟨e⟩:=by rw[bK,QT,he];rfl
  simp only[hd,hx,hw,Qk,Qa,ao.eta,aj.eta,gB,jd,mf,n3,wV,bA,oM,Bool.cond_true_left];cases (mz e b||cQ e b)<;>simp
 ·have hd:decide (((l.length:Nat):Int)<(((l.map bc.mk).length:Nat):Int))=false:=Qh (by rw[QC];exact Int.lt_irrefl _)
  simp only[hd,Ql,Qe]
 def pd(ms:List aT)(v votes accepts:Nat):Bool:=lp ms v accepts||(gq ms (votes|||accepts)).testBit v
theorem Aq{c:bf}(hc:DJ c){v votes accepts:Nat}(hv:v<10)(h1:votes<1024)(h2:accepts<1024):gK c v votes accepts=some (pd c.bg v votes accepts):=by
 unfold gK pd;have h3:votes|||accepts<1024:=Nat.or_lt_two_pow (n:=10) h1 h2
 rw[uU h1,uU h2,IX hc h2,yq votes accepts (by omega) (by omega),DM hc h3]
 simp[tq (Gk hc h3).lt,tt,hv]
theorem yH{c:bf}(hc:DJ c){v accepts:Nat}(hv:v<10)(h2:accepts<1024):gn c v accepts=some ((gq c.bg accepts).testBit v):=by
 unfold gn;rw[DM hc h2];simp[tq (Gk hc h2).lt,tt,hv]
 def gN(ay:Nat)(t:ao)(l:List aj)(b:ae):Bool:=
 pd (dU ay t l) ay (de (fun e=>mz e b||cQ e b) (bH l)) (de (cQ · b) (bH l))
 def fq(ay:Nat)(t:ao)(l:List aj)(b:ae):Bool:=
 (gq (dU ay t l) (de (cQ · b) (bH l))).testBit ay
theorem HM{ay:Nat}(hn:ay<10){t:ao}(ht:eJ t){l:List aj}(hl:mK l):ec ay t l=some ⟨ay,⟨dU ay t l⟩,(bH l).map bc.mk⟩:=by
 unfold ec;simp only[ao.eta,MZ hn ht hl,Rh hl,Qa]
end Go.Proofs.YtkgenianmdfmdaaGreat
namespace Go.Proofs.YtkgenianmdfmdaaGreat
open Go.TQ
theorem SD{α:Type}{l l':List α}(h:l.Perm l')(p:α->Bool):l.any p=l'.any p:=by
 rw[QW,List.any_eq_true,List.any_eq_true];exact⟨fun⟨x,h1,h2⟩=>⟨x,h.mem_iff.1 h1,h2⟩,fun⟨x,h1,h2⟩=>⟨x,h.mem_iff.2 h1,h2⟩⟩
theorem OM{l l':List aj}(h:l.Perm l')(p:aj->Bool):de p l=de p l':=vq fun k=>by rw[mX,mX,SD h]
theorem LN{l l':List aj}(h:l.Perm l'):(bH l).Perm (bH l'):=h.filter _
def tT(l:List aj):Prop:=∀a∈l,∀b∈l,a.ar=b.ar->a=b
theorem tT.perm{l l':List aj}(h:tT l)(hp:l.Perm l'):tT l':=fun a ha b hb=>h a (hp.mem_iff.2 ha) b (hp.mem_iff.2 hb)
 def kK(l:List aj)(k:Nat):Option aj:=l.find? fun e=>aZ e&&decide (e.ar.toNat=k)
theorem xz{l:List aj}{k:Nat}{e:aj}(h:kK l k=some e):e∈l/\aZ e=true/\e.ar=k:=by
 unfold kK at h;have h1:=List.mem_of_find?_eq_some h;have h2:=List.find?_some h;simp only[Qm,Qi]at h2;have:=iG h2.1;exact⟨h1,h2.1,by omega⟩
theorem FT{l:List aj}(ha:tT l){k:Nat}{e:aj}(h1:e∈l)(h2:aZ e=true)(h3:e.ar=k):kK l k=some e:=by
 cases h:kK l k with
 |none=>
  unfold kK at h;rw[List.find?_eq_none]at h;have:=h e h1;simp[h2,h3]at this
 |some e'=>
  obtain⟨g1,g2,g3⟩:=xz h;rw[ha e' g1 e h1 (by omega)]
theorem LV{l l':List aj}(ha:tT l)(h:l.Perm l')(k:Nat):kK l k=kK l' k:=by
 cases h1:kK l k with
 |some e=>
  obtain⟨g1,g2,g3⟩:=xz h1;exact(FT (ha.perm h) (h.mem_iff.1 g1) g2 g3).symm
 |none=>
  cases h2:kK l' k with
  |none=>rfl
  |some e=>
   obtain⟨g1,g2,g3⟩:=xz h2;rw[FT ha (h.mem_iff.2 g1) g2 g3]at h1;cases h1
theorem HT:∀(l:List aj) (ms:List aT),ms.length=10->(∀m∈ms,m.cZ=false->m=eM)->∀k,k<10->(l.foldl cz ms)[k]?=some (match ms[k]? with
  |some m=>if m.cZ then m else(match kK l k with
   |some e=>⟨true,e.af⟩
   |none=>eM)
  |none=>eM)
 |[],ms,hl,hn,k,hk=>by
  have hk':k<ms.length:=by omega
  rw[List.foldl_nil,Qv hk']
  cases hd:ms[k].cZ with
  |true=>simp[hd]
  |false=>
   have:=hn _ (Q0 hk') hd;simp[hd,kK,this]
 |e::l,ms,hl,hn,k,hk=>by
  have hk':k<ms.length:=by omega
  rw[QU];have hlen:(cz ms e).length=10:=by rw[rU];exact hl
  have hn':∀m∈cz ms e,m.cZ=false->m=eM:=by
   unfold cz;split
   ·intro m hm hd;rcases List.mem_or_eq_of_mem_set hm with hm|rfl
    ·exact hn m hm hd
    ·cases hd
   ·exact hn
  rw[HT l (cz ms e) hlen hn' k hk];congr 1
  have hof:kK (e::l) k=if(aZ e&&decide (e.ar.toNat=k))=true then some e else kK l k:=by
   unfold kK;rw[List.find?_cons];cases aZ e&&decide (e.ar.toNat=k)<;>rfl
  rw[hof];unfold cz
  by_cases hv:aZ e=true
  ·have hnode:=iG hv;have hi:e.ar.toNat<ms.length:=by omega
   rw[hv,Bool.true_and,Bool.true_and]
   by_cases hke:e.ar.toNat=k
   ·subst hke;rw[Qv hi]
    cases hd:ms[e.ar.toNat].cZ with
    |true=>simp[hd,Qv hi]
    |false=>simp[hd,hi]
   ·have hne:decide (e.ar.toNat=k)=false:=Qh hke
    have hset:∀c:Bool,(if c=true then ms.set e.ar.toNat ⟨true,e.af⟩else ms)[k]?=ms[k]?:=fun c=>by
     cases c
     ·rfl
     ·rw[Qr rfl,List.getElem?_set_ne hke]
    rw[hne,hset];simp
  ·have hv':aZ e=false:=by simpa using hv
   simp[hv']
theorem AO{ay:Nat}(hn:ay<10)(t:ao)(l:List aj){k:Nat}(hk:k<10):(dU ay t l)[k]?=some (if k=ay then⟨true,t⟩else match kK l k with
  |some e=>⟨true,e.af⟩
  |none=>eM):=by
 rw[dU,HT l _ (by simp) (fun m hm hd=> ?_) k hk]
 ·by_cases h:k=ay
  ·subst h;simp[hn]
  ·rw[List.getElem?_set_ne (fun e=>h e.symm),List.getElem?_replicate,Qr hk]
   simp[h,eM]
 ·rcases List.mem_or_eq_of_mem_set hm with hm|rfl
  ·exact(List.mem_replicate.1 hm).2
  ·cases hd
theorem Nd{ay:Nat}(hn:ay<10)(t:ao){l l':List aj}(ha:tT l)(h:l.Perm l'):dU ay t l=dU ay t l':=by
 refine List.ext_getElem? fun k=> ?_
 by_cases hk:k<10
 ·rw[AO hn t l hk,AO hn t l' hk,LV ha h]
 ·rw[List.getElem?_eq_none (by rw[AP];omega),List.getElem?_eq_none (by rw[AP];omega)]
end Go.Proofs.YtkgenianmdfmdaaGreat
namespace Go.Proofs.YtkgenianmdfmdaaGreat
open Go.TQ
theorem Q6{τ ρ:Type}(n:Nat)(mk:Int->τ){step:τ->Option (τ⊕ρ)}{fin:Option ρ}(h1:∀i:Nat,i<n->step (mk (i:Int))=some (.inl (mk ((i+1:Nat):Int))))(h2:step (mk (n:Int))=Option.map Sum.inr fin):aG step (mk 0)=fin:=by
 suffices key:∀(k i:Nat),i+k=n->aG step (mk (i:Int))=fin from key n 0 (by omega)
 intro k
 induction k with
 |zero=>
  intro i hi;obtain rfl:i=n:=by omega
  rw[kM,h2];cases fin<;>rfl
 |succ k ih=>exact fun i hi=>(bq (h1 i (by omega))).trans (ih (i+1) (by omega))
theorem H2{ρ:Type}(n:Nat)(hn:n<=1000000){fin:Option ρ}{step:Int×Unit->Option ((Int×Unit)⊕ρ)}
  (h1:∀i:Nat,i<n->decide ((i:Int)<((n:Nat):Int))=true->aI .i64 (i:Int) 1=((i+1:Nat):Int)->step ((i:Int),())=some (.inl (((i+1:Nat):Int),())))
  (h2:decide (((n:Nat):Int)<((n:Nat):Int))=false->step ((n:Int),())=Option.map Sum.inr fin):aG step (0,())=fin:=
 Q6 n (fun i=>(i,())) (fun i hi=>h1 i hi (Qg (by omega)) (b0 (by omega) (by omega))) (h2 (Qh (Int.lt_irrefl _)))
end Go.Proofs.YtkgenianmdfmdaaGreat
namespace Go.Proofs.YtkgenianmdfmdaaGreat
open Go.TQ
def zV:List UInt8->Nat
 |[]=>0
 |a::l=>a.toNat*256 ^ l.length+zV l
theorem CF:∀l:List UInt8,zV l<256 ^ l.length
 |[]=>by simp[zV]
 |a::l=>by
  have h1:=CF l;have h2:a.toNat<256:=a.toNat_lt;rw[zV,QE,Nat.pow_succ];have h3:(a.toNat+1)*256 ^ l.length<=256*256 ^ l.length:=Nat.mul_le_mul_right _ h2;rw[Nat.add_mul,Nat.one_mul,Nat.mul_comm 256]at h3;omega
theorem P7:∀{x y:List UInt8},x.length=y.length->Op.bytesLess x y=true->zV x<zV y
 |[],[],_,h=>by simp[Op.bytesLess]at h
 |[],_::_,hl,_=>by simp at hl
 |_::_,[],hl,_=>by simp at hl
 |a::x,b::y,hl,h=>by
  simp only[QE,Nat.add_right_cancel_iff]at hl;simp only[Op.bytesLess,Qn,Qi,Qm,beq_iff_eq]at h;rw[zV,zV,hl];rcases h with h|⟨rfl,h⟩
  ·have h1:=CF x;rw[hl]at h1;have h2:a.toNat<b.toNat:=UInt8.lt_iff_toNat_lt.1 h;have h3:(a.toNat+1)*256 ^ y.length<=b.toNat*256 ^ y.length:=Nat.mul_le_mul_right _ h2;rw[Nat.add_mul,Nat.one_mul]at h3;omega
  ·have:=P7 hl h;omega
def WV:Nat:=256 ^ 201
def HC(v:ByteArray):Nat:=v.size*256 ^ 200+zV v.toList
theorem toList_len(v:ByteArray):v.toList.length=v.size:=by
 rw[Lib.toList_data];cases v;simp[ByteArray.size]
theorem O7{a b:Nat}(h:a<=b):(256:Nat) ^ a<=256 ^ b:=Nat.pow_le_pow_right (by omega) h
theorem MM{v:ByteArray}(h:v.size<=200):HC v<WV:=by
 have h1:=CF v.toList;rw[toList_len]at h1;have h2:=O7 h;have h3:v.size*256 ^ 200<=200*256 ^ 200:=Nat.mul_le_mul_right _ h;have h4:WV=256*256 ^ 200:=by rw[WV,Nat.pow_succ,Nat.mul_comm]
 unfold HC;rw[h4];generalize (256:Nat) ^ 200=Z at*;omega
theorem Pq{a b:ByteArray}(hb:b.size<=200)(h:lF a b=true):HC a<HC b:=by
 unfold lF at h;unfold HC
 by_cases hs:a.size=b.size
 ·rw[Qr hs]at h;have:=P7 (x:=a.toList) (y:=b.toList) (by rw[toList_len,toList_len,hs]) h
  rw[hs];omega
 ·rw[Qs hs,Qi]at h;have h1:=CF a.toList;rw[toList_len]at h1;have h2:=O7 (show a.size<=200 by omega)
  have h3:(a.size+1)*256 ^ 200<=b.size*256 ^ 200:=Nat.mul_le_mul_right _ h;rw[Nat.add_mul,Nat.one_mul]at h3;generalize (256:Nat) ^ 200=Z at*;omega
def Sm(b:ae):Prop:=0<=b.ai/\b.ai<=1000/\b.Value.size<=200
def ki(b:ae):Nat:=b.ai.toNat*WV+HC b.Value
def WB:Nat:=1001*WV
theorem ln{b:ae}(h:Sm b):ki b<WB:=by
 obtain⟨h1,h2,h3⟩:=h;have h4:=MM h3;unfold ki WB;have h5:b.ai.toNat*WV<=1000*WV:=Nat.mul_le_mul_right _ (by omega)
 generalize WV=Z at*;omega
theorem ow{a b:ae}(ha:Sm a)(hb:Sm b)(h:ba a b=true):ki a<ki b:=by
 unfold ba at h;unfold ki
 by_cases hc:a.ai=b.ai
 ·rw[Qr hc]at h;have:=Pq hb.2.2 h;rw[hc];omega
 ·rw[Qs hc,Qi]at h;have h1:=MM ha.2.2;have h2:=ha.1;have h3:(a.ai.toNat+1)*WV<=b.ai.toNat*WV:=Nat.mul_le_mul_right _ (by omega)
  rw[Nat.add_mul,Nat.one_mul]at h3;generalize WV=Z at*;omega
theorem Yd.down{σ ρ:Type}{step:σ->Option (σ⊕ρ)}{p:ρ->Prop}(inv:σ->Prop)(μ:σ->Nat)(h:∀s,inv s->Yd (step s) fun y=>match y with| .inl s'=>inv s'/\μ s'<μ s| .inr r=>p r){s:σ}(hs:inv s):Yd (aG step s) p:=by
 suffices key:∀(n:Nat) (s:σ),μ s<n->inv s->Yd (aG step s) p from key _ s (Nat.lt_succ_self _) hs
 intro n
 induction n with
 |zero=>intro s h0;omega
 |succ n ih=>
  intro s hn hi;refine Yd.loop ((h s hi).mono fun y hy=> ?_)
  cases y with
  |inl s'=>exact ih s' (by have:=hy.2;omega) hy.1
  |inr r=>exact hy
end Go.Proofs.YtkgenianmdfmdaaGreat
namespace Go.Proofs.YtkgenianmdfmdaaGreat
open Go.TQ
def bn:ae:=⟨0,iy⟩
def eo(m:ab):Int:=if(!aD m.au&&bB m.au m.aa)=true then m.au.ai else 0
def cj(m:ab):aj:=
 if m.aL=1 then⟨m.ar,m.bx,m.aK,m.af,m.aL,m.aa,m.al,m.aw,m.aM,eo m⟩
 else if m.aL=2 then⟨m.ar,m.bx,m.aK,m.af,m.aL,m.aa,m.al,bn,m.aM,m.bb⟩
 else⟨m.ar,m.bx,m.aK,m.af,m.aL,m.aa,bn,bn,m.aM,m.bb⟩
theorem oH(m:ab):(cj m).ar=m.ar:=by unfold cj;split<;>(try split)<;>rfl
theorem ug(m:ab):(cj m).bx=m.bx:=by unfold cj;split<;>(try split)<;>rfl
theorem KM(m:ab):(cj m).aK=m.aK:=by unfold cj;split<;>(try split)<;>rfl
theorem sI(m:ab):(cj m).af=m.af:=by unfold cj;split<;>(try split)<;>rfl
theorem PL(m:ab):(cj m).bR=m.aL:=by unfold cj;split<;>(try split)<;>rfl
def ft(m:ab):aj:={cj m with aK:=bd (cj m).aK 1}
def BQ(e:aj):List aj->List aj
 |[]=>[e]
 |x::l=>if e.ar<x.ar then e::x::l else x::BQ e l
theorem xe(e:aj):∀l,(BQ e l).Perm (l++[e])
 |[]=> .refl _
 |x::l=>by
  unfold BQ;split
  ·exact(List.perm_append_singleton e (x::l)).symm
  ·exact(xe e l).cons x
def aJ(m:ab):List aj:=if aD m.aa=true then m.aA else BQ (ft m) m.aA
def uW(a b:ae):Bool:=decide (a.ai=b.ai)&&decide (a.Value=b.Value)
theorem oa{a b:ae}:uW a b=true↔a=b:=by
 cases a;cases b;simp[uW]
def ly(a b:ab):Bool:=decide (a.aL=b.aL)&&uW a.aa b.aa&&uW a.al b.al&&uW a.aw b.aw&&uW a.au b.au&&decide (a.aM=b.aM)&&decide (a.bb=b.bb)
end Go.Proofs.YtkgenianmdfmdaaGreat
namespace Go.Proofs.YtkgenianmdfmdaaGreat
open Go.TQ
def tF(v:ByteArray)(n:Int)(x:ae):Int:=
 if(cd x&&dS x ⟨n,v⟩)=true then(if dS x ⟨x.ai,v⟩=true then x.ai+1 else x.ai)else n
def kg(v:ByteArray)(n:Int)(p q:ae):Int:=tF v (tF v (bd n 1) p) q
end Go.Proofs.YtkgenianmdfmdaaGreat
namespace Go.Proofs.YtkgenianmdfmdaaGreat
open Go.TQ
theorem NR{lo k:Int}{v:ByteArray}{p:ae}(h:lo<=k)(hl:ba ⟨k,v⟩ p=true):ba ⟨lo,v⟩ p=true:=by
 unfold ba at hl ⊢;simp only at hl ⊢
 by_cases h1:lo=k
 ·rw[h1];exact hl
 ·have h2:lo<p.ai:=by
   split at hl
   ·omega
   ·simp only[Qi]at hl;omega
  rw[Qs (by omega)]
  simpa using h2
theorem Mb{lo k:Int}{v:ByteArray}{p:ae}(h:lo<=k)(ha:dS p ⟨lo,v⟩=false):dS p ⟨k,v⟩=false:=by
 cases hk:dS p ⟨k,v⟩with
 |false=>rfl
 |true=>
  simp only[dS,Qm,bB]at hk;simp only[dS,bB,hk.1.1,hk.1.2,NR h hk.2]at ha;cases ha
theorem iH(p b:ae):fX p b=true↔aD p=false/\p.Value=b.Value/\b.ai<=p.ai:=by
 simp[fX,bB,and_assoc]
theorem FY{b:ae}(h:1<=b.ai):aD b=false:=by
 have:¬b.ai=0:=by omega
 simp[aD,this]
end Go.Proofs.YtkgenianmdfmdaaGreat
namespace Go.Proofs.YtkgenianmdfmdaaGreat
open Go.TQ
theorem W0{n:Nat}(h:n<1000000):xg .u64 (n:Int)=n:=by
 unfold xg IntKind.wrap;simp[IntKind.signed,IntKind.bits];omega
def vE(b p:ae)(j:Nat)(t:ao):aj:=⟨j,1,1,t,1,b,p,⟨0,ByteArray.mk #[]⟩,0,0⟩
structure Lr (b:ae):Prop where
 lo:1<=b.ai
 hi:b.ai<=6
 val:M0 b.Value
theorem Lr.valid{b:ae}(h:Lr b):cd b=true:=OQ h.lo (by have:=h.hi;omega) h.val
theorem Lr.nz{b:ae}(h:Lr b):aD b=false:=FY h.lo
theorem FA{l:List aj}(h:∀e∈l,aZ e=true):bH l=l:=List.filter_eq_self.2 h
end Go.Proofs.YtkgenianmdfmdaaGreat
namespace Go.Proofs.YtkgenianmdfmdaaGreat
open Go.TQ
theorem vA:∀(l:List aj) (ms:List aT) (k:Nat) (m:aT),ms[k]?=some m->
  (l.foldl cz ms)[k]?=some (if m.cZ then m else match(bH l).find? (fun e=>decide (e.ar.toNat=k))with|some e=>⟨true,e.af⟩|none=>m)
 |[],ms,k,m,h=>by simp[bH,h]
 |e::l,ms,k,m,h=>by
  rw[QU]
  by_cases hv:aZ e=true
  ·have hr:bH (e::l)=e::bH l:=by simp[bH,hv]
   rw[hr,List.find?_cons]
   by_cases hk:e.ar.toNat=k
   ·have hstep:(cz ms e)[k]?=some (if m.cZ then m else⟨true,e.af⟩):=by
     unfold cz;rw[hv,hk,h]
     cases hm:m.cZ with
     |true=>simp[hm,h]
     |false=>
      have hlt:k<ms.length:=(Qw.1 h).1;simp[hm,hlt]
    rw[vA l _ k _ hstep]
    cases hm:m.cZ with
    |true=>simp[hm]
    |false=>simp[hk]
   ·have hstep:(cz ms e)[k]?=some m:=by
     unfold cz;split
     ·rw[List.getElem?_set_ne hk];exact h
     ·exact h
    rw[vA l _ k m hstep];simp[hk]
  ·have hv':aZ e=false:=by simpa using hv
   have hr:bH (e::l)=bH l:=by simp[bH,hv']
   have hstep:cz ms e=ms:=by simp[cz,hv']
   rw[hr,hstep];exact vA l ms k m h
theorem OP{ay:Nat}{t:ao}{l:List aj}{k:Nat}(hk:k<10)(hn:ay<10):
  (dU ay t l)[k]?=some (if k=ay then⟨true,t⟩else match(bH l).find? (fun e=>decide (e.ar.toNat=k))with|some e=>⟨true,e.af⟩|none=>eM):=by
 unfold dU
 by_cases h:k=ay
 ·subst h;rw[vA l _ k ⟨true,t⟩ (by simp[hk])]
  simp
 ·rw[vA l _ k eM (by
   rw[List.getElem?_set_ne (fun e=>h e.symm),List.getElem?_replicate,Qr hk])]
  simp[h,eM]
theorem Iu{l:List aT}{k:Nat}{m:aT}(hk:k<10)(h:l[k]?=some m)(hd:m.cZ=true):jX l k=true:=by
 rw[jX,BZ,h];simp[hk,hd]
theorem HS{ay:Nat}(hn:ay<10){t:ao}{l:List aj}(T:Nat->ao)(ht:T ay=t)(hT:∀e∈bH l,e.af=T e.ar.toNat){k:Nat}(hk:k<10)(hs:k=ay\/∃e∈bH l,e.ar.toNat=k):
  jX (dU ay t l) k=true/\kv (dU ay t l) k=T k:=by
 have hg:=OP (t:=t) (l:=l) hk hn
 by_cases h:k=ay
 ·rw[Qr h]at hg;exact⟨Iu hk hg rfl,by rw[qb hg,h,ht]⟩
 ·rw[Qs h]at hg;obtain⟨e,he,hek⟩:=hs.resolve_left h
  cases hf:(bH l).find? (fun e=>decide (e.ar.toNat=k))with
  |none=>
   have:=List.find?_eq_none.1 hf e he;simp[hek]at this
  |some e'=>
   rw[hf]at hg;have h1:=List.mem_of_find?_eq_some hf;have h2:=List.find?_some hf;simp only[Qi]at h2;exact⟨Iu hk hg rfl,by rw[qb hg,<-h2];exact hT e' h1⟩
def yV(b p:ae)(ts:List ao)(q n:Nat)(l:List aj):Prop:=
 l.length<=n/\(∀e∈l,∃i t,i<n/\q.testBit i=true/\ts[i]?=some t/\e=vE b p i t)/\∀i t,i<n->q.testBit i=true->ts[i]?=some t->vE b p i t∈l
theorem yV.nil(b p:ae)(ts:List ao)(q:Nat):yV b p ts q 0 []:=⟨by simp,by simp,fun i t h=>by omega⟩
theorem yV.take{b p:ae}{ts:List ao}{q n:Nat}{l:List aj}(h:yV b p ts q n l)(hq:q.testBit n=true){t:ao}(ht:ts[n]?=some t):yV b p ts q (n+1) (l++[vE b p n t]):=by
 obtain⟨h1,h2,h3⟩:=h;refine⟨by simp;omega,fun e he=> ?_,fun i t' hi hb ht'=> ?_⟩
 ·rcases Qz.1 he with he|he
  ·obtain⟨i,t,a,b,c⟩:=h2 e he;exact⟨i,t,by omega,b,c⟩
  ·simp only[List.mem_singleton]at he;exact⟨n,t,by omega,hq,ht,he⟩
 ·rcases Nat.lt_or_ge i n with h|h
  ·exact Qz.2 (.inl (h3 i t' h hb ht'))
  ·obtain rfl:i=n:=by omega
   rw[ht]at ht';injection ht' with ht'
   subst ht';exact Qz.2 (.inr (by simp))
section
variable {b p : ae} (hb : Lr b) (hp : aD p = true \/ cd p = true) {ts : List ao} (hts : ∀ t ∈ ts, iY t) {q : Nat} {l : List aj} (hlen : ts.length <= 5) (hc : yV b p ts q ts.length l)
 include hb hp hts hlen hc
end
end Go.Proofs.YtkgenianmdfmdaaGreat
namespace Go.Proofs.YtkgenianmdfmdaaGreat
open Go.TQ
section
variable {α : Type}
structure SWO (lt:α->α->Bool):Prop where
 asymm:∀x y,lt x y=true->lt y x=false
 trans:∀x y z,lt y x=false->lt z y=false->lt z x=false
end
end Go.Proofs.YtkgenianmdfmdaaGreat
namespace Go.Proofs.YtkgenianmdfmdaaGreat
open Go.TQ
section
variable {α : Type}
 def KZ(eq ne:α->α->Bool)(z:α)(K:Int)(n:Nat)(v6:Int×Int×(List α)×Unit):Option ((Int×Int×(List α)×Unit)⊕((Int×(List α)×Unit)⊕List α)):=
 bif (decide (v6.2.1<((List.length ((v6.2.2.1.drop (Int.toNat K)).take (Int.toNat (n:Int) - Int.toNat K)):Nat):Int)))then
 bO (fun(v7:Int×(List α)×Unit)=>
 some (Sum.inl (v7.1,(aI .i64 v6.2.1 (1:Int)),v7.2.1,()))) fun j8=>
 Option.bind (idx ((v6.2.2.1.drop (Int.toNat K)).take (Int.toNat (n:Int) - Int.toNat K)) v6.2.1) fun x9=>
 Option.bind (v6.2.2.1[((Int.toNat K)+Int.toNat v6.2.1)]?) fun x10=>
 Option.bind (idx ((v6.2.2.1.drop (Int.toNat K)).take (Int.toNat (n:Int) - Int.toNat K)) (gf .i64 v6.2.1 (1:Int))) fun x11=>
 Option.bind (v6.2.2.1[((Int.toNat K)+Int.toNat (gf .i64 v6.2.1 (1:Int)))]?) fun x12=>
 bif (ne x10 x12)then
 Option.bind (idx ((v6.2.2.1.drop (Int.toNat K)).take (Int.toNat (n:Int) - Int.toNat K)) v6.2.1) fun x13=>
 Option.bind (v6.2.2.1[((Int.toNat K)+Int.toNat v6.2.1)]?) fun x14=>
 Option.bind (idx v6.2.2.1 v6.1) fun x15=>
 Option.bind (v6.2.2.1[(Int.toNat v6.1)]?) fun x16=>
 j8 ((aI .i64 v6.1 (1:Int)),(v6.2.2.1.set (Int.toNat v6.1) x14),())
 else
 j8 (v6.1,v6.2.2.1,())
 else
 Option.map Sum.inr (bif dJ v6.1 ((List.length v6.2.2.1):Int) (List.length v6.2.2.1)then
 bif dJ (0:Int) v6.1 (List.length (v6.2.2.1.take (Int.toNat v6.1)++List.replicate (Int.toNat ((List.length v6.2.2.1):Int) - Int.toNat v6.1) z++v6.2.2.1.drop ((Int.toNat v6.1)+(Int.toNat ((List.length v6.2.2.1):Int) - Int.toNat v6.1))))then
 Option.map Sum.inr (some ((v6.2.2.1.take (Int.toNat v6.1)++List.replicate (Int.toNat ((List.length v6.2.2.1):Int) - Int.toNat v6.1) z++v6.2.2.1.drop ((Int.toNat v6.1)+(Int.toNat ((List.length v6.2.2.1):Int) - Int.toNat v6.1))).take (Int.toNat v6.1 - Int.toNat (0:Int))))
 else none
 else none)
 def Gt(eq ne:α->α->Bool)(z:α)(v1:Int×(List α)×Unit):Option ((Int×(List α)×Unit)⊕List α):=
 bif (decide (v1.1<((List.length v1.2.1:Nat):Int)))then
 Option.bind (idx v1.2.1 v1.1) fun x2=>
 Option.bind (v1.2.1[(Int.toNat v1.1)]?) fun x3=>
 Option.bind (idx v1.2.1 (gf .i64 v1.1 (1:Int))) fun x4=>
 Option.bind (v1.2.1[(Int.toNat (gf .i64 v1.1 (1:Int)))]?) fun x5=>
 bif (eq x3 x5)then
 bif dJ v1.1 ((List.length v1.2.1):Int) (List.length v1.2.1)then
 aG (KZ eq ne z v1.1 (List.length v1.2.1)) (v1.1,(1:Int),v1.2.1,())
 else none
 else
 some (Sum.inl ((aI .i64 v1.1 (1:Int)),v1.2.1,()))
 else
 Option.map Sum.inr (some v1.2.1)
 def Ez(eq ne:α->α->Bool)(z:α)(s:List α):Option (List α):=
 bif (decide (((List.length s:Nat):Int)<(2:Int)))then
 some s
 else
 aG (Gt eq ne z) ((1:Int),s,())
theorem JE(d:List α){K n m:Nat}(hm:m<n - K):idx ((d.drop K).take (n - K)) (m:Int)=d[K+m]?:=by
 rw[bK,List.getElem?_take,Qr hm,List.getElem?_drop]
variable [DecidableEq α]
def mJ(acc:List α)(x:α):List α:=if acc.getLast?=some x then acc else acc++[x]
def dd(l:List α):List α:=l.foldl mJ []
theorem MR(l:List α)(x:α):dd (l++[x])=mJ (dd l) x:=by simp[dd,List.foldl_append]
theorem UN(l:List α):(dd l).getLast?=l.getLast?:=by
 suffices h:∀r:List α,(dd r.reverse).getLast?=r.reverse.getLast? by
  have:=h l.reverse
  rwa [List.reverse_reverse]at this
 intro r
 induction r with
 |nil=>rfl
 |cons x r ih=>
  rw[List.reverse_cons,MR,mJ];split
  ·rename_i h;rw[h];simp
  ·simp
theorem MQ{s:List α}{k:Nat}{x:α}(h:s[k]?=some x):dd (s.take (k+1))=mJ (dd (s.take k)) x:=by
 obtain⟨hl,hx⟩:=Qw.1 h;rw[List.take_succ_eq_append_getElem hl,hx,MR]
theorem Is{s:List α}{k:Nat}{x:α}(h:s[k]?=some x):(dd (s.take (k+1))).getLast?=some x:=by
 obtain⟨hl,hx⟩:=Qw.1 h;rw[UN,List.take_succ_eq_append_getElem hl,hx];simp
variable {eq ne : α -> α -> Bool} {z : α}
theorem EL(hne:∀x y,ne x y= !decide (x=y)){s:List α}{K:Nat}(hn:s.length<1000000000):∀(r i k2:Nat) (d:List α),k2+r=s.length - K->1<=k2->i<=K+k2 - 1->d.length=s.length->d.take i=dd (s.take (K+k2))->(∀j,K+k2 - 1<=j->d[j]?=s[j]?)->
  aG (KZ eq ne z (K:Int) s.length) ((i:Int),(k2:Int),d,())=some (.inr (dd s))
 |0,i,k2,d,hr,h1,hi,hd,ht,hs=>by
  have hKn:K+k2=s.length:=by omega
  refine bU ?_;have e1:(((d.drop K).take (s.length - K)).length)=s.length - K:=by simp;omega
  have e2:decide ((k2:Int)<((s.length - K:Nat):Int))=false:=Qh (by omega)
  have e3:∀n,dJ (i:Int) (d.length:Int) n=decide (d.length<=n):=by
   intro n;have:i<=d.length:=by omega
   simp only[dJ];have h1:decide ((0:Int)<=(i:Int))=true:=Qg (by omega)
   have h2:decide ((i:Int)<=(d.length:Int))=true:=Qg (by omega)
   rw[h1,h2,Bool.and_self,Bool.true_and,decide_eq_decide];omega
  have e4:(d.take i++List.replicate (d.length - i) z++d.drop (i+(d.length - i))).length=d.length:=by simp;omega
  have e5:dJ (0:Int) (i:Int) d.length=true:=by
   simp only[dJ,Qm,Qi];omega
  have e6:(d.take i++List.replicate (d.length - i) z++d.drop (i+(d.length - i))).take (i - 0)=dd s:=by
   rw[Nat.sub_zero,QL,List.take_append_of_le_length (by simp;omega),List.take_take,Nat.min_self,ht,hKn,List.take_length]
  simp only[KZ,QV,e1,e2,Ql,e3,QI,decide_true,Qk,e4,e5,Int.toNat_zero,e6,Qe]
 |r+1,i,k2,d,hr,h1,hi,hd,ht,hs=>by
  have hKn:K+k2<s.length:=by omega
  obtain⟨x,hx⟩:∃x,s[K+k2]?=some x:=⟨_,Qv hKn⟩;obtain⟨y,hy⟩:∃y,s[K+(k2 - 1)]?=some y:=⟨_,Qv (by omega)⟩
  have e1:(((d.drop K).take (s.length - K)).length)=s.length - K:=by simp;omega
  have e2:decide ((k2:Int)<((s.length - K:Nat):Int))=true:=Qg (by omega)
  have e3:gf .i64 (k2:Int) 1=((k2 - 1:Nat):Int):=by rw[y4 (by omega) (by omega)];omega
  have e4:aI .i64 (k2:Int) 1=((k2+1:Nat):Int):=b0 (by omega) (by omega)
  have e5:aI .i64 (i:Int) 1=((i+1:Nat):Int):=b0 (by omega) (by omega)
  have hdx:d[K+k2]?=some x:=by rw[hs _ (by omega),hx]
  have hdy:d[K+(k2 - 1)]?=some y:=by rw[hs _ (by omega),hy]
  have hv1:=JE d (K:=K) (n:=s.length) (m:=k2) (by omega)
  have hv2:=JE d (K:=K) (n:=s.length) (m:=k2 - 1) (by omega)
  obtain⟨w,hw⟩:∃w,d[i]?=some w:=⟨_,Qv (by omega)⟩
  have hstep:=MQ hx
  have hlast:(dd (s.take (K+k2))).getLast?=some y:=by
   have:=Is hy
   rwa [show K+(k2 - 1)+1=K+k2 by omega]at this
  rw[mJ,hlast]at hstep;have hil:i<d.length:=by omega
  by_cases hxy:x=y
  ·refine Eq.trans (bq (s':=((i:Int),((k2+1:Nat):Int),d,())) ?_) (EL hne hn r i (k2+1) d (by omega) (by omega) (by omega) hd ?_ fun j hj=>hs j (by omega))
   ·simp only[KZ,QV,e1,e2,Qk,bA,hv1,hdx,Qa,e3,hv2,hdy,hne,hxy,decide_true,Qo,Ql,e4]
   ·rw[show K+(k2+1)=K+k2+1 by omega,hstep,Qr (by rw[hxy]),ht]
  ·refine Eq.trans (bq (s':=(((i+1:Nat):Int),((k2+1:Nat):Int),d.set i x,())) ?_) (EL hne hn r (i+1) (k2+1) (d.set i x) (by omega) (by omega) (by omega) (by rw[QY];exact hd) ?_ fun j hj=> ?_)
   ·simp only[KZ,QV,e1,e2,Qk,bA,hv1,hdx,Qa,e3,hv2,hdy,hne,hxy,decide_false,Qp,e4,e5,bK,hw]
   ·rw[show K+(k2+1)=K+k2+1 by omega,hstep,Qs (fun e=>hxy (by injection e with e;exact e.symm)),<-ht,List.take_succ_eq_append_getElem (by rw[QY];exact hil)]
    congr 1
    ·rw[List.take_set_of_le (QI _)]
    ·simp
   ·rw[List.getElem?_set,Qs (by omega)]
    exact hs j (by omega)
theorem KY(heq:∀x y,eq x y=decide (x=y))(hne:∀x y,ne x y= !decide (x=y)){s:List α}(hn:s.length<1000000000):∀(r k:Nat),k+r=s.length->1<=k->dd (s.take k)=s.take k->aG (Gt eq ne z) ((k:Int),s,())=some (dd s)
 |0,k,hr,h1,h=>by
  refine bU ?_;have hk:k=s.length:=by omega
  have e2:decide ((k:Int)<((s.length:Nat):Int))=false:=Qh (by omega)
  rw[hk,List.take_length]at h;simp only[Gt,e2,Ql,Qe,h]
 |r+1,k,hr,h1,h=>by
  have hk:k<s.length:=by omega
  obtain⟨x,hx⟩:∃x,s[k]?=some x:=⟨_,Qv hk⟩;obtain⟨y,hy⟩:∃y,s[k - 1]?=some y:=⟨_,Qv (by omega)⟩
  have e2:decide ((k:Int)<((s.length:Nat):Int))=true:=Qg (by omega)
  have e3:gf .i64 (k:Int) 1=((k - 1:Nat):Int):=by rw[y4 (by omega) (by omega)];omega
  have e4:aI .i64 (k:Int) 1=((k+1:Nat):Int):=b0 (by omega) (by omega)
  have hstep:=MQ hx
  have hlast:(dd (s.take k)).getLast?=some y:=by
   have:=Is hy
   rwa [show k - 1+1=k by omega]at this
  rw[mJ,hlast]at hstep
  by_cases hxy:x=y
  ·rw[Qr (by rw[hxy])]at hstep
   have e5:dJ (k:Int) (s.length:Int) s.length=true:=by
    simp only[dJ,Qm,Qi];omega
   have hin:=EL (eq:=eq) (z:=z) (K:=k) hne hn (s.length - k - 1) k 1 s (by omega) (by omega) (by omega) rfl (by rw[hstep,h]) (fun _ _=>rfl)
   refine bU ?_;simp only[Gt,e2,Qk,bK,QV,hx,hy,e3,Qa,heq,hxy,decide_true,e5];exact hin
  ·rw[Qs (fun e=>hxy (by injection e with e;exact e.symm))]at hstep
   refine Eq.trans (bq (s':=(((k+1:Nat):Int),s,())) ?_) (KY heq hne hn r (k+1) (by omega) (by omega) ?_)
   ·simp only[Gt,e2,Qk,bK,QV,hx,hy,e3,Qa,heq,hxy,decide_false,Ql,e4]
   ·obtain⟨hl,hx'⟩:=Qw.1 hx;rw[hstep,h,List.take_succ_eq_append_getElem hl,hx']
theorem z7(heq:∀x y,eq x y=decide (x=y))(hne:∀x y,ne x y= !decide (x=y))(s:List α)(hn:s.length<1000000000):Ez eq ne z s=some (dd s):=by
 unfold Ez
 by_cases h:s.length<2
 ·have e:decide (((s.length:Nat):Int)<2)=true:=Qg (by omega)
  rw[e,Qk]
  match s,h with
  |[],_=>rfl
  |[x],_=>rfl
 ·have e:decide (((s.length:Nat):Int)<2)=false:=Qh (by omega)
  rw[e,Ql];refine KY heq hne hn (s.length - 1) 1 (by omega) (by omega) ?_
  cases s with
  |nil=>rfl
  |cons x l=>rfl
theorem Og(acc:List α)(x:α):∀y,y∈mJ acc x↔y∈acc\/y=x:=by
 intro y;unfold mJ;split
 ·rename_i h;have:=List.mem_of_getLast? h;exact⟨.inl,fun h'=>h'.elim id fun e=>e▸this⟩
 ·simp
theorem BC:∀(l acc:List α) (y:α),y∈l.foldl mJ acc↔y∈acc\/y∈l
 |[],acc,y=>by simp
 |x::l,acc,y=>by
  rw[QU,BC l,Og];simp[or_assoc]
theorem Vx(l:List α)(y:α):y∈dd l↔y∈l:=by rw[dd,BC];simp
theorem KW(l:List α):(dd l).length<=l.length:=by
 suffices h:∀(l acc:List α),(l.foldl mJ acc).length<=acc.length+l.length by simpa[dd]using h l []
 intro l
 induction l with
 |nil=>intro acc;simp
 |cons x l ih=>
  intro acc;rw[QU];refine QK (ih _) ?_;unfold mJ;split<;>simp<;>omega
theorem PO{lt:α->α->Bool}(ho:SWO lt)(hto:∀x y,lt x y=false->lt y x=false->x=y){l:List α}(hl:l.Pairwise (fun a b=>lt b a=false)):(dd l).Pairwise (fun a b=>lt a b=true):=by
 suffices h:∀(l acc:List α),(acc++l).Pairwise (fun a b=>lt b a=false)->acc.Pairwise (fun a b=>lt a b=true)->(l.foldl mJ acc).Pairwise (fun a b=>lt a b=true)from h l [] (by simpa using hl) .nil
 intro l
 induction l with
 |nil=>intro acc _ h;exact h
 |cons x l ih=>
  intro acc h1 h2;rw[QU];unfold mJ;split
  ·rename_i hlast;refine ih acc ?_ h2;rw[List.pairwise_append]at h1 ⊢;exact⟨h1.1,(Q4.1 h1.2.1).2,fun a ha b hb=>h1.2.2 a ha b (by simp[hb])⟩
  ·rename_i hlast;refine ih _ (by simpa using h1) ?_
   rw[List.pairwise_append]at h1 ⊢;refine⟨h2,by simp,fun a ha b hb=> ?_⟩
   rw[List.mem_singleton.1 hb];have hax:lt x a=false:=h1.2.2 a ha x (by simp)
   cases hc:lt a x with
   |true=>rfl
   |false=>
    exfalso;have e:=hto a x hc hax;subst e
    obtain⟨y,hy⟩:∃y,acc.getLast?=some y:=by
     cases hg:acc.getLast? with
     |none=>rw[List.getLast?_eq_none_iff.1 hg]at ha;cases ha
     |some y=>exact⟨y,rfl⟩
    obtain⟨pre,rfl⟩:∃pre,acc=pre++[y]:=by
     have:=List.getLast?_eq_some_iff.1 hy;exact this
    rcases Qz.1 ha with ha|ha
    ·rw[List.pairwise_append]at h2;have h3:=h2.2.2 a ha y (by simp)
     have h4:=h1.2.2 y (by simp) a (by simp)
     rw[h3]at h4;cases h4
    ·rw[List.mem_singleton.1 ha]at hlast;exact hlast hy
end
end Go.Proofs.YtkgenianmdfmdaaGreat
namespace Go.Proofs.YtkgenianmdfmdaaGreat
open Go.TQ
theorem Sn(s:List Int):kS s=Ez (fun x y=>decide (x=y)) (fun x y=> !decide (x=y)) 0 s:=rfl
 def jy(v:ByteArray)(e:aj):Bool:=aZ e&&decide (e.aa.Value=v)&& !decide (e.aM=0)
 def ends(v:ByteArray)(l:List aj):List Int:=l.flatMap fun e=>if jy v e then[e.aM,e.bb]else[]
theorem tf{v:ByteArray}{l:List aj}{x:Int}:x∈ends v l↔∃e∈l,jy v e=true/\(x=e.aM\/x=e.bb):=by
 simp only[ends,QQ];constructor
 ·rintro⟨e,he,hx⟩;split at hx
  ·rename_i h;exact⟨e,he,h,by simpa using hx⟩
  ·cases hx
 ·rintro⟨e,he,h,hx⟩;exact⟨e,he,by rw[Qr h];simpa using hx⟩
end Go.Proofs.YtkgenianmdfmdaaGreat
namespace Go.Proofs.YtkgenianmdfmdaaGreat
open Go.TQ
theorem Cg{v:bf}{ay:Int}{l:List aj}(hl:l.length<=1000000)(hin:mL l)(val:ByteArray)(lo hi:Int):gr ⟨ay,v,l.map bc.mk⟩ val lo hi=some ((de (fj · val lo hi) l:Nat):Int):=by
 unfold gr;refine yY (fj · val lo hi) l hin _ (fun i e s he=> ?_) (fun s=> ?_)
 ·have hlt:i<l.length:=(Qw.1 he).1;have hd:decide ((i:Int)<(((l.map bc.mk).length:Nat):Int))=true:=Qg (by rw[QC];omega)
  have hw:aI .i64 (i:Int) 1=((i+1:Nat):Int):=b0 (by omega) (by omega)
  have hx:idx (l.map bc.mk) (i:Int)=some ⟨e⟩:=by rw[bK,QT,he];rfl
  simp only[hd,hx,hw,Qk,Qa,ao.eta,aj.eta,jC,oR,bA];cases fj e val lo hi<;>simp
 ·have hd:decide (((l.length:Nat):Int)<(((l.map bc.mk).length:Nat):Int))=false:=Qh (by rw[QC];exact Int.lt_irrefl _)
  simp only[hd,Ql,Qe]
theorem Md{v:bf}{ay:Int}{l:List aj}(hl:l.length<=1000000)(hin:mL l)(val:ByteArray)(lo hi:Int):eU ⟨ay,v,l.map bc.mk⟩ val lo hi val lo hi=some ((de (fun e=>qa e val lo hi||fj e val lo hi) l:Nat):Int):=by
 unfold eU;refine yY (fun e=>qa e val lo hi||fj e val lo hi) l hin _ (fun i e s he=> ?_) (fun s=> ?_)
 ·have hlt:i<l.length:=(Qw.1 he).1;have hd:decide ((i:Int)<(((l.map bc.mk).length:Nat):Int))=true:=Qg (by rw[QC];omega)
  have hw:aI .i64 (i:Int) 1=((i+1:Nat):Int):=b0 (by omega) (by omega)
  have hx:idx (l.map bc.mk) (i:Int)=some ⟨e⟩:=by rw[bK,QT,he];rfl
  simp only[hd,hx,hw,Qk,Qa,ao.eta,aj.eta,gA,jC,ra,oR,xX,bA,oM,Bool.cond_true_left];cases (qa e val lo hi||fj e val lo hi)<;>simp
 ·have hd:decide (((l.length:Nat):Int)<(((l.map bc.mk).length:Nat):Int))=false:=Qh (by rw[QC];exact Int.lt_irrefl _)
  simp only[hd,Ql,Qe]
 def AZ(ay:Nat)(t:ao)(l:List aj):eR:=⟨ay,⟨dU ay t l⟩,(bH l).map bc.mk⟩
 def oJ(ay:Nat)(t:ao)(l:List aj)(val:ByteArray)(lo hi:Int):Bool:=
 pd (dU ay t l) ay (de (fun e=>qa e val lo hi||fj e val lo hi) (bH l)) (de (fj · val lo hi) (bH l))
 def qV(ay:Nat)(t:ao)(l:List aj)(val:ByteArray)(lo hi:Int):Bool:=
 (gq (dU ay t l) (de (fj · val lo hi) (bH l))).testBit ay
section
variable {ay : Nat} (hn : ay < 10) {t : ao} (ht : eJ t) {l : List aj} (hl : mK l)
 include hn ht hl
theorem J2(val:ByteArray)(lo hi:Int):fD (AZ ay t l) val lo hi=some (oJ ay t l val lo hi):=by
 have hlen:=hl.len;have hrl:=u5 l;have hin:=oe l
 simp only[AZ,fD,kU,ij,Qa,Md (by omega:(bH l).length<=1000000) hin,Cg (by omega:(bH l).length<=1000000) hin,
  Aq (n4 ht hl) hn (oU hin) (oU hin),oJ]
theorem TM(val:ByteArray)(lo hi:Int):jT (AZ ay t l) val lo hi=some (qV ay t l val lo hi):=by
 have hlen:=hl.len;have hrl:=u5 l;have hin:=oe l;simp only[AZ,jT,kU,jj,Qa,Cg (by omega:(bH l).length<=1000000) hin,yH (n4 ht hl) hn (oU hin),qV]
theorem look_eq:ec ay t l=some (AZ ay t l):=HM hn ht hl
end
def dX(q:Int->Bool):List Int->Int->Int
 |[],lo=>lo
 |e::l,lo=>if lo<=e then dX q l lo else if q e then dX q l e else lo
theorem vx{p:Int->Option Bool}{q:Int->Bool}(h:∀e,p e=some (q e)):∀(l:List Int) (lo:Int),jG (fun(m5:Nat) (e6:Int) (v4:Int×Unit)=>
  bif (decide (v4.1<=e6))then some (Sum.inl (v4.1,()))else
  Option.bind (p e6) fun r7=>bif (!r7)then Option.map Sum.inr (some v4.1)else some (Sum.inl (e6,()))) (fun v8=>some v8.1) l (lo,())=some (dX q l lo)
 |[],lo=>rfl
 |e::l,lo=>by
  rw[jG,dX]
  by_cases hle:lo<=e
  ·rw[Qr hle];simp only[hle,decide_true,Qk];exact vx h l lo
  ·rw[Qs hle];simp only[hle,decide_false,Ql,h,Qa]
   cases hq:q e with
   |true=>
    simp only[Qo,Ql,Qt];have:=vx h l e;simp only[h,Qa]at this;exact this
   |false=>rfl
def flat(n:Nat)(k:Int):ao:=⟨k,kI n,[]⟩
theorem y8(s n:Nat)(k:Int):jv s (flat n k)=decide (k<=(((kI n).countP (gw s):Nat):Int)):=by
 rw[Cq];simp[flat,qG]
theorem Oj{s n:Nat}(hn:n<=10)(h:∀k,k<n->s.testBit k=true):(kI n).countP (gw s)=n:=by
 have:(kI n).countP (gw s)=(kI n).length:=by
  rw[List.countP_eq_length];intro x hx;obtain⟨k,hk,rfl⟩:=Hj.1 hx;simp only[gw,dp,Qm,Qi,QV];exact⟨by omega,h k hk⟩
 rw[this,Nf]
theorem Oi{s s':Nat}(h:∀k,s.testBit k=true->s'.testBit k=true)(l:List Int):l.countP (gw s)<=l.countP (gw s'):=List.countP_mono_left fun x _ hx=>Ix h x hx
structure Aj (n:Nat) (k:Int) (l:List aj):Prop where
 n10:n<=10
 k1:1<=k
 kn:k<=n
 valid:∀e∈l,aZ e=true
 aY:∀e∈l,e.af=flat n k
 Yn:l.length<=1000
 all:∀i,i<n->∃e∈l,e.ar.toNat=i
theorem Aj.fg{n:Nat}{k:Int}{l:List aj}(h:Aj n k l):iY (flat n k):=rI n h.n10 k h.k1 h.kn
theorem Aj.sm{n:Nat}{k:Int}{l:List aj}(h:Aj n k l):mK l:=⟨by have:=h.Yn;omega,fun e he=>by rw[h.aY e he];exact h.fg.sm⟩
theorem Aj.bH{n:Nat}{k:Int}{l:List aj}(h:Aj n k l):Go.Proofs.YtkgenianmdfmdaaGreat.bH l=l:=FA h.valid
def cE(n:Nat)(k:Int)(c:Int)(v:ByteArray)(lo hi:Nat->Int)(i:Nat):aj:=⟨i,1,1,flat n k,2,⟨c,v⟩,⟨c,v⟩,⟨0,ByteArray.mk #[]⟩,lo i,hi i⟩
end Go.Proofs.YtkgenianmdfmdaaGreat
namespace Go.Proofs.YtkgenianmdfmdaaGreat
open Go.TQ
def wh(b:List Int)(sure:Int->Int->Bool):Int×Int×Bool×Unit:=
 match b.reverse.find? (fun e=>sure e e)with
 |some e=>(dX (fun x=>sure x e) b.reverse e,e,true,())
 |none=>(0,0,false,())
theorem MJ{p:Int->Option Bool}{q:Int->Bool}{d:Int->Option Int}{f:Int->Int}(hp:∀e,p e=some (q e))(hd:∀e,d e=some (f e)):∀r:List Int,jG (fun(m5:Nat) (e6:Int) (v4:Int×Int×Bool×Unit)=>
  Option.bind (p e6) fun r7=>bif r7 then Option.bind (d e6) fun r8=>Option.map Sum.inr (some (r8,e6,true,()))else some (Sum.inl (v4.1,v4.2.1,v4.2.2.1,()))) (fun(v9:Int×Int×Bool×Unit)=>some ((0:Int),(0:Int),false,())) r ((0:Int),(0:Int),false,())=
  some (match r.find? q with|some e=>(f e,e,true,())|none=>(0,0,false,()))
 |[]=>rfl
 |e::r=>by
  have ih:=MJ hp hd r;rw[jG,List.find?_cons];simp only[hp,hd,Qa,Qe]at ih ⊢
  cases q e with
  |true=>rfl
  |false=>simp only[Ql];exact ih
section
variable {ay : Nat} (hn : ay < 10) {t : ao} (ht : eJ t) {l : List aj} (hl : mK l)
 include hn ht hl
end
section
variable {n : Nat} {k c : Int} {v : ByteArray} {lo hi : Nat -> Int} (h : Aj n k ((List.range n).map (cE n k c v lo hi))) {i : Nat} (hi' : i < n)
 include h hi'
end
end Go.Proofs.YtkgenianmdfmdaaGreat
namespace Go.Proofs.YtkgenianmdfmdaaGreat
open Go.TQ
section
variable {α : Type}
structure qt (lt:α->α->Bool):Prop where
 irrefl:∀x,lt x x=false
 trans:∀x y z,lt x y=true->lt y z=true->lt x z=true
 total:∀x y,lt x y=false->lt y x=false->x=y
variable {lt : α -> α -> Bool}
theorem qt.asymm(h:qt lt){x y:α}(hxy:lt x y=true):lt y x=false:=by
 cases hc:lt y x with
 |false=>rfl
 |true=>have:=h.trans x y x hxy hc;rw[h.irrefl]at this;cases this
theorem qt.ntrans(h:qt lt){x y z:α}(h1:lt x y=false)(h2:lt y z=false):lt x z=false:=by
 cases hc:lt x z with
 |false=>rfl
 |true=>
  cases hyx:lt y x with
  |false=>rw[h.total x y h1 hyx,h2]at hc;cases hc
  |true=>have:=h.trans y x z hyx hc;rw[h2]at this;cases this
theorem qt.Ym(h:qt lt):Go.Sort.SWO lt:=⟨h.irrefl,h.trans,fun _ _ _=>h.ntrans⟩
theorem qt.own(h:qt lt):SWO lt:=⟨fun _ _=>h.asymm,fun _ _ _ h1 h2=>h.ntrans h2 h1⟩
theorem qt.flip(h:qt lt):qt fun a b=>lt b a:=⟨h.irrefl,fun x y z h1 h2=>h.trans z y x h2 h1,fun x y h1 h2=>h.total x y h2 h1⟩
theorem qt.unique(h:qt lt):∀{a b:List α},a.Pairwise (fun x y=>lt x y=true)->b.Pairwise (fun x y=>lt x y=true)->(∀x,x∈a↔x∈b)->a=b
 |[],[],_,_,_=>rfl
 |[],y::b,_,_,h'=>by have:=(h' y).2 (by simp);cases this
 |x::a,[],_,_,h'=>by have:=(h' x).1 (by simp);cases this
 |x::a,y::b,ha,hb,h'=>by
  rw[Q4]at ha hb
  have hxy:x=y:=by
   have h1:=(h' x).1 (by simp)
   have h2:=(h' y).2 (by simp)
   rcases QA.1 h1 with h1|h1
   ·exact h1
   ·rcases QA.1 h2 with h2|h2
    ·exact h2.symm
    ·have q1:=ha.1 y h2;have q2:=hb.1 x h1;rw[h.asymm q1]at q2;cases q2
  subst hxy;congr 1;refine h.unique ha.2 hb.2 fun z=>⟨fun hz=> ?_,fun hz=> ?_⟩
  ·rcases QA.1 ((h' z).1 (by simp[hz]))with e|e
   ·subst e;have:=ha.1 z hz;rw[h.irrefl]at this;cases this
   ·exact e
  ·rcases QA.1 ((h' z).2 (by simp[hz]))with e|e
   ·subst e;have:=hb.1 z hz;rw[h.irrefl]at this;cases this
   ·exact e
theorem qt.Ry[DecidableEq α](h:qt lt){cmp:α->α->Option Int}{c:α->α->Int}(hc:∀x y,cmp x y=some (c x y))(hlt:∀x y,decide (c x y<0)=lt x y)(s:List α)(hs:s.length<1000000000):
  ∃t,vC cmp s=some ((),t)/\t.length=s.length/\(dd t).Pairwise (fun x y=>lt x y=true)/\∀x,x∈dd t↔x∈s:=by
 have hcf:B7 cmp=c:=funext fun x=>funext fun y=>by unfold B7;rw[hc];rfl
 have hl:Go.Proofs.ltOf (B7 cmp)=lt:=by
  rw[hcf];exact funext fun x=>funext fun y=>hlt x y
 have hok:Tz cmp:=⟨fun x y=>by rw[hcf];exact hc x y,by rw[hl];exact h.Ym,fun x y h1 h2=>by rw[hl]at h1 h2;exact h.total x y h1 h2⟩
 refine⟨s.mergeSort fun x y=> !lt y x,?_,List.length_mergeSort s,PO h.own h.total ?_,fun x=>by rw[Vx,List.mem_mergeSort]⟩
 ·unfold vC;rw[Qr ⟨hok,by omega⟩,hl]
 ·refine(List.pairwise_mergeSort (le:=fun x y=> !lt y x) (fun a b c h1 h2=> ?_) (fun a b=> ?_) s).imp fun{a b} hab=>by simpa using hab
  ·simp only[Bool.not_eq_true']at h1 h2 ⊢;exact h.ntrans h2 h1
  ·cases hab:lt a b with
   |false=>simp
   |true=>rw[h.asymm hab];rfl
end
theorem Cp:qt fun a b:Int=>decide (a<b):=
 ⟨fun x=>Qh (Int.lt_irrefl x),fun x y z h1 h2=>by simp only[Qi]at*;omega,fun x y h1 h2=>by simp only[Qj]at*;omega⟩
theorem Lb:∀{x y z:List UInt8},Op.bytesLess x y=true->Op.bytesLess y z=true->Op.bytesLess x z=true
 |[],[],_,h,_=>by simp[Op.bytesLess]at h
 |_::_,[],_,h,_=>by simp[Op.bytesLess]at h
 |[],_::_,[],_,h=>by simp[Op.bytesLess]at h
 |[],_::_,_::_,_,_=>rfl
 |_::_,_::_,[],_,h=>by simp[Op.bytesLess]at h
 |a::x,b::y,c::z,h,h'=>by
  simp only[Op.bytesLess,Qn,Qi,Qm,beq_iff_eq]at h h' ⊢;rcases h with h|⟨rfl,h⟩
  ·rcases h' with h'|⟨rfl,h'⟩
   ·exact .inl (UInt8.lt_trans h h')
   ·exact .inl h
  ·rcases h' with h'|⟨rfl,h'⟩
   ·exact .inl h'
   ·exact .inr ⟨rfl,Lb h h'⟩
theorem LD{a b c:ByteArray}(h:iU a b=true)(h':iU b c=true):iU a c=true:=Lb h h'
theorem LF{a b:ByteArray}(h:a≠b):iU a b=true\/iU b a=true:=
 Lc fun e=>h (by
  rw[Lib.toList_data,Lib.toList_data]at e;cases a;cases b;rename_i x y;cases x;cases y
  simp_all)
theorem wW:qt lF:=by
 refine⟨fun x=>by rw[lF,Qr rfl,JL],fun x y z h1 h2=> ?_,fun x y h1 h2=> ?_⟩
 ·unfold lF at*
  by_cases e1:x.size=y.size
  ·rw[Qr e1]at h1
   by_cases e2:y.size=z.size
   ·rw[Qr e2]at h2;rw[Qr (e1.trans e2)];exact LD h1 h2
   ·rw[Qs e2]at h2;rw[Qs (by omega),e1]
    exact h2
  ·rw[Qs e1,Qi]at h1
   by_cases e2:y.size=z.size
   ·rw[Qs (by omega),<-e2]
    exact Qg h1
   ·rw[Qs e2,Qi]at h2;rw[Qs (by omega)]
    exact Qg (by omega)
 ·unfold lF at*
  by_cases e1:x.size=y.size
  ·rw[Qr e1]at h1;rw[Qr e1.symm]at h2;refine Classical.byContradiction fun hne=> ?_
   rcases LF hne with h|h
   ·rw[h]at h1;cases h1
   ·rw[h]at h2;cases h2
  ·rw[Qs e1,Qj]at h1;rw[Qs (fun e=>e1 e.symm),Qj]at h2
   omega
theorem wX:qt ba:=by
 refine⟨fun x=>by rw[ba,Qr rfl,wW.irrefl],fun x y z h1 h2=> ?_,fun x y h1 h2=> ?_⟩
 ·unfold ba at*
  by_cases e1:x.ai=y.ai
  ·rw[Qr e1]at h1
   by_cases e2:y.ai=z.ai
   ·rw[Qr e2]at h2;rw[Qr (e1.trans e2)];exact wW.trans _ _ _ h1 h2
   ·rw[Qs e2]at h2;rw[Qs (by omega),e1]
    exact h2
  ·rw[Qs e1,Qi]at h1
   by_cases e2:y.ai=z.ai
   ·rw[Qs (by omega),<-e2]
    exact Qg h1
   ·rw[Qs e2,Qi]at h2;rw[Qs (by omega)]
    exact Qg (by omega)
 ·unfold ba at*
  by_cases e1:x.ai=y.ai
  ·rw[Qr e1]at h1;rw[Qr e1.symm]at h2;have:=wW.total _ _ h1 h2;cases x;cases y
   simp_all
  ·rw[Qs e1,Qj]at h1;rw[Qs (fun e=>e1 e.symm),Qj]at h2
   omega
end Go.Proofs.YtkgenianmdfmdaaGreat
namespace Go.Proofs.YtkgenianmdfmdaaGreat
open Go.TQ
structure GQ (n:Nat) (l:List aj):Prop where
 of:∀e∈l,∃i:Nat,i<n/\Xj i 1 n e
 YG:l.Pairwise fun a b=>a.ar<b.ar
 len:l.length<=n
theorem GQ.valid{n:Nat}{l:List aj}(h:GQ n l):∀e∈l,aZ e=true:=fun e he=>by
 obtain⟨i,_,hi⟩:=h.of e he;rw[aZ,AR hi.aY];exact hi.valid
theorem GQ.sm{n:Nat}{l:List aj}(h:GQ n l)(hn:n<=1000):mK l:=⟨by have:=h.len;omega,fun e he=>by
 obtain⟨i,_,hi⟩:=h.of e he
 exact hi.aY.sm⟩
theorem yT.mono{l:List aT}{s s' r:Nat}(h:∀k,s.testBit k=true->s'.testBit k=true)(hi:yT l s r):yT l s' r:=fun k hk=>⟨h k (hi k hk).1,(hi k hk).2⟩
section
variable {ay : Nat} {t : ao} (ht : eJ t) {l : List aj} (hl : mK l) {v : ByteArray} {lo hi k : Int} (h1 : lo <= k) (h2 : k <= hi)
 include ht hl h1 h2
end
end Go.Proofs.YtkgenianmdfmdaaGreat
namespace Go.Proofs.YtkgenianmdfmdaaGreat
open Go.TQ
section
variable {α : Type}
 def nI(p:α->Option Bool)(a0:List α)(v1:Int×Unit):Option ((Int×Unit)⊕Int):=
 bif (decide (v1.1<((List.length a0:Nat):Int)))then
  Option.bind (idx a0 v1.1) fun x2=>Option.bind (p x2) fun r3=>bif r3 then Option.map Sum.inr (some v1.1)else some (Sum.inl ((aI .i64 v1.1 (1:Int)),()))
 else Option.map Sum.inr (some (-1:Int))
 def PC(p:α->Option Bool)(a0:List α):Option Int:=aG (nI p a0) ((0:Int),())
 def yJ(p:α->Option Bool)(z:α)(v2:Int×Int×(List α)×Unit):Option ((Int×Int×(List α)×Unit)⊕List α):=
 bif (decide (v2.2.1<((List.length v2.2.2.1:Nat):Int)))then
  bO (fun(v3:Int×(List α)×Unit)=>some (Sum.inl (v3.1,(aI .i64 v2.2.1 (1:Int)),v3.2.1,()))) fun j4=>
  Option.bind (idx v2.2.2.1 v2.2.1) fun x5=>Option.bind (v2.2.2.1[(Int.toNat v2.2.1)]?) fun x6=>Option.bind (p x6) fun r7=>
  bif (!r7)then
   Option.bind (idx v2.2.2.1 v2.1) fun x8=>Option.bind (v2.2.2.1[(Int.toNat v2.1)]?) fun x9=>j4 ((aI .i64 v2.1 (1:Int)),(v2.2.2.1.set (Int.toNat v2.1) x6),())
  else j4 (v2.1,v2.2.2.1,())
 else
  Option.map Sum.inr (bif dJ v2.1 ((List.length v2.2.2.1):Int) (List.length v2.2.2.1)then
   bif dJ (0:Int) v2.1 (List.length (v2.2.2.1.take (Int.toNat v2.1)++List.replicate (Int.toNat ((List.length v2.2.2.1):Int) - Int.toNat v2.1) z++v2.2.2.1.drop ((Int.toNat v2.1)+(Int.toNat ((List.length v2.2.2.1):Int) - Int.toNat v2.1))))then
    some ((v2.2.2.1.take (Int.toNat v2.1)++List.replicate (Int.toNat ((List.length v2.2.2.1):Int) - Int.toNat v2.1) z++v2.2.2.1.drop ((Int.toNat v2.1)+(Int.toNat ((List.length v2.2.2.1):Int) - Int.toNat v2.1))).take (Int.toNat v2.1 - Int.toNat (0:Int)))
   else none
  else none)
 def MH(p:α->Option Bool)(z:α)(s:List α):Option (List α):=
 Option.bind (PC p s) fun r1=>bif (decide (r1=(-1:Int)))then some s else aG (yJ p z) (r1,(aI .i64 r1 (1:Int)),s,())
theorem xN{q:α->Bool}{s:List α}{j:Nat}{x:α}(h:s[j]?=some x):(s.take (j+1)).filter q=(s.take j).filter q++if q x then[x]else[]:=by
 obtain⟨hl,hx⟩:=Qw.1 h;rw[List.take_succ_eq_append_getElem hl,List.filter_append,hx];congr 1;cases hq:q x<;>simp[hq]
variable {p : α -> Option Bool} {q : α -> Bool} (hp : ∀ x, p x = some (q x)) {z : α}
 include hp
theorem Ky{s:List α}(hs:s.length<1000000000):∀(k i:Nat),i+k=s.length->(s.take i).filter (fun x=> !q x)=s.take i->
  (∃m:Nat,∃x,aG (nI p s) ((i:Int),())=some (m:Int)/\(s.take m).filter (fun x=> !q x)=s.take m/\s[m]?=some x/\q x=true)\/(aG (nI p s) ((i:Int),())=some (-1)/\s.filter (fun x=> !q x)=s)
 |0,i,hi,hf=>by
  have hd:decide ((i:Int)<((s.length:Nat):Int))=false:=Qh (by omega)
  refine .inr ⟨bU ?_,?_⟩
  ·simp only[nI,hd,Ql,Qe]
  ·rwa [show i=s.length by omega,List.take_length]at hf
 |k+1,i,hi,hf=>by
  have hd:decide ((i:Int)<((s.length:Nat):Int))=true:=Qg (by omega)
  have hw:aI .i64 (i:Int) 1=((i+1:Nat):Int):=b0 (by omega) (by omega)
  obtain⟨x,hx⟩:∃x,s[i]?=some x:=⟨_,Qv (by omega)⟩
  cases hq:q x with
  |true=>
   refine .inl ⟨i,x,bU ?_,hf,hx,hq⟩;simp only[nI,hd,Qk,bK,hx,Qa,hp,hq,Qe]
  |false=>
   have hstep:aG (nI p s) ((i:Int),())=aG (nI p s) (((i+1:Nat):Int),()):=bq (by simp only[nI,hd,Qk,bK,hx,Qa,hp,hq,Ql,hw])
   rw[hstep];refine Ky hs k (i+1) (by omega) ?_
   rw[xN hx,hf,hq];obtain⟨hl,hx'⟩:=Qw.1 hx;rw[List.take_succ_eq_append_getElem hl,hx'];rfl
theorem EF{s:List α}(hs:s.length<1000000000):∀(r i j:Nat) (d:List α),j+r=s.length->i<j->d.length=s.length->d.take i=(s.take j).filter (fun x=> !q x)->(∀m,j<=m->d[m]?=s[m]?)->
  aG (yJ p z) ((i:Int),(j:Int),d,())=some (s.filter fun x=> !q x)
 |0,i,j,d,hr,hij,hd,ht,hm=>by
  have e2:decide ((j:Int)<((d.length:Nat):Int))=false:=Qh (by omega)
  refine bU ?_
  have e3:∀n,dJ (i:Int) (d.length:Int) n=decide (d.length<=n):=by
   intro n;simp only[dJ];have h1:decide ((0:Int)<=(i:Int))=true:=Qg (by omega)
   have h2:decide ((i:Int)<=(d.length:Int))=true:=Qg (by omega)
   rw[h1,h2,Bool.and_self,Bool.true_and,decide_eq_decide];omega
  have e4:(d.take i++List.replicate (d.length - i) z++d.drop (i+(d.length - i))).length=d.length:=by simp;omega
  have e5:dJ (0:Int) (i:Int) d.length=true:=by
   simp only[dJ,Qm,Qi];omega
  have e6:(d.take i++List.replicate (d.length - i) z++d.drop (i+(d.length - i))).take (i - 0)=s.filter fun x=> !q x:=by
   rw[Nat.sub_zero,QL,List.take_append_of_le_length (by simp;omega),List.take_take,Nat.min_self,ht,show j=s.length by omega,List.take_length]
  simp only[yJ,e2,Ql,QV,e3,QI,decide_true,Qk,e4,e5,Int.toNat_zero,e6,Qe]
 |r+1,i,j,d,hr,hij,hd,ht,hm=>by
  have e2:decide ((j:Int)<((d.length:Nat):Int))=true:=Qg (by omega)
  have ej:aI .i64 (j:Int) 1=((j+1:Nat):Int):=b0 (by omega) (by omega)
  have ei:aI .i64 (i:Int) 1=((i+1:Nat):Int):=b0 (by omega) (by omega)
  obtain⟨x,hx⟩:∃x,s[j]?=some x:=⟨_,Qv (by omega)⟩
  obtain⟨y,hy⟩:∃y,d[i]?=some y:=⟨_,Qv (by omega)⟩
  have hdx:d[j]?=some x:=by rw[hm j (QI _),hx]
  have hstep:=xN (q:=fun x=> !q x) hx
  cases hq:q x with
  |true=>
   rw[hq]at hstep;refine(bq (s':=((i:Int),((j+1:Nat):Int),d,())) ?_).trans (EF hs r i (j+1) d (by omega) (by omega) hd (by rw[hstep,ht];simp) fun m h=>hm m (by omega))
   simp only[yJ,e2,Qk,bA,bK,QV,hdx,Qa,hp,hq,Qo,Ql,ej]
  |false=>
   rw[hq]at hstep;refine(bq (s':=(((i+1:Nat):Int),((j+1:Nat):Int),d.set i x,())) ?_).trans (EF hs r (i+1) (j+1) (d.set i x) (by omega) (by omega) (by rw[QY];exact hd) ?_ fun m h=> ?_)
   ·simp only[yJ,e2,Qk,bA,bK,QV,hdx,hy,Qa,hp,hq,Qp,ej,ei]
   ·rw[hstep,<-ht,List.take_succ_eq_append_getElem (by rw[QY];omega),List.take_set_of_le (QI _)]
    simp
   ·rw[List.getElem?_set,Qs (by omega)]
    exact hm m (by omega)
theorem N0(s:List α)(hs:s.length<1000000000):MH p z s=some (s.filter fun x=> !q x):=by
 rw[MH,PC];rcases Ky hp hs s.length 0 (by omega) (by simp)with⟨m,x,h1,h2,h3,h4⟩|⟨h1,h2⟩
 ·have hm:m<s.length:=(Qw.1 h3).1;have h1':aG (nI p s) ((0:Int),())=some (m:Int):=h1;have e:decide ((m:Int)= -1)=false:=Qh (by omega)
  rw[h1',Qa,e,Ql,show aI .i64 (m:Int) 1=((m+1:Nat):Int)from b0 (by omega) (by omega)]
  refine EF hp hs (s.length - (m+1)) m (m+1) s (by omega) (by omega) rfl ?_ fun _ _=>rfl
  rw[xN h3,h2,h4];simp
 ·have h1':aG (nI p s) ((0:Int),())=some (-1):=h1;rw[h1',Qa,h2];rfl
end
theorem z8{α β ρ:Type}(l:List α)(hl:l.length<=1000000)(f:α->List β)(hf:∀x∈l,(f x).length<=3){step:Int×List β×Unit->Option ((Int×List β×Unit)⊕ρ)}{fin:List β->Option ρ}
  (h1:∀(i:Nat) (x:α) (acc:List β),x∈l->decide ((i:Int)<((l.length:Nat):Int))=true->idx l (i:Int)=some x->aI .i64 (i:Int) 1=((i+1:Nat):Int)->(∀bytes n:Nat,bytes<=40->n<=3->acc.length<=3000000->bZ bytes (acc.length+n)=true)->acc.length<=3000000->step ((i:Int),acc,())=some (.inl (((i+1:Nat):Int),acc++f x,())))
  (h2:∀acc,decide (((l.length:Nat):Int)<((l.length:Nat):Int))=false->step (((l.length:Nat):Int),acc,())=Option.map Sum.inr (fin acc)):aG step ((0:Int),([]:List β),())=fin (l.flatMap f):=by
 suffices key:∀(k i:Nat) (acc:List β),i+k=l.length->acc=(l.take i).flatMap f->acc.length<=3*i->aG step ((i:Int),acc,())=fin (l.flatMap f)from key l.length 0 [] (by omega) (by simp) (by simp)
 intro k
 induction k with
 |zero=>
  intro i acc hi ha hal;obtain rfl:i=l.length:=by omega
  rw[List.take_length]at ha;rw[kM,h2 acc (Qh (Int.lt_irrefl _)),ha];cases fin (l.flatMap f)<;>rfl
 |succ k ih=>
  intro i acc hi ha hal;have hlt:i<l.length:=by omega
  have hx:l[i]?=some l[i]:=Qv hlt;have:=hf _ (Q0 hlt);refine(bq (h1 i l[i] acc (Q0 hlt) (Qg (by omega)) (by rw[bK];exact hx) (b0 (by omega) (by omega)) (fun bytes n hb hn ha=> ?_) (by omega))).trans (ih (i+1) _ (by omega) ?_ (by rw[QB];omega))
  ·simp only[bZ,Qm,Qi];exact⟨QK (Nat.mul_le_mul (show acc.length+n<=3000003 by omega) hb) (show 3000003*40<=140737488355328 by decide),QK (show acc.length+n<=3000003 by omega) (by simp[maxLen])⟩
  ·rw[List.take_succ_eq_append_getElem hlt,List.flatMap_append,ha];simp
instance:Inhabited ae:=⟨⟨0,ByteArray.mk #[]⟩⟩
instance:DecidableEq ae:=fun a b=>decidable_of_iff (a.ai=b.ai/\a.Value=b.Value) (by cases a;cases b;simp)
theorem TI(s:List ae)(hs:s.length<1000000000):∃b,dD s=some b/\b.Pairwise (fun x y=>ba y x=true)/\b.length<=s.length/\∀x,x∈b↔x∈s:=by
 obtain⟨t,h1,h2,h3,h4⟩:=wX.flip.Ry (cmp:=jM) (c:=fun x y=>K6 y x) (fun x y=>by simp[jM]) (fun x y=>K5 y x) s hs
 have hc:=z7 (eq:=fun x y:ae=>kZ false x.ai y.ai x.Value y.Value) (ne:=fun x y=>kZ true x.ai y.ai x.Value y.Value) (z:=ae.mk 0 (ByteArray.mk #[])) (fun x y=>by
  rw[BY,QW];cases x;cases y;simp) (fun x y=>by
  rw[Sa];congr 1;rw[QW];cases x;cases y
  simp) t (by omega)
 refine⟨dd t,?_,h3,by have:=KW t;omega,h4⟩
 have h1':eA s=some ((),t):=h1;have hc':fM t=some (dd t):=hc;simp only[dD,h1',hc',Qa]
theorem TG(s:List ByteArray)(hs:s.length<1000000000):∃b,et s=some b/\b.Pairwise (fun x y=>lF x y=true)/\b.length<=s.length/\∀x,x∈b↔x∈s:=by
 obtain⟨t,h1,h2,h3,h4⟩:=wW.Ry (cmp:=fe) (c:=HE) (fun x y=>uF x y) K3 s hs
 have hc:=z7 (eq:=fun x y:ByteArray=>decide (x=y)) (ne:=fun x y=> !decide (x=y)) (z:=ByteArray.mk #[]) (fun _ _=>rfl) (fun _ _=>rfl) t (by omega)
 refine⟨dd t,?_,h3,by have:=KW t;omega,h4⟩
 have h1':fY s=some ((),t):=h1;have hc':iK t=some (dd t):=hc;simp only[et,h1',hc',Qa]
theorem Sq(a b:Int):decide (uC a b<0)=decide (a<b):=by rw[decide_eq_decide];exact EN a b
theorem TH(s:List Int)(hs:s.length<1000000000):∃b,fb s=some b/\b.Pairwise (·<·)/\b.length<=s.length/\∀x,x∈b↔x∈s:=by
 obtain⟨t,h1,h2,h3,h4⟩:=Cp.Ry (cmp:=gD) (c:=uC) (fun x y=>Al x y) Sq s hs
 have hc:=z7 (eq:=fun x y:Int=>decide (x=y)) (ne:=fun x y=> !decide (x=y)) (z:=0) (fun _ _=>rfl) (fun _ _=>rfl) t (by omega)
 refine⟨dd t,?_,h3.imp fun h=>of_decide_eq_true h,by have:=KW t;omega,h4⟩
 have h1':iJ s=some ((),t):=h1;simp only[fb,h1',Qa,Sn,hc]
 def said(e:aj):List ae:=if aZ e then(if e.bR=1 then[e.aa,e.al,e.aw]else if e.bR=2 then[e.al,at_ e 1000000]else[at_ e 1000000])else[]
theorem y9(e:aj):(said e).length<=3:=by
 unfold said;split
 ·split
  ·simp
  ·split<;>simp
 ·simp
theorem oE{α β:Type}(f:α->List β)(hf:∀x,(f x).length<=3):∀l:List α,(l.flatMap f).length<=3*l.length
 |[]=>by simp
 |x::l=>by
  have:=oE f hf l;have:=hf x;rw[List.flatMap_cons,QB,QE];omega
section
variable {l : List aj} (hl : ∀ e ∈ l, eJ e.af) (hlen : l.length <= 1000)
 include hl hlen
theorem OI:∃b,fN l=some b/\b.Pairwise (fun x y=>ba y x=true)/\b.length<=3000/\∀x,x∈b↔∃e∈l,x∈said e/\aD x=false:=by
 have hd:=N0 (p:=aU) (q:=aD) bY (z:=ae.mk 0 (ByteArray.mk #[])) (l.flatMap said) (by have:=oE said y9 l;omega)
 obtain⟨b,h1,h2,hbl,h3⟩:=TI ((l.flatMap said).filter fun x=> !aD x) (by have:=oE said y9 l;have:=List.length_filter_le (fun x=> !aD x) (l.flatMap said);omega)
 refine⟨b,?_,h2,by have:=oE said y9 l;have:=List.length_filter_le (fun x=> !aD x) (l.flatMap said);omega,fun x=> ?_⟩
 ·unfold fN;refine(z8 l (by omega) said (fun e _=>y9 e) (fin:=fun acc=>Option.bind (dg acc) fun r8=>Option.bind (dD r8) fun r9=>some r9) (fun i e acc he hd hx hw hok hal=> ?_) (fun acc hd=> ?_)).trans ?_
  ·have o1:=hok 24 3 (by omega) (by omega) hal
   have o2:=hok 24 2 (by omega) (by omega) hal
   have o3:=hok 24 1 (by omega) (by omega) hal
   simp only[hd,hx,hw,Qk,bA,Qa,ao.eta,aj.eta,lZ (hl e he),uT,QE,QZ,o1,o2,o3,Nat.zero_add,Nat.reduceAdd];unfold said at_
   cases aZ e<;>by_cases k1:e.bR=1<;>by_cases k2:e.bR=2<;>simp[k1,k2]
  ·simp only[hd,Ql]
  ·have hd':dg (l.flatMap said)=_:=hd;simp only[hd',h1,Qa]
 ·rw[h3,List.mem_filter,QQ];constructor
  ·rintro⟨⟨e,he,hx⟩,hz⟩;exact⟨e,he,hx,by simpa using hz⟩
  ·rintro⟨e,he,hx,hz⟩;exact⟨⟨e,he,hx⟩,by simpa using hz⟩
theorem Re:∃b,iw l=some b/\b.Pairwise (fun x y=>lF x y=true)/\b.length<=3000/\∀x,x∈b↔∃e∈l,aZ e=true/\x=e.aa.Value:=by
 have hf:∀e:aj,(if aZ e then[e.aa.Value]else[]).length<=3:=fun e=>by split<;>simp
 obtain⟨b,h1,h2,hbl,h3⟩:=TG (l.flatMap fun e=>if aZ e then[e.aa.Value]else[]) (by have:=oE _ hf l;omega)
 refine⟨b,?_,h2,by have:=oE _ hf l;omega,fun x=> ?_⟩
 ·unfold iw;refine(z8 l (by omega) (fun e=>if aZ e then[e.aa.Value]else[]) (fun e _=>hf e) (fin:=fun acc=>Option.bind (et acc) fun r6=>some r6) (fun i e acc he hd hx hw hok hal=> ?_) (fun acc hd=> ?_)).trans ?_
  ·have o3:=hok 16 1 (by omega) (by omega) hal
   simp only[hd,hx,hw,Qk,bA,Qa,ao.eta,aj.eta,lZ (hl e he),QE,QZ,o3,Nat.zero_add];cases aZ e<;>simp
  ·simp only[hd,Ql]
  ·simp only[h1,Qa]
 ·rw[h3,QQ];constructor
  ·rintro⟨e,he,hx⟩;split at hx
   ·rename_i hv;exact⟨e,he,hv,by simpa using hx⟩
   ·cases hx
  ·rintro⟨e,he,hv,hx⟩;exact⟨e,he,by rw[Qr hv];simpa using hx⟩
theorem OH(v:ByteArray):∃b,eu l v=some b/\b.Pairwise (·<·)/\b.length<=3000/\∀x,x∈b↔x∈ends v l:=by
 have hf:∀e:aj,(if jy v e then[e.aM,e.bb]else[]).length<=3:=fun e=>by split<;>simp
 obtain⟨b,h1,h2,hbl,h3⟩:=TH (ends v l) (by have:=oE _ hf l;unfold ends;omega)
 refine⟨b,?_,h2,by have:=oE _ hf l;unfold ends at hbl;omega,h3⟩
 unfold eu;refine(z8 l (by omega) (fun e=>if jy v e then[e.aM,e.bb]else[]) (fun e _=>hf e) (fin:=fun acc=>Option.bind (fb acc) fun r6=>some r6) (fun i e acc he hd hx hw hok hal=> ?_) (fun acc hd=> ?_)).trans ?_
 ·have o3:=hok 8 2 (by omega) (by omega) hal
  simp only[hd,hx,hw,Qk,bA,Qa,ao.eta,aj.eta,lZ (hl e he),QE,QZ,o3,Nat.zero_add,Nat.reduceAdd];unfold jy;cases aZ e<;>cases decide (e.aa.Value=v)<;>cases decide (e.aM=0)<;>simp
 ·simp only[hd,Ql]
 ·exact(congrArg (fun o=>Option.bind o fun r6=>some r6) h1)
end
end Go.Proofs.YtkgenianmdfmdaaGreat
namespace Go.Proofs.YtkgenianmdfmdaaGreat
open Go.TQ
end Go.Proofs.YtkgenianmdfmdaaGreat
namespace Go.Proofs.YtkgenianmdfmdaaGreat
open Go.TQ
def w9:ae:=⟨0,iy⟩
theorem Gn{α τ:Type}(l:List α)(hl:l.length<=1000000)(mk:Int->τ)(P:α->Bool)(z:α){step:τ->Option (τ⊕α)}
  (h1:∀(i:Nat) (x:α),decide ((i:Int)<((l.length:Nat):Int))=true->idx l (i:Int)=some x->aI .i64 (i:Int) 1=((i+1:Nat):Int)->step (mk (i:Int))=some (bif P x then .inr x else .inl (mk ((i+1:Nat):Int))))
  (h2:decide (((l.length:Nat):Int)<((l.length:Nat):Int))=false->step (mk ((l.length:Nat):Int))=some (.inr z)):aG step (mk 0)=some ((l.find? P).getD z):=by
 suffices key:∀(k i:Nat),i+k=l.length->aG step (mk (i:Int))=some (((l.drop i).find? P).getD z)from key l.length 0 (by omega)
 intro k
 induction k with
 |zero=>
  intro i hi;obtain rfl:i=l.length:=by omega
  rw[bU (h2 (Qh (Int.lt_irrefl _))),List.drop_length];rfl
 |succ k ih=>
  intro i hi;have hlt:i<l.length:=by omega
  have hs:=h1 i l[i] (Qg (by omega)) (by rw[bK];exact Qv hlt) (b0 (by omega) (by omega))
  rw[QM hlt,List.find?_cons]
  cases hP:P l[i]with
  |true=>rw[hP]at hs;rw[bU hs];rfl
  |false=>rw[hP]at hs;rw[bq hs];exact ih (i+1) (by omega)
 def dY(l:List aj):List ae:=(fN l).getD []
section
variable {l : List aj} (hl : ∀ e ∈ l, eJ e.af) (hlen : l.length <= 1000)
 include hl hlen
theorem nK:fN l=some (dY l)/\(dY l).Pairwise (fun x y=>ba y x=true)/\(dY l).length<=3000/\∀x,x∈dY l↔∃e∈l,x∈said e/\aD x=false:=by
 obtain⟨b,h1,h2,h3,h4⟩:=OI hl hlen;have:dY l=b:=by rw[dY,h1];rfl
 rw[this];exact⟨h1,h2,h3,h4⟩
end
def rJ(b:ae):ae:=if 1000<=b.ai then⟨1000000,b.Value⟩else b
theorem N9(b:ae):gz b=some (rJ b):=by
 unfold gz rJ;simp only[bA,yP,wc]
section
variable {ay : Nat} (hn : ay < 10) {t : ao} (ht : eJ t) {l : List aj} (hl : mK l)
 include hn ht hl
end
end Go.Proofs.YtkgenianmdfmdaaGreat
namespace Go.Proofs.YtkgenianmdfmdaaGreat
open Go.TQ
 def gd(l:List aj):List ByteArray:=(iw l).getD []
 def bS(l:List aj)(v:ByteArray):List Int:=(eu l v).getD []
section
variable {l : List aj} (hl : ∀ e ∈ l, eJ e.af) (hlen : l.length <= 1000)
 include hl hlen
theorem oV:iw l=some (gd l)/\(gd l).Pairwise (fun x y=>lF x y=true)/\(gd l).length<=3000/\∀x,x∈gd l↔∃e∈l,aZ e=true/\x=e.aa.Value:=by
 obtain⟨b,h1,h2,h3,h4⟩:=Re hl hlen;have:gd l=b:=by rw[gd,h1];rfl
 rw[this];exact⟨h1,h2,h3,h4⟩
theorem lM(v:ByteArray):eu l v=some (bS l v)/\(bS l v).Pairwise (·<·)/\(bS l v).length<=3000/\∀x,x∈bS l v↔x∈ends v l:=by
 obtain⟨b,h1,h2,h3,h4⟩:=OH hl hlen v;have:bS l v=b:=by rw[bS,h1];rfl
 rw[this];exact⟨h1,h2,h3,h4⟩
end
theorem IQ{l:List aj}(hl:mK l)(hlen:l.length<=1000)(v:ByteArray):∀x∈bS l v,1<=x/\x<=1000:=by
 obtain⟨_,_,_,h⟩:=lM hl.aY hlen v;intro x hx;obtain⟨e,he,hb,hy⟩:=tf.1 ((h x).1 hx);simp only[jy,Qm,Bool.not_eq_true',Qj]at hb;have hv:=hb.1.1;have h0:=hb.2;unfold aZ jU at hv;rw[Qm]at hv;have hv:=hv.2
 by_cases k1:e.bR=1
 ·rw[Qr k1]at hv;simp only[fp,finite,Qm,Qi]at hv;omega
 ·rw[Qs k1]at hv
  by_cases k2:e.bR=2
  ·rw[Qr k2]at hv;simp only[um,tV,Qm,Qi]at hv;omega
  ·rw[Qs k2]at hv
   by_cases k3:e.bR=3
   ·rw[Qr k3]at hv;simp only[zS,tV,Qm,Qi]at hv;omega
   ·rw[Qs k3]at hv;cases hv
theorem Gm{α A B ρ:Type}(l:List α)(hl:l.length<=1000000)(f:A×B->α->A×B){step:A×Int×B×Unit->Option ((A×Int×B×Unit)⊕ρ)}{fin:A×B->Option ρ}
  (h1:∀(i:Nat) (x:α) (a:A) (b:B),x∈l->decide ((i:Int)<((l.length:Nat):Int))=true->idx l (i:Int)=some x->aI .i64 (i:Int) 1=((i+1:Nat):Int)->step (a,(i:Int),b,())=some (.inl ((f (a,b) x).1,((i+1:Nat):Int),(f (a,b) x).2,())))
  (h2:∀a b,decide (((l.length:Nat):Int)<((l.length:Nat):Int))=false->step (a,((l.length:Nat):Int),b,())=Option.map Sum.inr (fin (a,b))) (a:A) (b:B):aG step (a,(0:Int),b,())=fin (l.foldl f (a,b)):=by
 suffices key:∀(k i:Nat) (a:A) (b:B),i+k=l.length->aG step (a,(i:Int),b,())=fin ((l.drop i).foldl f (a,b))from key l.length 0 a b (by omega)
 intro k
 induction k with
 |zero=>
  intro i a b hi;obtain rfl:i=l.length:=by omega
  rw[kM,h2 a b (Qh (Int.lt_irrefl _)),List.drop_length,List.foldl_nil];cases fin (a,b)<;>rfl
 |succ k ih=>
  intro i a b hi;have hlt:i<l.length:=by omega
  rw[bq (h1 i l[i] a b (Q0 hlt) (Qg (by omega)) (by rw[bK];exact Qv hlt) (b0 (by omega) (by omega))),ih (i+1) _ _ (by omega),QM hlt,QU]
def mj(p q:ae)(v:ByteArray)(n:Int):Bool:=dS p ⟨n,v⟩||dS q ⟨n,v⟩
theorem GO(v:ByteArray)(n:Int)(p q:ae):kV v n p q=some (mj p q v n):=by
 simp only[kV,nR,Qa,oM,Bool.cond_true_left,mj]
 def KL(b:List Int)(ready:Int->Int->Bool)(low bM:Int):Int×Int:=
 match b.reverse.find? (fun n=>decide (bM<n)&&ready n n)with
 |none=>(dX (fun x=>ready x bM) b.reverse low,bM)
 |some n=>
  let bottom:=dX (fun x=>ready x n) b.reverse n
  (dX (fun x=>ready x n) b.reverse (if bM<bottom - 1\/bottom<low then bottom else low),n)
 def vw(S:eR)(b:List Int)(v:ByteArray)(m8:Nat)(e9:Int)(v7:Int×Int×Unit):Option ((Int×Int×Unit)⊕(Int×Int×Unit)):=
 Option.bind (bif (decide (e9<=v7.2.1))then some true else Option.bind (fD S v e9 e9) fun r10=>some (!r10)) fun b11=>
 bif b11 then some (Sum.inl (v7.1,v7.2.1,()))else
 Option.bind (gV b e9 S v e9) fun r12=>
 bO (fun(v13:Int×Unit)=>Option.map Sum.inr (Option.bind (fE b v13.1 S v e9) fun r5=>some (r5,e9,()))) fun j14=>
 Option.bind (bif (decide (v7.2.1<(gf .i64 r12 (1:Int))))then some true else some (decide (r12<v7.1))) fun b15=>
 bif b15 then j14 (r12,())else j14 (v7.1,())
 def PJ(S:eR)(b:List Int)(v:ByteArray)(v16:Int×Int×Unit):Option (Int×Int×Unit):=Option.bind (fE b v16.1 S v v16.2.1) fun r5=>some (r5,v16.2.1,())
section
variable {ay : Nat} (hn : ay < 10) {t : ao} (ht : eJ t) {l : List aj} (hl : mK l)
 include hn ht hl
end
end Go.Proofs.YtkgenianmdfmdaaGreat
namespace Go.Proofs.YtkgenianmdfmdaaGreat
open Go.TQ
section
variable {α : Type} [DecidableEq α] {lt : α -> α -> Bool}
def oC(lt:α->α->Bool)(x:α):List α->List α
 |[]=>[x]
 |y::l=>if lt y x then y::oC lt x l else if y=x then y::l else x::y::l
theorem Ef(x:α):∀(l:List α) (z:α),z∈oC lt x l↔z=x\/z∈l
 |[],z=>by simp[oC]
 |y::l,z=>by
  rw[oC];split
  ·rw[QA,Ef x l z,QA];constructor
   ·rintro(h|h|h)
    ·exact .inr (.inl h)
    ·exact .inl h
    ·exact .inr (.inr h)
   ·rintro(h|h|h)
    ·exact .inr (.inl h)
    ·exact .inl h
    ·exact .inr (.inr h)
  ·split
   ·rename_i h;rw[QA];constructor
    ·exact .inr
    ·rintro(h1|h1)
     ·exact .inl (h1.trans h.symm)
     ·exact h1
   ·rw[QA]
theorem qt.oC(h:qt lt)(x:α):∀{l:List α},l.Pairwise (fun a b=>lt a b=true)->(Go.Proofs.YtkgenianmdfmdaaGreat.oC lt x l).Pairwise (fun a b=>lt a b=true)
 |[],_=>by rw[Go.Proofs.YtkgenianmdfmdaaGreat.oC];exact List.pairwise_singleton _ _
 |y::l,hp=>by
  rw[Q4]at hp;rw[Go.Proofs.YtkgenianmdfmdaaGreat.oC];split
  ·rename_i hy;rw[Q4];refine⟨fun z hz=> ?_,h.oC x hp.2⟩
   rcases(Ef x l z).1 hz with rfl|hz
   ·exact hy
   ·exact hp.1 z hz
  ·rename_i hy;split
   ·exact Q4.2 hp
   ·rename_i hne
    have hxy:lt x y=true:=by
     cases hc:lt x y with
     |true=>rfl
     |false=>exact absurd (h.total y x (by simpa using hy) hc) hne
    rw[Q4,Q4];refine⟨fun z hz=> ?_,hp⟩
    rcases QA.1 hz with rfl|hz
    ·exact hxy
    ·exact h.trans _ _ _ hxy (hp.1 z hz)
theorem Ga(h:qt lt):∀(xs l:List α),l.Pairwise (fun a b=>lt a b=true)->(xs.foldl (fun l x=>oC lt x l) l).Pairwise (fun a b=>lt a b=true)/\∀z,z∈xs.foldl (fun l x=>oC lt x l) l↔z∈xs\/z∈l
 |[],l,hp=>⟨hp,by simp⟩
 |x::xs,l,hp=>by
  obtain⟨h1,h2⟩:=Ga h xs _ (h.oC x hp);rw[QU];refine⟨h1,fun z=> ?_⟩
  rw[h2,Ef,QA];constructor
  ·rintro(a|a|a)
   ·exact .inl (.inr a)
   ·exact .inl (.inl a)
   ·exact .inr a
  ·rintro((a|a)|a)
   ·exact .inr (.inl a)
   ·exact .inl a
   ·exact .inr (.inr a)
end
theorem PF{α σ ρ:Type}(l:List α)(hl:l.length<=1000000)(f:σ->α->σ)(Inv:Nat->σ->Prop){step:σ×Int×Unit->Option ((σ×Int×Unit)⊕ρ)}{fin:σ->Option ρ}
  (hI:∀i s x,x∈l->Inv i s->Inv (i+1) (f s x))
  (h1:∀(i:Nat) (x:α) (s:σ),Inv i s->i<=l.length->x∈l->decide ((i:Int)<((l.length:Nat):Int))=true->idx l (i:Int)=some x->aI .i64 (i:Int) 1=((i+1:Nat):Int)->step (s,(i:Int),())=some (.inl (f s x,((i+1:Nat):Int),())))
  (h2:∀s,decide (((l.length:Nat):Int)<((l.length:Nat):Int))=false->step (s,((l.length:Nat):Int),())=Option.map Sum.inr (fin s)) (s:σ) (hs:Inv 0 s):aG step (s,(0:Int),())=fin (l.foldl f s):=by
 suffices key:∀(k i:Nat) (s:σ),i+k=l.length->Inv i s->aG step (s,(i:Int),())=fin ((l.drop i).foldl f s)from key l.length 0 s (by omega) hs
 intro k
 induction k with
 |zero=>
  intro i s hi hs;obtain rfl:i=l.length:=by omega
  rw[kM,h2 s (Qh (Int.lt_irrefl _)),List.drop_length,List.foldl_nil];cases fin s<;>rfl
 |succ k ih=>
  intro i s hi hs;have hlt:i<l.length:=by omega
  rw[bq (h1 i l[i] s hs (by omega) (Q0 hlt) (Qg (by omega)) (by rw[bK];exact Qv hlt) (b0 (by omega) (by omega))),ih (i+1) _ (by omega) (hI i s _ (Q0 hlt) hs),QM hlt,QU]
section
variable {l : List aj} (hl : ∀ e ∈ l, eJ e.af) (hlen : l.length <= 1000)
 include hl hlen
end
section
variable {l : List aj} (hl : ∀ e ∈ l, eJ e.af) (hlen : l.length <= 1000)
 include hl hlen
end
end Go.Proofs.YtkgenianmdfmdaaGreat
namespace Go.Proofs.YtkgenianmdfmdaaGreat
open Go.TQ
section
variable {l : List aj} (hl : ∀ e ∈ l, eJ e.af) (hlen : l.length <= 1000)
 include hl hlen
end
end Go.Proofs.YtkgenianmdfmdaaGreat
namespace Go.Proofs.YtkgenianmdfmdaaGreat
open Go.TQ
theorem Fa{c:bf}{ay:Int}{l:List aj}(hlen:l.length<=100000)(b:ae):fl ⟨ay,c,(bH l).map bc.mk⟩ b=gK c ay ((de (fun e=>mz e b||cQ e b) (bH l):Nat):Int) ((de (cQ · b) (bH l):Nat):Int):=by
 have hrl:=u5 l;have hin:=oe l;simp only[fl,j1,ik,Qa,Option.bind_fun_some,OC (by omega:(bH l).length<=1000000) hin,DI (by omega:(bH l).length<=1000000) hin]
theorem DS{c:bf}{ay:Int}{l:List aj}(hlen:l.length<=100000)(b:ae):dI ⟨ay,c,(bH l).map bc.mk⟩ b=gn c ay ((de (cQ · b) (bH l):Nat):Int):=by
 have hrl:=u5 l;have hin:=oe l;simp only[dI,Qa,Option.bind_fun_some,DI (by omega:(bH l).length<=1000000) hin]
def su(x:ae->Bool)(p q:ae)(v:ByteArray)(b:ae):Bool:=(decide (v=iy)||decide (b.Value=v))&& !c9 (rJ p) (rJ q) b&&x b
def sD(y:ae->Bool)(a b:ae):Bool:=ba a b&&decide (b.ai<=1000)&&y b
section
variable {ay : Int} {t : ao} {l : List aj} (hl : mK l) (hlen : l.length <= 1000) {c : bf} {x y : ae -> Bool}
 include hl hlen
theorem Ue(hL:ec ay t l=some ⟨ay,c,(bH l).map bc.mk⟩)(hx:∀b,fl ⟨ay,c,(bH l).map bc.mk⟩ b=some (x b))(p q:ae)(v:ByteArray):kF ay t l p q v=some (((dY l).find? (su x p q v)).getD w9):=by
 obtain⟨h1,_,h3,_⟩:=nK hl.aY hlen;unfold kF;simp only[ao.eta,hL,h1,Qa];refine Gn (dY l) (by omega) (fun i=>(i,ae.mk (0:Int) (ByteArray.mk #[]),())) (su x p q v) w9 (fun i b hd hx' hw=> ?_) (fun hd=> ?_)
 ·simp only[hd,hx',hw,Qk,bA,Qa,N9,mU,hx];unfold su iy;cases decide (v=ByteArray.mk #[])<;>cases decide (b.Value=v)<;>cases c9 (rJ p) (rJ q) b<;>cases x b<;>simp
 ·simp only[hd,Ql,Qe];rfl
theorem Un(hL:ec ay t l=some ⟨ay,c,(bH l).map bc.mk⟩)(hy:∀b,dI ⟨ay,c,(bH l).map bc.mk⟩ b=some (y b))(a:ae):iR ay t l a=some (((dY l).find? (sD y a)).getD w9):=by
 obtain⟨h1,_,h3,_⟩:=nK hl.aY hlen;unfold iR;simp only[ao.eta,hL,h1,Qa];refine Gn (dY l) (by omega) (fun i=>(i,ae.mk (0:Int) (ByteArray.mk #[]),())) (sD y a) w9 (fun i b hd hx' hw=> ?_) (fun hd=> ?_)
 ·simp only[hd,hx',hw,Qk,bA,Qa,gE,j1,hy];unfold sD;cases ba a b<;>cases decide (b.ai<=1000)<;>cases y b<;>simp
 ·simp only[hd,Ql,Qe];rfl
end
end Go.Proofs.YtkgenianmdfmdaaGreat
namespace Go.Proofs.YtkgenianmdfmdaaGreat
open Go.TQ
theorem EE(q:Int->Bool):∀(r:List Int) (lo:Int),(∀x∈r,0<=x/\x<=1000000)->0<=lo/\lo<=1000000->0<=dX q r lo/\dX q r lo<=1000000
 |[],lo,_,h=>h
 |x::r,lo,hx,h=>by
  rw[dX];split
  ·exact EE q r lo (fun y hy=>hx y (by simp[hy])) h
  ·split
   ·exact EE q r x (fun y hy=>hx y (by simp[hy])) (hx x (by simp))
   ·exact h
 def oN(x:ByteArray->Int->Int->Bool)(p q:ae)(v:ByteArray)(s:Bool×ae)(n:Int):Bool×ae:=
 if ba s.2 ⟨n,v⟩&& !mj p q v n&&x v n n then(true,⟨n,v⟩)else s
 def fQ(x:ByteArray->Int->Int->Bool)(l:List aj)(p q:ae):Bool×ae:=
 (gd l).foldl (fun s v=>(bS l v).foldl (oN x p q v) s) (false,⟨0,iy⟩)
 def oF(x:ByteArray->Int->Int->Bool)(l:List aj)(p q:ae)(s:Bool×ae):ByteArray×Int×Int×Bool×Unit:=
 if s.1 then(s.2.Value,dX (fun n=> !mj p q s.2.Value n&&x s.2.Value n s.2.ai) (bS l s.2.Value).reverse s.2.ai,s.2.ai,true,())else(iy,0,0,false,())
section
variable {S : eR} {x y : ByteArray -> Int -> Int -> Bool} (hx : ∀ v lo hi, fD S v lo hi = some (x v lo hi)) (hy : ∀ v lo hi, jT S v lo hi = some (y v lo hi))
section
 include hx
theorem Sf(b:List Int)(lo:Int)(p q z:ae):gI b lo p q z S=some (dX (fun n=> !mj p q z.Value n&&x z.Value n z.ai) b.reverse lo):=by
 have:=vx (p:=fun e=>jN e p q z S) (q:=fun n=> !mj p q z.Value n&&x z.Value n z.ai) (fun e=>by
  simp only[jN,GO,hx,Qa,oM]
  cases mj p q z.Value e<;>simp) b.reverse lo
 simp only[gI,bF,bA,Qa];exact this
theorem Se(b:List Int)(lo:Int)(v:ByteArray)(hi:Int):gV b lo S v hi=some (dX (fun z=>x v z hi) b.reverse lo):=by
 have:=vx (p:=fun e=>mw e S v hi) (q:=fun z=>x v z hi) (fun e=>by simp only[mw,hx,Qa]) b.reverse lo
 simp only[gV,bF,bA,Qa];exact this
theorem KP(b:List Int)(lo:Int)(v:ByteArray)(hi:Int):fE b lo S v hi=some (dX (fun z=>x v z hi) b.reverse lo):=by
 have:=vx (p:=fun e=>mu e S v hi) (q:=fun z=>x v z hi) (fun e=>by simp only[mu,hx,Qa]) b.reverse lo
 simp only[fE,bF,bA,Qa];exact this
theorem ID(b:List Int)(v:ByteArray)(low bM:Int)(hb:∀x∈b,0<=x/\x<=1000000):∀r:List Int,(∀x∈r,x∈b)->jG (vw S b v) (PJ S b v) r (low,bM,())=
  some (match r.find? (fun n=>decide (bM<n)&&x v n n)with
   |none=>(dX (fun z=>x v z bM) b.reverse low,bM,())
   |some n=>(dX (fun z=>x v z n) b.reverse (if bM<dX (fun z=>x v z n) b.reverse n - 1\/dX (fun z=>x v z n) b.reverse n<low then dX (fun z=>x v z n) b.reverse n else low),n,()))
 |[],_=>by simp only[jG,PJ,KP hx,Qa,List.find?_nil]
 |e::r,hr=>by
  have ih:=ID b v low bM hb r (fun x hx=>hr x (by simp[hx]))
  rw[List.find?_cons,jG]
  by_cases hle:e<=bM
  ·have h2:decide (bM<e)=false:=Qh (by omega)
   have h1:decide (e<=bM)=true:=Qg hle;have hst:vw S b v r.length e (low,bM,())=some (.inl (low,bM,())):=by simp only[vw,h1,Qk,Qa]
   rw[hst,h2,Bool.false_and];exact ih
  ·have h2:decide (bM<e)=true:=Qg (by omega)
   have h1:decide (e<=bM)=false:=Qh hle;rw[h2,Bool.true_and]
   cases hr':x v e e with
   |false=>
    have hst:vw S b v r.length e (low,bM,())=some (.inl (low,bM,())):=by simp only[vw,h1,Ql,hx,hr',Qp,Qa,Qk]
    rw[hst];exact ih
   |true=>
    have hb9:=EE (fun z=>x v z e) b.reverse e (fun z hz=>hb z (by simpa using hz)) (hb e (hr e (by simp)))
    simp only[vw,h1,Ql,hx,hr',Qo,Se hx,KP hx,Qa,bA,oM,Bool.cond_true_left,Qe];generalize dX (fun z=>x v z e) b.reverse e=bt at*
    have e3:gf .i64 bt 1=bt - 1:=y4 (by omega) (by omega)
    rw[e3]
    by_cases hc:bM<bt - 1\/bt<low
    ·have:(decide (bM<bt - 1)||decide (bt<low))=true:=by rw[Qn];simpa using hc
     rw[this,Qr hc];rfl
    ·have:(decide (bM<bt - 1)||decide (bt<low))=false:=by
      rw[<-QX,Qn];simpa using hc
     rw[this,Qs hc];rfl
end
section
 include hy
theorem UG(b:List Int)(lo:Int)(v:ByteArray)(hi:Int):gU b lo S v hi=some (dX (fun z=>y v z hi) b.reverse lo):=by
 have:=vx (p:=fun e=>nr e S v hi) (q:=fun z=>y v z hi) (fun e=>by simp only[nr,hy,Qa]) b.reverse lo
 simp only[gU,bF,bA,Qa];exact this
end
variable {ay : Int} {t : ao} {l : List aj} (hl : mK l) (hlen : l.length <= 1000) (hL : ec ay t l = some S)
 include hl hlen hL
section
 include hx
theorem V9(p q:ae):mR ay t l p q=some (oF x l p q (fQ x l p q)):=by
 obtain⟨h1,_,h3,_⟩:=oV hl.aY hlen;unfold mR;simp only[ao.eta,hL,h1,Qa];refine(Gm (gd l) (by omega) (fun s v=>(bS l v).foldl (oN x p q v) s) (fin:=fun s=>some (oF x l p q s)) (fun i v a b hv hd hx' hw=> ?_) (fun a b hd=> ?_) false ⟨0,ByteArray.mk #[]⟩)
 ·obtain⟨g1,_,g3,_⟩:=lM hl.aY hlen v;simp only[hd,hx',hw,Qk,Qa,g1];refine(Gm (bS l v) (by omega) (oN x p q v) (fin:=fun s=>some (Sum.inl (s.1,((i+1:Nat):Int),s.2,()))) (fun i' n a' b' hv' hd' hx'' hw'=> ?_) (fun a' b' hd'=> ?_) a b)
  ·simp only[hd',hx'',hw',Qk,bA,Qa,gE,GO,hx,oM];unfold oN;cases ba b' ⟨n,v⟩<;>cases mj p q v n<;>cases x v n n<;>simp
  ·simp only[hd',Ql]
 ·simp only[hd,Ql];obtain⟨g1,_,g3,_⟩:=lM hl.aY hlen b.Value;unfold oF;cases a
  ·rfl
  ·simp only[Qo,Ql,g1,Qa,Sf hx,Qt]
theorem U8(v:ByteArray)(low bM:Int):lS ay t l v low bM=some ((KL (bS l v) (x v) low bM).1,(KL (bS l v) (x v) low bM).2,()):=by
 obtain⟨h1,_,_,_⟩:=lM hl.aY hlen v;have hin:=IQ hl hlen v;unfold lS;simp only[ao.eta,hL,h1,Qa,bF];refine(ID hx (bS l v) v low bM (fun x hx=>by have:=hin x hx;omega) (bS l v).reverse (by simp)).trans ?_
 unfold KL;cases (bS l v).reverse.find? (fun n=>decide (bM<n)&&x v n n)<;>rfl
end
section
 include hy
theorem Wa(v:ByteArray):mS ay t l v=some (wh (bS l v) (y v)):=by
 obtain⟨h1,_,_,_⟩:=lM hl.aY hlen v
 have:=MJ (p:=fun e=>jT S v e e) (q:=fun e=>y v e e) (d:=fun e=>gU (bS l v) e S v e) (f:=fun e=>dX (fun z=>y v z e) (bS l v).reverse e)
  (fun e=>hy v e e) (fun e=>UG hy (bS l v) e v e) (bS l v).reverse
 simp only[mS,ao.eta,hL,h1,bF,Qa,wh];exact this
end
end
section
variable {ay : Int} {t : ao} {l : List aj} (hl : mK l) (hlen : l.length <= 1000) {x y : ByteArray -> Int -> Int -> Bool} (hx : ∀ v lo hi, xi ay t l v lo hi = some (x v lo hi)) (hy : ∀ v lo hi, wD ay t l v lo hi = some (y v lo hi))
 include hl hlen
section
 include hx
end
section
 include hy
end
end
end Go.Proofs.YtkgenianmdfmdaaGreat
namespace Go.Proofs.YtkgenianmdfmdaaGreat
open Go.TQ
section
variable {ay : Nat} (hn : ay < 10) {t : ao} (ht : eJ t) {l : List aj} (hl : mK l) (hlen : l.length <= 1000)
 include hn ht hl hlen
theorem Vr(b:ae):fl ⟨ay,⟨dU ay t l⟩,(bH l).map bc.mk⟩ b=some (gN ay t l b):=by
 have hin:=oe l;have hsm:=n4 (ay:=ay) ht hl;rw[Fa hl.len,Aq hsm hn (oU hin) (oU hin)];rfl
theorem T6(b:ae):dI ⟨ay,⟨dU ay t l⟩,(bH l).map bc.mk⟩ b=some (fq ay t l b):=by
 have hin:=oe l;have hsm:=n4 (ay:=ay) ht hl;rw[DS hl.len,yH hsm hn (oU hin)];rfl
 def gY(ay:Nat)(t:ao)(l:List aj)(p q:ae)(v:ByteArray):ae:=((dY l).find? (su (gN ay t l) p q v)).getD w9
 def tM(ay:Nat)(t:ao)(l:List aj)(a:ae):ae:=((dY l).find? (sD (fq ay t l) a)).getD w9
theorem T3(p q:ae)(v:ByteArray):kF ay t l p q v=some (gY ay t l p q v):=Ue hl hlen (HM hn ht hl) (Vr hn ht hl hlen) p q v
theorem T4(a:ae):iR ay t l a=some (tM ay t l a):=Un hl hlen (HM hn ht hl) (T6 hn ht hl hlen) a
end
end Go.Proofs.YtkgenianmdfmdaaGreat
namespace Go.Proofs.YtkgenianmdfmdaaGreat
open Go.TQ
theorem MD{bytes n:Nat}(h:bytes<=200)(hn:n<=1000000):bZ bytes n=true:=
 ez ⟨QK (Nat.mul_le_mul hn h) (by decide),hn⟩
theorem FG{α ρ:Type}(l:List α)(hl:l.length<=1000000)(p:α->Bool){step:Int×Unit->Option ((Int×Unit)⊕ρ)}{fin:Option ρ}{f:Nat->α->Option ρ}
  (h1:∀(i:Nat) (x:α),i<l.length->l[i]?=some x->decide ((i:Int)<((l.length:Nat):Int))=true->idx l (i:Int)=some x->aI .i64 (i:Int) 1=((i+1:Nat):Int)->step ((i:Int),())=bif p x then Option.map Sum.inr (f i x)else some (.inl (((i+1:Nat):Int),())))
  (h2:(∀x∈l,p x=false)->decide (((l.length:Nat):Int)<((l.length:Nat):Int))=false->step (((l.length:Nat):Int),())=Option.map Sum.inr fin):
  aG step ((0:Int),())=match l.findIdx? p with|some i=>(l[i]?).bind (f i)|none=>fin:=by
 suffices key:∀(k i:Nat),i+k=l.length->(∀x∈l.take i,p x=false)->aG step ((i:Int),())=match(l.drop i).findIdx? p with|some j=>(l[i+j]?).bind (f (i+j))|none=>fin by
  have:=key l.length 0 (by omega) (by simp)
  rw[List.drop_zero]at this;simp only[Nat.zero_add]at this;exact this
 intro k
 induction k with
 |zero=>
  intro i hi hpre;obtain rfl:i=l.length:=by omega
  rw[List.take_length]at hpre;rw[kM,h2 hpre (Qh (Int.lt_irrefl _)),List.drop_length];cases fin<;>rfl
 |succ k ih=>
  intro i hi hpre;have hlt:i<l.length:=by omega
  have hx:l[i]?=some l[i]:=Qv hlt;have hs:=h1 i l[i] hlt hx (Qg (by omega)) (by rw[bK];exact hx) (b0 (by omega) (by omega))
  rw[QM hlt,List.findIdx?_cons]
  cases hp:p l[i]with
  |true=>
   rw[hp]at hs;rw[kM,hs];simp only[Qk,Qt,Nat.add_zero,hx,Qa];cases f i l[i]<;>rfl
  |false=>
   rw[hp]at hs
   rw[bq hs,ih (i+1) (by omega) (fun x hx=>by
    rw[List.take_succ_eq_append_getElem hlt,Qz,List.mem_singleton]at hx;rcases hx with hx|rfl
    ·exact hpre x hx
    ·exact hp)]
   simp only[Qq,Qu]
   cases (l.drop (i+1)).findIdx? p with
   |none=>rfl
   |some j=>
    simp only[Qe];rw[show i+1+j=i+(j+1)by omega]
def Cc(l:List aj)(e:aj):Nat:=(l.findIdx? fun x=>decide (e.ar<x.ar)).getD l.length
 def na(l:List aj)(e:aj):List aj×Bool×Unit:=
 if aZ e then
  match l.findIdx? fun x=>decide (x.ar=e.ar)with
  |some i=>if e.aK<=((l[i]?).getD e).aK then(l,false,())else(l.set i e,true,())
  |none=>(l.take (Cc l e)++[e]++l.drop (Cc l e),true,())
 else(l,false,())
theorem W8(l:List aj)(e:aj):Cc l e<=l.length:=by
 unfold Cc
 cases h:l.findIdx? fun x=>decide (e.ar<x.ar)with
 |none=>exact QI _
 |some i=>exact Nat.le_of_lt ((List.findIdx?_eq_some_iff_getElem.1 h).1)
section
variable {l : List aj} (hl : ∀ x ∈ l, eJ x.af) (hlen : l.length <= 1000)
 include hlen
theorem Ro(e:aj):cY l e=some (match l.findIdx? fun x=>decide (x.ar=e.ar)with|some i=>(i:Int)|none=> -1):=by
 unfold cY;refine(FG l (by omega) (fun x=>decide (x.ar=e.ar)) (f:=fun i _=>some (i:Int)) (fin:=some (-1)) (fun i x hi hx0 hd hx hw=> ?_) (fun hall hd=> ?_)).trans ?_
 ·simp only[hd,hx,hw,Qk,Qa,p9]
 ·simp only[hd,Ql]
 ·cases h:l.findIdx? fun x=>decide (x.ar=e.ar)with
  |none=>rfl
  |some i=>have:=(List.findIdx?_eq_some_iff_getElem.1 h).1;simp[Qv this]
theorem SF(e:aj):cW l e=some (match l.findIdx? fun x=>decide (e.ar<x.ar)with|some i=>(i:Int)|none=> -1):=by
 unfold cW;refine(FG l (by omega) (fun x=>decide (e.ar<x.ar)) (f:=fun i _=>some (i:Int)) (fin:=some (-1)) (fun i x hi hx0 hd hx hw=> ?_) (fun hall hd=> ?_)).trans ?_
 ·simp only[hd,hx,hw,Qk,Qa,p6]
 ·simp only[hd,Ql]
 ·cases h:l.findIdx? fun x=>decide (e.ar<x.ar)with
  |none=>rfl
  |some i=>have:=(List.findIdx?_eq_some_iff_getElem.1 h).1;simp[Qv this]
 include hl
theorem Rk:eI l=some l:=by
 unfold eI
 suffices key:∀(k i:Nat),i+k=l.length->aG _ ((i:Int),l.take i,())=some l from key l.length 0 (by omega)
 intro k
 induction k with
 |zero=>
  intro i hi;obtain rfl:i=l.length:=by omega
  have hd:decide (((l.length:Nat):Int)<((l.length:Nat):Int))=false:=Qh (Int.lt_irrefl _);exact bU (by simp only[hd,Ql,Qe,List.take_length])
 |succ k ih=>
  intro i hi;have hlt:i<l.length:=by omega
  have hd:decide ((i:Int)<((l.length:Nat):Int))=true:=Qg (by omega)
  have hw:aI .i64 (i:Int) 1=((i+1:Nat):Int):=b0 (by omega) (by omega)
  have hx:idx l (i:Int)=some l[i]:=by rw[bK];exact Qv hlt
  have hc:gC l[i]=some l[i]:=by simp only[gC,ao.eta,rL (hl _ (Q0 hlt)),Qa]
  refine(bq ?_).trans (ih (i+1) (by omega))
  simp only[hd,hx,hw,Qk,Qa,ao.eta,aj.eta,hc];rw[MD (by omega) (by simp;omega),List.take_succ_eq_append_getElem hlt]
  rfl
theorem V5{e:aj}(he:eJ e.af):nZ l e=some (na l e):=by
 have hc:gC e=some e:=by simp only[gC,ao.eta,rL he,Qa]
 have hat:=W8 l e;unfold nZ;simp only[Rk hl hlen,ao.eta,aj.eta,lZ he,hc,Ro hlen,SF hlen,Qa,bA];unfold na
 cases aZ e with
 |false=>rfl
 |true=>
  simp only[Qo,Ql,Qt]
  cases h:l.findIdx? fun x=>decide (x.ar=e.ar)with
  |some i=>
   have hi:=(List.findIdx?_eq_some_iff_getElem.1 h).1;have hd:decide ((0:Int)<=(i:Int))=true:=Qg (by omega)
   have hx:idx l (i:Int)=some l[i]:=by rw[bK];exact Qv hi
   simp only[hd,hx,Qk,Qa,QV,Qv hi,Q3]
   by_cases hs:e.aK<=l[i].aK<;>simp[hs]
  |none=>
   have hd:decide ((0:Int)<= -1)=false:=rfl;simp only[hd,Ql]
   have hins:∀a:Nat,a<=l.length->dz l (a:Int) [e]=some (l.take a++[e]++l.drop a):=fun a ha=>by
    unfold dz Kw;have h1:decide ((0:Int)<=(a:Int))=true:=Qg (by omega)
    have h2:decide ((a:Int)<=((l.length:Nat):Int))=true:=Qg (by omega)
    rw[h1,h2,MD (by omega) (by simp;omega)]
    rfl
   unfold Cc at hat ⊢
   cases h':l.findIdx? fun x=>decide (e.ar<x.ar)with
   |none=>
    have hd2:decide ((-1:Int)<0)=true:=rfl;simp only[hd2,Qk,hins _ (QI _),Qa,Option.getD_none]
   |some j=>
    have hj:=(List.findIdx?_eq_some_iff_getElem.1 h').1;have hd2:decide ((j:Int)<0)=false:=Qh (by omega)
    simp only[hd2,Ql,hins _ (Nat.le_of_lt hj),Qa,Q3]
end
end Go.Proofs.YtkgenianmdfmdaaGreat
namespace Go.Proofs.YtkgenianmdfmdaaGreat
open Go.TQ
section
variable {l : List aj} (hlen : l.length <= 1000)
 include hlen
end
end Go.Proofs.YtkgenianmdfmdaaGreat
namespace Go.Proofs.YtkgenianmdfmdaaGreat
open Go.TQ
structure Cj (m:ab):Prop where
 n0:0<=m.ar
 n1:m.ar<10
 aY:eJ m.af
 len:m.aA.length<=100
 sm:∀e∈m.aA,eJ e.af
 valid:∀e∈m.aA,aZ e=true
theorem qY{m:ab}{e:aj}(h:e∈aJ m):e∈m.aA\/(aD m.aa=false/\e=ft m):=by
 unfold aJ at h;split at h
 ·exact .inl h
 ·rename_i hz;rw[(xe _ _).mem_iff,Qz,List.mem_singleton]at h;rcases h with h|h
  ·exact .inl h
  ·exact .inr ⟨by simpa using hz,h⟩
theorem SE(m:ab):(aJ m).length<=m.aA.length+1:=by
 unfold aJ;split
 ·omega
 ·rw[(xe _ _).length_eq,QB,List.length_singleton];omega
theorem zu(m:ab):(ft m).af=m.af:=sI m
theorem Cj.nv{m:ab}(h:Cj m):mK (aJ m)/\(aJ m).length<=1000:=by
 have h1:=SE m;have h2:=h.len;refine⟨⟨by omega,fun e he=> ?_⟩,by omega⟩
 rcases qY he with he|⟨_,rfl⟩
 ·exact h.sm e he
 ·rw[zu];exact h.aY
theorem Cj.ay{m:ab}(h:Cj m):((m.ar.toNat:Nat):Int)=m.ar/\m.ar.toNat<10:=by
 have:=h.n0;have:=h.n1;omega
def dh(b:ae):ae:=if 1000<b.ai then⟨1000,b.Value⟩else b
def cJ(p q b:ae):ae×ae:=
 if aD b=true then(p,q)else if aD p=true then(b,q)else if ba p b=true then(if bB p b=true then(b,if bB q b=true then bn else q)else(b,p))
 else if(ba b p&& !bB b p&&(aD q||ba q b))=true then(p,b)else(p,q)
theorem DE(a b:ae):bB a b=bB b a:=decide_eq_decide.2 ⟨Eq.symm,Eq.symm⟩
theorem TW(p q b:ae):pw p q b=some ((cJ p q b).1,(cJ p q b).2,()):=by
 unfold pw cJ;simp only[bY,gE,dZ,Qa,bA,DE b p,DE b q];cases aD b<;>cases aD p<;>cases ba p b<;>cases bB p b<;>cases bB q b<;>cases ba b p<;>cases aD q<;>cases ba q b<;>rfl
def AQ(m:ab):ByteArray:=if m.aL=2 then m.aa.Value else iy
 def dO(m:ab):ae:=gY m.ar.toNat m.af (aJ m) m.al m.aw (AQ m)
def pQ(m:ab)(p q:ae):Int:=
 if m.aL=1/\m.aM≠0 then(if eo m<kg m.aa.Value m.aM p q then 0 else kg m.aa.Value m.aM p q)else m.aM
 def cy(m:ab):ab:=
 if m.aL=3\/aD m.aa=true then m else
  {m with al:=(cJ m.al m.aw (dh (dO m))).1,aw:=(cJ m.al m.aw (dh (dO m))).2,aM:=pQ m (cJ m.al m.aw (dh (dO m))).1 (cJ m.al m.aw (dh (dO m))).2}
 def ig(m:ab):ae:=tM m.ar.toNat m.af (aJ m) m.au
def uO(m:ab)(b:ae):ab:=
 if ba m.aa b=true then{m with au:=b,aa:=b,aM:=if bB m.aa b=true then m.aM else 0}else{m with au:=b}
def mm(m:ab)(b:ae):ab:=
 if m.aM=0/\bB m.aa b=true/\kg b.Value m.aa.ai m.al m.aw<=b.ai then{m with aM:=kg b.Value m.aa.ai m.al m.aw}else m
 def gg(m:ab):ab:=
 if m.aL≠1\/aD m.aa=true\/aD (ig m)=true then m else mm (uO m (ig m)) (ig m)
section
variable {ay : Nat} (hn : ay < 10) {t : ao} (ht : eJ t) {l : List aj} (hl : mK l) (hlen : l.length <= 1000)
 include hn ht hl hlen
end
 def eH(m:ab):ByteArray->Int->Int->Bool:=oJ m.ar.toNat m.af (aJ m)
 def y3(m:ab):ByteArray->Int->Int->Bool:=qV m.ar.toNat m.af (aJ m)
 def fh(m:ab):ByteArray×Int×Int×Bool×Unit:=oF (eH m) (aJ m) m.al m.aw (fQ (eH m) (aJ m) m.al m.aw)
 def dw(m:ab):Int×Int:=KL (bS (aJ m) m.aa.Value) (eH m m.aa.Value) m.aM m.bb
 def kh(m:ab):Int×Int×Bool×Unit:=wh (bS (aJ m) m.aa.Value) (y3 m m.aa.Value)
def EM(m:ab)(v:ByteArray)(lo hi:Int):ab:=
 {m with aa:=if(!bB m.aa ⟨hi,v⟩||ba m.aa ⟨hi,v⟩)=true then⟨bd m.aa.ai hi,v⟩else m.aa,al:=if fX m.al ⟨hi,v⟩=true then m.al else⟨hi,v⟩,aL:=2,aM:=lo,bb:=hi,au:=⟨hi,v⟩,aw:=bn}
def sY(m:ab)(lo hi:Int):ab:=
 {m with aa:=⟨bd m.aa.ai hi,m.aa.Value⟩,al:=⟨bd m.al.ai hi,m.al.Value⟩,au:=⟨bd m.au.ai hi,m.aa.Value⟩,aM:=lo,bb:=hi}
 def ff(m:ab):ab:=
 if m.aL=1 then(if(fh m).2.2.2.1=true then EM m (fh m).1 (fh m).2.1 (fh m).2.2.1 else m)
 else if m.aL=2 then sY m (dw m).1 (dw m).2 else m
def CG(m:ab)(lo hi:Int):ab:={m with aL:=3,aM:=lo,bb:=hi,aa:=⟨hi,m.aa.Value⟩,al:=bn,aw:=bn,au:=bn}
 def iV(m:ab):ab:=if m.aL=2/\(kh m).2.2.1=true then CG m (kh m).1 (kh m).2.1 else m
end Go.Proofs.YtkgenianmdfmdaaGreat
namespace Go.Proofs.YtkgenianmdfmdaaGreat
open Go.TQ
theorem IM{α β ρ:Type}(l:List α)(hl:l.length<=1000)(f:α->β){step:Int×List β×Unit->Option ((Int×List β×Unit)⊕ρ)}{fin:List β->Option ρ}
  (h1:∀(i:Nat) (e:α) (s:List β),s.length<=1000->e∈l->decide ((i:Int)<((l.length:Nat):Int))=true->idx l (i:Int)=some e->aI .i64 (i:Int) 1=((i+1:Nat):Int)->step ((i:Int),s,())=some (.inl (((i+1:Nat):Int),s++[f e],())))
  (h2:∀s,decide (((l.length:Nat):Int)<((l.length:Nat):Int))=false->step (((l.length:Nat):Int),s,())=Option.map Sum.inr (fin s)):aG step ((0:Int),[],())=fin (l.map f):=by
 suffices key:∀(k i:Nat) (s:List β),i+k=l.length->s.length=i->aG step ((i:Int),s,())=fin (s++(l.drop i).map f)by
  have:=key l.length 0 [] (by omega) rfl
  simpa using this
 intro k
 induction k with
 |zero=>
  intro i s hi hs;obtain rfl:i=l.length:=by omega
  have hd:decide (((l.length:Nat):Int)<((l.length:Nat):Int))=false:=Qh (Int.lt_irrefl _);have h:=h2 s hd;rw[List.drop_length,QO,List.append_nil]
  cases hf:fin s with
  |none=>rw[hf]at h;exact FZ h
  |some r=>rw[hf]at h;exact bU h
 |succ k ih=>
  intro i s hi hs;have hlt:i<l.length:=by omega
  rw[bq (h1 i l[i] s (by omega) (Q0 hlt) (Qg (by omega)) (by rw[bK];exact Qv hlt) (b0 (by omega) (by omega))),ih (i+1) (s++[f l[i]]) (by omega) (by simp;omega),
   QM hlt,QD,QL]
  rfl
theorem PI{α β ρ:Type}(l:List α)(hl:l.length<=1000)(f:α->β){step:Int×List β×Unit->Option ((Int×List β×Unit)⊕ρ)}{fin:List β->Option ρ}
  (h1:∀(i:Nat) (e:α) (s:List β),s.length=l.length->e∈l->i<l.length->decide ((i:Int)<((l.length:Nat):Int))=true->idx l (i:Int)=some e->aI .i64 (i:Int) 1=((i+1:Nat):Int)->step ((i:Int),s,())=some (.inl (((i+1:Nat):Int),s.set i (f e),())))
  (h2:∀s,decide (((l.length:Nat):Int)<((l.length:Nat):Int))=false->step (((l.length:Nat):Int),s,())=Option.map Sum.inr (fin s)) {s0:List β} (hs0:s0.length=l.length):aG step ((0:Int),s0,())=fin (l.map f):=by
 suffices key:∀(k i:Nat) (s:List β),i+k=l.length->s.length=l.length->aG step ((i:Int),s,())=fin (s.take i++(l.drop i).map f)by
  have:=key l.length 0 s0 (by omega) hs0
  simpa using this
 intro k
 induction k with
 |zero=>
  intro i s hi hs;obtain rfl:i=l.length:=by omega
  have hd:decide (((l.length:Nat):Int)<((l.length:Nat):Int))=false:=Qh (Int.lt_irrefl _);have h:=h2 s hd;rw[List.drop_length,QO,List.append_nil,<-hs,List.take_length];rw[<-hs]at h
  cases hf:fin s with
  |none=>rw[hf]at h;exact FZ h
  |some r=>rw[hf]at h;exact bU h
 |succ k ih=>
  intro i s hi hs;have hlt:i<l.length:=by omega
  rw[bq (h1 i l[i] s hs (Q0 hlt) hlt (Qg (by omega)) (by rw[bK];exact Qv hlt) (b0 (by omega) (by omega))),ih (i+1) (s.set i (f l[i])) (by omega) (by simpa using hs),
   QM hlt,QD]
  congr 1;rw[List.take_add_one,List.take_set_of_le (QI i),List.getElem?_set_self (by omega)]
  simp
def Gj(z:ae):List ae->ae
 |[]=>z
 |x::l=>l.foldl (fun a y=>if ba a y=true then y else a) x
theorem NX(l:List ae)(hl:l.length<=1000000)(z:ae){step:Int×ae×Unit->Option ((Int×ae×Unit)⊕ae)}
  (h1:∀(i:Nat) (x s:ae),decide ((i:Int)<((l.length:Nat):Int))=true->idx l (i:Int)=some x->aI .i64 (i:Int) 1=((i+1:Nat):Int)->step ((i:Int),s,())=some (.inl (((i+1:Nat):Int),(if i=0 then x else if ba s x=true then x else s),())))
  (h2:∀s,decide (((l.length:Nat):Int)<((l.length:Nat):Int))=false->step (((l.length:Nat):Int),s,())=some (.inr s)):aG step ((0:Int),z,())=some (Gj z l):=by
 have hd:decide (((l.length:Nat):Int)<((l.length:Nat):Int))=false:=Qh (Int.lt_irrefl _)
 have key:∀(k i:Nat) (s:ae),i+k=l.length->1<=i->aG step ((i:Int),s,())=some ((l.drop i).foldl (fun a y=>if ba a y=true then y else a) s):=by
  intro k
  induction k with
  |zero=>
   intro i s hi h1i;obtain rfl:i=l.length:=by omega
   rw[List.drop_length];exact bU (h2 s hd)
  |succ k ih=>
   intro i s hi h1i;have hlt:i<l.length:=by omega
   rw[bq (h1 i l[i] s (Qg (by omega)) (by rw[bK];exact Qv hlt) (b0 (by omega) (by omega))),ih (i+1) _ (by omega) (by omega),QM hlt,QU,Qs (by omega:¬i=0)]
 cases l with
 |nil=>exact bU (h2 z hd)
 |cons x l=>
  have hx:=h1 0 x z (Qg (by simp)) (by rw[bK];rfl) (b0 (by omega) (by omega))
  rw[Qr rfl]at hx;exact(bq hx).trans (key l.length 1 x (by simp;omega) (by omega))
theorem RP(l:List ae)(hl:l.length<=1000000):jD l=some (Gj bn l):=by
 unfold jD;refine NX l hl bn (fun i x s hd hx hw=> ?_) (fun s hd=> ?_)
 ·simp only[hd,hx,hw,Qk,bA,Qa,gE]
  by_cases hi:i=0
  ·subst hi;rfl
  ·have:decide ((i:Int)=0)=false:=Qh (by omega)
   rw[this,Qs hi];cases ba s x<;>rfl
 ·simp only[hd,Ql,Qe]
def dE(m:ab):ByteArray:=
 if aD m.au=false then m.au.Value else if m.aL≠1 then m.aa.Value else if m.bm≠iy then m.bm else(Gj bn (m.aA.map (·.aa))).Value
theorem Ke{e:aj}(h:eJ e.af)(hv:aZ e=true):gL e=some (cm e):=by
 rw[Lu (Mg h)];have:jU (y2 e.af) e=true:=hv;rw[this,Qr rfl]
def oP(m:ab)(n:Int):Nat:=de (fun e=>decide (n<cm e)) m.aA
 def ep(m:ab)(n:Int):Bool:=lp (dU m.ar.toNat m.af (aJ m)) m.ar.toNat (oP m n)
theorem Cj.Hu{m:ab}(h:Cj m):mL m.aA:=fun e he=>iG (h.valid e he)
theorem Q8{m:ab}(h:Cj m)(n:Int):oP m n<1024:=oU h.Hu
 def jf(m:ab)(Cb:Int)(e:aj):Int:=
 if m.aa.ai<cm e/\cm e<Cb/\ep m (cm e)=false then cm e else Cb
 def dn(m:ab):Int:=m.aA.foldl (jf m) 1000000
 def iT(m:ab):ByteArray:=if m.aL=1 then dE m else m.aa.Value
 def dV(m:ab):ab:=
 if m.aL=3\/ep m m.aa.ai=false then m
 else{m with aM:=if iT m=m.aa.Value then m.aM else 0,aa:=⟨bd m.aa.ai (df (dn m) 1000),iT m⟩}
open Classical in
theorem Ss{m:ab}(h:Cj m){ρ:Type}{step:Int×Int×Unit->Option ((Int×Int×Unit)⊕ρ)}{fin:Int->Option ρ}
  (h1:∀(i:Nat) (e:aj) (s:Int),e∈m.aA->decide ((i:Int)<((m.aA.length:Nat):Int))=true->idx m.aA (i:Int)=some e->aI .i64 (i:Int) 1=((i+1:Nat):Int)->step (s,(i:Int),())=some (.inl (jf m s e,((i+1:Nat):Int),())))
  (h2:∀s,decide (((m.aA.length:Nat):Int)<((m.aA.length:Nat):Int))=false->step (s,((m.aA.length:Nat):Int),())=Option.map Sum.inr (fin s)):aG step ((1000000:Int),(0:Int),())=fin (dn m):=by
 have hl:=h.len
 have key:=gO m.aA (by omega) (fun i s=>(s,i,())) (fun e s=>if e∈m.aA then some (.inl (jf m s e))else none) fin (step:=step) (fun i x s hd hx hw=>by
  have hm:x∈m.aA:=by rw[bK]at hx;exact List.mem_of_getElem? hx
  rw[h1 i x s hm hd hx hw,Qr hm]) (fun s hd=>h2 s hd) 1000000
 refine key.trans ?_;unfold dn
 suffices h3:∀(l:List aj),(∀e∈l,e∈m.aA)->∀s,dW (fun e s=>if e∈m.aA then some (Sum.inl (β:=ρ) (jf m s e))else none) fin l s=fin (l.foldl (jf m) s)from h3 _ (fun e he=>he) _
 intro l
 induction l with
 |nil=>intro _ s;rfl
 |cons x l ih=>
  intro hx s;rw[dW,Qr (hx x Qx),QU];exact ih (fun e he=>hx e (Qy _ he)) _
end Go.Proofs.YtkgenianmdfmdaaGreat
namespace Go.Proofs.YtkgenianmdfmdaaGreat
open Go.TQ
def bX(b:ae):Prop:=1<=b.ai/\b.ai<=1000/\1<=b.Value.size/\b.Value.size<=200
theorem bX.valid{b:ae}(h:bX b):cd b=true:=by
 obtain⟨h1,h2,h3,h4⟩:=h;simp only[cd,Qm,Qn,Qi];exact⟨⟨.inl ⟨h1,h2⟩,h3⟩,h4⟩
theorem bX.finite{b:ae}(h:bX b):finite b=true:=by
 unfold Go.Proofs.YtkgenianmdfmdaaGreat.finite;rw[h.valid,Qg h.2.1];rfl
theorem MK{b:ae}(h:cd b=true)(hc:b.ai<=1000):bX b:=by
 simp only[cd,Qm,Qn,Qi]at h;obtain⟨⟨h1,h2⟩,h3⟩:=h;exact⟨by omega,hc,h2,h3⟩
theorem bX.nz{b:ae}(h:bX b):aD b=false:=FY h.1
theorem bX.ne{b:ae}(h:bX b):b.Value≠iy:=by
 intro e;have:=h.2.2.1;rw[e]at this;exact absurd this (by decide)
theorem ri{b:ae}:aD b=true↔b=bn:=by
 obtain⟨c,v⟩:=b;simp[aD,bn]
theorem bo:aD bn=true:=ri.2 rfl
structure P1 (m:ab):Prop where
 aB:m.aL=1
 aE:bX m.aa
 bW:m.al=bn\/bX m.al
 bs:m.aw=bn\/(bX m.aw/\bX m.al/\ba m.aw m.al=true/\bB m.aw m.al=false)
 cO:m.au=bn\/(bX m.au/\c9 m.al m.aw m.au=true)
 up:ba m.aa m.au=false
 bM:m.bb=0
 low:m.aM=0\/(1<=m.aM/\m.aM<=eo m/\mj m.al m.aw m.aa.Value m.aM=false)
structure P2 (m:ab):Prop where
 aB:m.aL=2
 aE:bX m.aa
 bW:bX m.al/\m.al.Value=m.aa.Value
 bs:m.aw=bn
 cO:m.au=bn\/(bX m.au/\m.au.Value=m.aa.Value)
 range:1<=m.aM/\m.aM<=m.bb/\m.bb<=m.al.ai
structure P3 (m:ab):Prop where
 aB:m.aL=3
 aE:bX m.aa
 bW:m.al=bn
 bs:m.aw=bn
 cO:m.au=bn
 range:1<=m.aM/\m.aM<=m.bb/\m.bb<=1000
structure P0 (m:ab):Prop where
 aB:m.aL=1
 aE:m.aa=bn
 bW:m.al=bn
 bs:m.aw=bn
 cO:m.au=bn
 low:m.aM=0
 bM:m.bb=0
structure aW (m:ab):Prop where
 n0:0<=m.ar
 n1:m.ar<10
 bL:1<=m.bx/\m.bx<=1000000
 seq:0<=m.aK/\m.aK<=1000000
 aY:iY m.af
 kf:m.bm.size<=200
 hv:∀e∈m.aA,aZ e=true/\iY e.af/\e.bx=m.bx/\e.ar≠m.ar
 mB:m.aA.Pairwise (fun a b=>a.ar<b.ar)
 body:P0 m\/P1 m\/P2 m\/P3 m
theorem E9:∀(l:List aj) (k:Nat),k<=10->(∀e∈l,(k:Int)<=e.ar/\e.ar<10)->l.Pairwise (fun a b=>a.ar<b.ar)->l.length+k<=10
 |[],k,hk,_,_=>by simpa using hk
 |x::l,k,hk,h,hp=>by
  rw[Q4]at hp;have hx:=h x Qx;have:=E9 l (k+1) (by omega) (fun e he=>⟨by have:=hp.1 e he;omega,(h e (Qy _ he)).2⟩) hp.2
  rw[QE];omega
theorem aW.len{m:ab}(h:aW m):m.aA.length<=10:=by
 have:=E9 m.aA 0 (by omega) (fun e he=>by have:=iG (h.hv e he).1;omega) h.mB
 omega
theorem aW.ev{m:ab}(h:aW m):Cj m:=
 ⟨h.n0,h.n1,h.aY.sm,by have:=h.len;omega,fun e he=>(h.hv e he).2.1.sm,fun e he=>(h.hv e he).1⟩
theorem Gd{m:ab}(h:P1 m):0<=eo m/\eo m<=m.aa.ai/\(eo m=0\/(bX m.au/\m.au.Value=m.aa.Value/\eo m=m.au.ai)):=by
 unfold eo;split
 ·rename_i hc;simp only[Qm,Bool.not_eq_true',bB,Qi]at hc;rcases h.cO with e|⟨hf,_⟩
  ·rw[e,bo]at hc;cases hc.1
  ·have hup:=h.up;unfold ba at hup;split at hup
   ·rename_i e;exact⟨by have:=hf.1;omega,by omega,.inr ⟨hf,hc.2,rfl⟩⟩
   ·simp only[Qj]at hup;exact⟨by have:=hf.1;omega,by omega,.inr ⟨hf,hc.2,rfl⟩⟩
 ·exact⟨Int.le_refl _,by have:=h.aE.1;omega,.inl rfl⟩
theorem Im{m:ab}(h:aW m)(hz:aD m.aa=false):aZ (ft m)=true:=by
 have hseq:1<=(ft m).aK/\(ft m).aK<=1000000:=by
  have h1:(ft m).aK=bd m.aK 1:=by show bd (cj m).aK 1=_;rw[KM]
  have:=h.seq;rw[h1];unfold bd;split<;>omega
 have hnode:(ft m).ar=m.ar:=oH m;have hslot:(ft m).bx=m.bx:=ug m
 have hhead:wg (ft m)=true:=by
  unfold wg;rw[hnode,hslot];simp only[Qm,Qi];exact⟨⟨⟨⟨⟨h.n0,h.n1⟩,h.bL.1⟩,h.bL.2⟩,hseq.1⟩,hseq.2⟩
 unfold aZ;rw[zu,AR h.aY];unfold jU;rw[hhead];have hkind:(ft m).bR=m.aL:=PL m;rw[hkind];rcases h.body with h0|h1|h2|h3
 ·rw[h0.aE,bo]at hz;cases hz
 ·rw[Qr h1.aB];have hh:=Gd h1;have e:ft m=⟨m.ar,m.bx,bd (cj m).aK 1,m.af,m.aL,m.aa,m.al,m.aw,m.aM,eo m⟩:=by unfold ft cj;rw[Qr h1.aB]
  have hp:(aD m.al||cd m.al)=true:=by
   rcases h1.bW with e|hf
   ·rw[e,bo];rfl
   ·rw[hf.valid,Bool.or_true]
  have hq:(aD m.aw||cd m.aw)=true:=by
   rcases h1.bs with e|hf
   ·rw[e,bo];rfl
   ·rw[hf.1.valid,Bool.or_true]
  have hpo:vm (ft m)=true:=by
   rw[e];unfold vm;rcases h1.bs with e|⟨_,hf,hl,hc⟩
   ·simp only[e,bo,Bool.true_or]
   ·simp only[hf.nz,hl,hc,Qp,Bool.and_self,Bool.or_true]
  have hhp:(decide (eo m=0)||c9 m.al m.aw ⟨eo m,m.aa.Value⟩)=true:=by
   rcases hh.2.2 with e|⟨hf,hv,e⟩
   ·rw[Qg e];rfl
   ·rw[e,<-hv];rcases h1.cO with e2|⟨_,hp⟩
    ·have:=hf.nz;rw[e2,bo]at this;cases this
    ·rw[hp,Bool.or_true]
  have hlow:0<=m.aM/\m.aM<=eo m/\(decide (m.aM=0)||(!dS m.al ⟨m.aM,m.aa.Value⟩&& !dS m.aw ⟨m.aM,m.aa.Value⟩))=true:=by
   rcases h1.low with e|⟨h5,h6,h7⟩
   ·rw[e];exact⟨Int.le_refl _,hh.1,rfl⟩
   ·refine⟨by omega,h6,?_⟩
    unfold mj at h7;rw[Bool.or_eq_false_iff]at h7;rw[h7.1,h7.2];simp
  unfold fp;rw[hpo];rw[e];unfold at_
  simp only[h1.aE.finite,hp,hq,Qg hlow.1,Qg hlow.2.1,Qg hh.2.1,hhp,hlow.2.2,Bool.and_self,decide_true]
 ·rw[Qs (by rw[h2.aB];decide),Qr h2.aB]
  have e:ft m=⟨m.ar,m.bx,bd (cj m).aK 1,m.af,m.aL,m.aa,m.al,bn,m.aM,m.bb⟩:=by unfold ft cj;rw[Qs (by rw[h2.aB];decide),Qr h2.aB]
  have hc:m.bb<=1000:=by have:=h2.range.2.2;have:=h2.bW.1.2.1;omega
  unfold um tV;rw[e];simp only[h2.aE.finite,h2.bW.1.valid,bB,Qg h2.bW.2,bo,Qg h2.range.1,Qg h2.range.2.1,Qg h2.range.2.2,Qg hc,Bool.and_self,decide_true]
 ·rw[Qs (by rw[h3.aB];decide),Qs (by rw[h3.aB];decide),Qr h3.aB]
  have e:ft m=⟨m.ar,m.bx,bd (cj m).aK 1,m.af,m.aL,m.aa,bn,bn,m.aM,m.bb⟩:=by unfold ft cj;rw[Qs (by rw[h3.aB];decide),Qs (by rw[h3.aB];decide)]
  unfold zS tV;rw[e];simp only[h3.aE.valid,bo,Qg h3.range.1,Qg h3.range.2.1,Qg h3.range.2.2,Bool.and_self,decide_true]
theorem aW.iS{m:ab}(h:aW m):∀e∈aJ m,aZ e=true:=by
 intro e he;rcases qY he with he|⟨hz,rfl⟩
 ·exact(h.hv e he).1
 ·exact Im h hz
theorem aW.Ms{m:ab}(h:aW m){e:aj}(he:e∈aJ m)(hn:e.ar.toNat=m.ar.toNat):aD m.aa=false/\e=ft m:=by
 rcases qY he with he|⟨hz,rfl⟩
 ·have h1:=(h.hv e he).2.2.2;have h2:=iG (h.hv e he).1;have:=h.n0;omega
 ·exact⟨hz,rfl⟩
end Go.Proofs.YtkgenianmdfmdaaGreat
namespace Go.Proofs.YtkgenianmdfmdaaGreat
open Go.TQ
theorem rD(a b:ae):ba a b=true↔a.ai<b.ai\/(a.ai=b.ai/\lF a.Value b.Value=true):=by
 unfold ba;split
 ·rename_i e;rw[e];simp
 ·rename_i e;simp only[Qi];constructor
  ·exact .inl
  ·rintro(h|h)
   ·exact h
   ·exact absurd h.1 e
theorem jq{a b c:ae}(h:ba a b=true)(h':ba b c=true):ba a c=true:=wX.trans _ _ _ h h'
theorem Pr(a:ae):ba a a=false:=wX.irrefl a
theorem BI{a b:ae}(h:ba a b=false)(h':a≠b):ba b a=true:=by
 cases h1:ba b a with
 |true=>rfl
 |false=>exact absurd (wX.total a b h h1) h'
theorem fU{a b:ae}(h:ba a b=true):a.ai<=b.ai:=by
 rw[rD]at h;omega
theorem Ed{a b:ae}(h:ba a b=false):b.ai<=a.ai:=by
 rcases Int.lt_or_le a.ai b.ai with h1|h1
 ·rw[(rD a b).2 (.inl h1)]at h;cases h
 ·exact h1
theorem Pp(v:ByteArray):lF v v=false:=wW.irrefl v
theorem zG{a b:ae}(hv:a.Value=b.Value):ba a b=decide (a.ai<b.ai):=by
 unfold ba;split
 ·rename_i e;rw[hv,Pp,e];simp
 ·rfl
theorem B2{p x:ae}(h:fX p x=true):ba p x=false:=by
 obtain⟨_,h2,h3⟩:=(iH p x).1 h;rw[zG h2,Qj];omega
theorem IK{p x q:ae}(h:fX p x=true)(hq:ba p q=true):ba x q=true:=by
 by_cases e:x=p
 ·rw[e];exact hq
 ·exact jq (BI (B2 h) (fun h=>e h.symm)) hq
theorem gZ{a b:ae}:bB a b=true↔a.Value=b.Value:=decide_eq_true_iff
theorem ga{a b:ae}:bB a b=false↔a.Value≠b.Value:=Qj
theorem vP(p q x:ae):c9 p q x=true↔fX p x=true\/fX q x=true\/(aD q=false/\ba x q=true):=by
 unfold c9;simp only[Qn,Qm,Bool.not_eq_true'];exact⟨fun h=>by rcases h with(h|h)|h<;>simp[h],fun h=>by rcases h with h|h|h<;>simp[h]⟩
def nC(p q:ae):Prop:=(p=bn\/bX p)/\(q=bn\/(bX q/\bX p/\ba q p=true/\bB q p=false))
theorem P1.fp{m:ab}(h:P1 m):nC m.al m.aw:=⟨h.bW,h.bs⟩
theorem EA{b:ae}(h:bX b):b≠bn:=fun e=>by have:=h.nz;rw[e,bo]at this;cases this
inductive pr (p q b:ae):ae->ae->Prop where
 |same:pr p q b p q
 |first (hp:p=bn) (hq:q=bn):pr p q b b bn
 |up (hp:bX p) (hl:ba p b=true) (hc:p.Value=b.Value):pr p q b b q
 |xy (hp:bX p) (hl:ba p b=true) (hc:p.Value≠b.Value):pr p q b b p
 |under (hp:bX p) (hl:ba b p=true) (hc:b.Value≠p.Value) (hq:q=bn\/ba q b=true):pr p q b p b
theorem Ui{p q b:ae}(h:nC p q)(hb:b=bn\/bX b):pr p q b (cJ p q b).1 (cJ p q b).2:=by
 unfold cJ;rcases hb with rfl|hb
 ·rw[Qr bo];exact .same
 rw[Qs (by rw[hb.nz];decide)]
 rcases h.1 with rfl|hp
 ·have hq:q=bn:=by
   rcases h.2 with e|⟨_,e,_⟩
   ·exact e
   ·exact absurd rfl (EA e)
  rw[Qr bo,hq];exact .first rfl rfl
 rw[Qs (by rw[hp.nz];decide)]
 by_cases hl:ba p b=true
 ·rw[Qr hl]
  by_cases hc:bB p b=true
  ·rw[Qr hc]
   have hcq:bB q b=false:=by
    rw[gZ]at hc;rw[ga];rcases h.2 with rfl|⟨_,_,_,e⟩
    ·exact fun e=>hb.ne e.symm
    ·rw[ga]at e;rw[<-hc];exact e
   rw[Qs (by rw[hcq];decide)]
   exact .up hp hl (gZ.1 hc)
  ·rw[Qs hc];exact .xy hp hl (ga.1 (by simpa using hc))
 ·rw[Qs hl];split
  ·rename_i hu;simp only[Qm,Qn,Bool.not_eq_true']at hu;refine .under hp hu.1.1 (ga.1 hu.1.2) ?_;rcases hu.2 with e|e
   ·exact .inl (ri.1 e)
   ·exact .inr e
  ·exact .same
theorem pr.ok{p q b p' q':ae}(h:nC p q)(hb:b=bn\/bX b)(hj:pr p q b p' q'):nC p' q':=by
 have hbf:∀{x:ae},ba x b=true\/bX b\/(bX x/\ba b x=true)->True:=fun _=>trivial
 cases hj with
 |same=>exact h
 |first hp hq=>exact⟨hb,.inl rfl⟩
 |up hp hl hc=>
  have hb':bX b:=by
   rcases hb with rfl|hb
   ·have h1:=fU hl;have h2:=hp.1;have:(bn:ae).ai=0:=rfl;omega
   ·exact hb
  refine⟨.inr hb',?_⟩;rcases h.2 with e|⟨h1,h2,h3,h4⟩
  ·exact .inl e
  ·refine .inr ⟨h1,hb',jq h3 hl,?_⟩;rw[ga]at h4 ⊢;rw[<-hc];exact h4
 |xy hp hl hc=>
  have hb':bX b:=by
   rcases hb with rfl|hb
   ·have h1:=fU hl;have h2:=hp.1;have:(bn:ae).ai=0:=rfl;omega
   ·exact hb
  exact⟨.inr hb',.inr ⟨hp,hb',hl,ga.2 hc⟩⟩
 |under hp hl hc hq=>
  refine⟨.inr hp,?_⟩;rcases hb with e|hb
  ·exact .inl e
  ·exact .inr ⟨hb,hp,hl,ga.2 hc⟩
theorem pr.mono{p q b p' q':ae}(h:nC p q)(hj:pr p q b p' q'){x:ae}(hx:c9 p q x=true):c9 p' q' x=true:=by
 rw[vP]at hx ⊢
 have hqp:aD q=false->ba q p=true:=fun hz=>by
  rcases h.2 with e|⟨_,_,e,_⟩
  ·rw[e,bo]at hz;cases hz
  ·exact e
 have hcq:fX q x=true->aD q=false:=fun hc=>((iH q x).1 hc).1
 cases hj with
 |same=>exact hx
 |first hp hq=>
  subst hp hq;rcases hx with hx|hx|hx
  ·have:=((iH _ _).1 hx).1;rw[bo]at this;cases this
  ·have:=((iH _ _).1 hx).1;rw[bo]at this;cases this
  ·rw[bo]at hx;cases hx.1
 |up hp hl hc=>
  rcases hx with hx|hx|hx
  ·obtain⟨h1,h2,h3⟩:=(iH _ _).1 hx;refine .inl ((iH _ _).2 ⟨?_,hc.symm.trans h2,Int.le_trans h3 (fU hl)⟩);have:=hp.1;have:=fU hl;exact FY (by omega)
  ·exact .inr (.inl hx)
  ·exact .inr (.inr hx)
 |xy hp hl hc=>
  rcases hx with hx|hx|hx
  ·exact .inr (.inl hx)
  ·exact .inr (.inr ⟨hp.nz,IK hx (hqp (hcq hx))⟩)
  ·exact .inr (.inr ⟨hp.nz,jq hx.2 (hqp hx.1)⟩)
 |under hp hl hc hq=>
  have hbz:aD q=false->ba q b=true:=fun hz=>by
   rcases hq with e|e
   ·rw[e,bo]at hz;cases hz
   ·exact e
  have hbn:aD q=false->aD b=false:=fun hz=>by
   have h1:=fU (hbz hz);rcases h.2 with e|⟨e,_⟩
   ·rw[e,bo]at hz;cases hz
   ·have:=e.1;exact FY (by omega)
  rcases hx with hx|hx|hx
  ·exact .inl hx
  ·exact .inr (.inr ⟨hbn (hcq hx),IK hx (hbz (hcq hx))⟩)
  ·exact .inr (.inr ⟨hbn hx.1,jq hx.2 (hbz hx.1)⟩)
theorem Rc{p:ae}{v:ByteArray}{n k:Int}(h:dS p ⟨n,v⟩=false)(hk:n<=k):dS p ⟨k,v⟩=false:=Mb hk h
theorem JK{v:ByteArray}{n:Int}{x:ae}(hx:x=bn\/cd x=true):n<=tF v n x/\dS x ⟨tF v n x,v⟩=false:=by
 unfold tF;split
 ·rename_i hc;rw[Qm]at hc;have ha:=hc.2;unfold dS at ha;rw[Qm,Qm]at ha;have hle:n<=x.ai:=fU ha.2;split
  ·refine⟨by omega,?_⟩
   unfold dS;rw[Bool.and_eq_false_iff];right
   cases hl:ba ⟨x.ai+1,v⟩ x with
   |false=>rfl
   |true=>have:=fU hl;simp only at this;omega
  ·rename_i hn;exact⟨hle,by simpa using hn⟩
 ·rename_i hc;refine⟨Int.le_refl _,?_⟩;rcases hx with rfl|hv
  ·unfold dS;rw[bo];rfl
  ·rw[hv,Bool.true_and]at hc;simpa using hc
theorem MB{v:ByteArray}{n:Int}{p q:ae}(hp:p=bn\/cd p=true)(hq:q=bn\/cd q=true):n<=kg v n p q/\1<=kg v n p q/\mj p q v (kg v n p q)=false:=by
 unfold kg;obtain⟨h1,h2⟩:=JK (v:=v) (n:=bd n 1) hp;obtain⟨h3,h4⟩:=JK (v:=v) (n:=tF v (bd n 1) p) hq;have hm:n<=bd n 1/\1<=bd n 1:=by unfold bd;split<;>omega
 refine⟨by omega,by omega,?_⟩
 unfold mj;rw[h4,Bool.or_false];exact Rc h2 h3
theorem E4{v:ByteArray}{n:Int}{x:ae}(h:dS x ⟨n,v⟩=false):tF v n x=n:=by
 unfold tF;rw[h,Bool.and_false];rfl
theorem Pn{v:ByteArray}{n:Int}{p q:ae}(h1:1<=n)(h:mj p q v n=false):kg v n p q=n:=by
 unfold mj at h;rw[Bool.or_eq_false_iff]at h;have hm:bd n 1=n:=by unfold bd;split<;>omega
 unfold kg;rw[hm,E4 h.1,E4 h.2]
theorem nC.valid{p q:ae}(h:nC p q):(p=bn\/cd p=true)/\(q=bn\/cd q=true):=
 ⟨h.1.imp id bX.valid,h.2.imp id fun h=>h.1.valid⟩
theorem Nl{e:aj}(hv:aZ e=true){x:ae}(hx:x∈said e)(hz:aD x=false):cd x=true:=by
 have hv':=hv;unfold aZ jU at hv';unfold said at hx;rw[Qr hv]at hx;rw[Qm,Qm]at hv';have hb:=hv'.2
 by_cases h1:e.bR=1
 ·rw[Qr h1]at hb hx;unfold fp at hb;simp only[Qm,Qn]at hb;obtain⟨⟨⟨⟨⟨⟨⟨⟨hf,hp⟩,hq⟩,_⟩,_⟩,_⟩,_⟩,_⟩,_⟩:=hb;simp only[QA,QR,or_false]at hx;rcases hx with rfl|rfl|rfl
  ·unfold finite at hf;rw[Qm]at hf;exact hf.1
  ·rcases hp with hp|hp
   ·rw[hp]at hz;cases hz
   ·exact hp
  ·rcases hq with hq|hq
   ·rw[hq]at hz;cases hz
   ·exact hq
 ·rw[Qs h1]at hb hx
  have hinf:∀{b:ae},cd b=true->cd ⟨1000000,b.Value⟩=true:=by
   intro b hb;simp only[cd,Qm,Qn,Qi]at hb ⊢;exact⟨⟨.inr trivial,hb.1.2⟩,hb.2⟩
  by_cases h2:e.bR=2
  ·rw[Qr h2]at hb hx;unfold um at hb;simp only[Qm]at hb;obtain⟨⟨⟨⟨⟨hf,hp⟩,hc⟩,_⟩,_⟩,_⟩:=hb;simp only[QA,QR,or_false]at hx;rcases hx with rfl|rfl
   ·exact hp
   ·unfold finite at hf;rw[Qm]at hf;exact hinf hf.1
  ·rw[Qs h2]at hb hx;simp only[QA,QR,or_false]at hx;subst hx
   by_cases h3:e.bR=3
   ·rw[Qr h3]at hb;unfold zS at hb;simp only[Qm]at hb;exact hinf hb.1.1.1
   ·rw[Qs h3]at hb;cases hb
theorem Dl{e:aj}(hv:aZ e=true):1<=e.aa.Value.size/\e.aa.Value.size<=200:=by
 have hv':=hv;unfold aZ jU at hv';rw[Qm,Qm]at hv';have hb:=hv'.2
 have go:∀{b:ae},cd b=true->1<=b.Value.size/\b.Value.size<=200:=by
  intro b hb;simp only[cd,Qm,Qn,Qi]at hb;exact⟨hb.1.2,hb.2⟩
 have gof:∀{b:ae},finite b=true->1<=b.Value.size/\b.Value.size<=200:=by
  intro b hb;unfold finite at hb;rw[Qm]at hb;exact go hb.1
 by_cases h1:e.bR=1
 ·rw[Qr h1]at hb;unfold fp at hb;simp only[Qm]at hb;exact gof hb.1.1.1.1.1.1.1.1
 ·rw[Qs h1]at hb
  by_cases h2:e.bR=2
  ·rw[Qr h2]at hb;unfold um at hb;simp only[Qm]at hb;exact gof hb.1.1.1.1.1
  ·rw[Qs h2]at hb
   by_cases h3:e.bR=3
   ·rw[Qr h3]at hb;unfold zS at hb;simp only[Qm]at hb;exact go hb.1.1.1
   ·rw[Qs h3]at hb;cases hb
theorem UY{b:ae}(h:cd b=true):bX (dh b):=by
 simp only[cd,Qm,Qn,Qi]at h;obtain⟨⟨h1,h2⟩,h3⟩:=h;unfold dh;split
 ·exact⟨(by decide:(1:Int)<=1000),(by decide:(1000:Int)<=1000),h2,h3⟩
 ·exact⟨by omega,by omega,h2,h3⟩
theorem KH{α:Type}{l:List α}{p:α->Bool}{z:α}:(l.find? p).getD z=z\/((l.find? p).getD z∈l/\p ((l.find? p).getD z)=true):=by
 cases h:l.find? p with
 |none=>exact .inl rfl
 |some x=>exact .inr ⟨List.mem_of_find?_eq_some h,List.find?_some h⟩
theorem Ar{m:ab}(h:aW m){x:ae}(hx:x∈dY (aJ m)):cd x=true:=by
 obtain⟨e,he,h1,h2⟩:=((nK h.ev.nv.1.aY h.ev.nv.2).2.2.2 x).1 hx;exact Nl (h.iS e he) h1 h2
theorem Ip{m:ab}(h:aW m):dO m=bn\/(cd (dO m)=true/\(AQ m=iy\/(dO m).Value=AQ m)/\c9 (rJ m.al) (rJ m.aw) (dO m)=false/\gN m.ar.toNat m.af (aJ m) (dO m)=true):=by
 unfold dO gY;rcases KH (l:=dY (aJ m)) (p:=su (gN m.ar.toNat m.af (aJ m)) m.al m.aw (AQ m)) (z:=w9)with e|⟨h1,h2⟩
 ·exact .inl e
 ·right;unfold su at h2;simp only[Qm,Qn,Bool.not_eq_true',Qi]at h2;exact⟨Ar h h1,h2.1.1,h2.1.2,h2.2⟩
theorem sJ{m:ab}(h:aW m):dh (dO m)=bn\/bX (dh (dO m)):=by
 rcases Ip h with e|⟨h1,_⟩
 ·left;rw[e];decide
 ·exact .inr (UY h1)
theorem Cx{m:ab}(h:aW m)(h1:nC m.al m.aw):pr m.al m.aw (dh (dO m)) (cJ m.al m.aw (dh (dO m))).1 (cJ m.al m.aw (dh (dO m))).2:=Ui h1 (sJ h)
theorem P2.fp{m:ab}(h:P2 m):nC m.al m.aw:=⟨.inr h.bW.1,.inl h.bs⟩
theorem TY{m:ab}(h:aW m)(h1:P1 m):P1 (cy m):=by
 unfold cy;rw[Qs (by rw[h1.aB,h1.aE.nz];decide)]
 have hj:=Cx h h1.fp;generalize (cJ m.al m.aw (dh (dO m))).1=p at hj;generalize (cJ m.al m.aw (dh (dO m))).2=q at hj;have hok:=hj.ok h1.fp (sJ h);refine⟨h1.aB,h1.aE,hok.1,hok.2,?_,h1.up,h1.bM,?_⟩
 ·rcases h1.cO with e|⟨hf,hp⟩
  ·exact .inl e
  ·exact .inr ⟨hf,hj.mono h1.fp hp⟩
 ·show pQ m p q=0\/(1<=pQ m p q/\pQ m p q<=eo m/\mj p q m.aa.Value (pQ m p q)=false);unfold pQ
  by_cases hL:m.aM=0
  ·rw[Qs (fun h=>h.2 hL)];exact .inl hL
  ·rw[Qr ⟨h1.aB,hL⟩];split
   ·exact .inl rfl
   ·rename_i hlt;obtain⟨h2,h3,h4⟩:=MB (v:=m.aa.Value) (n:=m.aM) hok.valid.1 hok.valid.2;exact .inr ⟨h3,by omega,h4⟩
theorem Mp{m:ab}(h:aW m)(h2:P2 m):P2 (cy m)/\m.al.ai<=(cy m).al.ai/\(cy m).aw=bn:=by
 unfold cy;rw[Qs (by rw[h2.aB,h2.aE.nz];decide)]
 have hv:dh (dO m)=bn\/(dh (dO m)).Value=m.aa.Value:=by
  rcases Ip h with e|⟨h3,h4,_⟩
  ·left;rw[e];decide
  ·right;have hc:(dh (dO m)).Value=(dO m).Value:=by unfold dh;split<;>rfl
   have hvo:AQ m=m.aa.Value:=Qr h2.aB;rw[hvo]at h4;rw[hc];exact h4.resolve_left h2.aE.ne
 have hj:=Cx h h2.fp;have hlow:∀p q,pQ m p q=m.aM:=fun p q=>Qs (fun h=>by have:=h.1;rw[h2.aB]at this;cases this)
 simp only[hlow];have hok:=hj.ok h2.fp (sJ h);generalize (cJ m.al m.aw (dh (dO m))).1=p at hj hok;generalize (cJ m.al m.aw (dh (dO m))).2=q at hj hok;generalize hb:dh (dO m)=b at hj hv
 have key:bX p/\p.Value=m.aa.Value/\m.al.ai<=p.ai/\q=bn:=by
  cases hj with
  |same=>exact⟨h2.bW.1,h2.bW.2,Int.le_refl _,h2.bs⟩
  |first hp hq=>exact absurd hp (EA h2.bW.1)
  |up hp hl hc=>exact⟨hok.1.resolve_left (fun e=>by have:=fU hl;rw[e]at this;have h9:=h2.bW.1.1;have:(bn:ae).ai=0:=rfl;omega),hc.symm.trans h2.bW.2,fU hl,h2.bs⟩
  |xy hp hl hc=>
   exfalso;rcases hv with e|e
   ·have:=fU hl;rw[e]at this;have h9:=h2.bW.1.1;have:(bn:ae).ai=0:=rfl;omega
   ·exact hc (h2.bW.2.trans e.symm)
  |under hp hl hc hq=>
   rcases hv with e|e
   ·exact⟨h2.bW.1,h2.bW.2,Int.le_refl _,e⟩
   ·exact absurd (e.trans h2.bW.2.symm) hc
 exact⟨⟨h2.aB,h2.aE,⟨key.1,key.2.1⟩,key.2.2.2,h2.cO,⟨h2.range.1,h2.range.2.1,Int.le_trans h2.range.2.2 key.2.2.1⟩⟩,key.2.2.1,key.2.2.2⟩
theorem Ic{m:ab}(h:aW m):aW (cy m):=by
 have hid:m.aL=3\/aD m.aa=true->cy m=m:=fun hc=>Qr hc
 have mk:(P0 (cy m)\/P1 (cy m)\/P2 (cy m)\/P3 (cy m))->aW (cy m):=by
  intro hb;unfold cy at hb ⊢;split at hb
  ·rename_i hc;rw[Qr hc];exact h
  ·rename_i hc;rw[Qs hc];exact⟨h.n0,h.n1,h.bL,h.seq,h.aY,h.kf,h.hv,h.mB,hb⟩
 rcases h.body with h0|h1|h2|h3
 ·rw[hid (.inr (by rw[h0.aE];exact bo))];exact h
 ·exact mk (.inr (.inl (TY h h1)))
 ·exact mk (.inr (.inr (.inl (Mp h h2).1)))
 ·rw[hid (.inl h3.aB)];exact h
end Go.Proofs.YtkgenianmdfmdaaGreat
namespace Go.Proofs.YtkgenianmdfmdaaGreat
open Go.TQ
end Go.Proofs.YtkgenianmdfmdaaGreat
namespace Go.Proofs.YtkgenianmdfmdaaGreat
open Go.TQ
theorem oI(q:Int->Bool):∀(r:List Int) (lo:Int),dX q r lo<=lo
 |[],lo=>Int.le_refl _
 |e::r,lo=>by
  rw[dX];split
  ·exact oI q r lo
  ·split
   ·exact Int.le_trans (oI q r e) (by omega)
   ·exact Int.le_refl _
theorem wj(q:Int->Bool):∀(r:List Int) (lo:Int),dX q r lo=lo\/q (dX q r lo)=true/\dX q r lo∈r
 |[],lo=> .inl rfl
 |e::r,lo=>by
  rw[dX];split
  ·exact(wj q r lo).imp id fun h=>⟨h.1,by simp[h.2]⟩
  ·split
   ·rename_i hq;rcases wj q r e with h|h
    ·exact .inr ⟨by rw[h];exact hq,by rw[h];simp⟩
    ·exact .inr ⟨h.1,by simp[h.2]⟩
   ·exact .inl rfl
theorem wm(q:Int->Bool)(r:List Int)(lo:Int)(h:∀x∈r,1<=x)(h1:1<=lo):1<=dX q r lo:=by
 rcases wj q r lo with e|⟨_,e⟩
 ·omega
 ·exact h _ e
section
variable {ay : Nat} {t : ao} {l : List aj} (p q : ae)
end
end Go.Proofs.YtkgenianmdfmdaaGreat
end
