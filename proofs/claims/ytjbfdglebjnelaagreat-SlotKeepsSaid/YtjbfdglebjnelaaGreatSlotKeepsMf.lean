/-
  Texts made small by a program (see NOTES). Conditions: those that each theorem names.
-/
import Derived.Test.YtjbfdglebjnelaaGreatSlotKeepsMe
set_option linter.unusedVariables false
set_option linter.unusedSimpArgs false
set_option linter.unusedSectionVars false
set_option maxHeartbeats 2000000
noncomputable section
namespace Go.TQ
@[simp] theorem aU {σ ρ:Type} (j:σ->Option ρ) (f:(σ->Option ρ)->Option ρ):aY j f=f j:=rfl
@[simp] theorem ky {α:Type} (b:Bool) (x y:α):(bif b then some x else some y)=some (bif b then x else y):=by cases b<;>rfl
@[simp] theorem ajx {α:Type} (b:Bool) (x:α):(bif b then x else x)=x:=by cases b<;>rfl
theorem EK{α:Type}(p:Prop)[Decidable p](x y:α):(bif decide p then x else y)=if p then x else y:=by
 by_cases h:p<;>simp[h]
theorem BY{α:Type}(p:Prop)[Decidable p](x y:α):(if p then some x else some y)=some (if p then x else y):=by split<;>rfl
@[simp] theorem EJ {α:Type} (b:Bool) (x y:α):(bif !b then x else y)=bif b then y else x:=by cases b<;>rfl
@[simp] theorem zZ (a b:Int) (s t:ByteArray):kQ false a b s t=(decide (a=b)&&decide (s=t)):=by simp[kQ]
@[simp] theorem adf (a b:Int) (s t:ByteArray):kQ true a b s t= !(decide (a=b)&&decide (s=t)):=by simp[kQ]
def Yd{α:Type}(o:Option α)(p:α->Prop):Prop:=∃x,o=some x/\p x
theorem Yd.bind{α β:Type}{o:Option α}{p:α->Prop}{f:α->Option β}{q:β->Prop}(h:Yd o p)(k:∀x,p x->Yd (f x) q):Yd (o.bind f) q:=by
 obtain⟨x,rfl,hx⟩:=h;exact k x hx
theorem Yd.mono{α:Type}{o:Option α}{p q:α->Prop}(h:Yd o p)(k:∀x,p x->q x):Yd o q:=by
 obtain⟨x,h1,hx⟩:=h;exact⟨x,h1,k x hx⟩
theorem Yd.some{α:Type}{x:α}{p:α->Prop}(h:p x):Yd (Option.some x) p:=⟨x,rfl,h⟩
theorem Yd.of_eq{α:Type}{o:Option α}{x:α}{p:α->Prop}(h:o=Option.some x)(hp:p x):Yd o p:=⟨x,h,hp⟩
theorem Yd.cond{α:Type}{b:Bool}{x y:Option α}{p:α->Prop}(h1:b=true->Yd x p)(h2:b=false->Yd y p):Yd (bif b then x else y) p:=by
 cases b
 ·exact h2 rfl
 ·exact h1 rfl
theorem Yd.map{α β:Type}{o:Option α}{f:α->β}{p:β->Prop}(h:Yd o fun x=>p (f x)):Yd (o.map f) p:=by
 obtain⟨x,rfl,hx⟩:=h;exact⟨f x,rfl,hx⟩
theorem Yd.eq_true{o:Option Bool}(h:Yd o (·=true)):o=Option.some true:=by
 obtain⟨x,h1,rfl⟩:=h;exact h1
theorem wrap64{n:Int}(h1: -9223372036854775808<=n)(h2:n<=9223372036854775807):IntKind.i64.wrap n=n:=i64_in h1 h2
theorem bL{a b:Int}(h1: -9223372036854775808<=a+b)(h2:a+b<=9223372036854775807):aB .i64 a b=a+b:=wrap64 h1 h2
theorem pK{a b:Int}(h1: -9223372036854775808<=a - b)(h2:a - b<=9223372036854775807):da .i64 a b=a - b:=wrap64 h1 h2
theorem bA{α:Type}(l:List α)(i:Nat):idx l (i:Int)=l[i]?:=by simp[idx]
theorem ON{α:Type}(l:List α){n:Int}(h:0<=n):idx l n=l[n.toNat]?:=by simp[idx,h]
@[simp] theorem ahf (n:Nat) (h:n<256):bK .i64 (n:Int)=n:=wrap64 (by omega) (by omega)
@[simp] theorem bu {bytes n:Nat} (h:n*bytes<=140737488355328/\n<=1000000):bc bytes n=true:=by
 simp only[bc,Qm,Qi];exact⟨h.1,QK h.2 (by simp[maxLen])⟩
theorem s7(a:Nat)(h:a<2 ^ 62):(BitVec.ofInt 64 (a:Int)).toNat=a:=by
 rw[BitVec.ofInt_natCast,BitVec.toNat_ofNat];exact Nat.mod_eq_of_lt (by omega)
theorem ET(n:Nat)(h:n<2 ^ 62):IntKind.i64.wrap (n:Int)=n:=wrap64 (by omega) (by omega)
theorem Cb(a b:Nat)(ha:a<2 ^ 62)(hb:b<2 ^ 62):DL .i64 (a:Int) (b:Int)=((a&&&b:Nat):Int):=by
 show IntKind.i64.wrap (((BitVec.ofInt 64 (a:Int)&&&BitVec.ofInt 64 (b:Int)).toNat:Nat):Int)=_;rw[BitVec.toNat_and,s7 a ha,s7 b hb];exact ET _ (Nat.lt_of_le_of_lt Nat.and_le_left ha)
theorem Eh(a b:Nat)(ha:a<2 ^ 62)(hb:b<2 ^ 62):oJ .i64 (a:Int) (b:Int)=((a|||b:Nat):Int):=by
 show IntKind.i64.wrap (((BitVec.ofInt 64 (a:Int)|||BitVec.ofInt 64 (b:Int)).toNat:Nat):Int)=_
 rw[BitVec.toNat_or,s7 a ha,s7 b hb];exact ET _ (Nat.or_lt_two_pow ha hb)
theorem af6(s k:Nat):s&&&2 ^ k=if s.testBit k then 2 ^ k else 0:=by
 refine Nat.eq_of_testBit_eq fun i=> ?_
 rw[Nat.testBit_and,Nat.testBit_two_pow]
 by_cases h:k=i
 ·subst h;cases hs:s.testBit k<;>simp
 ·cases hs:s.testBit k<;>simp[h]
theorem vU(k:Nat)(h:k<=60):bV .i64 1 (k:Int)=((2 ^ k:Nat):Int):=by
 show IntKind.i64.wrap (1*2 ^ min (k:Int).toNat 64)=_;rw[QV,show min k 64=k from Nat.min_eq_left (by omega),Int.one_mul]
 have:=ET (2 ^ k) (Nat.pow_lt_pow_right (by omega) (by omega))
 simpa using this
theorem acq(a k:Nat)(h:k<=60):nc .i64 (a:Int) (k:Int)=((a>>>k:Nat):Int):=by
 show(a:Int).fdiv (2 ^ min (k:Int).toNat 64)=_;rw[QV,show min k 64=k from Nat.min_eq_left (by omega),Nat.shiftRight_eq_div_pow]
 rw[show(2:Int) ^ k=((2 ^ k:Nat):Int)by simp,Int.fdiv_eq_ediv_of_nonneg _ (Int.natCast_nonneg _)]
 exact(Int.natCast_ediv a (2 ^ k)).symm
theorem bJ{σ ρ:Type}{step:σ->Option (σ⊕ρ)}{s:σ}{r:ρ}(h:step s=some (.inr r)):aF step s=some r:=by rw[jd,h]
theorem bz{σ ρ:Type}{step:σ->Option (σ⊕ρ)}{s s':σ}(h:step s=some (.inl s')):aF step s=aF step s':=by rw[jd,h]
theorem On{σ ρ:Type}{step:σ->Option (σ⊕ρ)}{s:σ}(h:step s=none):aF step s=none:=by rw[jd,h]
theorem Yd.loop{σ ρ:Type}{step:σ->Option (σ⊕ρ)}{s:σ}{p:ρ->Prop}(h:Yd (step s) fun y=>match y with| .inl s'=>Yd (aF step s') p| .inr r=>p r):Yd (aF step s) p:=by
 obtain⟨y,h1,h2⟩:=h
 cases y with
 |inl s'=>rw[bz h1];exact h2
 |inr r=>exact⟨r,bJ h1,h2⟩
theorem Yd.join{σ ρ:Type}{j:σ->Option ρ}{f:(σ->Option ρ)->Option ρ}{p:ρ->Prop}(inv:σ->Prop)(h1:∀v,inv v->Yd (j v) p)(h2:∀j':σ->Option ρ,(∀v,inv v->Yd (j' v) p)->Yd (f j') p):Yd (aY j f) p:=h2 j h1
theorem Yd.inr{σ ρ:Type}{o:Option ρ}{p:σ⊕ρ->Prop}(h:Yd o fun r=>p (.inr r)):Yd (Option.map Sum.inr o) p:=h.map
def fb{α σ ρ:Type}(g:α->σ->Option (σ⊕ρ))(fin:σ->Option ρ):List α->σ->Option ρ
 |[],s=>fin s
 |x::l,s=>match g x s with
  |none=>none
  |some (.inr r)=>some r
  |some (.inl s')=>fb g fin l s'
theorem ZP{α σ τ ρ:Type}(l:List α)(mk:Int->σ->τ){step:τ->Option (τ⊕ρ)}(g:α->σ->Option (σ⊕ρ))(fin:σ->Option ρ)
  (h1:∀(i:Nat) (x:α) (s:σ),i<l.length->l[i]?=some x->step (mk i s)=match g x s with|none=>none|some (.inr r)=>some (.inr r)|some (.inl s')=>some (.inl (mk (i+1:Nat) s')))
  (h2:∀s,step (mk l.length s)=(fin s).map Sum.inr) (s:σ):aF step (mk 0 s)=fb g fin l s:=by
 suffices h:∀(k:Nat) (i:Nat) (s:σ),i+k=l.length->aF step (mk i s)=fb g fin (l.drop i) s by
  have:=h l.length 0 s (by omega)
  simpa using this
 intro k
 induction k with
 |zero=>
  intro i s hi;obtain rfl:i=l.length:=by omega
  rw[List.drop_length,fb,jd,h2];cases fin s<;>rfl
 |succ k ih=>
  intro i s hi;have hlt:i<l.length:=by omega
  rw[QM hlt,fb,jd,h1 i l[i] s hlt (Qv hlt)]
  cases hg:g l[i] s with
  |none=>rfl
  |some y=>
   cases y with
   |inr r=>rfl
   |inl s'=>exact ih (i+1) s' (by omega)
theorem gO{α σ τ ρ:Type}(l:List α)(hl:l.length<=9223372036854775807)(mk:Int->σ->τ){step:τ->Option (τ⊕ρ)}(g:α->σ->Option (σ⊕ρ))(fin:σ->Option ρ)
  (h1:∀(i:Nat) (x:α) (s:σ),decide ((i:Int)<((l.length:Nat):Int))=true->idx l (i:Int)=some x->aB .i64 (i:Int) 1=((i+1:Nat):Int)->step (mk i s)=match g x s with|none=>none|some (.inr r)=>some (.inr r)|some (.inl s')=>some (.inl (mk (i+1:Nat) s')))
  (h2:∀s,decide (((l.length:Nat):Int)<((l.length:Nat):Int))=false->step (mk l.length s)=(fin s).map Sum.inr) (s:σ):aF step (mk 0 s)=fb g fin l s:=
 ZP l mk g fin (fun i x s hi hx=>h1 i x s (Qg (Int.ofNat_lt.2 hi)) (by rw[bA];exact hx) (bL (by omega) (by omega))) (fun s=>h2 s (Qh (Int.lt_irrefl _))) s
end Go.TQ
namespace Go.Proofs.YtjbfdglebjnelaaGreat
open Go.TQ
def eQ:ByteArray:=⟨#[]⟩
def aG(b:ab):Bool:=decide (b.an=0)&&decide (b.Value=eQ)
def c9(a b:ByteArray):Bool:=if a.size=b.size then jI a b else decide (a.size<b.size)
def bs(a b:ab):Bool:=if a.an=b.an then c9 a.Value b.Value else decide (a.an<b.an)
def bM(a b:ab):Bool:=decide (a.Value=b.Value)
def iY(p b:ab):Bool:= !aG p&&bM p b&&decide (b.an<=p.an)
def dL(p q b:ab):Bool:=iY p b||iY q b||(!aG q&&bs b q)
def ea(p b:ab):Bool:= !aG p&& !bM p b&&bs b p
def cF(b:ab):Bool:=(decide (1<=b.an)&&decide (b.an<=1000)||decide (b.an=1000000))&&decide (1<=b.Value.size)&&decide (b.Value.size<=200)
theorem Tm:∀x:List UInt8,Op.bytesLess x x=false
 |[]=>rfl
 |a::l=>by simp[Op.bytesLess,Tm l]
theorem WQ:∀{x y:List UInt8},x≠y->Op.bytesLess x y=true\/Op.bytesLess y x=true
 |[],[],h=>absurd rfl h
 |[],_::_,_=> .inl rfl
 |_::_,[],_=> .inr rfl
 |a::l,b::m,h=>by
  simp only[Op.bytesLess]
  by_cases hab:a=b
  ·subst hab;have:l≠m:=fun e=>h (by rw[e])
   simpa using WQ this
  ·rcases Nat.lt_or_gt_of_ne (fun e=>hab (UInt8.toNat_inj.1 e))with h1|h1
   ·have h2:a<b:=h1;simp[h2]
   ·have h2:b<a:=h1;simp[h2]
theorem UT(a:ByteArray):jI a a=false:=Tm _
@[simp] theorem cJ (b:ab):bx b=some (aG b):=by unfold bx aG;rw[zZ];rfl
@[simp] theorem c6 (b:ab):bG b=some (aG b):=by unfold bG aG;rw[zZ];rfl
@[simp] theorem fj (a b:ab):cg a b=some (bM a b):=rfl
@[simp] theorem fV (a b:ab):cx a b=some (bM a b):=rfl
@[simp] theorem tJ (b:ab):gm b=some (cF b):=by
 have h1:decide ((1:Int)<=(b.Value.size:Nat))=decide (1<=b.Value.size):=by rw[decide_eq_decide];omega
 have h2:decide (((b.Value.size:Nat):Int)<=200)=decide (b.Value.size<=200):=by rw[decide_eq_decide];omega
 simp only[gm,cF,h1,h2,ky,Qa,Bool.cond_false_right,Bool.cond_true_left]
@[simp] theorem Ci (b:ab):jK b=some (cF b):=tJ b
@[simp] theorem yc (a b:ByteArray):mS a b=some (c9 a b):=by
 simp only[mS,c9,EJ,Int.ofNat_inj,Int.ofNat_lt,EK,BY]
@[simp] theorem jq (a b:ab):eY a b=some (bs a b):=by
 simp[eY,bs,EK,BY]
@[simp] theorem AK (a b:ab):lv a b=some (iY a b):=by simp[lv,iY]
@[simp] theorem aaD (a b:ab):jW a b=some (iY a b):=by simp[jW,iY]
@[simp] theorem sq (p q b:ab):iI p q b=some (dL p q b):=by simp[iI,dL]
@[simp] theorem AL (p b:ab):fW p b=some (ea p b):=by simp[fW,ea]
def Aq(a b:Int):Int:=if a<b then -1 else if b<a then 1 else 0
def WI(a b:ByteArray):Int:=if jI a b then -1 else if jI a b||decide (a=b)then 0 else 1
def orL:List Int->Int
 |[]=>0
 |x::l=>if x=0 then orL l else x
@[simp] theorem Gl (a b:Int):fg a b=some (Aq a b):=by
 simp[fg,sL,Aq,EK,BY]
@[simp] theorem Xr (a b:ByteArray):kL a b=some (WI a b):=by
 simp only[kL,po,WI];cases h1:jI a b<;>by_cases h2:a=b<;>simp[h2]
theorem Py(l:List Int)(hl:l.length<=1000000):lW l=some (orL l):=by
 unfold lW;rw[gO l (by omega) (fun i (_:Unit)=>(i,())) (fun x _=>some (if x=0 then .inl ()else .inr x)) (fun _=>some 0) (fun i x s hd hx hw=> ?_) (fun s hd=> ?_) ()]
 ·induction l with
  |nil=>rfl
  |cons x l ih=>
   rw[fb,orL]
   by_cases h:x=0
   ·simp only[h,Qt];exact ih (by simp at hl;omega)
   ·simp only[Qs h]
 ·by_cases h:x=0<;>simp only[hd,hx,hw,h,Qk,Qa]<;>simp
 ·simp only[hd,Ql]
@[simp] theorem adL (a b:Int):lW [a,b]=some (if a=0 then b else a):=by
 rw[Py _ (by simp)]
 simp only[orL]
 by_cases h:a=0<;>by_cases h':b=0<;>simp[h,h']
def B6(a b:ByteArray):Int:=if Aq a.size b.size=0 then WI a b else Aq a.size b.size
def WK(a b:ab):Int:=if Aq a.an b.an=0 then B6 a.Value b.Value else Aq a.an b.an
@[simp] theorem Aw (a b:ByteArray):gC a b=some (B6 a b):=by simp[gC,B6]
@[simp] theorem aaA (a b:ab):na a b=some (WK a b):=by simp[na,WK]
theorem C1(a b:Int):Aq a b=0↔a=b:=by unfold Aq;split<;>(try split)<;>omega
theorem MR(a b:Int):Aq a b<0↔a<b:=by unfold Aq;split<;>(try split)<;>omega
theorem adr(a b:ByteArray):WI a b<0↔jI a b=true:=by
 unfold WI;split
 ·rename_i h;simp[h]
 ·rename_i h;split<;>simp[h]
theorem F8(a b:ByteArray):decide (B6 a b<0)=c9 a b:=by
 unfold B6 c9
 by_cases h:a.size=b.size
 ·rw[Qr ((C1 _ _).2 (by rw[h])),Qr h]
  rw[QW,Qi,adr]
 ·rw[Qs (fun e=>h (by have:=(C1 _ _).1 e;omega)),Qs h,decide_eq_decide,MR]
  omega
theorem WJ(a b:ab):decide (WK a b<0)=bs a b:=by
 unfold WK bs
 by_cases h:a.an=b.an
 ·rw[Qr ((C1 _ _).2 h),Qr h,F8]
 ·rw[Qs (fun e=>h ((C1 _ _).1 e)),Qs h,decide_eq_decide,MR]
@[simp] theorem jj (a b:ab):dU a b=some (bs a b):=by simp[dU,WJ]
@[simp] theorem qJ (p q b:ab):gB p q b=some (dL p q b):=by simp[gB,dL]
@[simp] theorem su (p b:ab):dV p b=some (ea p b):=by simp[dV,ea]
def finite(b:ab):Bool:=cF b&&decide (b.an<=1000)
@[simp] theorem ER (b:ab):lU b=some (finite b):=by simp[lU,finite]
@[simp] theorem CC (b:ab):kK b=some (aG b||cF b):=by simp[kK]
@[simp] theorem AN (e:al) (n:Int):nD e n=some ⟨n,e.af.Value⟩:=rfl
end Go.Proofs.YtjbfdglebjnelaaGreat
namespace Go.Proofs.YtjbfdglebjnelaaGreat
open Go.TQ
theorem R6{rec:(aj×Unit)->Option Int}{t:aj}(hl:t.aN.length<=9223372036854775807):
  jk rec t=fb (fun u m=>(rec (u,())).map fun r=> .inl (bC m r)) (fun m=>some (aB .i64 m 1)) t.aN 0:=by
 unfold jk;rw[gO t.aN hl (fun i (m:Int)=>(m,i,())) (fun u m=>(rec (u,())).map fun r=> .inl (bC m r)) (fun m=>some (aB .i64 m 1)) (fun i x s hd hx hw=> ?_) (fun s hd=> ?_) 0]
 ·simp only[hd,hx,hw,Qk,Qa,aj.eta];cases rec (x,())<;>rfl
 ·simp only[hd,Ql]
theorem Xq{rec:(aj×Unit)->Option Int}{t:aj}(hl:t.aN.length<=9223372036854775807):
  jX rec t=fb (fun u m=>(rec (u,())).map fun r=> .inl (aB .i64 m r)) (fun m=>some m) t.aN (aB .i64 t.ba.length t.aN.length):=by
 unfold jX;rw[gO t.aN hl (fun i (m:Int)=>(m,i,())) (fun u m=>(rec (u,())).map fun r=> .inl (aB .i64 m r)) (fun m=>some m) (fun i x s hd hx hw=> ?_) (fun s hd=> ?_) (aB .i64 t.ba.length t.aN.length)]
 ·simp only[hd,hx,hw,Qk,Qa,aj.eta];cases rec (x,())<;>rfl
 ·simp only[hd,Ql]
theorem Sq(t:aj):Av t=je t:=rfl
theorem Vd(t:aj):Cj t=jN t:=rfl
def ez(x:Int):Bool:=decide (0<=x)&&decide (x<10)
def xO(s x:Int):Bool:=decide (0<=s)&&decide (s<1024)&&ez x&&s.toNat.testBit x.toNat
theorem JC(s:Int):eW s=some (decide (0<=s)&&decide (s<1024)):=by
 have:bV .i64 1 10=1024:=vU 10 (by omega)
 simp[eW,yh,this]
theorem WY{s x:Int}(h1:0<=s)(h2:s<1024)(h3:0<=x)(h4:x<10):(DL .i64 s (bV .i64 1 x)=0)=(s.toNat.testBit x.toNat=false):=by
 obtain⟨n,rfl⟩:=Int.eq_ofNat_of_zero_le h1;obtain⟨j,rfl⟩:=Int.eq_ofNat_of_zero_le h3;have hj:2 ^ j<=2 ^ 10:=Nat.pow_le_pow_right (by omega) (by omega)
 rw[vU j (by omega),Cb n (2 ^ j) (by omega) (by omega),af6]
 simp only[QV];have hp:2 ^ j≠0:=Nat.pos_iff_ne_zero.1 (Nat.pow_pos (by omega))
 cases n.testBit j
 ·simp
 ·rw[Qr rfl];simp only[Bool.true_eq_false,eq_iff_iff,iff_false];omega
@[simp] theorem lA (s x:Int):jL s x=some (xO s x):=by
 unfold jL xO ez;rw[JC]
 by_cases h1:0<=s
 ·by_cases h2:s<1024
  ·by_cases h3:0<=x
   ·by_cases h4:x<10
    ·have h5:¬x<0:=by omega
     have:=WY h1 h2 h3 h4;simp[h1,h2,h3,h4,h5,this]
    ·simp[h1,h2,h3,h4]
   ·simp[h1,h2,h3]
  ·simp[h1,h2]
 ·simp[h1]
theorem Xw{s x:Int}(h1:0<=s)(h2:s<1024)(h3:0<=x)(h4:x<10):(DL .i64 (nc .i64 s x) 1=1)=(s.toNat.testBit x.toNat=true):=by
 obtain⟨n,rfl⟩:=Int.eq_ofNat_of_zero_le h1;obtain⟨j,rfl⟩:=Int.eq_ofNat_of_zero_le h3;have hle:n>>>j<=n:=by rw[Nat.shiftRight_eq_div_pow];exact Nat.div_le_self _ _
 rw[acq n j (by omega),show(1:Int)=((1:Nat):Int)from rfl,Cb _ 1 (by omega) (by omega)]
 simp only[QV,Int.ofNat_inj,Nat.testBit,eq_iff_iff];rw[Nat.and_comm];simp
@[simp] theorem qB (s x:Int):kq s x=some (xO s x):=by
 unfold kq eV xO ez
 by_cases h1:0<=s
 ·by_cases h2:s<1024
  ·have h2':s<=1023:=by omega
   by_cases h3:0<=x
   ·by_cases h4:x<10
    ·have h5:¬x<0:=by omega
     have:=Xw h1 h2 h3 h4;simp[h1,h2,h2',h3,h4,h5,this]
    ·simp[h1,h2,h2',h3,h4]
   ·simp[h1,h2,h2',h3]
  ·have h2':¬s<=1023:=by omega
   simp[h1,h2,h2']
 ·simp[h1]
theorem qc{s:Nat}{x:Int}(h1:s<1024)(h3:0<=x)(h4:x<10):oJ .i64 (s:Int) (bV .i64 1 x)=((s|||2 ^ x.toNat:Nat):Int):=by
 obtain⟨j,rfl⟩:=Int.eq_ofNat_of_zero_le h3;have hj:2 ^ j<=2 ^ 9:=Nat.pow_le_pow_right (by omega) (by omega)
 rw[vU j (by omega)]
 exact Eh s (2 ^ j) (by omega) (by omega)
theorem CM{s:Nat}{x:Int}(h1:s<1024)(h4:x<10):s|||2 ^ x.toNat<1024:=by
 have hj:2 ^ x.toNat<=2 ^ 9:=Nat.pow_le_pow_right (by omega) (by omega)
 exact Nat.or_lt_two_pow (n:=10) h1 (by omega)
def qR(s:Nat):List Int->Int×Int×Unit
 |[]=>(s,0,())
 |x::l=>if ez x then(if s.testBit x.toNat then(0,6,())else qR (s|||2 ^ x.toNat) l)else(0,5,())
theorem Yo(g:Int->Int->Option (Int⊕(Int×Int×Unit)))
  (hg:∀x (s:Nat),s<1024->g x s=some (if ez x then(if s.testBit x.toNat then .inr (0,6,())else .inl ((s|||2 ^ x.toNat:Nat):Int))else .inr (0,5,()))):
  ∀(l:List Int) (s:Nat),s<1024->fb g (fun s=>some (s,0,())) l s=some (qR s l)
 |[],s,_=>rfl
 |x::l,s,hs=>by
  rw[fb,hg x s hs,qR]
  cases h1:ez x with
  |false=>simp
  |true=>
   cases h2:s.testBit x.toNat with
   |true=>simp
   |false=>
    simp only[Qt,Qq,Qu];have h3:x<10:=by simp[ez]at h1;omega
    exact Yo g hg l _ (CM hs h3)
theorem C5(l:List Int)(hl:l.length<=9223372036854775807):qE l=some (qR 0 l):=by
 unfold qE;rw[gO l hl (fun i (s:Int)=>(s,i,())) (fun x s=>if ez x then(if xO s x then some (.inr (0,6,()))else some (.inl (oJ .i64 s (bV .i64 1 x))))else some (.inr (0,5,()))) (fun s=>some (s,0,())) (fun i x s hd hx hw=> ?_) (fun s hd=> ?_) 0]
 ·refine Yo _ (fun x s hs=> ?_) l 0 (by omega)
  cases h1:ez x with
  |false=>simp
  |true=>
   have h3:0<=x/\x<10:=by simp[ez]at h1;omega
   have h2:xO s x=s.testBit x.toNat:=by simp[xO,h1];omega
   rw[h2,qc hs h3.1 h3.2];cases s.testBit x.toNat<;>simp
 ·simp only[hd,hx,hw,Qk,Qa,lA]
  by_cases h0:x<0
  ·have:¬0<=x:=by omega
   simp[h0,ez,this]
  ·have h0':0<=x:=by omega
   by_cases h10:10<=x
   ·have:¬x<10:=by omega
    simp[h0,h10,ez,this,h0']
   ·have h10':x<10:=by omega
    cases h:xO s x<;>simp[h0,h10,ez,h0',h10']
 ·simp only[hd,Ql]
theorem Un(l:List Int)(hl:l.length<=9223372036854775807):yg l=some (qR 0 l):=by
 have:yg l=qE l:=by
  unfold yg qE;simp only[qB,lA]
 rw[this,C5 l hl]
@[simp] theorem vq (x:Int):k9 x=some (!ez x):=by simp[k9,wE,ez]
theorem KH(l:List Int)(hl:l.length<=9223372036854775807):fR l=some (l.any fun x=> !ez x):=by
 have key:∀(i:Nat) (k:Nat),i+k=l.length->Yd (aF (fun(v1:Int×Unit)=>bif (decide (v1.1<((List.length l:Nat):Int)))then Option.bind (idx l v1.1) fun x2=>Option.bind (k9 x2) fun r3=>bif r3 then Option.map Sum.inr (some v1.1)else some (Sum.inl ((aB .i64 v1.1 (1:Int)),()))else Option.map Sum.inr (some (-1:Int))) ((i:Int),())) fun r=>decide (0<=r)=(l.drop i).any fun x=> !ez x:=by
  intro i k
  induction k generalizing i with
  |zero=>
   intro hi;refine⟨-1,bJ ?_,?_⟩
   ·have:¬((i:Int)<(l.length:Int)):=by omega
    simp[this]
   ·rw[List.drop_eq_nil_of_le (by omega)];rfl
  |succ k ih=>
   intro hi;have hlt:i<l.length:=by omega
   have hd:decide ((i:Int)<((l.length:Nat):Int))=true:=Qg (Int.ofNat_lt.2 hlt);have hx:idx l (i:Int)=some l[i]:=by rw[bA];exact Qv hlt
   have hw:aB .i64 (i:Int) 1=((i+1:Nat):Int):=bL (by omega) (by omega)
   rw[QM hlt,List.any_cons]
   cases h:ez l[i]with
   |true=>
    rw[bz (s':=(((i+1:Nat):Int),())) (by simp only[hd,hx,hw,Qk,Qa,vq,h];rfl)]
    exact(ih (i+1) (by omega)).mono fun r hr=>by simpa using hr
   |false=>
    refine⟨i,bJ (by simp only[hd,hx,Qk,Qa,vq,h];rfl),?_⟩
    simp
 obtain⟨r,h1,h2⟩:=key 0 l.length (by omega)
 unfold fR kj;simp only[Int.natCast_zero]at h1;rw[h1];simpa using h2
def qf(rec:aj->Option Int)(t:aj):Option Int:=
 if t.aL<1\/aB .i64 t.ba.length t.aN.length<t.aL then some 4
 else if(t.ba.any fun x=> !ez x)then some 5
 else if(qR 0 t.ba).2.1=0 then fb (fun u (_:Unit)=>(rec u).map fun r=>if r=0 then .inl ()else .inr r) (fun _=>some 0) t.aN ()
 else some (qR 0 t.ba).2.1
theorem JG{rec:(aj×Unit)->Option Int}{t:aj}(hn:t.ba.length<=9223372036854775807)(hl:t.aN.length<=9223372036854775807):hY rec t=qf (fun u=>rec (u,())) t:=by
 unfold hY qf;rw[KH _ hn,C5 _ hn];rw[gO t.aN hl (fun i (_:Unit)=>(i,())) (fun u (_:Unit)=>(rec (u,())).map fun r=>if r=0 then .inl ()else .inr r) (fun _=>some 0) (fun i x s hd hx hw=> ?_) (fun s hd=> ?_) ()]
 ·by_cases h1:t.aL<1
  ·simp[h1]
  ·by_cases h2:aB .i64 t.ba.length t.aN.length<t.aL
   ·simp[h1,h2]
   ·simp only[h1,h2,decide_false,Ql,Qa,or_self,Qu]
    cases (t.ba.any fun x=> !ez x)with
    |true=>simp
    |false=>
     by_cases h3:(qR 0 t.ba).2.1=0<;>simp[h3]
 ·simp only[hd,hx,hw,Qk,Qa,aj.eta]
  cases rec (x,())with
  |none=>rfl
  |some r=>by_cases h:r=0<;>simp[h]
 ·simp only[hd,Ql]
theorem R7{rec:(aj×Unit)->Option Int}{t:aj}(hn:t.ba.length<=9223372036854775807)(hl:t.aN.length<=9223372036854775807):mK rec t=qf (fun u=>rec (u,())) t:=by
 unfold mK qf;rw[gO t.ba hn (fun i (_:Unit)=>(i,())) (fun x (_:Unit)=>some (if ez x then .inl ()else .inr 5)) (fun _=>if(qR 0 t.ba).2.1=0 then fb (fun u (_:Unit)=>(rec (u,())).map fun r=>if r=0 then .inl ()else .inr r) (fun _=>some 0) t.aN ()else some (qR 0 t.ba).2.1) (fun i x s hd hx hw=> ?_) (fun s hd=> ?_) ()]
 ·by_cases h1:t.aL<1
  ·simp[h1]
  ·by_cases h2:aB .i64 t.ba.length t.aN.length<t.aL
   ·simp[h1,h2]
   ·simp only[h1,h2,decide_false,Ql,Qa,or_self,Qu]
    have:∀(l:List Int) (fin:Unit->Option Int),fb (fun x (_:Unit)=>some (if ez x then .inl ()else .inr 5)) fin l ()=if(l.any fun x=> !ez x)then some 5 else fin ():=by
     intro l fin
     induction l with
     |nil=>rfl
     |cons x l ih=>
      rw[fb,List.any_cons]
      cases h:ez x with
      |true=>simpa using ih
      |false=>simp
    exact this _ _
 ·simp only[hd,hx,hw,Qk,Qa,ez]
  by_cases h0:x<0
  ·have h0':¬0<=x:=by omega
   simp[h0,h0']
  ·have h0':0<=x:=by omega
   by_cases h1:10<=x
   ·have h1':¬x<10:=by omega
    simp[h0,h0',h1,h1']
   ·have h1':x<10:=by omega
    simp[h0,h0',h1,h1']
 ·simp only[hd,Ql];rw[Un _ hn,Qa];rw[gO t.aN hl (fun i (_:Unit)=>(i,())) (fun u (_:Unit)=>(rec (u,())).map fun r=>if r=0 then .inl ()else .inr r) (fun _=>some 0) (fun i x s hd hx hw=> ?_) (fun s hd=> ?_) ()]
  ·by_cases h3:(qR 0 t.ba).2.1=0<;>simp[h3]
  ·simp only[hd,hx,hw,Qk,Qa,aj.eta]
   cases rec (x,())with
   |none=>rfl
   |some r=>by_cases h:r=0<;>simp[h]
  ·simp only[hd,Ql]
structure fu (t:aj):Prop where
 nodes:∀x∈t.ba,0<=x/\x<10
 nodup:t.ba.Nodup
 len:t.ba.length<=10
 inner:t.aN=[]\/∃x,0<=x/\x<10/\t.aN=[⟨1,[x],[]⟩]
 th:1<=t.aL/\t.aL<=t.ba.length+t.aN.length
theorem Fz:∀(l:List Int) (s:Nat),(∀x∈l,0<=x/\x<10)->l.Nodup->(∀x∈l,s.testBit x.toNat=false)->(qR s l).2.1=0
 |[],s,_,_,_=>rfl
 |x::l,s,h1,h2,h3=>by
  rw[List.nodup_cons]at h2;have hx:=h1 x (by simp)
  have:ez x=true:=by simp[ez];omega
  rw[qR,this,h3 x (by simp)]
  simp only[Qt,Qq,Qu];refine Fz l _ (fun y hy=>h1 y (by simp[hy])) h2.2 fun y hy=> ?_
  have hy1:=h1 y (by simp[hy])
  rw[Nat.testBit_or,h3 y (by simp[hy]),Nat.testBit_two_pow]
  have:x.toNat≠y.toNat:=fun e=>by
   have:x=y:=by omega
   subst this;exact h2.1 hy
  simp[this]
theorem WX{l:List Int}(h:∀x∈l,0<=x/\x<10):(l.any fun x=> !ez x)=false:=by
 rw[List.any_eq_false];intro x hx;have:=h x hx;simp[ez];omega
theorem KW{rec:aj->Option Int}{x:Int}(h0:0<=x)(h1:x<10):qf rec ⟨1,[x],[]⟩=some 0:=by
 have h2:aB .i64 (1:Nat) (0:Nat)=1:=rfl;have h3:(qR 0 [x]).2.1=0:=Fz [x] 0 (by simp;omega) (by simp) (by simp)
 have h4:([x].any fun x=> !ez x)=false:=WX (by simp;omega)
 simp only[qf,QE,QZ,Nat.zero_add,h2,h3,h4];simp[fb]
theorem Oo{t:aj}(h:fu t){rec:aj->Option Int}(hr:∀x,0<=x->x<10->rec ⟨1,[x],[]⟩=some 0):qf rec t=some 0:=by
 have hil:t.aN.length<=1:=by rcases h.inner with e|⟨x,_,_,e⟩<;>rw[e]<;>simp
 have hlen:=h.len;have h2:aB .i64 t.ba.length t.aN.length=t.ba.length+t.aN.length:=bL (by omega) (by omega)
 have h3:(qR 0 t.ba).2.1=0:=Fz _ 0 h.nodes h.nodup (by simp)
 have h4:=WX h.nodes;have h5:=h.th;unfold qf;rw[h2,Qs (by omega),h4,h3]
 simp only[Qq,Qu,Qt];rcases h.inner with e|⟨x,hx0,hx1,e⟩
 ·rw[e];rfl
 ·rw[e,fb,hr x hx0 hx1];rfl
theorem M0(t:aj):∃n,SizeOf.sizeOf t=n+1:=by
 have:1<=SizeOf.sizeOf t:=by
  cases t;simp only[aj.mk.sizeOf_spec];omega
 exact⟨SizeOf.sizeOf t - 1,by omega⟩
theorem Z9(n:Nat)(th:Int)(l:List Int):mR (n+1) (⟨th,l,[]⟩,())=some 1:=by
 show jk _ _=_;rw[R6 (by simp)]
 rfl
theorem size_leaf(n:Nat)(th:Int)(l:List Int):nP (n+1) (⟨th,l,[]⟩,())=some (aB .i64 l.length (0:Nat)):=by
 show jX _ _=_;rw[Xq (by simp)]
 rfl
theorem O6{t:aj}(h:fu t):∃d,je t=some d/\d<=2:=by
 obtain⟨n,hn⟩:=M0 t;have hil:t.aN.length<=1:=by rcases h.inner with e|⟨x,_,_,e⟩<;>rw[e]<;>simp
 unfold je;rw[hn];show∃d,jk (mR (n+1)) t=some d/\d<=2;rw[R6 (by omega)]
 rcases h.inner with e|⟨x,_,_,e⟩
 ·rw[e];exact⟨1,rfl,by omega⟩
 ·rw[e,fb,Z9 n 1 [x]];exact⟨2,rfl,by omega⟩
theorem Sd{t:aj}(h:fu t):∃d,jN t=some d/\d<=200:=by
 obtain⟨n,hn⟩:=M0 t;have hil:t.aN.length<=1:=by rcases h.inner with e|⟨x,_,_,e⟩<;>rw[e]<;>simp
 have hlen:=h.len;unfold jN;rw[hn];show∃d,jX (nP (n+1)) t=some d/\d<=200;rw[Xq (by omega),bL (by omega) (by omega)]
 rcases h.inner with e|⟨x,_,_,e⟩
 ·rw[e];exact⟨_,rfl,by simp;omega⟩
 ·rw[e,fb,size_leaf n 1 [x]];have h1:aB .i64 (([x]:List Int).length:Nat) (0:Nat)=1:=rfl;rw[h1];refine⟨_,rfl,?_⟩;simp only[QE,QZ];rw[bL (by omega) (by omega)]
  omega
theorem eK{t:aj}(h:fu t):cj t=some 0:=by
 obtain⟨d,h1,h2⟩:=O6 h;obtain⟨z,h3,h4⟩:=Sd h;obtain⟨n,hn⟩:=M0 t;have hil:t.aN.length<=1:=by rcases h.inner with e|⟨x,_,_,e⟩<;>rw[e]<;>simp
 have hlen:=h.len
 have h5:kM t=some 0:=by
  unfold kM;rw[hn];show hY (ff (n+1)) t=some 0;rw[JG (by omega) (by omega)]
  refine Oo h fun x hx0 hx1=> ?_
  show hY (ff n) ⟨1,[x],[]⟩=some 0;rw[JG (by simp) (by simp)]
  exact KW hx0 hx1
 have h6:¬4<d:=by omega
 have h7:¬200<z:=by omega
 simp[cj,h1,h3,h5,h6,h7]
theorem fB{t:aj}(h:fu t):di t=some 0:=by
 obtain⟨d,h1,h2⟩:=O6 h;obtain⟨z,h3,h4⟩:=Sd h;obtain⟨n,hn⟩:=M0 t;have hil:t.aN.length<=1:=by rcases h.inner with e|⟨x,_,_,e⟩<;>rw[e]<;>simp
 have hlen:=h.len
 have h5:rX t=some 0:=by
  unfold rX;rw[hn];show mK (oy (n+1)) t=some 0;rw[R7 (by omega) (by omega)]
  refine Oo h fun x hx0 hx1=> ?_
  show mK (oy n) ⟨1,[x],[]⟩=some 0;rw[R7 (by simp) (by simp)]
  exact KW hx0 hx1
 have h6:¬4<d:=by omega
 have h7:¬200<z:=by omega
 simp[di,Sq,Vd,h1,h3,h5,h6,h7]
end Go.Proofs.YtjbfdglebjnelaaGreat
namespace Go.Proofs.YtjbfdglebjnelaaGreat
open Go.TQ
structure lB (s:dm):Prop where
 len:s.L.length<=800
 lo:0<=s.At
 hi:s.At<=800
theorem ahq(l:List Int):Yd (Be l) fun s=>lB s:=by
 have h:dC (l.length:Int) 800=((min l.length 800:Nat):Int):=by unfold dC;split<;>omega
 have h2:cD 0 ((min l.length 800:Nat):Int) l.length=true:=by
  simp only[cD,Qm,Qi];omega
 unfold Be;rw[h,h2];refine Yd.some ⟨?_,by simp,by simp⟩
 simp only[QV,List.length_drop,List.length_take];omega
theorem aev(x n:Int)(hn:1<=n): -n<x.tmod n/\x.tmod n<n:=by
 have h2:=Int.emod_nonneg x (show n≠0 by omega)
 have h3:=Int.emod_lt_of_pos x (show 0<n by omega)
 rw[Int.tmod_eq_emod];split
 ·omega
 ·rw[Int.natAbs_of_nonneg (by omega)];omega
theorem qp{s:dm}(h:lB s){n:Int}(hn:n<=1000000000):Yd (cd s n) fun p=>lB p.2/\0<=p.1/\(1<=n->p.1<n)/\(n<1->p.1=0):=by
 unfold cd;simp only[aU];refine Yd.cond (fun h1=> ?_) (fun h1=> ?_)
 ·exact Yd.some ⟨h,by simp,fun _=>by simp;omega,fun _=>rfl⟩
 ·simp only[Qj,Int.not_le]at h1;refine Yd.cond (fun h2=> ?_) (fun h2=> ?_)
  ·simp only[Qi]at h2;exact Yd.some ⟨h,by simp,fun _=>by simp;omega,fun _=>rfl⟩
  ·simp only[Qj,Int.not_lt]at h2;obtain⟨hl,hlo,hhi⟩:=h;have e1:aB .i64 s.At 1=s.At+1:=bL (by omega) (by omega)
   have e2:da .i64 (s.At+1) 1=s.At:=by rw[pK (by omega) (by omega)];omega
   rw[e1,e2];have hlt:s.At.toNat<s.L.length:=by omega
   rw[ON _ hlo,Qv hlt,Qa,Qs (by omega),Qs (by omega)]
   have hb:=aev s.L[s.At.toNat] n h2;have e3:Zk .i64 s.L[s.At.toNat] n=s.L[s.At.toNat].tmod n:=rfl;rw[e3];generalize s.L[s.At.toNat].tmod n=y at hb;have e4:aB .i64 y n=y+n:=bL (by omega) (by omega)
   rw[e4];have h5:Zk .i64 (y+n) n=(y+n) % n:=Int.tmod_eq_emod_of_nonneg (by omega)
   rw[h5];exact Yd.some ⟨⟨hl,by simp;omega,by simp;omega⟩,Int.emod_nonneg _ (by omega),fun _=>Int.emod_lt_of_pos _ (by omega),fun _=>by omega⟩
theorem nN{s:dm}(h:lB s){a b:Int}(h1:0<=a)(h2:a<=b+1)(h3:b<=1000000):Yd (cP s a b) fun p=>lB p.2/\a<=p.1/\(a<=b->p.1<=b)/\(b<a->p.1=a):=by
 unfold cP;have e1:da .i64 b a=b - a:=pK (by omega) (by omega)
 have e2:aB .i64 (b - a) 1=b - a+1:=bL (by omega) (by omega)
 rw[e1,e2];refine(qp h (by omega)).bind fun p ⟨h4,h5,h6,h7⟩=> ?_
 have e3:aB .i64 a p.1=a+p.1:=by
  by_cases hq:b - a+1<1
  ·rw[h7 hq];exact bL (by omega) (by omega)
  ·have:=h6 (by omega);exact bL (by omega) (by omega)
 rw[e3];refine Yd.some ⟨h4,by simp;omega,fun hab=> ?_,fun hab=> ?_⟩
 ·have:=h6 (by omega)
  show a+p.1<=b;omega
 ·have:=h7 (by omega)
  show a+p.1=a;omega
theorem agd{s:dm}(h:lB s){l:List ByteArray}(h1:1<=l.length)(h2:l.length<=1000):Yd (sJ s l) fun p=>lB p.2/\p.1∈l:=by
 unfold sJ;refine(qp h (by omega)).bind fun p ⟨h4,h5,h6,_⟩=> ?_
 have:=h6 (by omega)
 have hlt:p.1.toNat<l.length:=by omega
 rw[ON _ h5,Qv hlt];exact Yd.some ⟨h4,Q0 hlt⟩
def Le(v:ByteArray):Prop:=v∈[(ByteArray.mk #[97]),(ByteArray.mk #[98]),(ByteArray.mk #[99]),(ByteArray.mk #[97,97])]
theorem Le.size{v:ByteArray}(h:Le v):1<=v.size/\v.size<=2:=by
 simp only[Le,QA,QR,or_false]at h;rcases h with rfl|rfl|rfl|rfl<;>exact⟨by decide,by decide⟩
theorem Ge{s:dm}(h:lB s):Yd (jR s) fun p=>lB p.2/\Le p.1:=by
 unfold jR;exact(agd h (by simp) (by simp)).bind fun p hp=>Yd.some hp
theorem acf{s:dm}(h:lB s):Yd (qD s) fun p=>lB p.2/\1<=p.1.an/\p.1.an<=6/\Le p.1.Value:=by
 unfold qD;refine(nN h (by omega) (by omega) (by omega)).bind fun p ⟨h1,h2,h3,_⟩=> ?_
 refine(Ge h1).bind fun q ⟨h4,h5⟩=> ?_
 exact Yd.some ⟨h4,h2,h3 (by omega),h5⟩
theorem Gf{s:dm}(h:lB s){n:Nat}(hn1:1<=n)(hn:n<=10):Yd (jS s n) fun p=>lB p.2/\fu p.1/\(∀x∈p.1.ba,x<n)/\p.1.ba≠[]:=by
 unfold jS;simp only[aU]
 let I (i:Nat) (s:dm) (t:aj) (ns:List Int) (is:List aj):Prop:=lB s/\t.aL=0/\(∀x∈ns,0<=x/\x<i)/\ns.Nodup/\ns.length<=i/\is=[]
 suffices key:∀(k i:Nat) (s:dm) (t:aj) (ns:List Int) (is:List aj),i+k=n->I i s t ns is->Yd (aF _ ((i:Int),s,t,ns,is,())) _ from key n 0 s _ _ _ (by omega) ⟨h,rfl,by simp,by simp,by simp,rfl⟩
 intro k
 induction k with
 |zero=>
  intro i s t ns is hi ⟨h1,h2,h3,h4,h5,h6⟩;obtain rfl:i=n:=by omega
  subst h6;have hd:decide ((i:Int)<(i:Int))=false:=Qh (Int.lt_irrefl _);refine Yd.loop ?_;simp only[hd,Ql];refine Yd.inr ?_
  have fin:∀(s:dm) (ns:List Int) (is:List aj) (th:Int),lB s->(∀x∈ns,0<=x/\x<i)->ns.Nodup->ns.length<=10->ns≠[]->(is=[]\/∃x,0<=x/\x<10/\is=[⟨1,[x],[]⟩])->1<=th->th<=ns.length+is.length->
    lB s/\fu ⟨th,ns,is⟩/\(∀x∈ns,x<(i:Int))/\ns≠[]:=by
   intro s ns is th a1 a2 a3 a4 a5 a6 a7 a8;exact⟨a1,⟨fun x hx=>by have:=a2 x hx;exact⟨this.1,by omega⟩,a3,a4,a6,a7,a8⟩,fun x hx=>(a2 x hx).2,a5⟩
  have tail:∀(s:dm) (ns:List Int) (is:List aj),lB s->(∀x∈ns,0<=x/\x<i)->ns.Nodup->ns.length<=10->ns≠[]->(is=[]\/∃x,0<=x/\x<10/\is=[⟨1,[x],[]⟩])->
    Yd (Option.bind (cP s (Vo .i64 (aB .i64 (aB .i64 ((List.length ns:Nat):Int) ((List.length is:Nat):Int)) (1:Int)) (2:Int)) (aB .i64 ((List.length ns:Nat):Int) ((List.length is:Nat):Int))) fun p9=>
     Option.bind (cd p9.2 (6:Int)) fun p12=>
     bif (decide (p12.1=(5:Int)))then some ((aj.mk (1:Int) ns is),p12.2)else some ((aj.mk p9.1 ns is),p12.2)) fun p=>lB p.2/\fu p.1/\(∀x∈p.1.ba,x<(i:Int))/\p.1.ba≠[]:=by
   intro s ns is a1 a2 a3 a4 a5 a6;have hp:1<=ns.length:=by cases ns with|nil=>exact absurd rfl a5|cons x l=>simp
   have hil:is.length<=1:=by rcases a6 with e|⟨x,_,_,e⟩<;>rw[e]<;>simp
   have e1:aB .i64 ((List.length ns:Nat):Int) ((List.length is:Nat):Int)=ns.length+is.length:=bL (by omega) (by omega)
   have e2:aB .i64 ((ns.length:Int)+is.length) 1=ns.length+is.length+1:=bL (by omega) (by omega)
   have e3:Vo .i64 ((ns.length:Int)+is.length+1) 2=(ns.length+is.length+1) / 2:=by
    show IntKind.i64.wrap (Int.tdiv _ _)=_;rw[Int.tdiv_eq_ediv_of_nonneg (by omega)]
    exact wrap64 (by omega) (by omega)
   rw[e1,e2,e3];refine(nN a1 (by omega) (by omega) (by omega)).bind fun p ⟨b1,b2,b3,_⟩=> ?_
   refine(qp b1 (by omega)).bind fun q ⟨c1,_⟩=> ?_
   have b4:=b3 (by omega)
   refine Yd.cond (fun _=>Yd.some (fin q.2 ns is 1 c1 a2 a3 a4 a5 a6 (by omega) (by omega))) (fun _=>Yd.some (fin q.2 ns is p.1 c1 a2 a3 a4 a5 a6 (by omega) (by omega)))
  have mid:∀(s:dm) (ns:List Int),lB s->(∀x∈ns,0<=x/\x<i)->ns.Nodup->ns.length<=10->ns≠[]->
    Yd (Option.bind (cd s (4:Int)) fun p13=>
     bif (decide (p13.1=(3:Int)))then
     Option.bind (cd p13.2 (i:Int)) fun p14=>
     bif bc 56 (List.length ([]:List aj)+List.length [(aj.mk (1:Int) [p14.1] ([]:List aj))])then
     (Option.bind (cP p14.2 (Vo .i64 (aB .i64 (aB .i64 ((List.length ns:Nat):Int) ((List.length (([]:List aj)++[(aj.mk (1:Int) [p14.1] ([]:List aj))]):Nat):Int)) (1:Int)) (2:Int)) (aB .i64 ((List.length ns:Nat):Int) ((List.length (([]:List aj)++[(aj.mk (1:Int) [p14.1] ([]:List aj))]):Nat):Int))) fun p9=>
     Option.bind (cd p9.2 (6:Int)) fun p12=>
     bif (decide (p12.1=(5:Int)))then some ((aj.mk (1:Int) ns (([]:List aj)++[(aj.mk (1:Int) [p14.1] ([]:List aj))])),p12.2)else some ((aj.mk p9.1 ns (([]:List aj)++[(aj.mk (1:Int) [p14.1] ([]:List aj))])),p12.2))
     else none
     else
     (Option.bind (cP p13.2 (Vo .i64 (aB .i64 (aB .i64 ((List.length ns:Nat):Int) ((List.length ([]:List aj):Nat):Int)) (1:Int)) (2:Int)) (aB .i64 ((List.length ns:Nat):Int) ((List.length ([]:List aj):Nat):Int))) fun p9=>
     Option.bind (cd p9.2 (6:Int)) fun p12=>
     bif (decide (p12.1=(5:Int)))then some ((aj.mk (1:Int) ns []),p12.2)else some ((aj.mk p9.1 ns []),p12.2))) fun p=>lB p.2/\fu p.1/\(∀x∈p.1.ba,x<(i:Int))/\p.1.ba≠[]:=by
   intro s ns a1 a2 a3 a4 a5;refine(qp a1 (by omega)).bind fun p ⟨b1,b2,b3,_⟩=> ?_
   refine Yd.cond (fun _=> ?_) (fun _=> ?_)
   ·refine(qp b1 (by omega)).bind fun q ⟨c1,c2,c3,_⟩=> ?_
    have c4:=c3 (by omega)
    rw[bu (by simp)]
    exact tail q.2 ns _ c1 a2 a3 a4 a5 (.inr ⟨q.1,c2,by omega,rfl⟩)
   ·exact tail p.2 ns [] b1 a2 a3 a4 a5 (.inl rfl)
  refine Yd.cond (fun hz=> ?_) (fun hz=> ?_)
  ·refine(qp h1 (by omega)).bind fun p ⟨b1,b2,b3,_⟩=> ?_
   have b4:=b3 (by omega)
   exact mid p.2 [p.1] b1 (by simp;omega) (by simp) (by simp) (by simp)
  ·have hne:ns≠[]:=by
    intro e;subst e;simp at hz
   exact mid s ns h1 h3 h4 (by omega) hne
 |succ k ih=>
  intro i s t ns is hi ⟨h1,h2,h3,h4,h5,h6⟩;have hd:decide ((i:Int)<(n:Int))=true:=Qg (by omega)
  have hw:aB .i64 (i:Int) 1=((i+1:Nat):Int):=bL (by omega) (by omega)
  refine Yd.loop ?_;simp only[hd,Qk,hw];refine(qp h1 (by omega)).bind fun p ⟨b1,b2,b3,_⟩=> ?_
  refine Yd.cond (fun _=> ?_) (fun _=> ?_)
  ·rw[bu (by simp;omega)]
   refine Yd.some (ih (i+1) p.2 _ _ _ (by omega) ⟨b1,h2,?_,?_,by simp;omega,h6⟩)
   ·intro x hx;rcases Qz.1 hx with hx|hx
    ·have:=h3 x hx;omega
    ·simp at hx;omega
   ·refine List.nodup_append.2 ⟨h4,by simp,?_⟩
    intro x hx y hy;simp at hy;have:=h3 x hx;omega
  ·refine Yd.some (ih (i+1) p.2 _ _ _ (by omega) ⟨b1,h2,?_,h4,by omega,h6⟩)
   intro x hx;have:=h3 x hx;omega
end Go.Proofs.YtjbfdglebjnelaaGreat
namespace Go.Proofs.YtjbfdglebjnelaaGreat
open Go.TQ
def at_(e:al)(n:Int):ab:=⟨n,e.af.Value⟩
def Bg(e:al):Bool:=aG e.az||(!aG e.ao&&bs e.az e.ao&& !bM e.az e.ao)
def gw(e:al):Bool:=
 finite e.af&&(aG e.ao||cF e.ao)&&(aG e.az||cF e.az)&&Bg e&&decide (0<=e.aQ)&&decide (e.aQ<=e.bb)&&decide (e.bb<=e.af.an)
  &&(decide (e.bb=0)||dL e.ao e.az (at_ e e.bb))&&(decide (e.aQ=0)||(!ea e.ao (at_ e e.aQ)&& !ea e.az (at_ e e.aQ)))
def rK(e:al):Bool:=decide (1<=e.aQ)&&decide (e.aQ<=e.bb)&&decide (e.bb<=1000)
def tr(e:al):Bool:=finite e.af&&cF e.ao&&bM e.ao e.af&&aG e.az&&rK e&&decide (e.bb<=e.ao.an)
def zz(e:al):Bool:=cF e.af&&aG e.ao&&aG e.az&&rK e
def xN(e:al):Bool:=decide (0<=e.au)&&decide (e.au<10)&&decide (1<=e.aT)&&decide (e.aT<=1000000)&&decide (1<=e.aI)&&decide (e.aI<=1000000)
def gu(tv:Int)(e:al):Bool:=
 xN e&&decide (tv=0)&&(if e.bD=1 then gw e else if e.bD=2 then tr e else if e.bD=3 then zz e else false)
theorem dlt(a b:Int):decide (a<b)= !decide (b<=a):=by by_cases h:a<b<;>simp[h]<;>omega
theorem Uo(e:al):nn e=some (gw e):=by
 unfold nn gw Bg at_
 simp only[cJ,jj,fj,ER,CC,AN,su,qJ,Qa,ky,aU,dlt,EJ];cases finite e.af<;>cases (aG e.ao||cF e.ao)<;>cases (aG e.az||cF e.az)<;>simp
 by_cases h:e.bb=0<;>simp[h,Bool.and_assoc]
theorem ym{e:al}{tv:Int}(hT:cj e.aa=some tv):dW e=some (gu tv e):=by
 unfold dW gu xN;simp[Uo,hT,dlt,tr,zz,rK]
 grind
theorem rB{e:al}{tv:Int}(hT:di e.aa=some tv):cY e=some (gu tv e):=by
 unfold cY gu xN;simp[hT,dlt,tr,zz,rK,gw,finite,Bg,at_]
 have h9:decide (e.au<=9)= !decide (10<=e.au):=by by_cases h:e.au<=9<;>simp[h]<;>omega
 rw[h9];generalize (decide (0<=e.au)&& !decide (10<=e.au)&&decide (1<=e.aT)&&decide (e.aT<=1000000)&&decide (1<=e.aI)&&decide (e.aI<=1000000)&&decide (tv=0))=hd
 by_cases k1:e.bD=1
 ·simp only[k1,decide_true,Qk,Qt]
  by_cases hl:0<=e.aQ
  ·by_cases hh:e.aQ<=e.bb
   ·have:decide (e.bb<=0)=decide (e.bb=0):=by rw[decide_eq_decide];omega
    rw[this]
    grind
   ·simp[hh]
  ·simp[hl]
 ·by_cases k2:e.bD=2
  ·simp only[k2,decide_true,Qk,Qt]
   grind
  ·simp only[k1,k2,decide_false,Ql,Qu]
   grind
def Jr(e:al)(v:ByteArray)(lo hi:Int):Bool:=decide (1<=lo)&&decide (lo<=hi)&&decide (e.af.Value=v)&&decide (e.aQ<=lo)
def rI(e:al)(v:ByteArray)(lo hi:Int):Bool:=Jr e v lo hi&&(!decide (e.bD=1)||(!decide (e.aQ=0)&&decide (hi<=e.bb)))
def fh(e:al)(v:ByteArray)(lo hi:Int):Bool:=Jr e v lo hi&&(decide (e.bD=3)||(decide (e.bD=2)&&decide (hi<=e.bb)))
def oC(e:al)(b:ab):Bool:= !aG b&&(if e.bD=1 then iY e.af b else bM e.af b)
def de(e:al)(b:ab):Bool:= !aG b&&(if e.bD=1 then dL e.ao e.az b else if e.bD=2 then iY e.ao b else bM e.af b)
def dY(e:al):Int:=if e.bD=3 then 1000000 else e.af.an
@[simp] theorem DP (r:bE) (v:ByteArray) (lo hi:Int):iA r v lo hi=some (rI r.aw v lo hi):=by
 simp[iA,jF,rI,Jr]
@[simp] theorem tK (r:bE) (v:ByteArray) (lo hi:Int):gN r v lo hi=some (fh r.aw v lo hi):=by
 simp[gN,jF,fh,Jr]
@[simp] theorem CD (r:bE) (b:ab):iu r b=some (oC r.aw b):=by
 simp only[iu,oC];cases hz:aG b<;>by_cases h:r.aw.bD=1<;>simp[h,hz]
@[simp] theorem sM (r:bE) (b:ab):gH r b=some (de r.aw b):=by
 simp only[gH,de];cases hz:aG b<;>by_cases h:r.aw.bD=1<;>by_cases h2:r.aw.bD=2<;>simp[h,h2,hz]
@[simp] theorem adM (r:bE):k7 r=some (dY r.aw):=by
 simp[k7,dY,EK,BY]
section
variable {e : al} {tv : Int} (hT : cj e.aa = some tv)
 include hT
theorem Xm:jv e=some (if gu tv e then dY e else 0):=by
 simp only[jv,aj.eta,al.eta,ym hT,Qa];cases gu tv e<;>simp
end
def uB(n:Nat):List Int:=(List.range n).map fun i:Nat=>(i:Int)
theorem UK(n:Nat):uB (n+1)=uB n++[(n:Int)]:=by simp[uB,List.range_succ]
@[simp] theorem ahD (n:Nat):(uB n).length=n:=by simp[uB]
theorem agf(n:Nat)(hn:n<=1000)(k:Int):vr n k=some ⟨k,uB n,[]⟩:=by
 unfold vr
 suffices key:∀(m i:Nat) (t:aj),i+m=n->t.aL=k->t.aN=[]->aF (fun(v1:Int×aj×(List Int)×Unit)=>
   bif (decide (v1.1<(n:Int)))then
   bif bc 8 (List.length v1.2.2.1+List.length [v1.1])then
   some (Sum.inl ((aB .i64 v1.1 (1:Int)),(aj.mk v1.2.1.aL ([]:List Int) v1.2.1.aN),(v1.2.2.1++[v1.1]),()))
   else none
   else
   Option.map Sum.inr (some (aj.mk v1.2.1.aL v1.2.2.1 v1.2.1.aN))) ((i:Int),t,uB i,())=some ⟨k,uB n,[]⟩from key n 0 _ (by omega) rfl rfl
 intro m
 induction m with
 |zero=>
  intro i t hi h1 h2;obtain rfl:i=n:=by omega
  refine bJ ?_;have hd:decide ((i:Int)<(i:Int))=false:=Qh (Int.lt_irrefl _);simp only[hd,Ql,h1,h2,Qe]
 |succ m ih=>
  intro i t hi h1 h2;have hd:decide ((i:Int)<(n:Int))=true:=Qg (by omega)
  have hw:aB .i64 (i:Int) 1=((i+1:Nat):Int):=bL (by omega) (by omega)
  rw[bz (s':=(((i+1:Nat):Int),⟨t.aL,[],t.aN⟩,uB (i+1),()))]
  ·exact ih (i+1) _ (by omega) h1 h2
  ·simp only[hd,hw,Qk];rw[bu (by simp;omega)]
   simp[UK]
theorem abE(n:Nat)(hn:n<=10)(k:Int)(h1:1<=k)(h2:k<=n):fu ⟨k,uB n,[]⟩:=by
 refine⟨fun x hx=> ?_,?_,by simpa using hn,.inl rfl,h1,by simpa using h2⟩
 ·simp only[uB,QP,List.mem_range]at hx;obtain⟨i,hi,rfl⟩:=hx;omega
 ·show(uB n).Nodup;exact List.Pairwise.map _ (fun a b h e=>h (by omega)) List.nodup_range
structure PA (aC bq n:Int) (e:al):Prop where
 aC:e.au=aC
 bq:e.aT=bq
 seq:1<=e.aI/\e.aI<=9
 aO:fu e.aa
 nodes:∀x∈e.aa.ba,x<n
 ne:e.aa.ba≠[]
 val:Le e.af.Value
 valid:gu 0 e=true
theorem Hd{b:ab}(h1:1<=b.an)(h2:b.an<=1000)(h3:Le b.Value):cF b=true:=by
 have:=h3.size;have h4:b.Value.size<=200:=by omega
 simp[cF,h1,h2,h4,this.1]
theorem X3{s:dm}(h:lB s){aC bq:Int}(hn0:0<=aC)(hn1:aC<10)(hs0:1<=bq)(hs1:bq<=1000000){n:Nat}(hn2:1<=n)(hn:n<=10):
  Yd (n9 s aC bq n) fun p=>lB p.2/\PA aC bq n p.1:=by
 unfold n9;refine(nN h (by omega) (by omega) (by omega)).bind fun p1 ⟨a1,a2,a3,_⟩=> ?_
 have a4:=a3 (by omega)
 refine(Gf a1 hn2 hn).bind fun p2 ⟨b1,b2,b3,b4⟩=> ?_
 refine(Ge b1).bind fun p3 ⟨c1,c2⟩=> ?_
 have c3:=c2.size;have hv:∀k:Int,1<=k->k<=1000->cF ⟨k,p3.1⟩=true:=fun k h1 h2=>Hd h1 h2 c2
 simp only[aj.eta,al.eta]
 have hd:∀e:al,e.au=aC->e.aT=bq->e.aI=p1.1->xN e=true:=by
  intro e h1 h2 h3;simp only[xN,h1,h2,h3,Qm,Qi];omega
 refine Yd.join (fun v=>lB v.1/\PA aC bq n v.2.1) (fun v hv=>Yd.some hv) fun j5 hj5=> ?_
 refine(qp c1 (by omega)).bind fun p6 ⟨d1,_⟩=> ?_
 refine Yd.join (fun v=>lB v.1/\v.2.1=al.mk aC bq p1.1 p2.1 0 ⟨0,eQ⟩ ⟨0,eQ⟩ ⟨0,eQ⟩ 0 0) (fun v ⟨hv1,hv2⟩=> ?_) fun j8 hj8=> ?_
 ·
  refine Yd.join (fun v=>lB v.1/\PA aC bq n v.2.1) (fun v hv=>hj5 _ hv) fun j10 hj10=> ?_
  refine(nN hv1 (by omega) (by omega) (by omega)).bind fun p11 ⟨e1,e2,e3,_⟩=> ?_
  have e4:=e3 (by omega)
  simp only[hv2];refine Yd.join (fun v=>lB v.1/\v.2.1.au=aC/\v.2.1.aT=bq/\v.2.1.aI=p1.1/\v.2.1.aa=p2.1/\v.2.1.bD=1/\v.2.1.af=⟨p11.1,p3.1⟩/\(aG v.2.1.ao=true\/cF v.2.1.ao=true)) (fun v ⟨f0,f1,f2,f3,f4,f5,f6,f7⟩=> ?_) fun j13 hj13=> ?_
  ·rw[f6];have g1:aB .i64 p11.1 1=p11.1+1:=bL (by omega) (by omega)
   simp only[g1];refine(qp f0 (by omega)).bind fun p14 ⟨k1,k2,k3,_⟩=> ?_
   have k4:=k3 (by omega)
   have g2:aB .i64 p14.1 1=p14.1+1:=bL (by omega) (by omega)
   simp only[g2];refine(qp k1 (by omega)).bind fun p15 ⟨l1,l2,l3,_⟩=> ?_
   have hTr:∀t,t=p2.1->di t=some 0:=fun t ht=>by rw[ht];exact fB b2
   have done:∀e:al,e.au=aC->e.aT=bq->e.aI=p1.1->e.aa=p2.1->e.af=⟨p11.1,p3.1⟩->gu 0 e=true->PA aC bq n e:=by
    intro e h1 h2 h3 h4 h5 h6;exact⟨h1,h2,by rw[h3];exact⟨a2,a4⟩,by rw[h4];exact b2,by rw[h4];exact b3,by rw[h4];exact b4,by rw[h5];exact c2,h6⟩
   refine Yd.join (fun w=>w.1.au=aC/\w.1.aT=bq/\w.1.aI=p1.1/\w.1.aa=p2.1/\w.1.bD=1/\w.1.af=⟨p11.1,p3.1⟩/\(aG w.1.ao=true\/cF w.1.ao=true)/\(gu 0 w.1=true\/w.1.aQ=0)) (fun w ⟨m1,m2,m3,m4,m5,m6,m7,m8⟩=> ?_) fun j17 hj17=> ?_
   ·refine Yd.join (fun w=>w.1.au=aC/\w.1.aT=bq/\w.1.aI=p1.1/\w.1.aa=p2.1/\w.1.bD=1/\w.1.af=⟨p11.1,p3.1⟩/\(aG w.1.ao=true\/cF w.1.ao=true)/\(gu 0 w.1=true\/w.1.aQ=0/\w.1.bb=0)) (fun w ⟨o1,o2,o3,o4,o5,o6,o7,o8⟩=> ?_) fun j19 hj19=> ?_
    ·rw[rB (hTr _ o4)];simp only[Qa,EJ];refine Yd.cond (fun hx=>hj10 _ ⟨l1,done _ o1 o2 o3 o4 o6 hx⟩) (fun hx=>hj10 _ ⟨l1,done _ o1 o2 o3 o4 o6 ?_⟩)
     rcases o8 with o8|⟨o8,o9⟩
     ·rw[o8]at hx;cases hx
     ·have q1:finite w.1.af=true:=by rw[o6];simp[finite,hv p11.1 e2 (by omega)];omega
      have q2:aG (ab.mk 0 (ByteArray.mk #[]))=true:=by decide+kernel
      have q3:(aG w.1.ao||cF w.1.ao)=true:=by simpa using o7
      have q4:=hd w.1 o1 o2 o3;have q5:0<=w.1.af.an:=by rw[o6];show 0<=p11.1;omega
      simp only[gu,xN,gw,Bg,o5,o8,o9,q1,q2,q3,Qt]at q4 ⊢;simp[q4,q5]
    ·rw[rB (hTr _ m4)];simp only[Qa,EJ];refine Yd.cond (fun hx=>hj19 _ ⟨m1,m2,m3,m4,m5,m6,m7,.inl hx⟩) (fun hx=>hj19 _ ⟨m1,m2,m3,m4,m5,m6,m7,.inr ⟨?_,rfl⟩⟩)
     rcases m8 with m8|m8
     ·rw[m8]at hx;cases hx
     ·exact m8
   ·rw[rB (e:=al.mk v.2.1.au v.2.1.aT v.2.1.aI v.2.1.aa v.2.1.bD ⟨p11.1,p3.1⟩ v.2.1.ao v.2.1.az p15.1 p14.1) (tv:=0) (hTr _ f4)];simp only[Qa,EJ];refine Yd.cond (fun hx=>hj17 _ ⟨f1,f2,f3,f4,f5,rfl,f7,.inl hx⟩) (fun hx=>hj17 _ ⟨f1,f2,f3,f4,f5,rfl,f7,.inr rfl⟩)
  ·refine(qp e1 (by omega)).bind fun p23 ⟨k1,_⟩=> ?_
   refine Yd.cond (fun _=> ?_) (fun _=> ?_)
   ·refine(acf k1).bind fun p24 ⟨l1,l2,l3,l4⟩=> ?_
    refine(qp l1 (by omega)).bind fun p25 ⟨m1,_⟩=> ?_
    have hvl:=Hd (b:=p24.1) l2 (by omega) l4
    refine Yd.cond (fun _=> ?_) (fun _=> ?_)
    ·refine(acf m1).bind fun p26 ⟨o1,_⟩=> ?_
     exact hj13 _ ⟨o1,rfl,rfl,rfl,rfl,rfl,rfl,.inr hvl⟩
    ·exact hj13 _ ⟨m1,rfl,rfl,rfl,rfl,rfl,rfl,.inr hvl⟩
   ·have z0:aG (ab.mk 0 eQ)=true:=by decide+kernel
    exact hj13 _ ⟨k1,rfl,rfl,rfl,rfl,rfl,rfl,.inl z0⟩
 ·have z0:aG (ab.mk 0 (ByteArray.mk #[]))=true:=by decide+kernel
  refine Yd.cond (fun _=> ?_) (fun _=> ?_)
  ·refine(nN d1 (by omega) (by omega) (by omega)).bind fun p27 ⟨e1,e2,e3,_⟩=> ?_
   refine(nN e1 (by omega) (by omega) (by omega)).bind fun p28 ⟨f1,f2,f3,_⟩=> ?_
   refine(qp f1 (by omega)).bind fun p29 ⟨k1,k2,k3,_⟩=> ?_
   refine(qp k1 (by omega)).bind fun p30 ⟨l1,l2,l3,_⟩=> ?_
   have e4:=e3 (by omega)
   have f4:=f3 (by omega)
   have k4:=k3 (by omega)
   have l4:=l3 (by omega)
   have g1:aB .i64 p28.1 p29.1=p28.1+p29.1:=bL (by omega) (by omega)
   have g2:aB .i64 (p28.1+p29.1) p30.1=p28.1+p29.1+p30.1:=bL (by omega) (by omega)
   simp only[g1,g2];refine hj5 _ ⟨l1,⟨rfl,rfl,⟨a2,a4⟩,b2,b3,b4,c2,?_⟩⟩;have q4:=hd ⟨aC,bq,p1.1,p2.1,2,⟨p27.1,p3.1⟩,⟨p28.1+p29.1+p30.1,p3.1⟩,⟨0,ByteArray.mk #[]⟩,p28.1,p28.1+p29.1⟩ rfl rfl rfl;have q5:=hv p27.1 e2 (by omega)
   have q6:=hv (p28.1+p29.1+p30.1) (by omega) (by omega)
   have r1:p27.1<=1000:=by omega
   have r2:p28.1<=p28.1+p29.1:=by omega
   have r3:p28.1+p29.1<=1000:=by omega
   have r4:p28.1+p29.1<=p28.1+p29.1+p30.1:=by omega
   simp[gu,q4,tr,finite,q5,q6,bM,z0,rK,r1,f2,r3,r4];omega
  ·refine Yd.cond (fun _=> ?_) (fun _=> ?_)
   ·refine(qp d1 (by omega)).bind fun p31 ⟨e1,_⟩=> ?_
    refine Yd.cond (fun _=> ?_) (fun _=>hj8 _ ⟨e1,rfl⟩)
    refine(nN e1 (by omega) (by omega) (by omega)).bind fun p32 ⟨f1,f2,f3,_⟩=> ?_
    refine(nN f1 (by omega) (by omega) (by omega)).bind fun p33 ⟨k1,k2,k3,_⟩=> ?_
    refine(qp k1 (by omega)).bind fun p34 ⟨l1,l2,l3,_⟩=> ?_
    have f4:=f3 (by omega)
    have k4:=k3 (by omega)
    have l4:=l3 (by omega)
    have g1:aB .i64 p33.1 p34.1=p33.1+p34.1:=bL (by omega) (by omega)
    simp only[g1];refine hj5 _ ⟨l1,⟨rfl,rfl,⟨a2,a4⟩,b2,b3,b4,c2,?_⟩⟩;have q4:=hd ⟨aC,bq,p1.1,p2.1,3,⟨p32.1,p3.1⟩,⟨0,ByteArray.mk #[]⟩,⟨0,ByteArray.mk #[]⟩,p33.1,p33.1+p34.1⟩ rfl rfl rfl;have q5:=hv p32.1 f2 (by omega)
    have r3:p33.1+p34.1<=1000:=by omega
    simp[gu,q4,zz,q5,z0,rK,k2,r3];omega
   ·exact hj8 _ ⟨d1,rfl⟩
end Go.Proofs.YtjbfdglebjnelaaGreat
namespace Go.Proofs.YtjbfdglebjnelaaGreat
open Go.TQ
inductive c5:aj->Prop where
 |mk (t:aj) (h1:t.ba.length<=1000000) (h2:t.aN.length<=1000000) (h3:∀u∈t.aN,c5 u):c5 t
theorem c5.nodes{t:aj}:c5 t->t.ba.length<=1000000| .mk _ h _ _=>h
theorem c5.len{t:aj}:c5 t->t.aN.length<=1000000| .mk _ _ h _=>h
theorem c5.inner{t:aj}:c5 t->∀u∈t.aN,c5 u| .mk _ _ _ h=>h
theorem pC{t u:aj}(h:u∈t.aN):SizeOf.sizeOf u<SizeOf.sizeOf t:=by
 have h1:=List.sizeOf_lt_of_mem h
 cases t with
 |mk th ns is=>
  simp only[aj.mk.sizeOf_spec]at h1 ⊢;omega
theorem fu.sm{t:aj}(h:fu t):c5 t:=by
 have:=h.len;refine .mk t (by omega) ?_ fun u hu=> ?_
 ·rcases h.inner with e|⟨x,_,_,e⟩<;>rw[e]<;>simp
 ·rcases h.inner with e|⟨x,_,_,e⟩
  ·rw[e]at hu;cases hu
  ·rw[e]at hu;simp only[List.mem_singleton]at hu;subst hu;exact .mk _ (by simp) (by simp) (by simp)
@[simp] theorem adt (l:List Int) (h:l.length<=1000000):jD l=some l:=by
 unfold jD;rw[bu (by simp;omega)]
 cases l with
 |nil=>simp
 |cons x l=>simp
theorem adK{n:Nat}:∀{t:aj},SizeOf.sizeOf t<n->c5 t->uu n (t,())=some t:=by
 induction n with
 |zero=>intro t h;omega
 |succ n ih=>
  intro t hs hm;show uA (uu n) t=some t;unfold uA;have hl:=hm.len;rw[adt _ hm.nodes,Qa]
  suffices key:∀(k i:Nat) (t':aj),i+k=t.aN.length->t'.aL=t.aL->t'.ba=t.ba->aF (fun(v2:Int×aj×(List aj)×Unit)=>
    bif (decide (v2.1<((List.length t.aN:Nat):Int)))then
    Option.bind (idx t.aN v2.1) fun x3=>
    Option.bind (uu n ((aj.mk x3.aL x3.ba x3.aN),())) fun r4=>
    bif bc 56 (List.length v2.2.2.1+List.length [(aj.mk r4.aL r4.ba r4.aN)])then
    some (Sum.inl ((aB .i64 v2.1 (1:Int)),(aj.mk v2.2.1.aL v2.2.1.ba ([]:List aj)),(v2.2.2.1++[(aj.mk r4.aL r4.ba r4.aN)]),()))
    else none
    else
    Option.map Sum.inr (some (aj.mk v2.2.1.aL v2.2.1.ba v2.2.2.1))) ((i:Int),t',t.aN.take i,())=some t by
   have:=key t.aN.length 0 ⟨t.aL,t.ba,[]⟩ (by omega) rfl rfl
   simpa using this
  intro k
  induction k with
  |zero=>
   intro i t' hi h1 h2;refine bJ ?_;have hd:decide ((i:Int)<((t.aN.length:Nat):Int))=false:=Qh (by omega)
   simp only[hd,Ql,Qe,h1,h2];rw[List.take_of_length_le (by omega),aj.eta]
  |succ k ihk=>
   intro i t' hi h1 h2;have hlt:i<t.aN.length:=by omega
   have hd:decide ((i:Int)<((t.aN.length:Nat):Int))=true:=Qg (by omega)
   have hx:idx t.aN (i:Int)=some t.aN[i]:=by rw[bA];exact Qv hlt
   have hw:aB .i64 (i:Int) 1=((i+1:Nat):Int):=bL (by omega) (by omega)
   have hmem:t.aN[i]∈t.aN:=Q0 hlt;have hr:=ih (t:=t.aN[i]) (by have:=pC hmem;omega) (hm.inner _ hmem)
   rw[bz (s':=(((i+1:Nat):Int),⟨t'.aL,t'.ba,[]⟩,t.aN.take (i+1),()))]
   ·exact ihk (i+1) _ (by omega) h1 h2
   ·simp only[hd,Qk,hx,hw,Qa,aj.eta,hr];rw[bu (by simp;omega),List.take_succ_eq_append_getElem hlt]
    rfl
@[simp] theorem tq {t:aj} (h:c5 t):iX t=some t:=adK (by omega) h
theorem zy{α σ ρ:Type}{g:α->σ->Option (σ⊕ρ)}{fin:σ->Option ρ}(hf:∀s,∃r,fin s=some r):∀(l:List α),(∀x∈l,∀s,∃y,g x s=some y)->∀s,∃r,fb g fin l s=some r
 |[],_,s=>hf s
 |x::l,h,s=>by
  obtain⟨y,hy⟩:=h x (by simp) s
  rw[fb,hy]
  cases y with
  |inr r=>exact⟨r,rfl⟩
  |inl s'=>exact zy hf l (fun x hx=>h x (by simp[hx])) s'
theorem K0{α σ ρ:Type}{g g':α->σ->Option (σ⊕ρ)}{fin:σ->Option ρ}:∀(l:List α),(∀x∈l,∀s,g x s=g' x s)->∀s,fb g fin l s=fb g' fin l s
 |[],_,s=>rfl
 |x::l,h,s=>by
  rw[fb,fb,h x (by simp) s]
  cases g' x s with
  |none=>rfl
  |some y=>
   cases y with
   |inr r=>rfl
   |inl s'=>exact K0 l (fun x hx=>h x (by simp[hx])) s'
theorem K7{n:Nat}:∀{t:aj},SizeOf.sizeOf t<n->c5 t->∃d,mR n (t,())=some d:=by
 induction n with
 |zero=>intro t h;omega
 |succ n ih=>
  intro t hs hm;show∃d,jk (mR n) t=some d;have hl:=hm.len;rw[R6 (by omega)]
  refine zy (fun s=>⟨_,rfl⟩) _ (fun u hu s=> ?_) _
  obtain⟨d,hd⟩:=ih (t:=u) (by have:=pC hu;omega) (hm.inner u hu)
  exact⟨_,by rw[hd];rfl⟩
theorem M8{n:Nat}:∀{t:aj},SizeOf.sizeOf t<n->c5 t->∃d,nP n (t,())=some d:=by
 induction n with
 |zero=>intro t h;omega
 |succ n ih=>
  intro t hs hm;show∃d,jX (nP n) t=some d;have hl:=hm.len;rw[Xq (by omega)]
  refine zy (fun s=>⟨_,rfl⟩) _ (fun u hu s=> ?_) _
  obtain⟨d,hd⟩:=ih (t:=u) (by have:=pC hu;omega) (hm.inner u hu)
  exact⟨_,by rw[hd];rfl⟩
theorem Ig{rec:aj->Option Int}{t:aj}(h:∀u∈t.aN,∃r,rec u=some r):∃r,qf rec t=some r:=by
 unfold qf;split
 ·exact⟨_,rfl⟩
 ·split
  ·exact⟨_,rfl⟩
  ·split
   ·refine zy (fun s=>⟨_,rfl⟩) _ (fun u hu s=> ?_) _
    obtain⟨r,hr⟩:=h u hu;exact⟨_,by rw[hr];rfl⟩
   ·exact⟨_,rfl⟩
theorem VO{rec rec':aj->Option Int}{t:aj}(h:∀u∈t.aN,rec u=rec' u):qf rec t=qf rec' t:=by
 unfold qf;rw[K0 _ fun u hu s=>by rw[h u hu]]
theorem XP{n:Nat}:∀{t:aj},SizeOf.sizeOf t<n->c5 t->∃d,ff n (t,())=some d/\oy n (t,())=some d:=by
 induction n with
 |zero=>intro t h;omega
 |succ n ih=>
  intro t hs hm;show∃d,hY (ff n) t=some d/\mK (oy n) t=some d;have hl:=hm.len;have hn:=hm.nodes;rw[JG (by omega) (by omega),R7 (by omega) (by omega)]
  have hih:∀u∈t.aN,∃r,ff n (u,())=some r/\oy n (u,())=some r:=fun u hu=>ih (t:=u) (by have:=pC hu;omega) (hm.inner u hu)
  obtain⟨r,hr⟩:=Ig (rec:=fun u=>ff n (u,())) (t:=t) fun u hu=>by obtain⟨r,h1,_⟩:=hih u hu;exact⟨r,h1⟩
  refine⟨r,hr,?_⟩;rw[<-hr];refine VO fun u hu=> ?_
  obtain⟨r,h1,h2⟩:=hih u hu;rw[h1,h2]
theorem afj{n:Nat}:∀{t:aj},SizeOf.sizeOf t<n->c5 t->∃d,ff n (t,())=some d:=by
 induction n with
 |zero=>intro t h;omega
 |succ n ih=>
  intro t hs hm;show∃d,hY (ff n) t=some d;have hl:=hm.len;have hn:=hm.nodes;rw[JG (by omega) (by omega)]
  exact Ig (rec:=fun u=>ff n (u,())) (t:=t) fun u hu=>ih (t:=u) (by have:=pC hu;omega) (hm.inner u hu)
theorem aer{t:aj}(h:c5 t):∃v,cj t=some v:=by
 obtain⟨d,hd⟩:∃d,je t=some d:=K7 (by omega) h
 obtain⟨z,hz⟩:∃z,jN t=some z:=M8 (by omega) h
 obtain⟨l,hl1⟩:∃l,kM t=some l:=afj (by omega) h
 simp[cj,hd,hz,hl1]
theorem Y7{t:aj}(h:c5 t):∃v,cj t=some v/\di t=some v:=by
 obtain⟨d,hd⟩:∃d,je t=some d:=K7 (by omega) h
 obtain⟨z,hz⟩:∃z,jN t=some z:=M8 (by omega) h
 obtain⟨l,hl1,hl2⟩:∃l,kM t=some l/\rX t=some l:=XP (by omega) h
 simp[cj,di,Sq,Vd,hd,hz,hl1,hl2]
 def EY(t:aj):Int:=(cj t).getD 1
theorem X6{t:aj}(h:c5 t):cj t=some (EY t):=by
 obtain⟨v,h1⟩:=aer h;rw[EY,h1];rfl
theorem Lj{t:aj}(h:c5 t):di t=some (EY t):=by
 obtain⟨v,h1,h2⟩:=Y7 h;rw[EY,h1,h2];rfl
theorem Sa{t:aj}(h:fu t):EY t=0:=by rw[EY,eK h];rfl
 def aW(e:al):Bool:=gu (EY e.aa) e
theorem wB{e:al}(h:c5 e.aa):dW e=some (aW e):=ym (X6 h)
theorem jl{e:al}(h:c5 e.aa):cY e=some (aW e):=rB (Lj h)
def kV(s:Nat)(x:Int):Bool:=ez x&&s.testBit x.toNat
theorem qY{s:Nat}(h:s<1024)(x:Int):xO s x=kV s x:=by
 have h1:decide (0<=(s:Int))=true:=Qg (by omega)
 have h2:decide ((s:Int)<1024)=true:=Qg (by omega)
 simp only[xO,kV,h1,h2,Bool.true_and,QV]
mutual
def ku(s:Nat):aj->Bool
 |⟨th,ns,is⟩=>decide (th<=((ns.countP (kV s)+vV s is:Nat):Int))
def vV(s:Nat):List aj->Nat
 |[]=>0
 |t::l=>(if ku s t then 1 else 0)+vV s l
end
theorem Jb(s:Nat)(t:aj):ku s t=decide (t.aL<=((t.ba.countP (kV s)+vV s t.aN:Nat):Int)):=by
 cases t;rw[ku]
theorem F6(s:Nat)(hs:s<1024)(fin:Int->Option Bool):∀(l:List Int) (n:Nat),n+l.length<=9000000->
  fb (fun x (m:Int)=>some (.inl (if xO s x then aB .i64 m 1 else m))) fin l n=fin ((n+l.countP (kV s):Nat):Int)
 |[],n,_=>by simp[fb]
 |x::l,n,h=>by
  simp at h;rw[fb,qY hs,List.countP_cons]
  cases hx:kV s x with
  |false=>
   simp only[Qq,Qu,Nat.add_zero];exact F6 s hs fin l n (by omega)
  |true=>
   simp only[Qt];rw[bL (by omega) (by omega)]
   rw[show(n:Int)+1=((n+1:Nat):Int)by omega,F6 s hs fin l (n+1) (by omega)]
   congr 2;omega
theorem Lo(s:Nat)(rec:aj->Option Bool)(fin:Int->Option Bool):∀(l:List aj) (n:Nat),n+l.length<=9000000->(∀u∈l,rec u=some (ku s u))->
  fb (fun u (m:Int)=>(rec u).map fun r=> .inl (if r then aB .i64 m 1 else m)) fin l n=fin ((n+vV s l:Nat):Int)
 |[],n,_,_=>by simp[fb,vV]
 |u::l,n,h,hr=>by
  simp at h;rw[fb,hr u (by simp),vV]
  cases hx:ku s u with
  |false=>
   simp only[Qe,Qq,Qu,Nat.zero_add];exact Lo s rec fin l n (by omega) fun u hu=>hr u (by simp[hu])
  |true=>
   simp only[Qe,Qt];rw[bL (by omega) (by omega)]
   rw[show(n:Int)+1=((n+1:Nat):Int)by omega,Lo s rec fin l (n+1) (by omega) fun u hu=>hr u (by simp[hu])]
   congr 2;omega
theorem aiy{rec:(aj×Int×Unit)->Option Bool}{t:aj}{s:Nat}(hs:s<1024)(hm:c5 t)(hr:∀u∈t.aN,rec (u,(s:Int),())=some (ku s u)):fX rec t s=some (ku s t):=by
 unfold fX;have hn:=hm.nodes;have hl:=hm.len;have hv:eW (s:Int)=some true:=by rw[JC];simp;omega
 rw[hv];simp only[Qa,Qo,Ql,aU];rw[gO t.ba (by omega) (fun i (m:Int)=>(m,i,())) (fun x (m:Int)=>some (.inl (if xO s x then aB .i64 m 1 else m))) (fun m=>fb (fun u (m:Int)=>(rec (u,(s:Int),())).map fun r=> .inl (if r then aB .i64 m 1 else m)) (fun m=>some (decide (t.aL<=m))) t.aN m) (fun i x m hd hx hw=> ?_) (fun m hd=> ?_) 0]
 ·rw[show(0:Int)=((0:Nat):Int)from rfl,F6 s hs _ t.ba 0 (by omega)]
  rw[Lo s (fun u=>rec (u,(s:Int),())) _ t.aN _ (by have:=List.countP_le_length (p:=kV s) (l:=t.ba);omega) hr,Jb]
  simp
 ·simp only[hd,hx,hw,Qk,Qa,lA];cases xO s x<;>rfl
 ·simp only[hd,Ql];rw[gO t.aN (by omega) (fun i (m:Int)=>(m,i,())) (fun u (m:Int)=>(rec (u,(s:Int),())).map fun r=> .inl (if r then aB .i64 m 1 else m)) (fun m=>some (decide (t.aL<=m))) (fun i x m hd hx hw=> ?_) (fun m hd=> ?_) m]
  ·simp only[hd,hx,hw,Qk,Qa,aj.eta]
   cases rec (x,(s:Int),())with
   |none=>rfl
   |some r=>cases r<;>rfl
  ·simp only[hd,Ql]
theorem aiu{s:Nat}(hs:s<1024){n:Nat}:∀{t:aj},SizeOf.sizeOf t<n->c5 t->mi n (t,(s:Int),())=some (ku s t):=by
 induction n with
 |zero=>intro t h;omega
 |succ n ih=>
  intro t hz hm;show fX (mi n) t s=some (ku s t);exact aiy hs hm fun u hu=>ih (t:=u) (by have:=pC hu;omega) (hm.inner u hu)
theorem Ce{s:Nat}(hs:s<1024){t:aj}(hm:c5 t):iz t s=some (ku s t):=aiu hs (by omega) hm
theorem Zr(t:aj)(s:Int):jf t s=iz t s:=by
 have hB:∀(rec:(aj×Int×Unit)->Option Bool) (t:aj) (s:Int),pY rec t s=fX rec t s:=by
  intro rec t s;unfold pY fX
  have hv:eV s=eW s:=by
   rw[JC];unfold eV;simp;congr 1;rw[decide_eq_decide];omega
  simp only[hv,qB,lA]
 unfold jf iz AI mi;congr 1;congr 1
 funext rec a
 exact hB rec a.1 a.2.1
theorem Gp{s:Nat}(hs:s<1024){t:aj}(hm:c5 t):jf t s=some (ku s t):=by rw[Zr];exact Ce hs hm
theorem S6{s s':Nat}(h:∀k,s.testBit k=true->s'.testBit k=true)(x:Int)(hx:kV s x=true):kV s' x=true:=by
 simp only[kV,Qm]at hx ⊢;exact⟨hx.1,h _ hx.2⟩
mutual
theorem Sh{s s':Nat}(h:∀k,s.testBit k=true->s'.testBit k=true):∀(t:aj),ku s t=true->ku s' t=true
 |⟨th,ns,is⟩,ht=>by
  rw[ku,Qi]at ht ⊢;have h1:=Si h is;have h2:ns.countP (kV s)<=ns.countP (kV s'):=List.countP_mono_left fun x _ hx=>S6 h x hx
  omega
theorem Si{s s':Nat}(h:∀k,s.testBit k=true->s'.testBit k=true):∀(l:List aj),vV s l<=vV s' l
 |[]=>by simp[vV]
 |t::l=>by
  have h1:=Si h l;have h2:=Sh h t;rw[vV,vV]
  cases hs:ku s t with
  |false=>simp;omega
  |true=>rw[h2 hs];simp;omega
end
end Go.Proofs.YtjbfdglebjnelaaGreat
namespace Go.Proofs.YtjbfdglebjnelaaGreat
open Go.TQ
theorem aeE(s:Int):eV s=some (decide (0<=s)&&decide (s<1024)):=by
 unfold eV;simp;congr 1;rw[decide_eq_decide];omega
theorem AO{s:Nat}(h:s<1024):eW (s:Int)=some true:=by rw[JC];simp;omega
theorem u7{s:Nat}(h:s<1024):eV (s:Int)=some true:=by rw[aeE];simp;omega
theorem Lc(a b:Nat)(ha:a<2 ^ 62)(hb:b<2 ^ 62):∃c:Nat,y9 .i64 (a:Int) (b:Int)=(c:Int)/\c<=a/\∀k,c.testBit k=(a.testBit k&& !b.testBit k):=by
 refine⟨((BitVec.ofInt 64 (a:Int)&&& ~~~ BitVec.ofInt 64 (b:Int)).toNat),?_,?_,fun k=> ?_⟩
 ·have hle:(BitVec.ofInt 64 (a:Int)&&& ~~~ BitVec.ofInt 64 (b:Int)).toNat<=a:=by
   rw[BitVec.toNat_and,s7 a ha];exact Nat.and_le_left
  show IntKind.i64.wrap (((BitVec.ofInt 64 (a:Int)&&& ~~~ BitVec.ofInt 64 (b:Int)).toNat:Nat):Int)=_;exact ET _ (by omega)
 ·rw[BitVec.toNat_and,s7 a ha];exact Nat.and_le_left
 ·have h1:∀i (x:Nat),x<2 ^ 62->(BitVec.ofInt 64 (x:Int)).getLsbD i=x.testBit i:=by
   intro i x hx;rw[<-BitVec.testBit_toNat,s7 x hx]
  rw[BitVec.testBit_toNat,BitVec.getLsbD_and,BitVec.getLsbD_not,h1 k a ha,h1 k b hb]
  by_cases hk:k<64
  ·simp[hk]
  ·have:a.testBit k=false:=Nat.testBit_lt_two_pow (QJ ha (Nat.pow_le_pow_right (by omega) (by omega)))
   simp[this]
theorem Bk{a b:Nat}(h:∀k,a.testBit k=b.testBit k):a=b:=Nat.eq_of_testBit_eq h
theorem Pe{s k:Nat}(hs:s<1024)(hk:s.testBit k=true):k<10:=by
 rcases Nat.lt_or_ge k 10 with h|h
 ·exact h
 ·have:s.testBit k=false:=Nat.testBit_lt_two_pow (QJ hs (show 2 ^ 10<=2 ^ k from Nat.pow_le_pow_right (by omega) h))
  rw[this]at hk;cases hk
theorem Ek{s:Nat}(h:∀k,s.testBit k=true->k<10):s<1024:=by
 rcases Nat.lt_or_ge s 1024 with h1|h1
 ·exact h1
 ·obtain⟨k,hk1,hk2⟩:=Nat.exists_ge_and_testBit_of_ge_two_pow (n:=10) h1;have:=h k hk2;omega
theorem ti(s k:Nat):kV s (k:Int)=(decide (k<10)&&s.testBit k):=by
 have h1:decide ((k:Int)<10)=decide (k<10):=by rw[decide_eq_decide];omega
 have h2:decide (0<=(k:Int))=true:=Qg (by omega)
 simp only[kV,ez,h1,h2,Bool.true_and,QV]
def F3(i:Nat)(s:Nat):List aR->Nat
 |[]=>s
 |m::l=>F3 (i+1) (if m.dG&&decide (i<10)then s|||2 ^ i else s) l
def jm(l:List aR):Nat:=F3 0 0 l
theorem Th:∀(l:List aR) (i s k:Nat),(F3 i s l).testBit k=(s.testBit k||(decide (i<=k)&&decide (k<10)&&((l[k - i]?).any (·.dG))))
 |[],i,s,k=>by simp[F3]
 |m::l,i,s,k=>by
  rw[F3,Th l (i+1)]
  by_cases hk:k=i
  ·subst hk;have h1:¬(k+1<=k):=by omega
   cases hm:m.dG<;>by_cases hi:k<10<;>simp[hm,hi,h1,Nat.testBit_or]
  ·have h2:i<=k↔i+1<=k:=by omega
   have h3:∀b:Bool,(if(b&&decide (i<10))=true then s|||2 ^ i else s).testBit k=s.testBit k:=by
    intro b;split
    ·rw[Nat.testBit_or,Nat.testBit_two_pow];have:¬i=k:=fun e=>hk e.symm
     simp[this]
    ·rfl
   rw[h3]
   by_cases hik:i+1<=k
   ·have h4:(m::l)[k - i]?=l[k - (i+1)]?:=by
     rw[show k - i=(k - (i+1))+1 by omega,List.getElem?_cons_succ]
    rw[h4];have:i<=k:=by omega
    simp[this,hik]
   ·have:¬i<=k:=by omega
    simp[this,hik]
theorem II(l:List aR)(k:Nat):(jm l).testBit k=(decide (k<10)&&((l[k]?).any (·.dG))):=by
 rw[jm,Th];simp
theorem B4(l:List aR):jm l<1024:=Ek fun k hk=>by
 rw[II]at hk;simp at hk;exact hk.1
theorem Tg(step:(Int×Int×Unit)->Option ((Int×Int×Unit)⊕Int))(l:List aR)
  (h1:∀(i:Nat) (m:aR) (s:Nat),l[i]?=some m->s<1024->step ((s:Int),(i:Int),())=some (.inl (((if m.dG&&decide (i<10)then s|||2 ^ i else s:Nat):Int),((i+1:Nat):Int),())))
  (h2:∀s:Int,step (s,(l.length:Int),())=some (.inr s)):aF step (0,0,())=some ((jm l:Nat):Int):=by
 suffices key:∀(k i s:Nat),i+k=l.length->s<1024->aF step ((s:Int),(i:Int),())=some ((F3 i s (l.drop i):Nat):Int)by
  have:=key l.length 0 0 (by omega) (by omega)
  simpa[jm]using this
 intro k
 induction k with
 |zero=>
  intro i s hi hs;obtain rfl:i=l.length:=by omega
  rw[bJ (h2 s),List.drop_length];rfl
 |succ k ih=>
  intro i s hi hs;have hlt:i<l.length:=by omega
  rw[QM hlt,F3,bz (h1 i l[i] s (Qv hlt) hs)];refine ih (i+1) _ (by omega) ?_
  split
  ·rename_i hc;simp only[Qm,Qi]at hc;have:=CM (x:=(i:Int)) hs (by omega)
   simpa using this
  ·exact hs
theorem Lh{c:aZ}(h:c.bl.length<=1000000):iK c=some ((jm c.bl:Nat):Int):=by
 unfold iK;refine Tg _ _ (fun i m s hm hs=> ?_) (fun s=> ?_)
 ·have hlt:i<c.bl.length:=(Qw.1 hm).1;have hd:decide ((i:Int)<((c.bl.length:Nat):Int))=true:=Qg (by omega)
  have hw:aB .i64 (i:Int) 1=((i+1:Nat):Int):=bL (by omega) (by omega)
  have hx:idx c.bl (i:Int)=some m:=by rw[bA];exact hm
  have h0:¬(i:Int)<0:=by omega
  simp only[hd,hx,hw,Qk,Qa,aU,h0,Qu]
  cases m.dG with
  |false=>simp
  |true=>
   by_cases h10:i<10
   ·have:(i:Int)<10:=by omega
    have ho:=qc (x:=(i:Int)) hs (by omega) (by omega)
    simp only[QV]at ho;simp[this,h10,ho]
   ·have:¬(i:Int)<10:=by omega
    simp[this,h10]
 ·have hd:decide (((c.bl.length:Nat):Int)<((c.bl.length:Nat):Int))=false:=Qh (Int.lt_irrefl _);simp only[hd,Ql,Qe]
theorem BE{c:aZ}(h:c.bl.length<=1000000):ly c=some ((jm c.bl:Nat):Int):=by
 unfold ly;refine Tg _ _ (fun i m s hm hs=> ?_) (fun s=> ?_)
 ·have hlt:i<c.bl.length:=(Qw.1 hm).1;have hd:decide ((i:Int)<((c.bl.length:Nat):Int))=true:=Qg (by omega)
  have hw:aB .i64 (i:Int) 1=((i+1:Nat):Int):=bL (by omega) (by omega)
  have hx:idx c.bl (i:Int)=some m:=by rw[bA];exact hm
  have h0:¬(i:Int)<0:=by omega
  simp only[hd,hx,hw,Qk,Qa,aU,h0,Qu]
  by_cases h10:i<10
  ·have:(i:Int)<10:=by omega
   have ho:=qc (x:=(i:Int)) hs (by omega) (by omega)
   simp only[QV]at ho;cases m.dG<;>simp[this,h10,ho]
  ·have:¬(i:Int)<10:=by omega
   cases m.dG<;>simp[this,h10]
 ·have hd:decide (((c.bl.length:Nat):Int)<((c.bl.length:Nat):Int))=false:=Qh (Int.lt_irrefl _);simp only[hd,Ql,Qe]
structure yC (c:aZ):Prop where
 len:c.bl.length<=1000000
 aO:∀m∈c.bl,c5 m.aa
def ll(l:List aR)(k:Nat):aj:=((l[k]?).map (·.aa)).getD ⟨0,[],[]⟩
def mQ(l:List aR)(k:Nat):Bool:=(jm l).testBit k
theorem xL{l:List aR}{k:Nat}(h:mQ l k=true):k<10/\∃m,l[k]?=some m/\m.dG=true:=by
 rw[mQ,II]at h;simp only[Qm,Qi,Option.any_eq_true]at h;obtain⟨h1,m,h2,h3⟩:=h;exact⟨h1,m,h2,h3⟩
theorem rY{l:List aR}{k:Nat}{m:aR}(h:l[k]?=some m):ll l k=m.aa:=by rw[ll,h];rfl
def yO(s v:Nat):Nat:=(1023^^^s)|||2 ^ v
def um(l:List aR)(v s:Nat):Bool:=mQ l v&& !ku (yO s v) (ll l v)
theorem adT(k:Nat):(1023:Nat).testBit k=decide (k<10):=by
 rw[show(1023:Nat)=2 ^ 10 - 1 from rfl,Nat.testBit_two_pow_sub_one]
theorem AX{s:Nat}(hs:s<1024)(v k:Nat):(yO s v).testBit k=(decide (k<10)&& !s.testBit k||decide (v=k)):=by
 rw[yO,Nat.testBit_or,Nat.testBit_xor,adT,Nat.testBit_two_pow]
 by_cases hk:k<10
 ·simp[hk]
 ·have:s.testBit k=false:=by
   cases h:s.testBit k with
   |false=>rfl
   |true=>exact absurd (Pe hs h) hk
  simp[hk,this]
theorem SQ{s v:Nat}(hs:s<1024)(hv:v<10):yO s v<1024:=Ek fun k hk=>by
 rw[AX hs]at hk;simp at hk;omega
theorem XK{s v:Nat}(hs:s<1024)(hv:v<10):oJ .i64 (y9 .i64 1023 (s:Int)) (bV .i64 1 (v:Int))=((yO s v:Nat):Int):=by
 obtain⟨c,h1,h2,h3⟩:=Lc 1023 s (by omega) (by omega)
 have h1':y9 .i64 1023 (s:Int)=(c:Int):=h1;rw[h1',vU v (by omega),Eh c (2 ^ v) (by omega) (Nat.pow_lt_pow_right (by omega) (by omega))]
 congr 1;refine Bk fun k=> ?_
 rw[AX hs,Nat.testBit_or,h3,adT,Nat.testBit_two_pow]
theorem ZJ{s v:Nat}(hs:s<1024)(hv:v<10):oJ .i64 (da .i64 1023 (s:Int)) (bV .i64 1 (v:Int))=((yO s v:Nat):Int):=by
 have h1:da .i64 1023 (s:Int)=((1023 - s:Nat):Int):=by rw[pK (by omega) (by omega)];omega
 rw[h1,vU v (by omega),Eh _ (2 ^ v) (by omega) (Nat.pow_lt_pow_right (by omega) (by omega))]
 congr 1;refine Bk fun k=> ?_
 rw[AX hs,Nat.testBit_or,Nat.testBit_two_pow]
 have h2:(1023 - s).testBit k=(decide (k<10)&& !s.testBit k):=by
  have:=Nat.testBit_two_pow_sub_succ (x:=s) (n:=10) (by omega) k
  rw[show 2 ^ 10 - (s+1)=1023 - s by omega]at this
  exact this
 rw[h2]
theorem Tu{c:aZ}(hc:yC c){v s:Nat}(hs:s<1024):mZ c v s=some (um c.bl v s):=by
 unfold mZ um;rw[AO hs,Lh hc.len];simp only[Qa,Qo,Ql,lA,qY (B4 _),ti]
 cases hd:mQ c.bl v with
 |false=>
  have:(decide (v<10)&&(jm c.bl).testBit v)=false:=by
   rw[show(jm c.bl).testBit v=mQ c.bl v from rfl,hd];simp
  simp[this]
 |true=>
  obtain⟨h10,m,hm,hdm⟩:=xL hd
  have:(decide (v<10)&&(jm c.bl).testBit v)=true:=by
   rw[show(jm c.bl).testBit v=mQ c.bl v from rfl,hd];simp[h10]
  rw[bA,hm,XK hs h10];have h0:¬(v:Int)<0:=by omega
  have hmem:m∈c.bl:=List.mem_of_getElem? hm;simp only[this,Qo,Ql,Qa,h0,Qu,aj.eta,Ce (SQ hs h10) (hc.aO m hmem),rY hm,Bool.true_and]
theorem NZ{c:aZ}(hc:yC c){v s:Nat}(hs:s<1024):nB c v s=some (um c.bl v s):=by
 unfold nB um;rw[u7 hs,BE hc.len];simp only[Qa,Qo,Ql,qB,qY (B4 _),ti]
 cases hd:mQ c.bl v with
 |false=>
  have:(decide (v<10)&&(jm c.bl).testBit v)=false:=by
   rw[show(jm c.bl).testBit v=mQ c.bl v from rfl,hd];simp
  simp[this]
 |true=>
  obtain⟨h10,m,hm,hdm⟩:=xL hd
  have:(decide (v<10)&&(jm c.bl).testBit v)=true:=by
   rw[show(jm c.bl).testBit v=mQ c.bl v from rfl,hd];simp[h10]
  rw[bA,hm,ZJ hs h10];have h0:¬(v:Int)<0:=by omega
  have hmem:m∈c.bl:=List.mem_of_getElem? hm;simp only[this,Qo,Ql,Qa,h0,Qu,aj.eta,Gp (SQ hs h10) (hc.aO m hmem),rY hm,Bool.true_and]
end Go.Proofs.YtjbfdglebjnelaaGreat
namespace Go.Proofs.YtjbfdglebjnelaaGreat
open Go.TQ
def oK(s:Nat):List Int:=(uB 10).filter (kV s)
theorem Rp{n:Nat}{x:Int}:x∈uB n↔∃k:Nat,k<n/\x=k:=by
 simp only[uB,QP,List.mem_range];exact⟨fun⟨k,h1,h2⟩=>⟨k,h1,h2.symm⟩,fun⟨k,h1,h2⟩=>⟨k,h1,h2.symm⟩⟩
theorem A0{s:Nat}{x:Int}:x∈oK s↔∃k:Nat,k<10/\x=k/\s.testBit k=true:=by
 rw[oK,List.mem_filter,Rp];constructor
 ·rintro⟨⟨k,h1,rfl⟩,h2⟩;rw[ti]at h2;simp at h2;exact⟨k,h1,rfl,h2.2⟩
 ·rintro⟨k,h1,rfl,h2⟩;exact⟨⟨k,h1,rfl⟩,by rw[ti];simp[h1,h2]⟩
theorem Og(step:(Int×List Int×Unit)->Option ((Int×List Int×Unit)⊕List Int))(s:Nat)
  (h1:∀(i:Nat) (acc:List Int),i<10->acc.length<=i->step ((i:Int),acc,())=some (.inl (((i+1:Nat):Int),(if kV s i then acc++[(i:Int)]else acc),())))
  (h2:∀acc,step (((10:Nat):Int),acc,())=some (.inr acc)):aF step (0,[],())=some (oK s):=by
 suffices key:∀(k i:Nat) (acc:List Int),i+k=10->acc=(uB i).filter (kV s)->aF step ((i:Int),acc,())=some (oK s)from key 10 0 [] rfl rfl
 intro k
 induction k with
 |zero=>
  intro i acc hi ha;obtain rfl:i=10:=by omega
  rw[bJ (h2 acc),ha];rfl
 |succ k ih=>
  intro i acc hi ha;have hlen:acc.length<=i:=by rw[ha];exact QK (List.length_filter_le _ _) (by simp)
  rw[bz (h1 i acc (by omega) hlen)]
  refine ih (i+1) _ (by omega) ?_
  rw[UK,List.filter_append,<-ha];cases hh:kV s i<;>simp[hh]
theorem Xi{s:Nat}(hs:s<1024):pd (s:Int)=some (oK s):=by
 unfold pd;refine Og _ s (fun i acc hi hl=> ?_) (fun acc=> ?_)
 ·have hd:decide ((i:Int)<10)=true:=Qg (by omega)
  have hw:aB .i64 (i:Int) 1=((i+1:Nat):Int):=bL (by omega) (by omega)
  simp only[hd,hw,Qk,aU,lA,qY hs,Qa];rw[bu (by simp;omega)]
  cases kV s i<;>simp
 ·rfl
theorem Ss{s:Nat}(hs:s<1024):oB (s:Int)=some (oK s):=by
 unfold oB;refine Og _ s (fun i acc hi hl=> ?_) (fun acc=> ?_)
 ·have hd:decide ((i:Int)<10)=true:=Qg (by omega)
  have hw:aB .i64 (i:Int) 1=((i+1:Nat):Int):=bL (by omega) (by omega)
  simp only[hd,hw,Qk,aU,qB,qY hs,Qa];rw[bu (by simp;omega)]
  cases kV s i<;>simp
 ·rfl
def EO(l:List aR)(s r:Nat):Prop:=∀k,r.testBit k=true->s.testBit k=true/\mQ l k=true/\ku r (ll l k)=true
structure zf (l:List aR) (s q:Nat):Prop where
 inside:EO l s q
 max:∀r,EO l s r->∀k,r.testBit k=true->q.testBit k=true
theorem zf.unique{l:List aR}{s q q':Nat}(h:zf l s q)(h':zf l s q'):q=q':=by
 refine Bk fun k=> ?_
 rw[QW];exact⟨h'.max q h.inside k,h.max q' h'.inside k⟩
theorem zf.lt{l:List aR}{s q:Nat}(h:zf l s q):q<1024:=Ek fun k hk=>(xL (h.inside k hk).2.1).1
def pr(l:List aR)(s:Nat):Option Int:=(oK s).find? fun x=> !ku s (ll l x.toNat)
theorem Gn{l:List aR}{s:Nat}{x:Int}(h:pr l s=some x):∃k:Nat,x=k/\k<10/\s.testBit k=true/\ku s (ll l k)=false:=by
 have h1:=List.mem_of_find?_eq_some h;have h2:=List.find?_some h;obtain⟨k,hk,rfl,hb⟩:=A0.1 h1;simp at h2;exact⟨k,rfl,hk,hb,h2⟩
theorem Tv{l:List aR}{s:Nat}(hs:s<1024)(h:pr l s=none):∀k,s.testBit k=true->ku s (ll l k)=true:=by
 intro k hk;have:=List.find?_eq_none.1 h (k:Int) (A0.2 ⟨k,Pe hs hk,rfl,hk⟩);simpa using this
theorem aex:∀s,s<1024->∀k,k<10->s.testBit k=true->s - 2 ^ k=s^^^2 ^ k:=by decide+kernel
theorem I9{s k:Nat}(hs:s<1024)(hk:s.testBit k=true):2 ^ k<=s/\∀j,(s - 2 ^ k).testBit j=(s.testBit j&& !decide (k=j)):=by
 have hle:2 ^ k<=s:=Nat.ge_two_pow_of_testBit hk;refine⟨hle,?_⟩;have hx:s - 2 ^ k=s^^^2 ^ k:=aex s hs k (Pe hs hk) hk;intro j;rw[hx,Nat.testBit_xor,Nat.testBit_two_pow]
 by_cases hj:k=j
 ·subst hj;simp[hk]
 ·simp[hj]
structure qK (l:List aR) (s0 s:Nat):Prop where
 lt:s<1024
 sub:∀k,s.testBit k=true->s0.testBit k=true/\mQ l k=true
 max:∀r,EO l s0 r->∀k,r.testBit k=true->s.testBit k=true
theorem qK.first(l:List aR){s:Nat}(hs:s<1024):qK l s (s&&&jm l):=by
 refine⟨Nat.lt_of_le_of_lt Nat.and_le_left hs,fun k hk=> ?_,fun r hr k hk=> ?_⟩
 ·rw[Nat.testBit_and,Qm]at hk;exact hk
 ·rw[Nat.testBit_and,Qm];exact⟨(hr k hk).1,(hr k hk).2.1⟩
theorem qK.next{l:List aR}{s0 s k:Nat}(h:qK l s0 s)(hk:s.testBit k=true)(hu:ku s (ll l k)=false):qK l s0 (s - 2 ^ k):=by
 obtain⟨h1,h2⟩:=I9 h.lt hk;refine⟨Nat.lt_of_le_of_lt (Nat.sub_le _ _) h.lt,fun j hj=> ?_,fun r hr j hj=> ?_⟩
 ·rw[h2]at hj;simp at hj;exact h.sub j hj.1
 ·rw[h2,h.max r hr j hj]
  have:k≠j:=by
   intro e;subst e;have:=Sh (fun i hi=>h.max r hr i hi) _ (hr k hj).2.2
   rw[hu]at this;cases this
  simp[this]
theorem qK.done{l:List aR}{s0 s:Nat}(h:qK l s0 s)(hn:pr l s=none):zf l s0 s:=
 ⟨fun k hk=>⟨(h.sub k hk).1,(h.sub k hk).2,Tv h.lt hn k hk⟩,h.max⟩
theorem Ta{l:List Int}{ρ:Type}{f:Int->Bool}{hit:Int->ρ}{fin:Unit->Option ρ}{g:Int->Unit->Option (Unit⊕ρ)}(hg:∀x∈l,∀s,g x s=some (if f x then .inr (hit x)else .inl ())):
  fb g fin l ()=match l.find? f with|some x=>some (hit x)|none=>fin ():=by
 induction l with
 |nil=>rfl
 |cons x l ih=>
  rw[fb,hg x (by simp),List.find?_cons]
  cases hx:f x with
  |true=>simp
  |false=>
   simp only[Qq,Qu];exact ih fun y hy=>hg y (by simp[hy])
theorem FE(s:Nat):(oK s).length<=10:=QK (List.length_filter_le _ _) (by simp)
theorem Y8{c:aZ}(hc:yC c){s:Nat}(hs:s<1024)(hsub:∀k,s.testBit k=true->mQ c.bl k=true):
  mX c s=some (match pr c.bl s with|some x=>(x,true,())|none=>(0,false,())):=by
 unfold mX;rw[Xi hs,Qa];have hlen:=FE s;rw[gO (oK s) (by omega) (fun i (_:Unit)=>(i,())) (fun x (_:Unit)=>(mY c x s).map fun r=>if r then .inl ()else .inr (x,true,())) (fun _=>some (0,false,())) (fun i x u hd hx hw=> ?_) (fun u hd=> ?_) ()]
 ·rw[Ta (f:=fun x=> !ku s (ll c.bl x.toNat)) (hit:=fun x=>(x,true,()))]
  ·unfold pr;cases (oK s).find? _<;>rfl
  ·intro x hx u;obtain⟨k,hk,rfl,hb⟩:=A0.1 hx;obtain⟨_,m,hm,_⟩:=xL (hsub k hb);unfold mY;rw[bA,hm];simp only[Qa,aj.eta,Ce hs (hc.aO m (List.mem_of_getElem? hm)),Qe,QV,rY hm];cases ku s m.aa<;>rfl
 ·simp only[hd,hx,hw,Qk,Qa]
  cases mY c x s with
  |none=>rfl
  |some r=>cases r<;>rfl
 ·simp only[hd,Ql]
theorem aaq{s k:Nat}(hs:s<1024)(hk:s.testBit k=true):y9 .i64 (s:Int) (bV .i64 1 (k:Int))=((s - 2 ^ k:Nat):Int):=by
 have h10:=Pe hs hk;obtain⟨c,h1,_,h3⟩:=Lc s (2 ^ k) (by omega) (Nat.pow_lt_pow_right (by omega) (by omega))
 rw[vU k (by omega),h1]
 congr 1;refine Bk fun j=> ?_
 rw[h3,(I9 hs hk).2,Nat.testBit_two_pow]
theorem Lf{c:aZ}(hc:yC c){s:Nat}(hs:s<1024):Yd (kb c s) fun q=>∃n:Nat,q=n/\zf c.bl s n:=by
 unfold kb ss;rw[AO hs,Lh hc.len];simp only[Qa,Qo,Ql];have hdl:=B4 c.bl;rw[Cb s (jm c.bl) (by omega) (by omega)]
 suffices key:∀(n t:Nat) (out:List Int),t<n->qK c.bl s t->out.length+t<=1024->Yd (aF (fun(v3:Int×(List Int)×Unit)=>
   Option.bind (mX c v3.1) fun r4=>
   bif (!r4.2.1)then
   Option.map Sum.inr (some (v3.1,v3.2.1,()))
   else
   bif bc 8 (List.length v3.2.1+List.length [r4.1])then
   if r4.1<0 then none else
   some (Sum.inl ((y9 .i64 v3.1 (bV .i64 (1:Int) r4.1)),(v3.2.1++[r4.1]),()))
   else none) ((t:Int),out,())) fun p=>∃n:Nat,p.1=n/\zf c.bl s n by
  have hfirst:=qK.first c.bl hs
  have hb:=hfirst.lt;refine(key 1024 (s&&&jm c.bl) [] hb hfirst (by simp;omega)).bind fun p hp=>Yd.some hp
 intro n
 induction n with
 |zero=>intro t out h;omega
 |succ n ih=>
  intro t out ht hinv hout;refine Yd.loop ?_;rw[Y8 hc hinv.lt fun k hk=>(hinv.sub k hk).2]
  simp only[Qa]
  cases hu:pr c.bl t with
  |none=>exact Yd.some ⟨t,rfl,hinv.done hu⟩
  |some x=>
   obtain⟨k,rfl,hk10,hkb,hks⟩:=Gn hu;have h0:¬(k:Int)<0:=by omega
   have hlb:=(I9 hinv.lt hkb).1;have hp:0<2 ^ k:=Nat.pow_pos (by omega)
   simp only[Qo,Ql];rw[bu (by simp;omega),Qs h0,aaq hinv.lt hkb]
   exact Yd.some (ih (t - 2 ^ k) _ (by omega) (hinv.next hkb hks) (by simp;omega))
theorem abA{c:aZ}(hc:yC c){s:Nat}(hs:s<1024):∃q,zf c.bl s q:=by
 obtain⟨_,_,n,_,h⟩:=Lf hc hs;exact⟨n,h⟩
open Classical in
 def gq(l:List aR)(s:Nat):Nat:=if h:∃q,zf l s q then Classical.choose h else 0
theorem A6{c:aZ}(hc:yC c){s:Nat}(hs:s<1024):zf c.bl s (gq c.bl s):=by
 have h:=abA hc hs;rw[gq,dif_pos h];exact Classical.choose_spec h
theorem Lg{c:aZ}(hc:yC c){s:Nat}(hs:s<1024):kb c s=some ((gq c.bl s:Nat):Int):=by
 obtain⟨q,h1,n,rfl,h2⟩:=Lf hc hs;rw[h1,h2.unique (A6 hc hs)]
def uY(s:Nat):List Int->Nat
 |[]=>s
 |x::l=>uY (s - 2 ^ x.toNat) l
theorem M3(s:Nat):∀(l:List Int) (x:Int),uY s (l++[x])=uY s l - 2 ^ x.toNat
 |[],x=>rfl
 |y::l,x=>by rw[List.cons_append,uY,M3 _ l x,uY]
def JD(s:Nat):List Int->Prop
 |[]=>True
 |x::l=>(∃k:Nat,x=k/\k<10/\2 ^ k<=s)/\JD (s - 2 ^ x.toNat) l
theorem Tt{s:Nat}:∀{l:List Int} {k:Nat},JD s l->k<10->2 ^ k<=uY s l->JD s (l++[(k:Int)])
 |[],k,_,h1,h2=>⟨⟨k,rfl,h1,h2⟩,trivial⟩
 |_::_,_,h,h1,h2=>⟨h.1,Tt h.2 h1 h2⟩
theorem UQ{t k:Nat}(hk:k<10)(h:2 ^ k<=t)(ht:t<1024):da .i64 (t:Int) (bV .i64 1 (k:Int))=((t - 2 ^ k:Nat):Int):=by
 rw[vU k (by omega)]
 generalize 2 ^ k=z at*;rw[pK (by omega) (by omega)]
 omega
theorem agi{c:aZ}(hc:yC c){s:Nat}(hs:s<1024):Yd (n5 c s) fun out=>JD (s&&&jm c.bl) out/\zf c.bl s (uY (s&&&jm c.bl) out)/\out.length<=1024:=by
 unfold n5;rw[u7 hs,BE hc.len];simp only[Qa,Qo,Ql];have hdl:=B4 c.bl;rw[Cb s (jm c.bl) (by omega) (by omega)]
 generalize hs0:s&&&jm c.bl=s0
 suffices key:∀(n t:Nat) (b:Bool) (out:List Int),t<n->qK c.bl s t->(b=false->pr c.bl t=none)->out.length+t<=1024->JD s0 out->uY s0 out=t->
   Yd (aF (fun(v3:Int×Bool×(List Int)×Unit)=>
    bif v3.2.1 then
    Option.bind (oB v3.1) fun r4=>
    aF (fun(v5:Int×Bool×Int×(List Int)×Unit)=>
    bif (decide (v5.2.2.1<((List.length r4:Nat):Int)))then
    Option.bind (idx r4 v5.2.2.1) fun x6=>
    Option.bind (idx c.bl x6) fun x7=>
    Option.bind (jf (aj.mk x7.aa.aL x7.aa.ba x7.aa.aN) v5.1) fun r8=>
    bif (!r8)then
    if x6<0 then none else
    bif bc 8 (List.length v5.2.2.2.1+List.length [x6])then
    Option.map Sum.inr (some (Sum.inl ((da .i64 v5.1 (bV .i64 (1:Int) x6)),true,(v5.2.2.2.1++[x6]),())))
    else none
    else
    some (Sum.inl (v5.1,v5.2.1,(aB .i64 v5.2.2.1 (1:Int)),v5.2.2.2.1,()))
    else
    Option.map Sum.inr (some (Sum.inl (v5.1,v5.2.1,v5.2.2.2.1,())))) (v3.1,false,(0:Int),v3.2.2.1,())
    else
    Option.map Sum.inr (some v3.2.2.1)) ((t:Int),b,out,())) fun out=>JD s0 out/\zf c.bl s (uY s0 out)/\out.length<=1024 by
  have hfirst:=qK.first c.bl hs
  rw[hs0]at hfirst;have hb:=hfirst.lt;exact key 1024 s0 true [] hb hfirst (fun h=>by cases h) (by simp;omega) trivial rfl
 intro n
 induction n with
 |zero=>intro t b out h;omega
 |succ n ih=>
  intro t b out ht hinv hb hout hso hsub;refine Yd.loop ?_
  cases b with
  |false=>
   simp only[Ql];refine Yd.inr (Yd.some ⟨hso,?_,by omega⟩)
   rw[hsub];exact hinv.done (hb rfl)
  |true=>
   simp only[Qk];rw[Ss hinv.lt,Qa];have hlen:=FE t;rw[gO (oK t) (by omega) (fun i (_:Unit)=>((t:Int),false,i,out,())) (fun x (_:Unit)=>some (if !ku t (ll c.bl x.toNat)then .inr (Sum.inl ((da .i64 (t:Int) (bV .i64 (1:Int) x)),true,(out++[x]),()))else .inl ())) (fun _=>some (Sum.inl ((t:Int),false,out,()))) (fun i x u hd hx hw=> ?_) (fun u hd=> ?_) ()]
   ·rw[Ta (f:=fun x=> !ku t (ll c.bl x.toNat)) (hit:=fun x=>Sum.inl ((da .i64 (t:Int) (bV .i64 (1:Int) x)),true,(out++[x]),())) (fun x hx u=>rfl)]
    cases hu:pr c.bl t with
    |none=>
     rw[pr]at hu;rw[hu];refine Yd.some ?_;refine Yd.loop ?_;simp only[Ql];refine Yd.inr (Yd.some ⟨hso,?_,by omega⟩)
     rw[hsub];exact hinv.done hu
    |some x=>
     obtain⟨k,rfl,hk10,hkb,hks⟩:=Gn hu;rw[pr]at hu;rw[hu];have hlb:=(I9 hinv.lt hkb).1;have hp:0<2 ^ k:=Nat.pow_pos (by omega)
     simp only;rw[UQ hk10 hlb hinv.lt];refine Yd.some (ih (t - 2 ^ k) true _ (by omega) (hinv.next hkb hks) (fun h=>by cases h) (by simp;omega) (Tt hso hk10 (by rw[hsub];exact hlb)) (by rw[M3,hsub];rfl))
   ·have hmem:x∈oK t:=by
     rw[bA]at hx;exact List.mem_of_getElem? hx
    obtain⟨k,hk10,rfl,hkb⟩:=A0.1 hmem;obtain⟨_,m,hm,_⟩:=xL (hinv.sub k hkb).2;have h0:¬(k:Int)<0:=by omega
    simp only[hd,hx,hw,Qk,Qa,bA c.bl,hm,aj.eta,Gp hinv.lt (hc.aO m (List.mem_of_getElem? hm)),h0,Qu,QV,rY hm];rw[bu (by simp;omega)]
    cases ku t m.aa<;>rfl
   ·simp only[hd,Ql]
theorem BD{c:aZ}(hc:yC c){s:Nat}(hs:s<1024):jO c s=some ((gq c.bl s:Nat):Int):=by
 unfold jO;rw[u7 hs,BE hc.len];simp only[Qa,Qo,Ql];have hdl:=B4 c.bl;rw[Cb s (jm c.bl) (by omega) (by omega)]
 obtain⟨out,h1,h2,h3,h4⟩:=agi hc hs;rw[h1,Qa];rw[gO out (by omega) (fun i (t:Int)=>(t,i,())) (fun x (t:Int)=>if x<0 then none else some (.inl (da .i64 t (bV .i64 1 x)))) (fun t=>some t) (fun i x u hd hx hw=> ?_) (fun u hd=> ?_) _]
 ·rw[<-h3.unique (A6 hc hs)];have hlt:s&&&jm c.bl<1024:=Nat.lt_of_le_of_lt Nat.and_le_left hs;generalize s&&&jm c.bl=t at h2 hlt;clear h1 h3 h4
  induction out generalizing t with
  |nil=>rfl
  |cons x l ih=>
   obtain⟨⟨k,rfl,hk,hle⟩,h2⟩:=h2;have h0:¬(k:Int)<0:=by omega
   rw[fb,Qs h0,UQ hk hle hlt,uY];simp only[QV]at h2 ⊢;exact ih _ h2 (Nat.lt_of_le_of_lt (Nat.sub_le _ _) hlt)
 ·simp only[hd,hx,hw,Qk,Qa];split<;>rfl
 ·simp only[hd,Ql]
end Go.Proofs.YtjbfdglebjnelaaGreat
namespace Go.Proofs.YtjbfdglebjnelaaGreat
open Go.TQ
structure pI (l:List al):Prop where
 len:l.length<=100000
 aO:∀e∈l,c5 e.aa
theorem iD{e:al}(h:aW e=true):0<=e.au/\e.au<10:=by
 simp only[aW,gu,xN,Qm,Qi]at h;exact⟨h.1.1.1.1.1.1.1,h.1.1.1.1.1.1.2⟩
def fU:aR:=⟨false,⟨0,[],[]⟩⟩
 def dv(ms:List aR)(e:al):List aR:=
 if aW e&& !((ms[e.au.toNat]?).any (·.dG))then ms.set e.au.toNat ⟨true,e.aa⟩else ms
 def fP(aC:Nat)(t:aj)(l:List al):List aR:=l.foldl dv ((List.replicate 10 fU).set aC ⟨true,t⟩)
theorem xb(ms:List aR)(e:al):(dv ms e).length=ms.length:=by
 unfold dv;split
 ·rw[QY]
 ·rfl
theorem DQ:∀(l:List al) (ms:List aR),(l.foldl dv ms).length=ms.length
 |[],_=>rfl
 |e::l,ms=>by rw[QU,DQ l,xb]
theorem Hc(aC:Nat)(t:aj)(l:List al):(fP aC t l).length=10:=by
 rw[fP,DQ,QY,List.length_replicate]
theorem Uy{ms:List aR}(hl:ms.length=10){n:Int}(h0:0<=n)(h1:n<10):∃m,ms[n.toNat]?=some m/\idx ms n=some m:=by
 have:n.toNat<ms.length:=by omega
 exact⟨ms[n.toNat],Qv this,by rw[ON _ h0];exact Qv this⟩
theorem YW{aC:Nat}(hn:aC<10){t:aj}(ht:c5 t){l:List al}(hl:pI l):qC aC t l=some ⟨fP aC t l⟩:=by
 unfold qC
 have h1:(decide ((10:Int)=10)&&decide ((0:Int)<=10)&&bc 64 (Int.toNat 10))=true:=by
  rw[bu (by decide)];rfl
 have h2:¬(aC:Int)<0:=by omega
 have h3:¬(10:Int)<=aC:=by omega
 rw[h1];simp only[Qk,h2,h3,decide_false,Ql,Qa,aj.eta,tq ht,aU];obtain⟨m,hm1,hm2⟩:=Uy (ms:=List.replicate 10 fU) (by simp) (n:=(aC:Int)) (by omega) (by omega)
 have e10:List.replicate (Int.toNat 10) (aR.mk false (aj.mk 0 [] []))=List.replicate 10 fU:=rfl;rw[e10,hm2,hm1,Qa,Qa];have hlen:=hl.len
 suffices key:∀(k i:Nat) (ms:List aR) (c:aZ),i+k=l.length->ms.length=10->aF _ ((i:Int),c,ms,())=some (aZ.mk ((l.drop i).foldl dv ms))by
  have:=key l.length 0 ((List.replicate 10 fU).set aC ⟨true,t⟩) ⟨[]⟩ (by omega) (by simp)
  simpa[fP]using this
 intro k
 induction k with
 |zero=>
  intro i ms c hi hms;obtain rfl:i=l.length:=by omega
  refine bJ ?_;have hd:decide (((l.length:Nat):Int)<((l.length:Nat):Int))=false:=Qh (Int.lt_irrefl _);simp only[hd,Ql,List.drop_length,List.foldl_nil]
 |succ k ih=>
  intro i ms c hi hms;have hlt:i<l.length:=by omega
  have hd:decide ((i:Int)<((l.length:Nat):Int))=true:=Qg (by omega)
  have hw:aB .i64 (i:Int) 1=((i+1:Nat):Int):=bL (by omega) (by omega)
  have hx:idx l (i:Int)=some l[i]:=by rw[bA];exact Qv hlt
  have hsm:=hl.aO _ (Q0 hlt);rw[QM hlt,QU];refine Eq.trans (bz (s':=(((i+1:Nat):Int),⟨[]⟩,dv ms l[i],())) ?_) (ih (i+1) _ _ (by omega) (by rw[xb];exact hms))
  simp only[hd,hx,hw,Qk,Qa,wB hsm];unfold dv
  cases hv:aW l[i]with
  |false=>simp
  |true=>
   obtain⟨h4,h5⟩:=iD hv;obtain⟨m,hm1,hm2⟩:=Uy hms h4 h5;simp only[Qk,hm1,hm2,Qa,tq hsm,Option.any_some,Bool.true_and];cases m.dG<;>simp
theorem yK{aC:Nat}(hn:aC<10){t:aj}{l:List al}(hl:pI l):iH aC t l=some ⟨fP aC t l⟩:=by
 unfold iH
 have h1:(decide ((10:Int)=10)&&decide ((0:Int)<=10)&&bc 64 (Int.toNat 10))=true:=by
  rw[bu (by decide)];rfl
 have h2:¬(aC:Int)<0:=by omega
 have h3:¬(9:Int)<aC:=by omega
 rw[h1];simp only[Qk,h2,h3,decide_false,Ql,Qa,aj.eta,aU];obtain⟨m,hm1,hm2⟩:=Uy (ms:=List.replicate 10 fU) (by simp) (n:=(aC:Int)) (by omega) (by omega)
 have e10:List.replicate (Int.toNat 10) (aR.mk false (aj.mk 0 [] []))=List.replicate 10 fU:=rfl;rw[e10,hm2,hm1,Qa,Qa];have hlen:=hl.len
 suffices key:∀(k i:Nat) (ms:List aR) (c:aZ),i+k=l.length->ms.length=10->aF _ ((i:Int),c,ms,())=some (aZ.mk ((l.drop i).foldl dv ms))by
  have:=key l.length 0 ((List.replicate 10 fU).set aC ⟨true,t⟩) ⟨[]⟩ (by omega) (by simp)
  simpa[fP]using this
 intro k
 induction k with
 |zero=>
  intro i ms c hi hms;obtain rfl:i=l.length:=by omega
  refine bJ ?_;have hd:decide (((l.length:Nat):Int)<((l.length:Nat):Int))=false:=Qh (Int.lt_irrefl _);simp only[hd,Ql,List.drop_length,List.foldl_nil]
 |succ k ih=>
  intro i ms c hi hms;have hlt:i<l.length:=by omega
  have hd:decide ((i:Int)<((l.length:Nat):Int))=true:=Qg (by omega)
  have hw:aB .i64 (i:Int) 1=((i+1:Nat):Int):=bL (by omega) (by omega)
  have hx:idx l (i:Int)=some l[i]:=by rw[bA];exact Qv hlt
  have hsm:=hl.aO _ (Q0 hlt);rw[QM hlt,QU];refine Eq.trans (bz (s':=(((i+1:Nat):Int),⟨[]⟩,dv ms l[i],())) ?_) (ih (i+1) _ _ (by omega) (by rw[xb];exact hms))
  simp only[hd,hx,hw,Qk,Qa,jl hsm];unfold dv
  cases hv:aW l[i]with
  |false=>simp
  |true=>
   obtain⟨h4,h5⟩:=iD hv;obtain⟨m,hm1,hm2⟩:=Uy hms h4 h5;simp only[Qk,hm1,hm2,Qa,Option.any_some,Bool.true_and];cases m.dG<;>simp
theorem lj{aC:Nat}{t:aj}(ht:c5 t){l:List al}(hl:pI l):yC ⟨fP aC t l⟩:=by
 refine⟨by rw[Hc];omega,?_⟩
 have key:∀(l:List al) (ms:List aR),(∀e∈l,c5 e.aa)->(∀m∈ms,c5 m.aa)->∀m∈l.foldl dv ms,c5 m.aa:=by
  intro l
  induction l with
  |nil=>intro ms _ h;exact h
  |cons e l ih=>
   intro ms he h;rw[QU];refine ih _ (fun e' h'=>he e' (by simp[h'])) fun m hm=> ?_
   unfold dv at hm;split at hm
   ·rcases List.mem_or_eq_of_mem_set hm with hm|rfl
    ·exact h m hm
    ·exact he e (by simp)
   ·exact h m hm
 refine key l _ hl.aO fun m hm=> ?_
 rcases List.mem_or_eq_of_mem_set hm with hm|rfl
 ·rw[List.eq_of_mem_replicate hm];exact .mk _ (by simp[fU]) (by simp[fU]) (by simp[fU])
 ·exact ht
 def bW(l:List al):List al:=l.filter aW
theorem ace{l:List al}(hl:pI l):pk l=some ((bW l).map bE.mk):=by
 unfold pk;have hlen:=hl.len;simp only[aU]
 suffices key:∀(k i:Nat) (acc:List bE),i+k=l.length->acc=(bW (l.take i)).map bE.mk->aF _ ((i:Int),acc,())=some ((bW l).map bE.mk)from key l.length 0 [] (by omega) rfl
 intro k
 induction k with
 |zero=>
  intro i acc hi ha;obtain rfl:i=l.length:=by omega
  refine bJ ?_;have hd:decide (((l.length:Nat):Int)<((l.length:Nat):Int))=false:=Qh (Int.lt_irrefl _);simp only[hd,Ql,Qe,ha,List.take_length]
 |succ k ih=>
  intro i acc hi ha;have hlt:i<l.length:=by omega
  have hd:decide ((i:Int)<((l.length:Nat):Int))=true:=Qg (by omega)
  have hw:aB .i64 (i:Int) 1=((i+1:Nat):Int):=bL (by omega) (by omega)
  have hx:idx l (i:Int)=some l[i]:=by rw[bA];exact Qv hlt
  have hsm:=hl.aO _ (Q0 hlt)
  have hal:acc.length<=i:=by
   rw[ha,QC];exact QK (List.length_filter_le _ _) (by rw[List.length_take];omega)
  refine Eq.trans (bz (s':=(((i+1:Nat):Int),(if aW l[i]then acc++[bE.mk l[i]]else acc),())) ?_) (ih (i+1) _ (by omega) ?_)
  ·simp only[hd,hx,hw,Qk,Qa,aj.eta,al.eta,wB hsm];rw[bu (by simp;omega)]
   cases aW l[i]<;>simp
  ·rw[List.take_succ_eq_append_getElem hlt,bW,List.filter_append,ha];cases hv:aW l[i]<;>simp[bW,hv]
def dB(p:al->Bool):List al->Nat
 |[]=>0
 |e::l=>(if p e then 2 ^ e.au.toNat else 0)|||dB p l
theorem vS(p:al->Bool)(k:Nat):∀(l:List al),(dB p l).testBit k=l.any fun e=>p e&&decide (e.au.toNat=k)
 |[]=>by simp[dB]
 |e::l=>by
  rw[dB,Nat.testBit_or,vS p k l,List.any_cons];cases p e<;>simp[Nat.testBit_two_pow]
def ur(l:List al):Prop:=∀e∈l,0<=e.au/\e.au<10
theorem lL(l:List al):ur (bW l):=fun _ he=>iD (List.mem_filter.1 he).2
theorem AU(l:List al):(bW l).length<=l.length:=List.length_filter_le _ _
theorem lh{p:al->Bool}{l:List al}(h:ur l):dB p l<1024:=Ek fun k hk=>by
 rw[vS,List.any_eq_true]at hk;obtain⟨e,he,h1⟩:=hk;simp only[Qm,Qi]at h1;have:=h e he;omega
theorem EU(p:al->Bool)(l:List al)(hin:ur l)(step:(Int×Int×Unit)->Option ((Int×Int×Unit)⊕Int))
  (h1:∀(i:Nat) (e:al) (s:Int),l[i]?=some e->step (s,(i:Int),())=if p e then(if e.au<0 then none else some (.inl (oJ .i64 s (bV .i64 1 e.au),((i+1:Nat):Int),())))else some (.inl (s,((i+1:Nat):Int),())))
  (h2:∀s:Int,step (s,(l.length:Int),())=some (.inr s)):aF step (0,0,())=some ((dB p l:Nat):Int):=by
 suffices key:∀(k i s:Nat),i+k=l.length->s<1024->aF step ((s:Int),(i:Int),())=some ((s|||dB p (l.drop i):Nat):Int)by
  have:=key l.length 0 0 (by omega) (by omega)
  simpa using this
 intro k
 induction k with
 |zero=>
  intro i s hi hs;obtain rfl:i=l.length:=by omega
  rw[bJ (h2 s),List.drop_length,dB];simp
 |succ k ih=>
  intro i s hi hs;have hlt:i<l.length:=by omega
  have hm:=hin l[i] (Q0 hlt);rw[QM hlt,dB];have hst:=h1 i l[i] s (Qv hlt)
  cases hp:p l[i]with
  |false=>
   rw[hp]at hst;rw[bz hst,ih (i+1) s (by omega) hs]
   simp
  |true=>
   rw[hp,Qr rfl,Qs (by omega),qc hs hm.1 hm.2]at hst
   rw[bz hst,ih (i+1) _ (by omega) (CM hs hm.2)]
   simp[Nat.or_assoc]
theorem Ld{v:aZ}{aC:Int}{l:List al}(hl:l.length<=1000000)(hin:ur l)(b:ab):jc ⟨aC,v,l.map bE.mk⟩ b=some ((dB (de · b) l:Nat):Int):=by
 unfold jc;refine EU (de · b) l hin _ (fun i e s he=> ?_) (fun s=> ?_)
 ·have hlt:i<l.length:=(Qw.1 he).1;have hd:decide ((i:Int)<(((l.map bE.mk).length:Nat):Int))=true:=Qg (by rw[QC];omega)
  have hw:aB .i64 (i:Int) 1=((i+1:Nat):Int):=bL (by omega) (by omega)
  have hx:idx (l.map bE.mk) (i:Int)=some ⟨e⟩:=by rw[bA,QT,he];rfl
  simp only[hd,hx,hw,Qk,Qa,aj.eta,al.eta,lf,sM,aU];cases de e b<;>simp
 ·have hd:decide (((l.length:Nat):Int)<(((l.map bE.mk).length:Nat):Int))=false:=Qh (by rw[QC];exact Int.lt_irrefl _)
  simp only[hd,Ql,Qe]
theorem aav{v:aZ}{aC:Int}{l:List al}(hl:l.length<=1000000)(hin:ur l)(b:ab):gl ⟨aC,v,l.map bE.mk⟩ b b=some ((dB (fun e=>oC e b||de e b) l:Nat):Int):=by
 unfold gl;refine EU (fun e=>oC e b||de e b) l hin _ (fun i e s he=> ?_) (fun s=> ?_)
 ·have hlt:i<l.length:=(Qw.1 he).1;have hd:decide ((i:Int)<(((l.map bE.mk).length:Nat):Int))=true:=Qg (by rw[QC];omega)
  have hw:aB .i64 (i:Int) 1=((i+1:Nat):Int):=bL (by omega) (by omega)
  have hx:idx (l.map bE.mk) (i:Int)=some ⟨e⟩:=by rw[bA,QT,he];rfl
  simp only[hd,hx,hw,Qk,Qa,aj.eta,al.eta,ji,lf,pH,sM,CD,aU,ky,Bool.cond_true_left];cases (oC e b||de e b)<;>simp
 ·have hd:decide (((l.length:Nat):Int)<(((l.map bE.mk).length:Nat):Int))=false:=Qh (by rw[QC];exact Int.lt_irrefl _)
  simp only[hd,Ql,Qe]
 def lE(ms:List aR)(v fp accepts:Nat):Bool:=um ms v accepts||(gq ms (fp|||accepts)).testBit v
theorem Ap{c:aZ}(hc:yC c){v fp accepts:Nat}(hv:v<10)(h1:fp<1024)(h2:accepts<1024):fO c v fp accepts=some (lE c.bl v fp accepts):=by
 unfold fO lE;have h3:fp|||accepts<1024:=Nat.or_lt_two_pow (n:=10) h1 h2
 rw[AO h1,AO h2,Tu hc h2,Eh fp accepts (by omega) (by omega),Lg hc h3]
 simp[qY (A6 hc h3).lt,ti,hv]
theorem y1{c:aZ}(hc:yC c){v accepts:Nat}(hv:v<10)(h2:accepts<1024):fD c v accepts=some ((gq c.bl accepts).testBit v):=by
 unfold fD;rw[Lg hc h2];simp[qY (A6 hc h2).lt,ti,hv]
 def km(aC:Nat)(t:aj)(l:List al)(b:ab):Bool:=
 lE (fP aC t l) aC (dB (fun e=>oC e b||de e b) (bW l)) (dB (de · b) (bW l))
 def jy(aC:Nat)(t:aj)(l:List al)(b:ab):Bool:=
 (gq (fP aC t l) (dB (de · b) (bW l))).testBit aC
theorem R3{aC:Nat}(hn:aC<10){t:aj}(ht:c5 t){l:List al}(hl:pI l):fo aC t l=some ⟨aC,⟨fP aC t l⟩,(bW l).map bE.mk⟩:=by
 unfold fo;simp only[aj.eta,YW hn ht hl,ace hl,Qa]
end Go.Proofs.YtjbfdglebjnelaaGreat
namespace Go.Proofs.YtjbfdglebjnelaaGreat
open Go.TQ
theorem adE{α:Type}{l l':List α}(h:l.Perm l')(p:α->Bool):l.any p=l'.any p:=by
 rw[QW,List.any_eq_true,List.any_eq_true];exact⟨fun⟨x,h1,h2⟩=>⟨x,h.mem_iff.1 h1,h2⟩,fun⟨x,h1,h2⟩=>⟨x,h.mem_iff.2 h1,h2⟩⟩
theorem aaE{l l':List al}(h:l.Perm l')(p:al->Bool):dB p l=dB p l':=Bk fun k=>by rw[vS,vS,adE h]
theorem XC{l l':List al}(h:l.Perm l'):(bW l).Perm (bW l'):=h.filter _
def zI(l:List al):Prop:=∀a∈l,∀b∈l,a.au=b.au->a=b
theorem zI.perm{l l':List al}(h:zI l)(hp:l.Perm l'):zI l':=fun a ha b hb=>h a (hp.mem_iff.2 ha) b (hp.mem_iff.2 hb)
 def nG(l:List al)(k:Nat):Option al:=l.find? fun e=>aW e&&decide (e.au.toNat=k)
theorem Dm{l:List al}{k:Nat}{e:al}(h:nG l k=some e):e∈l/\aW e=true/\e.au=k:=by
 unfold nG at h;have h1:=List.mem_of_find?_eq_some h;have h2:=List.find?_some h;simp only[Qm,Qi]at h2;have:=iD h2.1;exact⟨h1,h2.1,by omega⟩
theorem Of{l:List al}(ha:zI l){k:Nat}{e:al}(h1:e∈l)(h2:aW e=true)(h3:e.au=k):nG l k=some e:=by
 cases h:nG l k with
 |none=>
  unfold nG at h;rw[List.find?_eq_none]at h;have:=h e h1;simp[h2,h3]at this
 |some e'=>
  obtain⟨g1,g2,g3⟩:=Dm h;rw[ha e' g1 e h1 (by omega)]
theorem XL{l l':List al}(ha:zI l)(h:l.Perm l')(k:Nat):nG l k=nG l' k:=by
 cases h1:nG l k with
 |some e=>
  obtain⟨g1,g2,g3⟩:=Dm h1;exact(Of (ha.perm h) (h.mem_iff.1 g1) g2 g3).symm
 |none=>
  cases h2:nG l' k with
  |none=>rfl
  |some e=>
   obtain⟨g1,g2,g3⟩:=Dm h2;rw[Of ha (h.mem_iff.2 g1) g2 g3]at h1;cases h1
theorem R9:∀(l:List al) (ms:List aR),ms.length=10->(∀m∈ms,m.dG=false->m=fU)->∀k,k<10->(l.foldl dv ms)[k]?=some (match ms[k]? with
  |some m=>if m.dG then m else(match nG l k with
   |some e=>⟨true,e.aa⟩
   |none=>fU)
  |none=>fU)
 |[],ms,hl,hn,k,hk=>by
  have hk':k<ms.length:=by omega
  rw[List.foldl_nil,Qv hk']
  cases hd:ms[k].dG with
  |true=>simp[hd]
  |false=>
   have:=hn _ (Q0 hk') hd;simp[hd,nG,this]
 |e::l,ms,hl,hn,k,hk=>by
  have hk':k<ms.length:=by omega
  rw[QU];have hlen:(dv ms e).length=10:=by rw[xb];exact hl
  have hn':∀m∈dv ms e,m.dG=false->m=fU:=by
   unfold dv;split
   ·intro m hm hd;rcases List.mem_or_eq_of_mem_set hm with hm|rfl
    ·exact hn m hm hd
    ·cases hd
   ·exact hn
  rw[R9 l (dv ms e) hlen hn' k hk];congr 1
  have hof:nG (e::l) k=if(aW e&&decide (e.au.toNat=k))=true then some e else nG l k:=by
   unfold nG;rw[List.find?_cons];cases aW e&&decide (e.au.toNat=k)<;>rfl
  rw[hof];unfold dv
  by_cases hv:aW e=true
  ·have hnode:=iD hv;have hi:e.au.toNat<ms.length:=by omega
   rw[hv,Bool.true_and,Bool.true_and]
   by_cases hke:e.au.toNat=k
   ·subst hke;rw[Qv hi]
    cases hd:ms[e.au.toNat].dG with
    |true=>simp[hd,Qv hi]
    |false=>simp[hd,hi]
   ·have hne:decide (e.au.toNat=k)=false:=Qh hke
    have hset:∀c:Bool,(if c=true then ms.set e.au.toNat ⟨true,e.aa⟩else ms)[k]?=ms[k]?:=fun c=>by
     cases c
     ·rfl
     ·rw[Qr rfl,List.getElem?_set_ne hke]
    rw[hne,hset];simp
  ·have hv':aW e=false:=by simpa using hv
   simp[hv']
theorem Hb{aC:Nat}(hn:aC<10)(t:aj)(l:List al){k:Nat}(hk:k<10):(fP aC t l)[k]?=some (if k=aC then⟨true,t⟩else match nG l k with
  |some e=>⟨true,e.aa⟩
  |none=>fU):=by
 rw[fP,R9 l _ (by simp) (fun m hm hd=> ?_) k hk]
 ·by_cases h:k=aC
  ·subst h;simp[hn]
  ·rw[List.getElem?_set_ne (fun e=>h e.symm),List.getElem?_replicate,Qr hk]
   simp[h,fU]
 ·rcases List.mem_or_eq_of_mem_set hm with hm|rfl
  ·exact(List.mem_replicate.1 hm).2
  ·cases hd
theorem Y6{aC:Nat}(hn:aC<10)(t:aj){l l':List al}(ha:zI l)(h:l.Perm l'):fP aC t l=fP aC t l':=by
 refine List.ext_getElem? fun k=> ?_
 by_cases hk:k<10
 ·rw[Hb hn t l hk,Hb hn t l' hk,XL ha h]
 ·rw[List.getElem?_eq_none (by rw[Hc];omega),List.getElem?_eq_none (by rw[Hc];omega)]
end Go.Proofs.YtjbfdglebjnelaaGreat
namespace Go.Proofs.YtjbfdglebjnelaaGreat
open Go.TQ
theorem ab4{τ ρ:Type}(n:Nat)(mk:Int->τ){step:τ->Option (τ⊕ρ)}{fin:Option ρ}(h1:∀i:Nat,i<n->step (mk (i:Int))=some (.inl (mk ((i+1:Nat):Int))))(h2:step (mk (n:Int))=Option.map Sum.inr fin):aF step (mk 0)=fin:=by
 suffices key:∀(k i:Nat),i+k=n->aF step (mk (i:Int))=fin from key n 0 (by omega)
 intro k
 induction k with
 |zero=>
  intro i hi;obtain rfl:i=n:=by omega
  rw[jd,h2];cases fin<;>rfl
 |succ k ih=>exact fun i hi=>(bz (h1 i (by omega))).trans (ih (i+1) (by omega))
theorem aaS{ρ:Type}(n:Nat)(hn:n<=1000000){fin:Option ρ}{step:Int×Unit->Option ((Int×Unit)⊕ρ)}
  (h1:∀i:Nat,i<n->decide ((i:Int)<((n:Nat):Int))=true->aB .i64 (i:Int) 1=((i+1:Nat):Int)->step ((i:Int),())=some (.inl (((i+1:Nat):Int),())))
  (h2:decide (((n:Nat):Int)<((n:Nat):Int))=false->step ((n:Int),())=Option.map Sum.inr fin):aF step (0,())=fin:=
 ab4 n (fun i=>(i,())) (fun i hi=>h1 i hi (Qg (by omega)) (bL (by omega) (by omega))) (h2 (Qh (Int.lt_irrefl _)))
end Go.Proofs.YtjbfdglebjnelaaGreat
namespace Go.Proofs.YtjbfdglebjnelaaGreat
open Go.TQ
def FZ:List UInt8->Nat
 |[]=>0
 |a::l=>a.toNat*256 ^ l.length+FZ l
theorem Jt:∀l:List UInt8,FZ l<256 ^ l.length
 |[]=>by simp[FZ]
 |a::l=>by
  have h1:=Jt l;have h2:a.toNat<256:=a.toNat_lt;rw[FZ,QE,Nat.pow_succ];have h3:(a.toNat+1)*256 ^ l.length<=256*256 ^ l.length:=Nat.mul_le_mul_right _ h2;rw[Nat.add_mul,Nat.one_mul,Nat.mul_comm 256]at h3;omega
theorem ab0:∀{x y:List UInt8},x.length=y.length->Op.bytesLess x y=true->FZ x<FZ y
 |[],[],_,h=>by simp[Op.bytesLess]at h
 |[],_::_,hl,_=>by simp at hl
 |_::_,[],hl,_=>by simp at hl
 |a::x,b::y,hl,h=>by
  simp only[QE,Nat.add_right_cancel_iff]at hl;simp only[Op.bytesLess,Qn,Qi,Qm,beq_iff_eq]at h;rw[FZ,FZ,hl];rcases h with h|⟨rfl,h⟩
  ·have h1:=Jt x;rw[hl]at h1;have h2:a.toNat<b.toNat:=UInt8.lt_iff_toNat_lt.1 h;have h3:(a.toNat+1)*256 ^ y.length<=b.toNat*256 ^ y.length:=Nat.mul_le_mul_right _ h2;rw[Nat.add_mul,Nat.one_mul]at h3;omega
  ·have:=ab0 hl h;omega
def WV:Nat:=256 ^ 201
def RX(v:ByteArray):Nat:=v.size*256 ^ 200+FZ v.toList
theorem toList_len(v:ByteArray):v.toList.length=v.size:=by
 rw[Lib.toList_data];cases v;simp[ByteArray.size]
theorem aa5{a b:Nat}(h:a<=b):(256:Nat) ^ a<=256 ^ b:=Nat.pow_le_pow_right (by omega) h
theorem YH{v:ByteArray}(h:v.size<=200):RX v<WV:=by
 have h1:=Jt v.toList;rw[toList_len]at h1;have h2:=aa5 h;have h3:v.size*256 ^ 200<=200*256 ^ 200:=Nat.mul_le_mul_right _ h;have h4:WV=256*256 ^ 200:=by rw[WV,Nat.pow_succ,Nat.mul_comm]
 unfold RX;rw[h4];generalize (256:Nat) ^ 200=Z at*;omega
theorem abt{a b:ByteArray}(hb:b.size<=200)(h:c9 a b=true):RX a<RX b:=by
 unfold c9 at h;unfold RX
 by_cases hs:a.size=b.size
 ·rw[Qr hs]at h;have:=ab0 (x:=a.toList) (y:=b.toList) (by rw[toList_len,toList_len,hs]) h
  rw[hs];omega
 ·rw[Qs hs,Qi]at h;have h1:=Jt a.toList;rw[toList_len]at h1;have h2:=aa5 (show a.size<=200 by omega)
  have h3:(a.size+1)*256 ^ 200<=b.size*256 ^ 200:=Nat.mul_le_mul_right _ h;rw[Nat.add_mul,Nat.one_mul]at h3;generalize (256:Nat) ^ 200=Z at*;omega
def Sm(b:ab):Prop:=0<=b.an/\b.an<=1000/\b.Value.size<=200
def ng(b:ab):Nat:=b.an.toNat*WV+RX b.Value
def WB:Nat:=1001*WV
theorem ow{b:ab}(h:Sm b):ng b<WB:=by
 obtain⟨h1,h2,h3⟩:=h;have h4:=YH h3;unfold ng WB;have h5:b.an.toNat*WV<=1000*WV:=Nat.mul_le_mul_right _ (by omega)
 generalize WV=Z at*;omega
theorem ta{a b:ab}(ha:Sm a)(hb:Sm b)(h:bs a b=true):ng a<ng b:=by
 unfold bs at h;unfold ng
 by_cases hc:a.an=b.an
 ·rw[Qr hc]at h;have:=abt hb.2.2 h;rw[hc];omega
 ·rw[Qs hc,Qi]at h;have h1:=YH ha.2.2;have h2:=ha.1;have h3:(a.an.toNat+1)*WV<=b.an.toNat*WV:=Nat.mul_le_mul_right _ (by omega)
  rw[Nat.add_mul,Nat.one_mul]at h3;generalize WV=Z at*;omega
theorem Yd.down{σ ρ:Type}{step:σ->Option (σ⊕ρ)}{p:ρ->Prop}(inv:σ->Prop)(μ:σ->Nat)(h:∀s,inv s->Yd (step s) fun y=>match y with| .inl s'=>inv s'/\μ s'<μ s| .inr r=>p r){s:σ}(hs:inv s):Yd (aF step s) p:=by
 suffices key:∀(n:Nat) (s:σ),μ s<n->inv s->Yd (aF step s) p from key _ s (Nat.lt_succ_self _) hs
 intro n
 induction n with
 |zero=>intro s h0;omega
 |succ n ih=>
  intro s hn hi;refine Yd.loop ((h s hi).mono fun y hy=> ?_)
  cases y with
  |inl s'=>exact ih s' (by have:=hy.2;omega) hy.1
  |inr r=>exact hy
end Go.Proofs.YtjbfdglebjnelaaGreat
namespace Go.Proofs.YtjbfdglebjnelaaGreat
open Go.TQ
def bZ:ab:=⟨0,eQ⟩
def eR(m:ak):Int:=if(!aG m.av&&bM m.av m.af)=true then m.av.an else 0
def cQ(m:ak):al:=
 if m.aJ=1 then⟨m.au,m.aT,m.aI,m.aa,m.aJ,m.af,m.ao,m.az,m.aQ,eR m⟩
 else if m.aJ=2 then⟨m.au,m.aT,m.aI,m.aa,m.aJ,m.af,m.ao,bZ,m.aQ,m.bb⟩
 else⟨m.au,m.aT,m.aI,m.aa,m.aJ,m.af,bZ,bZ,m.aQ,m.bb⟩
theorem wV(m:ak):(cQ m).au=m.au:=by unfold cQ;split<;>(try split)<;>rfl
theorem CZ(m:ak):(cQ m).aT=m.aT:=by unfold cQ;split<;>(try split)<;>rfl
theorem Wq(m:ak):(cQ m).aI=m.aI:=by unfold cQ;split<;>(try split)<;>rfl
theorem qZ(m:ak):(cQ m).aa=m.aa:=by unfold cQ;split<;>(try split)<;>rfl
theorem abI(m:ak):(cQ m).bD=m.aJ:=by unfold cQ;split<;>(try split)<;>rfl
theorem xU(m:ak):gF m=some (cQ m):=by
 unfold gF cQ eR;simp only[aU,aj.eta,c6,fV,Qa]
 by_cases h1:m.aJ=1
 ·rw[Qg h1,Qr h1];cases aG m.av<;>cases bM m.av m.af<;>rfl
 ·rw[Qh h1,Qs h1]
  by_cases h2:m.aJ=2
  ·rw[Qg h2,Qr h2];rfl
  ·rw[Qh h2,Qs h2];rfl
def iB(m:ak):al:={cQ m with aI:=bC (cQ m).aI 1}
def xM(e:al):List al->List al
 |[]=>[e]
 |x::l=>if e.au<x.au then e::x::l else x::xM e l
theorem CW(e:al):∀l,(xM e l).Perm (l++[e])
 |[]=> .refl _
 |x::l=>by
  unfold xM;split
  ·exact(List.perm_append_singleton e (x::l)).symm
  ·exact(CW e l).cons x
def bd(m:ak):List al:=if aG m.af=true then m.aA else xM (iB m) m.aA
theorem Po{m:ak}(h:m.aA.length<=1000):kp m=some (bd m):=by
 unfold kp bd;simp only[ak.eta,aj.eta,al.eta,c6,xU,Qa]
 cases aG m.af with
 |true=>rfl
 |false=>
  simp only[Ql,Qq,Qu];have hown:al.mk (cQ m).au (cQ m).aT (bC (cQ m).aI 1) (cQ m).aa (cQ m).bD (cQ m).af (cQ m).ao (cQ m).az (cQ m).aQ (cQ m).bb=iB m:=rfl;have hnode:(cQ m).au=(iB m).au:=rfl;rw[hown,hnode];generalize iB m=e
  suffices key:∀(k i:Nat) (b:Bool) (o:List al),i+k=m.aA.length->o.length<=i+(bif b then 1 else 0)->aF _ (b,(i:Int),o,())=some (o++if b=true then m.aA.drop i else xM e (m.aA.drop i))from(key m.aA.length 0 false [] (by omega) (by simp)).trans (by simp)
  intro k
  induction k with
  |zero=>
   intro i b o hi ho;obtain rfl:i=m.aA.length:=by omega
   have hd:decide (((m.aA.length:Nat):Int)<((m.aA.length:Nat):Int))=false:=Qh (Int.lt_irrefl _);refine bJ ?_;rw[List.drop_length];simp only[hd,Ql,aU]
   cases b with
   |true=>simp
   |false=>
    simp only[Ql]at ho;rw[bu (by simp;omega)]
    simp[xM]
  |succ k ih=>
   intro i b o hi ho;have hlt:i<m.aA.length:=by omega
   have hd:decide ((i:Int)<((m.aA.length:Nat):Int))=true:=Qg (by omega)
   have hw:aB .i64 (i:Int) 1=((i+1:Nat):Int):=bL (by omega) (by omega)
   have hx:idx m.aA (i:Int)=some m.aA[i]:=by rw[bA];exact Qv hlt
   rw[QM hlt]
   cases b with
   |true=>
    simp only[Qk]at ho;have:=ih (i+1) true (o++[m.aA[i]]) (by omega) (by simp;omega)
    simp only[Qt]at this ⊢;rw[show o++m.aA[i]::m.aA.drop (i+1)=(o++[m.aA[i]])++m.aA.drop (i+1)by simp]
    refine Eq.trans (bz ?_) this;simp only[hd,hx,hw,Qk,aU,Qa,Qo,Ql,aj.eta,al.eta];rw[bu (by simp;omega),Qk]
   |false=>
    simp only[Ql]at ho
    by_cases hn:e.au<m.aA[i].au
    ·have:=ih (i+1) true (o++[e]++[m.aA[i]]) (by omega) (by simp;omega)
     simp only[Qt,Qq,Qu]at this ⊢;rw[xM,Qr hn,show o++e::m.aA[i]::m.aA.drop (i+1)=(o++[e]++[m.aA[i]])++m.aA.drop (i+1)by simp]
     refine Eq.trans (bz ?_) this;simp only[hd,hx,hw,Qk,aU,Qa,Qp,Qg hn,aj.eta,al.eta];rw[bu (by simp;omega),Qk,bu (by simp;omega),Qk]
    ·have:=ih (i+1) false (o++[m.aA[i]]) (by omega) (by simp;omega)
     simp only[Qq,Qu]at this ⊢;rw[xM,Qs hn,show o++m.aA[i]::xM e (m.aA.drop (i+1))=(o++[m.aA[i]])++xM e (m.aA.drop (i+1))by simp]
     refine Eq.trans (bz ?_) this;simp only[hd,hx,hw,Qk,aU,Qa,Qp,Qh hn,Ql,aj.eta,al.eta];rw[bu (by simp;omega),Qk]
def E4(a b:ab):Bool:=decide (a.an=b.an)&&decide (a.Value=b.Value)
theorem Sj{a b:ab}:E4 a b=true↔a=b:=by
 cases a;cases b;simp[E4]
def zl(a b:ak):Bool:=decide (a.aJ=b.aJ)&&E4 a.af b.af&&E4 a.ao b.ao&&E4 a.az b.az&&E4 a.av b.av&&decide (a.aQ=b.aQ)&&decide (a.bb=b.bb)
theorem adq(a b:Bool):(bif a then b else false)=(a&&b):=by cases a<;>rfl
theorem agx(a b:ak):lR a b=some (zl a b):=by
 unfold lR zl E4;simp only[zZ,Qa,ky,adq]
end Go.Proofs.YtjbfdglebjnelaaGreat
namespace Go.Proofs.YtjbfdglebjnelaaGreat
open Go.TQ
def vw(v:ByteArray)(n:Int)(x:ab):Int:=
 if(cF x&&ea x ⟨n,v⟩)=true then(if ea x ⟨x.an,v⟩=true then x.an+1 else x.an)else n
def kh(v:ByteArray)(n:Int)(p q:ab):Int:=vw v (vw v (bC n 1) p) q
theorem VM(v:ByteArray)(n:Int)(p q:ab):qy v n p q=some (kh v n p q):=by
 unfold qy kh;generalize bC n 1=k
 have hst:∀(i:Nat) (x:ab) (k:Int),i<2->[p,q][i]?=some x->
   (fun(v1:Int×Int×Unit)=>
    bif (decide (v1.2.1<(2:Int)))then
    aY (fun(v2:Int×Unit)=>some (Sum.inl (v2.1,(aB .i64 v1.2.1 (1:Int)),v2.2))) fun j3=>
    Option.bind (idx [p,q] v1.2.1) fun x4=>
    Option.bind (jK x4) fun r5=>
    Option.bind (bif r5 then Option.bind (fW x4 (ab.mk v1.1 v)) fun r6=>some r6 else some false) fun b7=>
    bif b7 then Option.bind (fW x4 (ab.mk x4.an v)) fun r8=>
     bif r8 then j3 ((aB .i64 x4.an (1:Int)),())else j3 (x4.an,())
    else j3 (v1.1,())
    else(Option.map Sum.inr (some v1.1):Option ((Int×Int×Unit)⊕Int))) (k,(i:Int),())=some (Sum.inl (vw v k x,((i+1:Nat):Int),())):=by
  intro i x k hi hx;have hd:decide ((i:Int)<2)=true:=Qg (by omega)
  have hw:aB .i64 (i:Int) 1=((i+1:Nat):Int):=bL (by omega) (by omega)
  have hx':idx [p,q] (i:Int)=some x:=by rw[bA];exact hx
  simp only[hd,hw,hx',Qk,aU,Qa,Ci,AL];unfold vw
  cases hv:cF x with
  |false=>simp
  |true=>
   have hc:aB .i64 x.an 1=x.an+1:=by
    have:1<=x.an/\x.an<=1000000:=by
     simp only[cF,Qm,Qn,Qi]at hv;omega
    exact bL (by omega) (by omega)
   cases h1:ea x ⟨k,v⟩with
   |false=>simp
   |true=>cases h2:ea x ⟨x.an,v⟩<;>simp[hc]
 refine(bz (hst 0 p k (by omega) rfl)).trans ((bz (hst 1 q _ (by omega) rfl)).trans (bJ ?_))
 rfl
theorem adb(b:ab):qv b=some (if 1000<b.an then⟨1000,b.Value⟩else b):=by
 unfold qv
 by_cases h:1000<b.an
 ·simp[h]
 ·simp[h]
end Go.Proofs.YtjbfdglebjnelaaGreat
namespace Go.Proofs.YtjbfdglebjnelaaGreat
open Go.TQ
theorem ZQ{lo k:Int}{v:ByteArray}{p:ab}(h:lo<=k)(hl:bs ⟨k,v⟩ p=true):bs ⟨lo,v⟩ p=true:=by
 unfold bs at hl ⊢;simp only at hl ⊢
 by_cases h1:lo=k
 ·rw[h1];exact hl
 ·have h2:lo<p.an:=by
   split at hl
   ·omega
   ·simp only[Qi]at hl;omega
  rw[Qs (by omega)]
  simpa using h2
theorem X1{lo k:Int}{v:ByteArray}{p:ab}(h:lo<=k)(ha:ea p ⟨lo,v⟩=false):ea p ⟨k,v⟩=false:=by
 cases hk:ea p ⟨k,v⟩with
 |false=>rfl
 |true=>
  simp only[ea,Qm,bM]at hk;simp only[ea,bM,hk.1.1,hk.1.2,ZQ h hk.2]at ha;cases ha
theorem kx(p b:ab):iY p b=true↔aG p=false/\p.Value=b.Value/\b.an<=p.an:=by
 simp[iY,bM,and_assoc]
theorem Om{b:ab}(h:1<=b.an):aG b=false:=by
 have:¬b.an=0:=by omega
 simp[aG,this]
end Go.Proofs.YtjbfdglebjnelaaGreat
namespace Go.Proofs.YtjbfdglebjnelaaGreat
open Go.TQ
theorem aei{n:Nat}(h:n<1000000):bK .u64 (n:Int)=n:=by
 unfold bK IntKind.wrap;simp[IntKind.signed,IntKind.bits];omega
def vE(b p:ab)(j:Nat)(t:aj):al:=⟨j,1,1,t,1,b,p,⟨0,ByteArray.mk #[]⟩,0,0⟩
structure Xj (b:ab):Prop where
 lo:1<=b.an
 hi:b.an<=6
 val:Le b.Value
theorem Xj.valid{b:ab}(h:Xj b):cF b=true:=Hd h.lo (by have:=h.hi;omega) h.val
theorem Xj.nz{b:ab}(h:Xj b):aG b=false:=Om h.lo
theorem NV{l:List al}(h:∀e∈l,aW e=true):bW l=l:=List.filter_eq_self.2 h
end Go.Proofs.YtjbfdglebjnelaaGreat
namespace Go.Proofs.YtjbfdglebjnelaaGreat
open Go.TQ
theorem Bq:∀(l:List al) (ms:List aR) (k:Nat) (m:aR),ms[k]?=some m->
  (l.foldl dv ms)[k]?=some (if m.dG then m else match(bW l).find? (fun e=>decide (e.au.toNat=k))with|some e=>⟨true,e.aa⟩|none=>m)
 |[],ms,k,m,h=>by simp[bW,h]
 |e::l,ms,k,m,h=>by
  rw[QU]
  by_cases hv:aW e=true
  ·have hr:bW (e::l)=e::bW l:=by simp[bW,hv]
   rw[hr,List.find?_cons]
   by_cases hk:e.au.toNat=k
   ·have hstep:(dv ms e)[k]?=some (if m.dG then m else⟨true,e.aa⟩):=by
     unfold dv;rw[hv,hk,h]
     cases hm:m.dG with
     |true=>simp[hm,h]
     |false=>
      have hlt:k<ms.length:=(Qw.1 h).1;simp[hm,hlt]
    rw[Bq l _ k _ hstep]
    cases hm:m.dG with
    |true=>simp[hm]
    |false=>simp[hk]
   ·have hstep:(dv ms e)[k]?=some m:=by
     unfold dv;split
     ·rw[List.getElem?_set_ne hk];exact h
     ·exact h
    rw[Bq l _ k m hstep];simp[hk]
  ·have hv':aW e=false:=by simpa using hv
   have hr:bW (e::l)=bW l:=by simp[bW,hv']
   have hstep:dv ms e=ms:=by simp[dv,hv']
   rw[hr,hstep];exact Bq l ms k m h
theorem aaI{aC:Nat}{t:aj}{l:List al}{k:Nat}(hk:k<10)(hn:aC<10):
  (fP aC t l)[k]?=some (if k=aC then⟨true,t⟩else match(bW l).find? (fun e=>decide (e.au.toNat=k))with|some e=>⟨true,e.aa⟩|none=>fU):=by
 unfold fP
 by_cases h:k=aC
 ·subst h;rw[Bq l _ k ⟨true,t⟩ (by simp[hk])]
  simp
 ·rw[Bq l _ k fU (by
   rw[List.getElem?_set_ne (fun e=>h e.symm),List.getElem?_replicate,Qr hk])]
  simp[h,fU]
theorem SV{l:List aR}{k:Nat}{m:aR}(hk:k<10)(h:l[k]?=some m)(hd:m.dG=true):mQ l k=true:=by
 rw[mQ,II,h];simp[hk,hd]
theorem aaH{aC:Nat}(hn:aC<10){t:aj}{l:List al}(T:Nat->aj)(ht:T aC=t)(hT:∀e∈bW l,e.aa=T e.au.toNat){k:Nat}(hk:k<10)(hs:k=aC\/∃e∈bW l,e.au.toNat=k):
  mQ (fP aC t l) k=true/\ll (fP aC t l) k=T k:=by
 have hg:=aaI (t:=t) (l:=l) hk hn
 by_cases h:k=aC
 ·rw[Qr h]at hg;exact⟨SV hk hg rfl,by rw[rY hg,h,ht]⟩
 ·rw[Qs h]at hg;obtain⟨e,he,hek⟩:=hs.resolve_left h
  cases hf:(bW l).find? (fun e=>decide (e.au.toNat=k))with
  |none=>
   have:=List.find?_eq_none.1 hf e he;simp[hek]at this
  |some e'=>
   rw[hf]at hg;have h1:=List.mem_of_find?_eq_some hf;have h2:=List.find?_some hf;simp only[Qi]at h2;exact⟨SV hk hg rfl,by rw[rY hg,<-h2];exact hT e' h1⟩
def yn(b p:ab)(ts:List aj)(q n:Nat)(l:List al):Prop:=
 l.length<=n/\(∀e∈l,∃i t,i<n/\q.testBit i=true/\ts[i]?=some t/\e=vE b p i t)/\∀i t,i<n->q.testBit i=true->ts[i]?=some t->vE b p i t∈l
theorem yn.nil(b p:ab)(ts:List aj)(q:Nat):yn b p ts q 0 []:=⟨by simp,by simp,fun i t h=>by omega⟩
theorem yn.skip{b p:ab}{ts:List aj}{q n:Nat}{l:List al}(h:yn b p ts q n l)(hq:q.testBit n=false):yn b p ts q (n+1) l:=by
 obtain⟨h1,h2,h3⟩:=h;refine⟨by omega,fun e he=> ?_,fun i t hi hb ht=> ?_⟩
 ·obtain⟨i,t,a,b,c⟩:=h2 e he;exact⟨i,t,by omega,b,c⟩
 ·rcases Nat.lt_or_ge i n with h|h
  ·exact h3 i t h hb ht
  ·obtain rfl:i=n:=by omega
   rw[hq]at hb;cases hb
theorem yn.take{b p:ab}{ts:List aj}{q n:Nat}{l:List al}(h:yn b p ts q n l)(hq:q.testBit n=true){t:aj}(ht:ts[n]?=some t):yn b p ts q (n+1) (l++[vE b p n t]):=by
 obtain⟨h1,h2,h3⟩:=h;refine⟨by simp;omega,fun e he=> ?_,fun i t' hi hb ht'=> ?_⟩
 ·rcases Qz.1 he with he|he
  ·obtain⟨i,t,a,b,c⟩:=h2 e he;exact⟨i,t,by omega,b,c⟩
  ·simp only[List.mem_singleton]at he;exact⟨n,t,by omega,hq,ht,he⟩
 ·rcases Nat.lt_or_ge i n with h|h
  ·exact Qz.2 (.inl (h3 i t' h hb ht'))
  ·obtain rfl:i=n:=by omega
   rw[ht]at ht';injection ht' with ht'
   subst ht';exact Qz.2 (.inr (by simp))
section
variable {b p : ab} (hb : Xj b) (hp : aG p = true \/ cF p = true) {ts : List aj} (hts : ∀ t ∈ ts, fu t) {q : Nat} {l : List al} (hlen : ts.length <= 5) (hc : yn b p ts q ts.length l)
 include hb hp hts hlen hc
end
end Go.Proofs.YtjbfdglebjnelaaGreat
namespace Go.Proofs.YtjbfdglebjnelaaGreat
open Go.TQ
section
variable {α : Type}
structure SWO (lt:α->α->Bool):Prop where
 asymm:∀x y,lt x y=true->lt y x=false
 trans:∀x y z,lt y x=false->lt z y=false->lt z x=false
end
end Go.Proofs.YtjbfdglebjnelaaGreat
namespace Go.Proofs.YtjbfdglebjnelaaGreat
open Go.TQ
section
variable {α : Type}
 def WD(eq ne:α->α->Bool)(z:α)(K:Int)(n:Nat)(v6:Int×Int×(List α)×Unit):Option ((Int×Int×(List α)×Unit)⊕((Int×(List α)×Unit)⊕List α)):=
 bif (decide (v6.2.1<((List.length ((v6.2.2.1.drop (Int.toNat K)).take (Int.toNat (n:Int) - Int.toNat K)):Nat):Int)))then
 aY (fun(v7:Int×(List α)×Unit)=>
 some (Sum.inl (v7.1,(aB .i64 v6.2.1 (1:Int)),v7.2.1,()))) fun j8=>
 Option.bind (idx ((v6.2.2.1.drop (Int.toNat K)).take (Int.toNat (n:Int) - Int.toNat K)) v6.2.1) fun x9=>
 Option.bind (v6.2.2.1[((Int.toNat K)+Int.toNat v6.2.1)]?) fun x10=>
 Option.bind (idx ((v6.2.2.1.drop (Int.toNat K)).take (Int.toNat (n:Int) - Int.toNat K)) (da .i64 v6.2.1 (1:Int))) fun x11=>
 Option.bind (v6.2.2.1[((Int.toNat K)+Int.toNat (da .i64 v6.2.1 (1:Int)))]?) fun x12=>
 bif (ne x10 x12)then
 Option.bind (idx ((v6.2.2.1.drop (Int.toNat K)).take (Int.toNat (n:Int) - Int.toNat K)) v6.2.1) fun x13=>
 Option.bind (v6.2.2.1[((Int.toNat K)+Int.toNat v6.2.1)]?) fun x14=>
 Option.bind (idx v6.2.2.1 v6.1) fun x15=>
 Option.bind (v6.2.2.1[(Int.toNat v6.1)]?) fun x16=>
 j8 ((aB .i64 v6.1 (1:Int)),(v6.2.2.1.set (Int.toNat v6.1) x14),())
 else
 j8 (v6.1,v6.2.2.1,())
 else
 Option.map Sum.inr (bif cD v6.1 ((List.length v6.2.2.1):Int) (List.length v6.2.2.1)then
 bif cD (0:Int) v6.1 (List.length (v6.2.2.1.take (Int.toNat v6.1)++List.replicate (Int.toNat ((List.length v6.2.2.1):Int) - Int.toNat v6.1) z++v6.2.2.1.drop ((Int.toNat v6.1)+(Int.toNat ((List.length v6.2.2.1):Int) - Int.toNat v6.1))))then
 Option.map Sum.inr (some ((v6.2.2.1.take (Int.toNat v6.1)++List.replicate (Int.toNat ((List.length v6.2.2.1):Int) - Int.toNat v6.1) z++v6.2.2.1.drop ((Int.toNat v6.1)+(Int.toNat ((List.length v6.2.2.1):Int) - Int.toNat v6.1))).take (Int.toNat v6.1 - Int.toNat (0:Int))))
 else none
 else none)
 def O7(eq ne:α->α->Bool)(z:α)(v1:Int×(List α)×Unit):Option ((Int×(List α)×Unit)⊕List α):=
 bif (decide (v1.1<((List.length v1.2.1:Nat):Int)))then
 Option.bind (idx v1.2.1 v1.1) fun x2=>
 Option.bind (v1.2.1[(Int.toNat v1.1)]?) fun x3=>
 Option.bind (idx v1.2.1 (da .i64 v1.1 (1:Int))) fun x4=>
 Option.bind (v1.2.1[(Int.toNat (da .i64 v1.1 (1:Int)))]?) fun x5=>
 bif (eq x3 x5)then
 bif cD v1.1 ((List.length v1.2.1):Int) (List.length v1.2.1)then
 aF (WD eq ne z v1.1 (List.length v1.2.1)) (v1.1,(1:Int),v1.2.1,())
 else none
 else
 some (Sum.inl ((aB .i64 v1.1 (1:Int)),v1.2.1,()))
 else
 Option.map Sum.inr (some v1.2.1)
 def MG(eq ne:α->α->Bool)(z:α)(s:List α):Option (List α):=
 bif (decide (((List.length s:Nat):Int)<(2:Int)))then
 some s
 else
 aF (O7 eq ne z) ((1:Int),s,())
theorem UI(d:List α){K n m:Nat}(hm:m<n - K):idx ((d.drop K).take (n - K)) (m:Int)=d[K+m]?:=by
 rw[bA,List.getElem?_take,Qr hm,List.getElem?_drop]
variable [DecidableEq α]
def qo(acc:List α)(x:α):List α:=if acc.getLast?=some x then acc else acc++[x]
def dd(l:List α):List α:=l.foldl qo []
theorem YM(l:List α)(x:α):dd (l++[x])=qo (dd l) x:=by simp[dd,List.foldl_append]
theorem afV(l:List α):(dd l).getLast?=l.getLast?:=by
 suffices h:∀r:List α,(dd r.reverse).getLast?=r.reverse.getLast? by
  have:=h l.reverse
  rwa [List.reverse_reverse]at this
 intro r
 induction r with
 |nil=>rfl
 |cons x r ih=>
  rw[List.reverse_cons,YM,qo];split
  ·rename_i h;rw[h];simp
  ·simp
theorem YL{s:List α}{k:Nat}{x:α}(h:s[k]?=some x):dd (s.take (k+1))=qo (dd (s.take k)) x:=by
 obtain⟨hl,hx⟩:=Qw.1 h;rw[List.take_succ_eq_append_getElem hl,hx,YM]
theorem SU{s:List α}{k:Nat}{x:α}(h:s[k]?=some x):(dd (s.take (k+1))).getLast?=some x:=by
 obtain⟨hl,hx⟩:=Qw.1 h;rw[afV,List.take_succ_eq_append_getElem hl,hx];simp
variable {eq ne : α -> α -> Bool} {z : α}
theorem MQ(hne:∀x y,ne x y= !decide (x=y)){s:List α}{K:Nat}(hn:s.length<1000000000):∀(r i k2:Nat) (d:List α),k2+r=s.length - K->1<=k2->i<=K+k2 - 1->d.length=s.length->d.take i=dd (s.take (K+k2))->(∀j,K+k2 - 1<=j->d[j]?=s[j]?)->
  aF (WD eq ne z (K:Int) s.length) ((i:Int),(k2:Int),d,())=some (.inr (dd s))
 |0,i,k2,d,hr,h1,hi,hd,ht,hs=>by
  have hKn:K+k2=s.length:=by omega
  refine bJ ?_;have e1:(((d.drop K).take (s.length - K)).length)=s.length - K:=by simp;omega
  have e2:decide ((k2:Int)<((s.length - K:Nat):Int))=false:=Qh (by omega)
  have e3:∀n,cD (i:Int) (d.length:Int) n=decide (d.length<=n):=by
   intro n;have:i<=d.length:=by omega
   simp only[cD];have h1:decide ((0:Int)<=(i:Int))=true:=Qg (by omega)
   have h2:decide ((i:Int)<=(d.length:Int))=true:=Qg (by omega)
   rw[h1,h2,Bool.and_self,Bool.true_and,decide_eq_decide];omega
  have e4:(d.take i++List.replicate (d.length - i) z++d.drop (i+(d.length - i))).length=d.length:=by simp;omega
  have e5:cD (0:Int) (i:Int) d.length=true:=by
   simp only[cD,Qm,Qi];omega
  have e6:(d.take i++List.replicate (d.length - i) z++d.drop (i+(d.length - i))).take (i - 0)=dd s:=by
   rw[Nat.sub_zero,QL,List.take_append_of_le_length (by simp;omega),List.take_take,Nat.min_self,ht,hKn,List.take_length]
  simp only[WD,QV,e1,e2,Ql,e3,QI,decide_true,Qk,e4,e5,Int.toNat_zero,e6,Qe]
 |r+1,i,k2,d,hr,h1,hi,hd,ht,hs=>by
  have hKn:K+k2<s.length:=by omega
  obtain⟨x,hx⟩:∃x,s[K+k2]?=some x:=⟨_,Qv hKn⟩;obtain⟨y,hy⟩:∃y,s[K+(k2 - 1)]?=some y:=⟨_,Qv (by omega)⟩
  have e1:(((d.drop K).take (s.length - K)).length)=s.length - K:=by simp;omega
  have e2:decide ((k2:Int)<((s.length - K:Nat):Int))=true:=Qg (by omega)
  have e3:da .i64 (k2:Int) 1=((k2 - 1:Nat):Int):=by rw[pK (by omega) (by omega)];omega
  have e4:aB .i64 (k2:Int) 1=((k2+1:Nat):Int):=bL (by omega) (by omega)
  have e5:aB .i64 (i:Int) 1=((i+1:Nat):Int):=bL (by omega) (by omega)
  have hdx:d[K+k2]?=some x:=by rw[hs _ (by omega),hx]
  have hdy:d[K+(k2 - 1)]?=some y:=by rw[hs _ (by omega),hy]
  have hv1:=UI d (K:=K) (n:=s.length) (m:=k2) (by omega)
  have hv2:=UI d (K:=K) (n:=s.length) (m:=k2 - 1) (by omega)
  obtain⟨w,hw⟩:∃w,d[i]?=some w:=⟨_,Qv (by omega)⟩
  have hstep:=YL hx
  have hlast:(dd (s.take (K+k2))).getLast?=some y:=by
   have:=SU hy
   rwa [show K+(k2 - 1)+1=K+k2 by omega]at this
  rw[qo,hlast]at hstep;have hil:i<d.length:=by omega
  by_cases hxy:x=y
  ·refine Eq.trans (bz (s':=((i:Int),((k2+1:Nat):Int),d,())) ?_) (MQ hne hn r i (k2+1) d (by omega) (by omega) (by omega) hd ?_ fun j hj=>hs j (by omega))
   ·simp only[WD,QV,e1,e2,Qk,aU,hv1,hdx,Qa,e3,hv2,hdy,hne,hxy,decide_true,Qo,Ql,e4]
   ·rw[show K+(k2+1)=K+k2+1 by omega,hstep,Qr (by rw[hxy]),ht]
  ·refine Eq.trans (bz (s':=(((i+1:Nat):Int),((k2+1:Nat):Int),d.set i x,())) ?_) (MQ hne hn r (i+1) (k2+1) (d.set i x) (by omega) (by omega) (by omega) (by rw[QY];exact hd) ?_ fun j hj=> ?_)
   ·simp only[WD,QV,e1,e2,Qk,aU,hv1,hdx,Qa,e3,hv2,hdy,hne,hxy,decide_false,Qp,e4,e5,bA,hw]
   ·rw[show K+(k2+1)=K+k2+1 by omega,hstep,Qs (fun e=>hxy (by injection e with e;exact e.symm)),<-ht,List.take_succ_eq_append_getElem (by rw[QY];exact hil)]
    congr 1
    ·rw[List.take_set_of_le (QI _)]
    ·simp
   ·rw[List.getElem?_set,Qs (by omega)]
    exact hs j (by omega)
theorem WC(heq:∀x y,eq x y=decide (x=y))(hne:∀x y,ne x y= !decide (x=y)){s:List α}(hn:s.length<1000000000):∀(r k:Nat),k+r=s.length->1<=k->dd (s.take k)=s.take k->aF (O7 eq ne z) ((k:Int),s,())=some (dd s)
 |0,k,hr,h1,h=>by
  refine bJ ?_;have hk:k=s.length:=by omega
  have e2:decide ((k:Int)<((s.length:Nat):Int))=false:=Qh (by omega)
  rw[hk,List.take_length]at h;simp only[O7,e2,Ql,Qe,h]
 |r+1,k,hr,h1,h=>by
  have hk:k<s.length:=by omega
  obtain⟨x,hx⟩:∃x,s[k]?=some x:=⟨_,Qv hk⟩;obtain⟨y,hy⟩:∃y,s[k - 1]?=some y:=⟨_,Qv (by omega)⟩
  have e2:decide ((k:Int)<((s.length:Nat):Int))=true:=Qg (by omega)
  have e3:da .i64 (k:Int) 1=((k - 1:Nat):Int):=by rw[pK (by omega) (by omega)];omega
  have e4:aB .i64 (k:Int) 1=((k+1:Nat):Int):=bL (by omega) (by omega)
  have hstep:=YL hx
  have hlast:(dd (s.take k)).getLast?=some y:=by
   have:=SU hy
   rwa [show k - 1+1=k by omega]at this
  rw[qo,hlast]at hstep
  by_cases hxy:x=y
  ·rw[Qr (by rw[hxy])]at hstep
   have e5:cD (k:Int) (s.length:Int) s.length=true:=by
    simp only[cD,Qm,Qi];omega
   have hin:=MQ (eq:=eq) (z:=z) (K:=k) hne hn (s.length - k - 1) k 1 s (by omega) (by omega) (by omega) rfl (by rw[hstep,h]) (fun _ _=>rfl)
   refine bJ ?_;simp only[O7,e2,Qk,bA,QV,hx,hy,e3,Qa,heq,hxy,decide_true,e5];exact hin
  ·rw[Qs (fun e=>hxy (by injection e with e;exact e.symm))]at hstep
   refine Eq.trans (bz (s':=(((k+1:Nat):Int),s,())) ?_) (WC heq hne hn r (k+1) (by omega) (by omega) ?_)
   ·simp only[O7,e2,Qk,bA,QV,hx,hy,e3,Qa,heq,hxy,decide_false,Ql,e4]
   ·obtain⟨hl,hx'⟩:=Qw.1 hx;rw[hstep,h,List.take_succ_eq_append_getElem hl,hx']
theorem A9(heq:∀x y,eq x y=decide (x=y))(hne:∀x y,ne x y= !decide (x=y))(s:List α)(hn:s.length<1000000000):MG eq ne z s=some (dd s):=by
 unfold MG
 by_cases h:s.length<2
 ·have e:decide (((s.length:Nat):Int)<2)=true:=Qg (by omega)
  rw[e,Qk]
  match s,h with
  |[],_=>rfl
  |[x],_=>rfl
 ·have e:decide (((s.length:Nat):Int)<2)=false:=Qh (by omega)
  rw[e,Ql];refine WC heq hne hn (s.length - 1) 1 (by omega) (by omega) ?_
  cases s with
  |nil=>rfl
  |cons x l=>rfl
theorem aaa(acc:List α)(x:α):∀y,y∈qo acc x↔y∈acc\/y=x:=by
 intro y;unfold qo;split
 ·rename_i h;have:=List.mem_of_getLast? h;exact⟨.inl,fun h'=>h'.elim id fun e=>e▸this⟩
 ·simp
theorem H9:∀(l acc:List α) (y:α),y∈l.foldl qo acc↔y∈acc\/y∈l
 |[],acc,y=>by simp
 |x::l,acc,y=>by
  rw[QU,H9 l,aaa];simp[or_assoc]
theorem agS(l:List α)(y:α):y∈dd l↔y∈l:=by rw[dd,H9];simp
theorem Wz(l:List α):(dd l).length<=l.length:=by
 suffices h:∀(l acc:List α),(l.foldl qo acc).length<=acc.length+l.length by simpa[dd]using h l []
 intro l
 induction l with
 |nil=>intro acc;simp
 |cons x l ih=>
  intro acc;rw[QU];refine QK (ih _) ?_;unfold qo;split<;>simp<;>omega
theorem abL{lt:α->α->Bool}(ho:SWO lt)(hto:∀x y,lt x y=false->lt y x=false->x=y){l:List α}(hl:l.Pairwise (fun a b=>lt b a=false)):(dd l).Pairwise (fun a b=>lt a b=true):=by
 suffices h:∀(l acc:List α),(acc++l).Pairwise (fun a b=>lt b a=false)->acc.Pairwise (fun a b=>lt a b=true)->(l.foldl qo acc).Pairwise (fun a b=>lt a b=true)from h l [] (by simpa using hl) .nil
 intro l
 induction l with
 |nil=>intro acc _ h;exact h
 |cons x l ih=>
  intro acc h1 h2;rw[QU];unfold qo;split
  ·rename_i hlast;refine ih acc ?_ h2;rw[List.pairwise_append]at h1 ⊢;exact⟨h1.1,(Q4.1 h1.2.1).2,fun a ha b hb=>h1.2.2 a ha b (by simp[hb])⟩
  ·rename_i hlast;refine ih _ (by simpa using h1) ?_
   rw[List.pairwise_append]at h1 ⊢;refine⟨h2,by simp,fun a ha b hb=> ?_⟩
   rw[List.mem_singleton.1 hb];have hax:lt x a=false:=h1.2.2 a ha x (by simp)
   cases hc:lt a x with
   |true=>rfl
   |false=>
    exfalso;have e:=hto a x hc hax;subst e
    obtain⟨y,hy⟩:∃y,acc.getLast?=some y:=by
     cases hg:acc.getLast? with
     |none=>rw[List.getLast?_eq_none_iff.1 hg]at ha;cases ha
     |some y=>exact⟨y,rfl⟩
    obtain⟨pre,rfl⟩:∃pre,acc=pre++[y]:=by
     have:=List.getLast?_eq_some_iff.1 hy;exact this
    rcases Qz.1 ha with ha|ha
    ·rw[List.pairwise_append]at h2;have h3:=h2.2.2 a ha y (by simp)
     have h4:=h1.2.2 y (by simp) a (by simp)
     rw[h3]at h4;cases h4
    ·rw[List.mem_singleton.1 ha]at hlast;exact hlast hy
end
end Go.Proofs.YtjbfdglebjnelaaGreat
namespace Go.Proofs.YtjbfdglebjnelaaGreat
open Go.TQ
theorem adp(s:List Int):nQ s=MG (fun x y=>decide (x=y)) (fun x y=> !decide (x=y)) 0 s:=rfl
 def gY(v:ByteArray)(e:al):Bool:=aW e&&decide (e.af.Value=v)&& !decide (e.aQ=0)
 def ends(v:ByteArray)(l:List al):List Int:=l.flatMap fun e=>if gY v e then[e.aQ,e.bb]else[]
theorem yR{v:ByteArray}{l:List al}{x:Int}:x∈ends v l↔∃e∈l,gY v e=true/\(x=e.aQ\/x=e.bb):=by
 simp only[ends,QQ];constructor
 ·rintro⟨e,he,hx⟩;split at hx
  ·rename_i h;exact⟨e,he,h,by simpa using hx⟩
  ·cases hx
 ·rintro⟨e,he,h,hx⟩;exact⟨e,he,by rw[Qr h];simpa using hx⟩
end Go.Proofs.YtjbfdglebjnelaaGreat
namespace Go.Proofs.YtjbfdglebjnelaaGreat
open Go.TQ
theorem IY{v:aZ}{aC:Int}{l:List al}(hl:l.length<=1000000)(hin:ur l)(val:ByteArray)(lo hi:Int):jb ⟨aC,v,l.map bE.mk⟩ val lo hi=some ((dB (fh · val lo hi) l:Nat):Int):=by
 unfold jb;refine EU (fh · val lo hi) l hin _ (fun i e s he=> ?_) (fun s=> ?_)
 ·have hlt:i<l.length:=(Qw.1 he).1;have hd:decide ((i:Int)<(((l.map bE.mk).length:Nat):Int))=true:=Qg (by rw[QC];omega)
  have hw:aB .i64 (i:Int) 1=((i+1:Nat):Int):=bL (by omega) (by omega)
  have hx:idx (l.map bE.mk) (i:Int)=some ⟨e⟩:=by rw[bA,QT,he];rfl
  simp only[hd,hx,hw,Qk,Qa,aj.eta,al.eta,lV,tK,aU];cases fh e val lo hi<;>simp
 ·have hd:decide (((l.length:Nat):Int)<(((l.map bE.mk).length:Nat):Int))=false:=Qh (by rw[QC];exact Int.lt_irrefl _)
  simp only[hd,Ql,Qe]
theorem X2{v:aZ}{aC:Int}{l:List al}(hl:l.length<=1000000)(hin:ur l)(val:ByteArray)(lo hi:Int):gk ⟨aC,v,l.map bE.mk⟩ val lo hi val lo hi=some ((dB (fun e=>rI e val lo hi||fh e val lo hi) l:Nat):Int):=by
 unfold gk;refine EU (fun e=>rI e val lo hi||fh e val lo hi) l hin _ (fun i e s he=> ?_) (fun s=> ?_)
 ·have hlt:i<l.length:=(Qw.1 he).1;have hd:decide ((i:Int)<(((l.map bE.mk).length:Nat):Int))=true:=Qg (by rw[QC];omega)
  have hw:aB .i64 (i:Int) 1=((i+1:Nat):Int):=bL (by omega) (by omega)
  have hx:idx (l.map bE.mk) (i:Int)=some ⟨e⟩:=by rw[bA,QT,he];rfl
  simp only[hd,hx,hw,Qk,Qa,aj.eta,al.eta,jh,lV,wH,tK,DP,aU,ky,Bool.cond_true_left];cases (rI e val lo hi||fh e val lo hi)<;>simp
 ·have hd:decide (((l.length:Nat):Int)<(((l.map bE.mk).length:Nat):Int))=false:=Qh (by rw[QC];exact Int.lt_irrefl _)
  simp only[hd,Ql,Qe]
 def Hk(aC:Nat)(t:aj)(l:List al):gg:=⟨aC,⟨fP aC t l⟩,(bW l).map bE.mk⟩
 def kR(aC:Nat)(t:aj)(l:List al)(val:ByteArray)(lo hi:Int):Bool:=
 lE (fP aC t l) aC (dB (fun e=>rI e val lo hi||fh e val lo hi) (bW l)) (dB (fh · val lo hi) (bW l))
 def ra(aC:Nat)(t:aj)(l:List al)(val:ByteArray)(lo hi:Int):Bool:=
 (gq (fP aC t l) (dB (fh · val lo hi) (bW l))).testBit aC
section
variable {aC : Nat} (hn : aC < 10) {t : aj} (ht : c5 t) {l : List al} (hl : pI l)
 include hn ht hl
theorem Vf(val:ByteArray)(lo hi:Int):gR (Hk aC t l) val lo hi=some (kR aC t l val lo hi):=by
 have hlen:=hl.len;have hrl:=AU l;have hin:=lL l
 simp only[Hk,gR,nW,jP,Qa,X2 (by omega:(bW l).length<=1000000) hin,IY (by omega:(bW l).length<=1000000) hin,
  Ap (lj ht hl) hn (lh hin) (lh hin),kR]
theorem aew(val:ByteArray)(lo hi:Int):mJ (Hk aC t l) val lo hi=some (ra aC t l val lo hi):=by
 have hlen:=hl.len;have hrl:=AU l;have hin:=lL l;simp only[Hk,mJ,nW,lz,Qa,IY (by omega:(bW l).length<=1000000) hin,y1 (lj ht hl) hn (lh hin),ra]
theorem look_eq:fo aC t l=some (Hk aC t l):=R3 hn ht hl
end
def cy(q:Int->Bool):List Int->Int->Int
 |[],lo=>lo
 |e::l,lo=>if lo<=e then cy q l lo else if q e then cy q l e else lo
theorem Bo{p:Int->Option Bool}{q:Int->Bool}(h:∀e,p e=some (q e)):∀(l:List Int) (lo:Int),me (fun(m5:Nat) (e6:Int) (v4:Int×Unit)=>
  bif (decide (v4.1<=e6))then some (Sum.inl (v4.1,()))else
  Option.bind (p e6) fun r7=>bif (!r7)then Option.map Sum.inr (some v4.1)else some (Sum.inl (e6,()))) (fun v8=>some v8.1) l (lo,())=some (cy q l lo)
 |[],lo=>rfl
 |e::l,lo=>by
  rw[me,cy]
  by_cases hle:lo<=e
  ·rw[Qr hle];simp only[hle,decide_true,Qk];exact Bo h l lo
  ·rw[Qs hle];simp only[hle,decide_false,Ql,h,Qa]
   cases hq:q e with
   |true=>
    simp only[Qo,Ql,Qt];have:=Bo h l e;simp only[h,Qa]at this;exact this
   |false=>rfl
def flat(n:Nat)(k:Int):aj:=⟨k,uB n,[]⟩
theorem Lq(s n:Nat)(k:Int):ku s (flat n k)=decide (k<=(((uB n).countP (kV s):Nat):Int)):=by
 rw[Jb];simp[flat,vV]
theorem aac{s s':Nat}(h:∀k,s.testBit k=true->s'.testBit k=true)(l:List Int):l.countP (kV s)<=l.countP (kV s'):=List.countP_mono_left fun x _ hx=>S6 h x hx
structure Gk (n:Nat) (k:Int) (l:List al):Prop where
 n10:n<=10
 k1:1<=k
 kn:k<=n
 valid:∀e∈l,aW e=true
 aO:∀e∈l,e.aa=flat n k
 few:l.length<=1000
 all:∀i,i<n->∃e∈l,e.au.toNat=i
theorem Gk.gn{n:Nat}{k:Int}{l:List al}(h:Gk n k l):fu (flat n k):=abE n h.n10 k h.k1 h.kn
theorem Gk.sm{n:Nat}{k:Int}{l:List al}(h:Gk n k l):pI l:=⟨by have:=h.few;omega,fun e he=>by rw[h.aO e he];exact h.gn.sm⟩
theorem Gk.bW{n:Nat}{k:Int}{l:List al}(h:Gk n k l):Go.Proofs.YtjbfdglebjnelaaGreat.bW l=l:=NV h.valid
def cE(n:Nat)(k:Int)(c:Int)(v:ByteArray)(lo hi:Nat->Int)(i:Nat):al:=⟨i,1,1,flat n k,2,⟨c,v⟩,⟨c,v⟩,⟨0,ByteArray.mk #[]⟩,lo i,hi i⟩
end Go.Proofs.YtjbfdglebjnelaaGreat
namespace Go.Proofs.YtjbfdglebjnelaaGreat
open Go.TQ
def vk(b:List Int)(sure:Int->Int->Bool):Int×Int×Bool×Unit:=
 match b.reverse.find? (fun e=>sure e e)with
 |some e=>(cy (fun x=>sure x e) b.reverse e,e,true,())
 |none=>(0,0,false,())
theorem YD{p:Int->Option Bool}{q:Int->Bool}{d:Int->Option Int}{f:Int->Int}(hp:∀e,p e=some (q e))(hd:∀e,d e=some (f e)):∀r:List Int,me (fun(m5:Nat) (e6:Int) (v4:Int×Int×Bool×Unit)=>
  Option.bind (p e6) fun r7=>bif r7 then Option.bind (d e6) fun r8=>Option.map Sum.inr (some (r8,e6,true,()))else some (Sum.inl (v4.1,v4.2.1,v4.2.2.1,()))) (fun(v9:Int×Int×Bool×Unit)=>some ((0:Int),(0:Int),false,())) r ((0:Int),(0:Int),false,())=
  some (match r.find? q with|some e=>(f e,e,true,())|none=>(0,0,false,()))
 |[]=>rfl
 |e::r=>by
  have ih:=YD hp hd r;rw[me,List.find?_cons];simp only[hp,hd,Qa,Qe]at ih ⊢
  cases q e with
  |true=>rfl
  |false=>simp only[Ql];exact ih
section
variable {aC : Nat} (hn : aC < 10) {t : aj} (ht : c5 t) {l : List al} (hl : pI l)
 include hn ht hl
end
section
variable {n : Nat} {k c : Int} {v : ByteArray} {lo hi : Nat -> Int} (h : Gk n k ((List.range n).map (cE n k c v lo hi))) {i : Nat} (hi' : i < n)
 include h hi'
end
end Go.Proofs.YtjbfdglebjnelaaGreat
namespace Go.Proofs.YtjbfdglebjnelaaGreat
open Go.TQ
section
variable {α : Type}
structure vp (lt:α->α->Bool):Prop where
 irrefl:∀x,lt x x=false
 trans:∀x y z,lt x y=true->lt y z=true->lt x z=true
 total:∀x y,lt x y=false->lt y x=false->x=y
variable {lt : α -> α -> Bool}
theorem vp.asymm(h:vp lt){x y:α}(hxy:lt x y=true):lt y x=false:=by
 cases hc:lt y x with
 |false=>rfl
 |true=>have:=h.trans x y x hxy hc;rw[h.irrefl]at this;cases this
theorem vp.ntrans(h:vp lt){x y z:α}(h1:lt x y=false)(h2:lt y z=false):lt x z=false:=by
 cases hc:lt x z with
 |false=>rfl
 |true=>
  cases hyx:lt y x with
  |false=>rw[h.total x y h1 hyx,h2]at hc;cases hc
  |true=>have:=h.trans y x z hyx hc;rw[h2]at this;cases this
theorem vp.kit(h:vp lt):Go.Sort.SWO lt:=⟨h.irrefl,h.trans,fun _ _ _=>h.ntrans⟩
theorem vp.own(h:vp lt):SWO lt:=⟨fun _ _=>h.asymm,fun _ _ _ h1 h2=>h.ntrans h2 h1⟩
theorem vp.flip(h:vp lt):vp fun a b=>lt b a:=⟨h.irrefl,fun x y z h1 h2=>h.trans z y x h2 h1,fun x y h1 h2=>h.total x y h2 h1⟩
theorem vp.unique(h:vp lt):∀{a b:List α},a.Pairwise (fun x y=>lt x y=true)->b.Pairwise (fun x y=>lt x y=true)->(∀x,x∈a↔x∈b)->a=b
 |[],[],_,_,_=>rfl
 |[],y::b,_,_,h'=>by have:=(h' y).2 (by simp);cases this
 |x::a,[],_,_,h'=>by have:=(h' x).1 (by simp);cases this
 |x::a,y::b,ha,hb,h'=>by
  rw[Q4]at ha hb
  have hxy:x=y:=by
   have h1:=(h' x).1 (by simp)
   have h2:=(h' y).2 (by simp)
   rcases QA.1 h1 with h1|h1
   ·exact h1
   ·rcases QA.1 h2 with h2|h2
    ·exact h2.symm
    ·have q1:=ha.1 y h2;have q2:=hb.1 x h1;rw[h.asymm q1]at q2;cases q2
  subst hxy;congr 1;refine h.unique ha.2 hb.2 fun z=>⟨fun hz=> ?_,fun hz=> ?_⟩
  ·rcases QA.1 ((h' z).1 (by simp[hz]))with e|e
   ·subst e;have:=ha.1 z hz;rw[h.irrefl]at this;cases this
   ·exact e
  ·rcases QA.1 ((h' z).2 (by simp[hz]))with e|e
   ·subst e;have:=hb.1 z hz;rw[h.irrefl]at this;cases this
   ·exact e
theorem vp.Za[DecidableEq α](h:vp lt){cmp:α->α->Option Int}{c:α->α->Int}(hc:∀x y,cmp x y=some (c x y))(hlt:∀x y,decide (c x y<0)=lt x y)(s:List α)(hs:s.length<1000000000):
  ∃t,Ag cmp s=some ((),t)/\t.length=s.length/\(dd t).Pairwise (fun x y=>lt x y=true)/\∀x,x∈dd t↔x∈s:=by
 have hcf:IS cmp=c:=funext fun x=>funext fun y=>by unfold IS;rw[hc];rfl
 have hl:Go.Proofs.ltOf (IS cmp)=lt:=by
  rw[hcf];exact funext fun x=>funext fun y=>hlt x y
 have hok:aem cmp:=⟨fun x y=>by rw[hcf];exact hc x y,by rw[hl];exact h.kit,fun x y h1 h2=>by rw[hl]at h1 h2;exact h.total x y h1 h2⟩
 refine⟨s.mergeSort fun x y=> !lt y x,?_,List.length_mergeSort s,abL h.own h.total ?_,fun x=>by rw[agS,List.mem_mergeSort]⟩
 ·unfold Ag;rw[Qr ⟨hok,by omega⟩,hl]
 ·refine(List.pairwise_mergeSort (le:=fun x y=> !lt y x) (fun a b c h1 h2=> ?_) (fun a b=> ?_) s).imp fun{a b} hab=>by simpa using hab
  ·simp only[Bool.not_eq_true']at h1 h2 ⊢;exact h.ntrans h2 h1
  ·cases hab:lt a b with
   |false=>simp
   |true=>rw[h.asymm hab];rfl
end
theorem Bf:vp fun a b:Int=>decide (a<b):=
 ⟨fun x=>Qh (Int.lt_irrefl x),fun x y z h1 h2=>by simp only[Qi]at*;omega,fun x y h1 h2=>by simp only[Qj]at*;omega⟩
theorem WO:∀{x y z:List UInt8},Op.bytesLess x y=true->Op.bytesLess y z=true->Op.bytesLess x z=true
 |[],[],_,h,_=>by simp[Op.bytesLess]at h
 |_::_,[],_,h,_=>by simp[Op.bytesLess]at h
 |[],_::_,[],_,h=>by simp[Op.bytesLess]at h
 |[],_::_,_::_,_,_=>rfl
 |_::_,_::_,[],_,h=>by simp[Op.bytesLess]at h
 |a::x,b::y,c::z,h,h'=>by
  simp only[Op.bytesLess,Qn,Qi,Qm,beq_iff_eq]at h h' ⊢;rcases h with h|⟨rfl,h⟩
  ·rcases h' with h'|⟨rfl,h'⟩
   ·exact .inl (UInt8.lt_trans h h')
   ·exact .inl h
  ·rcases h' with h'|⟨rfl,h'⟩
   ·exact .inl h'
   ·exact .inr ⟨rfl,WO h h'⟩
theorem Xu{a b c:ByteArray}(h:jI a b=true)(h':jI b c=true):jI a c=true:=WO h h'
theorem Xv{a b:ByteArray}(h:a≠b):jI a b=true\/jI b a=true:=
 WQ fun e=>h (by
  rw[Lib.toList_data,Lib.toList_data]at e;cases a;cases b;rename_i x y;cases x;cases y
  simp_all)
theorem nb:vp c9:=by
 refine⟨fun x=>by rw[c9,Qr rfl,UT],fun x y z h1 h2=> ?_,fun x y h1 h2=> ?_⟩
 ·unfold c9 at*
  by_cases e1:x.size=y.size
  ·rw[Qr e1]at h1
   by_cases e2:y.size=z.size
   ·rw[Qr e2]at h2;rw[Qr (e1.trans e2)];exact Xu h1 h2
   ·rw[Qs e2]at h2;rw[Qs (by omega),e1]
    exact h2
  ·rw[Qs e1,Qi]at h1
   by_cases e2:y.size=z.size
   ·rw[Qs (by omega),<-e2]
    exact Qg h1
   ·rw[Qs e2,Qi]at h2;rw[Qs (by omega)]
    exact Qg (by omega)
 ·unfold c9 at*
  by_cases e1:x.size=y.size
  ·rw[Qr e1]at h1;rw[Qr e1.symm]at h2;refine Classical.byContradiction fun hne=> ?_
   rcases Xv hne with h|h
   ·rw[h]at h1;cases h1
   ·rw[h]at h2;cases h2
  ·rw[Qs e1,Qj]at h1;rw[Qs (fun e=>e1 e.symm),Qj]at h2
   omega
theorem zk:vp bs:=by
 refine⟨fun x=>by rw[bs,Qr rfl,nb.irrefl],fun x y z h1 h2=> ?_,fun x y h1 h2=> ?_⟩
 ·unfold bs at*
  by_cases e1:x.an=y.an
  ·rw[Qr e1]at h1
   by_cases e2:y.an=z.an
   ·rw[Qr e2]at h2;rw[Qr (e1.trans e2)];exact nb.trans _ _ _ h1 h2
   ·rw[Qs e2]at h2;rw[Qs (by omega),e1]
    exact h2
  ·rw[Qs e1,Qi]at h1
   by_cases e2:y.an=z.an
   ·rw[Qs (by omega),<-e2]
    exact Qg h1
   ·rw[Qs e2,Qi]at h2;rw[Qs (by omega)]
    exact Qg (by omega)
 ·unfold bs at*
  by_cases e1:x.an=y.an
  ·rw[Qr e1]at h1;rw[Qr e1.symm]at h2;have:=nb.total _ _ h1 h2;cases x;cases y
   simp_all
  ·rw[Qs e1,Qj]at h1;rw[Qs (fun e=>e1 e.symm),Qj]at h2
   omega
end Go.Proofs.YtjbfdglebjnelaaGreat
namespace Go.Proofs.YtjbfdglebjnelaaGreat
open Go.TQ
structure Pz (n:Nat) (l:List al):Prop where
 of:∀e∈l,∃i:Nat,i<n/\PA i 1 n e
 asc:l.Pairwise fun a b=>a.au<b.au
 len:l.length<=n
theorem Pz.valid{n:Nat}{l:List al}(h:Pz n l):∀e∈l,aW e=true:=fun e he=>by
 obtain⟨i,_,hi⟩:=h.of e he;rw[aW,Sa hi.aO];exact hi.valid
theorem Pz.sm{n:Nat}{l:List al}(h:Pz n l)(hn:n<=1000):pI l:=⟨by have:=h.len;omega,fun e he=>by
 obtain⟨i,_,hi⟩:=h.of e he
 exact hi.aO.sm⟩
theorem EO.mono{l:List aR}{s s' r:Nat}(h:∀k,s.testBit k=true->s'.testBit k=true)(hi:EO l s r):EO l s' r:=fun k hk=>⟨h k (hi k hk).1,(hi k hk).2⟩
section
variable {aC : Nat} {t : aj} (ht : c5 t) {l : List al} (hl : pI l) {v : ByteArray} {lo hi k : Int} (h1 : lo <= k) (h2 : k <= hi)
 include ht hl h1 h2
end
end Go.Proofs.YtjbfdglebjnelaaGreat
namespace Go.Proofs.YtjbfdglebjnelaaGreat
open Go.TQ
section
variable {α : Type}
 def sd(p:α->Option Bool)(a0:List α)(v1:Int×Unit):Option ((Int×Unit)⊕Int):=
 bif (decide (v1.1<((List.length a0:Nat):Int)))then
  Option.bind (idx a0 v1.1) fun x2=>Option.bind (p x2) fun r3=>bif r3 then Option.map Sum.inr (some v1.1)else some (Sum.inl ((aB .i64 v1.1 (1:Int)),()))
 else Option.map Sum.inr (some (-1:Int))
 def abC(p:α->Option Bool)(a0:List α):Option Int:=aF (sd p a0) ((0:Int),())
 def ED(p:α->Option Bool)(z:α)(v2:Int×Int×(List α)×Unit):Option ((Int×Int×(List α)×Unit)⊕List α):=
 bif (decide (v2.2.1<((List.length v2.2.2.1:Nat):Int)))then
  aY (fun(v3:Int×(List α)×Unit)=>some (Sum.inl (v3.1,(aB .i64 v2.2.1 (1:Int)),v3.2.1,()))) fun j4=>
  Option.bind (idx v2.2.2.1 v2.2.1) fun x5=>Option.bind (v2.2.2.1[(Int.toNat v2.2.1)]?) fun x6=>Option.bind (p x6) fun r7=>
  bif (!r7)then
   Option.bind (idx v2.2.2.1 v2.1) fun x8=>Option.bind (v2.2.2.1[(Int.toNat v2.1)]?) fun x9=>j4 ((aB .i64 v2.1 (1:Int)),(v2.2.2.1.set (Int.toNat v2.1) x6),())
  else j4 (v2.1,v2.2.2.1,())
 else
  Option.map Sum.inr (bif cD v2.1 ((List.length v2.2.2.1):Int) (List.length v2.2.2.1)then
   bif cD (0:Int) v2.1 (List.length (v2.2.2.1.take (Int.toNat v2.1)++List.replicate (Int.toNat ((List.length v2.2.2.1):Int) - Int.toNat v2.1) z++v2.2.2.1.drop ((Int.toNat v2.1)+(Int.toNat ((List.length v2.2.2.1):Int) - Int.toNat v2.1))))then
    some ((v2.2.2.1.take (Int.toNat v2.1)++List.replicate (Int.toNat ((List.length v2.2.2.1):Int) - Int.toNat v2.1) z++v2.2.2.1.drop ((Int.toNat v2.1)+(Int.toNat ((List.length v2.2.2.1):Int) - Int.toNat v2.1))).take (Int.toNat v2.1 - Int.toNat (0:Int)))
   else none
  else none)
 def YA(p:α->Option Bool)(z:α)(s:List α):Option (List α):=
 Option.bind (abC p s) fun r1=>bif (decide (r1=(-1:Int)))then some s else aF (ED p z) (r1,(aB .i64 r1 (1:Int)),s,())
theorem DD{q:α->Bool}{s:List α}{j:Nat}{x:α}(h:s[j]?=some x):(s.take (j+1)).filter q=(s.take j).filter q++if q x then[x]else[]:=by
 obtain⟨hl,hx⟩:=Qw.1 h;rw[List.take_succ_eq_append_getElem hl,List.filter_append,hx];congr 1;cases hq:q x<;>simp[hq]
variable {p : α -> Option Bool} {q : α -> Bool} (hp : ∀ x, p x = some (q x)) {z : α}
 include hp
theorem We{s:List α}(hs:s.length<1000000000):∀(k i:Nat),i+k=s.length->(s.take i).filter (fun x=> !q x)=s.take i->
  (∃m:Nat,∃x,aF (sd p s) ((i:Int),())=some (m:Int)/\(s.take m).filter (fun x=> !q x)=s.take m/\s[m]?=some x/\q x=true)\/(aF (sd p s) ((i:Int),())=some (-1)/\s.filter (fun x=> !q x)=s)
 |0,i,hi,hf=>by
  have hd:decide ((i:Int)<((s.length:Nat):Int))=false:=Qh (by omega)
  refine .inr ⟨bJ ?_,?_⟩
  ·simp only[sd,hd,Ql,Qe]
  ·rwa [show i=s.length by omega,List.take_length]at hf
 |k+1,i,hi,hf=>by
  have hd:decide ((i:Int)<((s.length:Nat):Int))=true:=Qg (by omega)
  have hw:aB .i64 (i:Int) 1=((i+1:Nat):Int):=bL (by omega) (by omega)
  obtain⟨x,hx⟩:∃x,s[i]?=some x:=⟨_,Qv (by omega)⟩
  cases hq:q x with
  |true=>
   refine .inl ⟨i,x,bJ ?_,hf,hx,hq⟩;simp only[sd,hd,Qk,bA,hx,Qa,hp,hq,Qe]
  |false=>
   have hstep:aF (sd p s) ((i:Int),())=aF (sd p s) (((i+1:Nat):Int),()):=bz (by simp only[sd,hd,Qk,bA,hx,Qa,hp,hq,Ql,hw])
   rw[hstep];refine We hs k (i+1) (by omega) ?_
   rw[DD hx,hf,hq];obtain⟨hl,hx'⟩:=Qw.1 hx;rw[List.take_succ_eq_append_getElem hl,hx'];rfl
theorem ML{s:List α}(hs:s.length<1000000000):∀(r i j:Nat) (d:List α),j+r=s.length->i<j->d.length=s.length->d.take i=(s.take j).filter (fun x=> !q x)->(∀m,j<=m->d[m]?=s[m]?)->
  aF (ED p z) ((i:Int),(j:Int),d,())=some (s.filter fun x=> !q x)
 |0,i,j,d,hr,hij,hd,ht,hm=>by
  have e2:decide ((j:Int)<((d.length:Nat):Int))=false:=Qh (by omega)
  refine bJ ?_
  have e3:∀n,cD (i:Int) (d.length:Int) n=decide (d.length<=n):=by
   intro n;simp only[cD];have h1:decide ((0:Int)<=(i:Int))=true:=Qg (by omega)
   have h2:decide ((i:Int)<=(d.length:Int))=true:=Qg (by omega)
   rw[h1,h2,Bool.and_self,Bool.true_and,decide_eq_decide];omega
  have e4:(d.take i++List.replicate (d.length - i) z++d.drop (i+(d.length - i))).length=d.length:=by simp;omega
  have e5:cD (0:Int) (i:Int) d.length=true:=by
   simp only[cD,Qm,Qi];omega
  have e6:(d.take i++List.replicate (d.length - i) z++d.drop (i+(d.length - i))).take (i - 0)=s.filter fun x=> !q x:=by
   rw[Nat.sub_zero,QL,List.take_append_of_le_length (by simp;omega),List.take_take,Nat.min_self,ht,show j=s.length by omega,List.take_length]
  simp only[ED,e2,Ql,QV,e3,QI,decide_true,Qk,e4,e5,Int.toNat_zero,e6,Qe]
 |r+1,i,j,d,hr,hij,hd,ht,hm=>by
  have e2:decide ((j:Int)<((d.length:Nat):Int))=true:=Qg (by omega)
  have ej:aB .i64 (j:Int) 1=((j+1:Nat):Int):=bL (by omega) (by omega)
  have ei:aB .i64 (i:Int) 1=((i+1:Nat):Int):=bL (by omega) (by omega)
  obtain⟨x,hx⟩:∃x,s[j]?=some x:=⟨_,Qv (by omega)⟩
  obtain⟨y,hy⟩:∃y,d[i]?=some y:=⟨_,Qv (by omega)⟩
  have hdx:d[j]?=some x:=by rw[hm j (QI _),hx]
  have hstep:=DD (q:=fun x=> !q x) hx
  cases hq:q x with
  |true=>
   rw[hq]at hstep;refine(bz (s':=((i:Int),((j+1:Nat):Int),d,())) ?_).trans (ML hs r i (j+1) d (by omega) (by omega) hd (by rw[hstep,ht];simp) fun m h=>hm m (by omega))
   simp only[ED,e2,Qk,aU,bA,QV,hdx,Qa,hp,hq,Qo,Ql,ej]
  |false=>
   rw[hq]at hstep;refine(bz (s':=(((i+1:Nat):Int),((j+1:Nat):Int),d.set i x,())) ?_).trans (ML hs r (i+1) (j+1) (d.set i x) (by omega) (by omega) (by rw[QY];exact hd) ?_ fun m h=> ?_)
   ·simp only[ED,e2,Qk,aU,bA,QV,hdx,hy,Qa,hp,hq,Qp,ej,ei]
   ·rw[hstep,<-ht,List.take_succ_eq_append_getElem (by rw[QY];omega),List.take_set_of_le (QI _)]
    simp
   ·rw[List.getElem?_set,Qs (by omega)]
    exact hm m (by omega)
theorem ZW(s:List α)(hs:s.length<1000000000):YA p z s=some (s.filter fun x=> !q x):=by
 rw[YA,abC];rcases We hp hs s.length 0 (by omega) (by simp)with⟨m,x,h1,h2,h3,h4⟩|⟨h1,h2⟩
 ·have hm:m<s.length:=(Qw.1 h3).1;have h1':aF (sd p s) ((0:Int),())=some (m:Int):=h1;have e:decide ((m:Int)= -1)=false:=Qh (by omega)
  rw[h1',Qa,e,Ql,show aB .i64 (m:Int) 1=((m+1:Nat):Int)from bL (by omega) (by omega)]
  refine ML hp hs (s.length - (m+1)) m (m+1) s (by omega) (by omega) rfl ?_ fun _ _=>rfl
  rw[DD h3,h2,h4];simp
 ·have h1':aF (sd p s) ((0:Int),())=some (-1):=h1;rw[h1',Qa,h2];rfl
end
theorem F7{α β ρ:Type}(l:List α)(hl:l.length<=1000000)(f:α->List β)(hf:∀x∈l,(f x).length<=3){step:Int×List β×Unit->Option ((Int×List β×Unit)⊕ρ)}{fin:List β->Option ρ}
  (h1:∀(i:Nat) (x:α) (acc:List β),x∈l->decide ((i:Int)<((l.length:Nat):Int))=true->idx l (i:Int)=some x->aB .i64 (i:Int) 1=((i+1:Nat):Int)->(∀bytes n:Nat,bytes<=40->n<=3->acc.length<=3000000->bc bytes (acc.length+n)=true)->acc.length<=3000000->step ((i:Int),acc,())=some (.inl (((i+1:Nat):Int),acc++f x,())))
  (h2:∀acc,decide (((l.length:Nat):Int)<((l.length:Nat):Int))=false->step (((l.length:Nat):Int),acc,())=Option.map Sum.inr (fin acc)):aF step ((0:Int),([]:List β),())=fin (l.flatMap f):=by
 suffices key:∀(k i:Nat) (acc:List β),i+k=l.length->acc=(l.take i).flatMap f->acc.length<=3*i->aF step ((i:Int),acc,())=fin (l.flatMap f)from key l.length 0 [] (by omega) (by simp) (by simp)
 intro k
 induction k with
 |zero=>
  intro i acc hi ha hal;obtain rfl:i=l.length:=by omega
  rw[List.take_length]at ha;rw[jd,h2 acc (Qh (Int.lt_irrefl _)),ha];cases fin (l.flatMap f)<;>rfl
 |succ k ih=>
  intro i acc hi ha hal;have hlt:i<l.length:=by omega
  have hx:l[i]?=some l[i]:=Qv hlt;have:=hf _ (Q0 hlt);refine(bz (h1 i l[i] acc (Q0 hlt) (Qg (by omega)) (by rw[bA];exact hx) (bL (by omega) (by omega)) (fun bytes n hb hn ha=> ?_) (by omega))).trans (ih (i+1) _ (by omega) ?_ (by rw[QB];omega))
  ·simp only[bc,Qm,Qi];exact⟨QK (Nat.mul_le_mul (show acc.length+n<=3000003 by omega) hb) (show 3000003*40<=140737488355328 by decide),QK (show acc.length+n<=3000003 by omega) (by simp[maxLen])⟩
  ·rw[List.take_succ_eq_append_getElem hlt,List.flatMap_append,ha];simp
instance:Inhabited ab:=⟨⟨0,ByteArray.mk #[]⟩⟩
instance:DecidableEq ab:=fun a b=>decidable_of_iff (a.an=b.an/\a.Value=b.Value) (by cases a;cases b;simp)
theorem aeu(s:List ab)(hs:s.length<1000000000):∃b,eD s=some b/\b.Pairwise (fun x y=>bs y x=true)/\b.length<=s.length/\∀x,x∈b↔x∈s:=by
 obtain⟨t,h1,h2,h3,h4⟩:=zk.flip.Za (cmp:=mw) (c:=fun x y=>WK y x) (fun x y=>by simp[mw]) (fun x y=>WJ y x) s hs
 have hc:=A9 (eq:=fun x y:ab=>kQ false x.an y.an x.Value y.Value) (ne:=fun x y=>kQ true x.an y.an x.Value y.Value) (z:=ab.mk 0 (ByteArray.mk #[])) (fun x y=>by
  rw[zZ,QW];cases x;cases y;simp) (fun x y=>by
  rw[adf];congr 1;rw[QW];cases x;cases y
  simp) t (by omega)
 refine⟨dd t,?_,h3,by have:=Wz t;omega,h4⟩
 have h1':fH s=some ((),t):=h1;have hc':ic t=some (dd t):=hc;simp only[eD,h1',hc',Qa]
theorem aes(s:List ByteArray)(hs:s.length<1000000000):∃b,fE s=some b/\b.Pairwise (fun x y=>c9 x y=true)/\b.length<=s.length/\∀x,x∈b↔x∈s:=by
 obtain⟨t,h1,h2,h3,h4⟩:=nb.Za (cmp:=gC) (c:=B6) (fun x y=>Aw x y) F8 s hs
 have hc:=A9 (eq:=fun x y:ByteArray=>decide (x=y)) (ne:=fun x y=> !decide (x=y)) (z:=ByteArray.mk #[]) (fun _ _=>rfl) (fun _ _=>rfl) t (by omega)
 refine⟨dd t,?_,h3,by have:=Wz t;omega,h4⟩
 have h1':iE s=some ((),t):=h1;have hc':fA t=some (dd t):=hc;simp only[fE,h1',hc',Qa]
theorem ads(a b:Int):decide (Aq a b<0)=decide (a<b):=by rw[decide_eq_decide];exact MR a b
theorem aet(s:List Int)(hs:s.length<1000000000):∃b,gA s=some b/\b.Pairwise (·<·)/\b.length<=s.length/\∀x,x∈b↔x∈s:=by
 obtain⟨t,h1,h2,h3,h4⟩:=Bf.Za (cmp:=fg) (c:=Aq) (fun x y=>Gl x y) ads s hs
 have hc:=A9 (eq:=fun x y:Int=>decide (x=y)) (ne:=fun x y=> !decide (x=y)) (z:=0) (fun _ _=>rfl) (fun _ _=>rfl) t (by omega)
 refine⟨dd t,?_,h3.imp fun h=>of_decide_eq_true h,by have:=Wz t;omega,h4⟩
 have h1':kE s=some ((),t):=h1;simp only[gA,h1',Qa,adp,hc]
 def said(e:al):List ab:=if aW e then(if e.bD=1 then[e.af,e.ao,e.az]else if e.bD=2 then[e.ao,at_ e 1000000]else[at_ e 1000000])else[]
theorem E5(e:al):(said e).length<=3:=by
 unfold said;split
 ·split
  ·simp
  ·split<;>simp
 ·simp
theorem tk{α β:Type}(f:α->List β)(hf:∀x,(f x).length<=3):∀l:List α,(l.flatMap f).length<=3*l.length
 |[]=>by simp
 |x::l=>by
  have:=tk f hf l;have:=hf x;rw[List.flatMap_cons,QB,QE];omega
section
variable {l : List al} (hl : ∀ e ∈ l, c5 e.aa) (hlen : l.length <= 1000)
 include hl hlen
theorem aaC:∃b,ig l=some b/\b.Pairwise (fun x y=>bs y x=true)/\b.length<=3000/\∀x,x∈b↔∃e∈l,x∈said e/\aG x=false:=by
 have hd:=ZW (p:=bx) (q:=aG) cJ (z:=ab.mk 0 (ByteArray.mk #[])) (l.flatMap said) (by have:=tk said E5 l;omega)
 obtain⟨b,h1,h2,hbl,h3⟩:=aeu ((l.flatMap said).filter fun x=> !aG x) (by have:=tk said E5 l;have:=List.length_filter_le (fun x=> !aG x) (l.flatMap said);omega)
 refine⟨b,?_,h2,by have:=tk said E5 l;have:=List.length_filter_le (fun x=> !aG x) (l.flatMap said);omega,fun x=> ?_⟩
 ·unfold ig;refine(F7 l (by omega) said (fun e _=>E5 e) (fin:=fun acc=>Option.bind (dS acc) fun r8=>Option.bind (eD r8) fun r9=>some r9) (fun i e acc he hd hx hw hok hal=> ?_) (fun acc hd=> ?_)).trans ?_
  ·have o1:=hok 24 3 (by omega) (by omega) hal
   have o2:=hok 24 2 (by omega) (by omega) hal
   have o3:=hok 24 1 (by omega) (by omega) hal
   simp only[hd,hx,hw,Qk,aU,Qa,aj.eta,al.eta,wB (hl e he),AN,QE,QZ,o1,o2,o3,Nat.zero_add,Nat.reduceAdd];unfold said at_
   cases aW e<;>by_cases k1:e.bD=1<;>by_cases k2:e.bD=2<;>simp[k1,k2]
  ·simp only[hd,Ql]
  ·have hd':dS (l.flatMap said)=_:=hd;simp only[hd',h1,Qa]
 ·rw[h3,List.mem_filter,QQ];constructor
  ·rintro⟨⟨e,he,hx⟩,hz⟩;exact⟨e,he,hx,by simpa using hz⟩
  ·rintro⟨e,he,hx,hz⟩;exact⟨⟨e,he,hx⟩,by simpa using hz⟩
theorem aca:∃b,ka l=some b/\b.Pairwise (fun x y=>c9 x y=true)/\b.length<=3000/\∀x,x∈b↔∃e∈l,aW e=true/\x=e.af.Value:=by
 have hf:∀e:al,(if aW e then[e.af.Value]else[]).length<=3:=fun e=>by split<;>simp
 obtain⟨b,h1,h2,hbl,h3⟩:=aes (l.flatMap fun e=>if aW e then[e.af.Value]else[]) (by have:=tk _ hf l;omega)
 refine⟨b,?_,h2,by have:=tk _ hf l;omega,fun x=> ?_⟩
 ·unfold ka;refine(F7 l (by omega) (fun e=>if aW e then[e.af.Value]else[]) (fun e _=>hf e) (fin:=fun acc=>Option.bind (fE acc) fun r6=>some r6) (fun i e acc he hd hx hw hok hal=> ?_) (fun acc hd=> ?_)).trans ?_
  ·have o3:=hok 16 1 (by omega) (by omega) hal
   simp only[hd,hx,hw,Qk,aU,Qa,aj.eta,al.eta,wB (hl e he),QE,QZ,o3,Nat.zero_add];cases aW e<;>simp
  ·simp only[hd,Ql]
  ·simp only[h1,Qa]
 ·rw[h3,QQ];constructor
  ·rintro⟨e,he,hx⟩;split at hx
   ·rename_i hv;exact⟨e,he,hv,by simpa using hx⟩
   ·cases hx
  ·rintro⟨e,he,hv,hx⟩;exact⟨e,he,by rw[Qr hv];simpa using hx⟩
theorem aaB(v:ByteArray):∃b,fF l v=some b/\b.Pairwise (·<·)/\b.length<=3000/\∀x,x∈b↔x∈ends v l:=by
 have hf:∀e:al,(if gY v e then[e.aQ,e.bb]else[]).length<=3:=fun e=>by split<;>simp
 obtain⟨b,h1,h2,hbl,h3⟩:=aet (ends v l) (by have:=tk _ hf l;unfold ends;omega)
 refine⟨b,?_,h2,by have:=tk _ hf l;unfold ends at hbl;omega,h3⟩
 unfold fF;refine(F7 l (by omega) (fun e=>if gY v e then[e.aQ,e.bb]else[]) (fun e _=>hf e) (fin:=fun acc=>Option.bind (gA acc) fun r6=>some r6) (fun i e acc he hd hx hw hok hal=> ?_) (fun acc hd=> ?_)).trans ?_
 ·have o3:=hok 8 2 (by omega) (by omega) hal
  simp only[hd,hx,hw,Qk,aU,Qa,aj.eta,al.eta,wB (hl e he),QE,QZ,o3,Nat.zero_add,Nat.reduceAdd];unfold gY;cases aW e<;>cases decide (e.af.Value=v)<;>cases decide (e.aQ=0)<;>simp
 ·simp only[hd,Ql]
 ·exact(congrArg (fun o=>Option.bind o fun r6=>some r6) h1)
end
end Go.Proofs.YtjbfdglebjnelaaGreat
namespace Go.Proofs.YtjbfdglebjnelaaGreat
open Go.TQ
theorem afi{e:al}(hv:aW e=true):e.bD=1/\0<=e.aQ/\e.aQ<=e.bb\/e.bD≠1/\1<=e.aQ/\e.aQ<=e.bb:=by
 unfold aW gu at hv;rw[Qm]at hv;have h:=hv.2
 by_cases k1:e.bD=1
 ·rw[Qr k1]at h;simp only[gw,Qm,Qi]at h;omega
 ·rw[Qs k1]at h
  by_cases k2:e.bD=2
  ·rw[Qr k2]at h;simp only[tr,rK,Qm,Qi]at h;omega
  ·rw[Qs k2]at h
   by_cases k3:e.bD=3
   ·rw[Qr k3]at h;simp only[zz,rK,Qm,Qi]at h;omega
   ·rw[Qs k3]at h;cases h
end Go.Proofs.YtjbfdglebjnelaaGreat
namespace Go.Proofs.YtjbfdglebjnelaaGreat
open Go.TQ
def yw:ab:=⟨0,eQ⟩
theorem A7{α τ:Type}(l:List α)(hl:l.length<=1000000)(mk:Int->τ)(P:α->Bool)(z:α){step:τ->Option (τ⊕α)}
  (h1:∀(i:Nat) (x:α),decide ((i:Int)<((l.length:Nat):Int))=true->idx l (i:Int)=some x->aB .i64 (i:Int) 1=((i+1:Nat):Int)->step (mk (i:Int))=some (bif P x then .inr x else .inl (mk ((i+1:Nat):Int))))
  (h2:decide (((l.length:Nat):Int)<((l.length:Nat):Int))=false->step (mk ((l.length:Nat):Int))=some (.inr z)):aF step (mk 0)=some ((l.find? P).getD z):=by
 suffices key:∀(k i:Nat),i+k=l.length->aF step (mk (i:Int))=some (((l.drop i).find? P).getD z)from key l.length 0 (by omega)
 intro k
 induction k with
 |zero=>
  intro i hi;obtain rfl:i=l.length:=by omega
  rw[bJ (h2 (Qh (Int.lt_irrefl _))),List.drop_length];rfl
 |succ k ih=>
  intro i hi;have hlt:i<l.length:=by omega
  have hs:=h1 i l[i] (Qg (by omega)) (by rw[bA];exact Qv hlt) (bL (by omega) (by omega))
  rw[QM hlt,List.find?_cons]
  cases hP:P l[i]with
  |true=>rw[hP]at hs;rw[bJ hs];rfl
  |false=>rw[hP]at hs;rw[bz hs];exact ih (i+1) (by omega)
 def ep(l:List al):List ab:=(ig l).getD []
section
variable {l : List al} (hl : ∀ e ∈ l, c5 e.aa) (hlen : l.length <= 1000)
 include hl hlen
theorem lF:ig l=some (ep l)/\(ep l).Pairwise (fun x y=>bs y x=true)/\(ep l).length<=3000/\∀x,x∈ep l↔∃e∈l,x∈said e/\aG x=false:=by
 obtain⟨b,h1,h2,h3,h4⟩:=aaC hl hlen;have:ep l=b:=by rw[ep,h1];rfl
 rw[this];exact⟨h1,h2,h3,h4⟩
end
def qm(b:ab):ab:=if 1000<=b.an then⟨1000000,b.Value⟩else b
theorem O3(b:ab):jg b=some (qm b):=by
 unfold jg qm;simp only[aU,EK,BY]
section
variable {aC : Nat} (hn : aC < 10) {t : aj} (ht : c5 t) {l : List al} (hl : pI l)
 include hn ht hl
end
theorem Vm{e:al}(h:c5 e.aa)(b:ab):lI e b=some (aW e&&de e b):=by
 simp only[lI,aj.eta,al.eta,jl h,Qa,c6,fV,sq]
 cases hv:aW e with
 |false=>simp
 |true=>
  cases hz:aG b with
  |true=>simp[de,hz]
  |false=>
   by_cases k1:e.bD=1
   ·simp[de,hz,k1]
   ·by_cases k3:e.bD=3
    ·simp[de,hz,k3]
    ·by_cases k2:e.bD=2
     ·have hp:aG e.az=true:=by
       unfold aW gu at hv;rw[Qm,Qs k1,Qr k2]at hv;simp only[tr,Qm]at hv;exact hv.2.1.1.2
      simp[de,hz,k2,dL,iY,hp]
     ·unfold aW gu at hv;rw[Qs k1,Qs k2,Qs k3]at hv;simp at hv
end Go.Proofs.YtjbfdglebjnelaaGreat
namespace Go.Proofs.YtjbfdglebjnelaaGreat
open Go.TQ
 def fJ(l:List al):List ByteArray:=(ka l).getD []
 def bo(l:List al)(v:ByteArray):List Int:=(fF l v).getD []
section
variable {l : List al} (hl : ∀ e ∈ l, c5 e.aa) (hlen : l.length <= 1000)
 include hl hlen
theorem qN:ka l=some (fJ l)/\(fJ l).Pairwise (fun x y=>c9 x y=true)/\(fJ l).length<=3000/\∀x,x∈fJ l↔∃e∈l,aW e=true/\x=e.af.Value:=by
 obtain⟨b,h1,h2,h3,h4⟩:=aca hl hlen;have:fJ l=b:=by rw[fJ,h1];rfl
 rw[this];exact⟨h1,h2,h3,h4⟩
theorem il(v:ByteArray):fF l v=some (bo l v)/\(bo l v).Pairwise (·<·)/\(bo l v).length<=3000/\∀x,x∈bo l v↔x∈ends v l:=by
 obtain⟨b,h1,h2,h3,h4⟩:=aaB hl hlen v;have:bo l v=b:=by rw[bo,h1];rfl
 rw[this];exact⟨h1,h2,h3,h4⟩
end
theorem C2{l:List al}(hl:pI l)(hlen:l.length<=1000)(v:ByteArray):∀x∈bo l v,1<=x/\x<=1000:=by
 obtain⟨_,_,_,h⟩:=il hl.aO hlen v;intro x hx;obtain⟨e,he,hb,hy⟩:=yR.1 ((h x).1 hx);simp only[gY,Qm,Bool.not_eq_true',Qj]at hb;have hv:=hb.1.1;have h0:=hb.2;unfold aW gu at hv;rw[Qm]at hv;have hv:=hv.2
 by_cases k1:e.bD=1
 ·rw[Qr k1]at hv;simp only[gw,finite,Qm,Qi]at hv;omega
 ·rw[Qs k1]at hv
  by_cases k2:e.bD=2
  ·rw[Qr k2]at hv;simp only[tr,rK,Qm,Qi]at hv;omega
  ·rw[Qs k2]at hv
   by_cases k3:e.bD=3
   ·rw[Qr k3]at hv;simp only[zz,rK,Qm,Qi]at hv;omega
   ·rw[Qs k3]at hv;cases hv
theorem O0{α A B ρ:Type}(l:List α)(hl:l.length<=1000000)(f:A×B->α->A×B){step:A×Int×B×Unit->Option ((A×Int×B×Unit)⊕ρ)}{fin:A×B->Option ρ}
  (h1:∀(i:Nat) (x:α) (a:A) (b:B),x∈l->decide ((i:Int)<((l.length:Nat):Int))=true->idx l (i:Int)=some x->aB .i64 (i:Int) 1=((i+1:Nat):Int)->step (a,(i:Int),b,())=some (.inl ((f (a,b) x).1,((i+1:Nat):Int),(f (a,b) x).2,())))
  (h2:∀a b,decide (((l.length:Nat):Int)<((l.length:Nat):Int))=false->step (a,((l.length:Nat):Int),b,())=Option.map Sum.inr (fin (a,b))) (a:A) (b:B):aF step (a,(0:Int),b,())=fin (l.foldl f (a,b)):=by
 suffices key:∀(k i:Nat) (a:A) (b:B),i+k=l.length->aF step (a,(i:Int),b,())=fin ((l.drop i).foldl f (a,b))from key l.length 0 a b (by omega)
 intro k
 induction k with
 |zero=>
  intro i a b hi;obtain rfl:i=l.length:=by omega
  rw[jd,h2 a b (Qh (Int.lt_irrefl _)),List.drop_length,List.foldl_nil];cases fin (a,b)<;>rfl
 |succ k ih=>
  intro i a b hi;have hlt:i<l.length:=by omega
  rw[bz (h1 i l[i] a b (Q0 hlt) (Qg (by omega)) (by rw[bA];exact Qv hlt) (bL (by omega) (by omega))),ih (i+1) _ _ (by omega),QM hlt,QU]
def lQ(p q:ab)(v:ByteArray)(n:Int):Bool:=ea p ⟨n,v⟩||ea q ⟨n,v⟩
theorem Px(v:ByteArray)(n:Int)(p q:ab):nX v n p q=some (lQ p q v n):=by
 simp only[nX,su,Qa,ky,Bool.cond_true_left,lQ]
 def DF(b:List Int)(ready:Int->Int->Bool)(low bS:Int):Int×Int:=
 match b.reverse.find? (fun n=>decide (bS<n)&&ready n n)with
 |none=>(cy (fun x=>ready x bS) b.reverse low,bS)
 |some n=>
  let bottom:=cy (fun x=>ready x n) b.reverse n
  (cy (fun x=>ready x n) b.reverse (if bS<bottom - 1\/bottom<low then bottom else low),n)
 def Bn(S:gg)(b:List Int)(v:ByteArray)(m8:Nat)(e9:Int)(v7:Int×Int×Unit):Option ((Int×Int×Unit)⊕(Int×Int×Unit)):=
 Option.bind (bif (decide (e9<=v7.2.1))then some true else Option.bind (gR S v e9 e9) fun r10=>some (!r10)) fun b11=>
 bif b11 then some (Sum.inl (v7.1,v7.2.1,()))else
 Option.bind (jH b e9 S v e9) fun r12=>
 aY (fun(v13:Int×Unit)=>Option.map Sum.inr (Option.bind (gS b v13.1 S v e9) fun r5=>some (r5,e9,()))) fun j14=>
 Option.bind (bif (decide (v7.2.1<(da .i64 r12 (1:Int))))then some true else some (decide (r12<v7.1))) fun b15=>
 bif b15 then j14 (r12,())else j14 (v7.1,())
 def abG(S:gg)(b:List Int)(v:ByteArray)(v16:Int×Int×Unit):Option (Int×Int×Unit):=Option.bind (gS b v16.1 S v v16.2.1) fun r5=>some (r5,v16.2.1,())
section
variable {aC : Nat} (hn : aC < 10) {t : aj} (ht : c5 t) {l : List al} (hl : pI l)
 include hn ht hl
end
end Go.Proofs.YtjbfdglebjnelaaGreat
namespace Go.Proofs.YtjbfdglebjnelaaGreat
open Go.TQ
section
variable {α : Type} [DecidableEq α] {lt : α -> α -> Bool}
def dR(lt:α->α->Bool)(x:α):List α->List α
 |[]=>[x]
 |y::l=>if lt y x then y::dR lt x l else if y=x then y::l else x::y::l
theorem FH(x:α):∀(l:List α) (z:α),z∈dR lt x l↔z=x\/z∈l
 |[],z=>by simp[dR]
 |y::l,z=>by
  rw[dR];split
  ·rw[QA,FH x l z,QA];constructor
   ·rintro(h|h|h)
    ·exact .inr (.inl h)
    ·exact .inl h
    ·exact .inr (.inr h)
   ·rintro(h|h|h)
    ·exact .inr (.inl h)
    ·exact .inl h
    ·exact .inr (.inr h)
  ·split
   ·rename_i h;rw[QA];constructor
    ·exact .inr
    ·rintro(h1|h1)
     ·exact .inl (h1.trans h.symm)
     ·exact h1
   ·rw[QA]
theorem vp.dR(h:vp lt)(x:α):∀{l:List α},l.Pairwise (fun a b=>lt a b=true)->(Go.Proofs.YtjbfdglebjnelaaGreat.dR lt x l).Pairwise (fun a b=>lt a b=true)
 |[],_=>by rw[Go.Proofs.YtjbfdglebjnelaaGreat.dR];exact List.pairwise_singleton _ _
 |y::l,hp=>by
  rw[Q4]at hp;rw[Go.Proofs.YtjbfdglebjnelaaGreat.dR];split
  ·rename_i hy;rw[Q4];refine⟨fun z hz=> ?_,h.dR x hp.2⟩
   rcases(FH x l z).1 hz with rfl|hz
   ·exact hy
   ·exact hp.1 z hz
  ·rename_i hy;split
   ·exact Q4.2 hp
   ·rename_i hne
    have hxy:lt x y=true:=by
     cases hc:lt x y with
     |true=>rfl
     |false=>exact absurd (h.total y x (by simpa using hy) hc) hne
    rw[Q4,Q4];refine⟨fun z hz=> ?_,hp⟩
    rcases QA.1 hz with rfl|hz
    ·exact hxy
    ·exact h.trans _ _ _ hxy (hp.1 z hz)
theorem wv(x:α):∀l:List α,(dR lt x l).length<=l.length+1
 |[]=>by simp[dR]
 |y::l=>by
  have:=wv x l;rw[dR];split
  ·simp;omega
  ·split<;>simp
theorem Yw(x:α):∀(l:List α) (i:Nat),(∀j,j<i->∃y,l[j]?=some y/\lt y x=true)->(∀y,l[i]?=some y->lt y x=false)->dR lt x l=if l[i]?=some x then l else l.take i++x::l.drop i
 |[],i,h1,h2=>by
  cases i with
  |zero=>simp[dR]
  |succ i=>obtain⟨y,hy,_⟩:=h1 0 (by omega);simp at hy
 |y::l,i,h1,h2=>by
  cases i with
  |zero=>
   have hy:=h2 y rfl;rw[dR,hy,Qs (by simp)]
   by_cases h:y=x
   ·simp[h]
   ·simp[h]
  |succ i=>
   obtain⟨y',hy',hlt⟩:=h1 0 (by omega)
   simp only[List.getElem?_cons_zero,Qf]at hy';subst hy'
   rw[dR,Qr hlt,Yw x l i (fun j hj=>by
    obtain⟨z,hz,h⟩:=h1 (j+1) (by omega)
    exact⟨z,by simpa using hz,h⟩) (fun z hz=>h2 z (by simpa using hz))]
   simp only[List.getElem?_cons_succ,List.take_succ_cons,List.drop_succ_cons];split<;>simp
theorem BZ(h:vp lt):∀(xs l:List α),l.Pairwise (fun a b=>lt a b=true)->(xs.foldl (fun l x=>dR lt x l) l).Pairwise (fun a b=>lt a b=true)/\∀z,z∈xs.foldl (fun l x=>dR lt x l) l↔z∈xs\/z∈l
 |[],l,hp=>⟨hp,by simp⟩
 |x::xs,l,hp=>by
  obtain⟨h1,h2⟩:=BZ h xs _ (h.dR x hp);rw[QU];refine⟨h1,fun z=> ?_⟩
  rw[h2,FH,QA];constructor
  ·rintro(a|a|a)
   ·exact .inl (.inr a)
   ·exact .inl (.inl a)
   ·exact .inr a
  ·rintro((a|a)|a)
   ·exact .inr (.inl a)
   ·exact .inl a
   ·exact .inr (.inr a)
end
theorem tQ{α:Type}(l:List α)(i:Nat):(l.take (Int.toNat (i:Int))).drop (Int.toNat (0:Int))=l.take i:=by simp
theorem yE{α:Type}(l:List α)(i:Nat):(l.take (Int.toNat ((l.length:Nat):Int))).drop (Int.toNat (i:Int))=l.drop i:=by simp
theorem DV{i n:Nat}(h:i<=n):cD (0:Int) (i:Int) n=true:=by
 simp only[cD,Qm,Qi];omega
theorem DW{i n:Nat}(h:i<=n):cD (i:Int) (n:Int) n=true:=by
 simp only[cD,Qm,Qi];omega
theorem iC{bytes n:Nat}(h:bytes<=200)(hn:n<=1000000):bc bytes n=true:=
 bu ⟨QK (Nat.mul_le_mul hn h) (by decide),hn⟩
theorem aci{α ρ:Type}(l:List α)(hl:l.length<=1000000)(P:α->Bool){step:Int×Unit->Option ((Int×Unit)⊕ρ)}{r:Nat->Option ρ}
  (h1:∀(i:Nat) (y:α),l[i]?=some y->decide ((i:Int)<((l.length:Nat):Int))=true->idx l (i:Int)=some y->P y=true->aB .i64 (i:Int) 1=((i+1:Nat):Int)->step ((i:Int),())=some (.inl (((i+1:Nat):Int),())))
  (h2:∀(i:Nat) (y:α),l[i]?=some y->decide ((i:Int)<((l.length:Nat):Int))=true->idx l (i:Int)=some y->P y=false->step ((i:Int),())=Option.map Sum.inr (r i))
  (h3:decide (((l.length:Nat):Int)<((l.length:Nat):Int))=false->step (((l.length:Nat):Int),())=Option.map Sum.inr (r l.length)):
  ∃i,i<=l.length/\(∀j,j<i->∃y,l[j]?=some y/\P y=true)/\(∀y,l[i]?=some y->P y=false)/\aF step ((0:Int),())=r i:=by
 suffices key:∀(k i:Nat),i+k=l.length->(∀j,j<i->∃y,l[j]?=some y/\P y=true)->∃m,m<=l.length/\(∀j,j<m->∃y,l[j]?=some y/\P y=true)/\(∀y,l[m]?=some y->P y=false)/\aF step ((i:Int),())=r m from key l.length 0 (by omega) (fun j hj=>absurd hj (Nat.not_lt_zero _))
 intro k
 induction k with
 |zero=>
  intro i hi hj;obtain rfl:i=l.length:=by omega
  refine⟨l.length,QI _,hj,fun y hy=>by simp at hy,?_⟩
  rw[jd,h3 (Qh (Int.lt_irrefl _))];cases r l.length<;>rfl
 |succ k ih=>
  intro i hi hj;have hx:l[i]?=some l[i]:=Qv (by omega)
  have hd:decide ((i:Int)<((l.length:Nat):Int))=true:=Qg (by omega)
  cases hP:P l[i]with
  |true=>
   rw[bz (h1 i _ hx hd (by rw[bA];exact hx) hP (bL (by omega) (by omega)))]
   refine ih (i+1) (by omega) fun j hj'=> ?_
   rcases Nat.lt_or_ge j i with h|h
   ·exact hj j h
   ·obtain rfl:j=i:=by omega
    exact⟨_,hx,hP⟩
  |false=>
   refine⟨i,by omega,hj,fun y hy=> ?_,?_⟩
   ·rw[hx]at hy;injection hy with hy
    rw[<-hy];exact hP
   ·rw[jd,h2 i _ hx hd (by rw[bA];exact hx) hP]
    cases r i<;>rfl
theorem IA{α ρ:Type}[DecidableEq α]{lt:α->α->Bool}(l:List α)(hl:l.length<=1000000)(x:α){step:Int×Unit->Option ((Int×Unit)⊕ρ)}{k:List α->Option ρ}
  (h1:∀(i:Nat) (y:α),decide ((i:Int)<((l.length:Nat):Int))=true->idx l (i:Int)=some y->lt y x=true->aB .i64 (i:Int) 1=((i+1:Nat):Int)->step ((i:Int),())=some (.inl (((i+1:Nat):Int),())))
  (h2:∀(i:Nat) (y:α),i<l.length->decide ((i:Int)<((l.length:Nat):Int))=true->decide ((i:Int)=((l.length:Nat):Int))=false->idx l (i:Int)=some y->lt y x=false->step ((i:Int),())=Option.map Sum.inr (k (if y=x then l else l.take i++x::l.drop i)))
  (h3:decide (((l.length:Nat):Int)<((l.length:Nat):Int))=false->decide (((l.length:Nat):Int)=((l.length:Nat):Int))=true->step (((l.length:Nat):Int),())=Option.map Sum.inr (k (l++[x]))):aF step ((0:Int),())=k (dR lt x l):=by
 obtain⟨i,hi,g1,g2,g3⟩:=aci l hl (fun y=>lt y x) (step:=step) (r:=fun i=>k (if l[i]?=some x then l else l.take i++x::l.drop i)) (fun i y hy hd hx hP hw=>h1 i y hd hx hP hw) (fun i y hy hd hx hP=>by
   have hlt:=(Qw.1 hy).1;rw[h2 i y hlt hd (Qh (by omega)) hx hP,hy]
   by_cases hyx:y=x
   ·simp[hyx]
   ·have:¬(some y=some x):=fun h=>hyx (by injection h)
    rw[Qs hyx,Qs this]) (fun hd=>by
   rw[h3 hd (Qg rfl),Qs (by simp),List.take_length,List.drop_length])
 rw[g3,Yw x l i g1 g2]
theorem afq(l:List ab)(hl:l.length<=900000)(b:ab):tF l b=some (if aG b then l else dR (fun x y=>bs y x) b l):=by
 unfold tF;rw[c6,Qa]
 cases hz:aG b with
 |true=>rfl
 |false=>
  simp only[Ql,aU]
  have he:∀y:ab,(decide (y.an=b.an)&&decide (y.Value=b.Value))=decide (y=b):=fun y=>by
   rw[QW];cases y;cases b;simp
  refine IA (lt:=fun x y=>bs y x) l (by omega) b (k:=fun t=>some t) (fun i y hd hx hlt hw=> ?_) (fun i y hi hd hde hx hlt=> ?_) (fun hd hde=> ?_)
  ·simp only[hd,hx,hw,Qk,Qa,jq,hlt]
  ·have e1:=tQ l i;have e2:=yE l i;simp only[hd,hx,Qk,Qa,jq,hlt,Ql,zZ,e1,e2,DV (show i<=l.length by omega),DW (show i<=l.length by omega),he]
   rw[iC (by omega) (by simp;omega),iC (by omega) (by simp;omega),iC (by omega) (by simp;omega)]
   by_cases hyb:y=b<;>simp[hyb]
  ·have e1:=tQ l l.length;have e2:=yE l l.length;simp only[hd,Ql,e1,e2,DV (QI l.length),DW (QI l.length),Qk];rw[iC (by omega) (by simp;omega),iC (by omega) (by simp;omega),iC (by omega) (by simp;omega)]
   simp
theorem CY{α σ ρ:Type}(l:List α)(hl:l.length<=1000000)(f:σ->α->σ)(Inv:Nat->σ->Prop){step:σ×Int×Unit->Option ((σ×Int×Unit)⊕ρ)}{fin:σ->Option ρ}
  (hI:∀i s x,x∈l->Inv i s->Inv (i+1) (f s x))
  (h1:∀(i:Nat) (x:α) (s:σ),Inv i s->i<=l.length->x∈l->decide ((i:Int)<((l.length:Nat):Int))=true->idx l (i:Int)=some x->aB .i64 (i:Int) 1=((i+1:Nat):Int)->step (s,(i:Int),())=some (.inl (f s x,((i+1:Nat):Int),())))
  (h2:∀s,decide (((l.length:Nat):Int)<((l.length:Nat):Int))=false->step (s,((l.length:Nat):Int),())=Option.map Sum.inr (fin s)) (s:σ) (hs:Inv 0 s):aF step (s,(0:Int),())=fin (l.foldl f s):=by
 suffices key:∀(k i:Nat) (s:σ),i+k=l.length->Inv i s->aF step (s,(i:Int),())=fin ((l.drop i).foldl f s)from key l.length 0 s (by omega) hs
 intro k
 induction k with
 |zero=>
  intro i s hi hs;obtain rfl:i=l.length:=by omega
  rw[jd,h2 s (Qh (Int.lt_irrefl _)),List.drop_length,List.foldl_nil];cases fin s<;>rfl
 |succ k ih=>
  intro i s hi hs;have hlt:i<l.length:=by omega
  rw[bz (h1 i l[i] s hs (by omega) (Q0 hlt) (Qg (by omega)) (by rw[bA];exact Qv hlt) (bL (by omega) (by omega))),ih (i+1) _ (by omega) (hI i s _ (Q0 hlt) hs),QM hlt,QU]
 def sv(e:al):List ab:=if aW e then(if e.bD=1 then[e.af,e.ao,e.az]else[e.ao,at_ e 1000000])else[]
theorem NQ{e:al}{x:ab}(hz:aG x=false):x∈sv e↔x∈said e:=by
 unfold sv said
 cases hv:aW e with
 |false=>simp
 |true=>
  by_cases k1:e.bD=1
  ·simp[k1]
  ·by_cases k2:e.bD=2
   ·simp[k2]
   ·have hp:aG e.ao=true:=by
     unfold aW gu at hv;rw[Qm,Qs k1,Qs k2]at hv;have h:=hv.2
     by_cases k3:e.bD=3
     ·rw[Qr k3]at h;simp only[zz,Qm]at h;exact h.1.1.2
     ·rw[Qs k3]at h;cases h
    simp only[Qt,k1,k2,Qu,QA,QR,or_false];constructor
    ·rintro(h|h)
     ·rw[h,hp]at hz;cases hz
     ·exact h
    ·exact .inr
def ue(l:List ab)(b:ab):List ab:=if aG b then l else dR (fun x y=>bs y x) b l
theorem KZ:∀(xs l:List ab),xs.foldl ue l=(xs.filter fun b=> !aG b).foldl (fun l x=>dR (fun x y=>bs y x) x l) l
 |[],l=>rfl
 |x::xs,l=>by
  rw[QU,KZ xs,List.filter_cons];cases hz:aG x<;>simp[ue,hz]
theorem SX(l:List ab)(b:ab):(ue l b).length<=l.length+1:=by
 unfold ue;split
 ·omega
 ·exact wv b l
section
variable {l : List al} (hl : ∀ e ∈ l, c5 e.aa) (hlen : l.length <= 1000)
 include hl hlen
theorem KO:mn l=some (ep l):=by
 have hfold:∀xs:List ab,xs.length<=3->∀s:List ab,(xs.foldl ue s).length<=s.length+xs.length:=by
  intro xs _
  induction xs with
  |nil=>intro s;simp
  |cons x xs ih=>
   intro s;have:=ih (by simp at*;omega) (ue s x)
   have:=SX s x;rw[QU,QE];omega
 have hr3:∀e,(sv e).length<=3:=fun e=>by
  unfold sv;split
  ·split<;>simp
  ·simp
 have hF:mn l=some (l.foldl (fun s e=>(sv e).foldl ue s) []):=by
  unfold mn;refine CY l (by omega) (fun s e=>(sv e).foldl ue s) (fun i s=>s.length<=3*i) (fin:=fun s=>some s) (fun i s x _ hs=> ?_) (fun i e s hs hi he hd hx hw=> ?_) (fun s hd=> ?_) [] (by simp)
  ·have:=hfold (sv x) (hr3 x) s;have:=hr3 x;show(List.foldl ue s (sv x)).length<=3*(i+1);omega
  ·simp only[hd,hx,hw,Qk,aU,Qa,aj.eta,al.eta,jl (hl e he)]
   have inner:∀L:List ab,L.length<=3->aF (fun(v8:(List ab)×Int×Unit)=>
     bif (decide (v8.2.1<((List.length L:Nat):Int)))then Option.bind (idx L v8.2.1) fun x9=>Option.bind (tF v8.1 x9) fun r10=>some (Sum.inl (r10,(aB .i64 v8.2.1 (1:Int)),()))
     else Option.map Sum.inr (some (Sum.inl (v8.1,((i+1:Nat):Int),()):((List ab)×Int×Unit)⊕(List ab)))) (s,(0:Int),())=some (Sum.inl (L.foldl ue s,((i+1:Nat):Int),())):=by
    intro L hL;refine CY L (by omega) ue (fun k t=>t.length<=s.length+k) (fin:=fun t=>some (Sum.inl (t,((i+1:Nat):Int),()))) (fun k t x _ ht=> ?_) (fun k x t ht hk hx' hd' hxx hw'=> ?_) (fun t hd'=> ?_) s (by simp)
    ·have:=SX t x;omega
    ·simp only[hd',hxx,hw',Qk,Qa,afq t (by omega)]
     rfl
    ·simp only[hd',Ql]
   cases hv:aW e with
   |false=>simp[sv,hv]
   |true=>
    by_cases k1:e.bD=1
    ·have i3:=inner [e.af,e.ao,e.az] (by simp)
     simp only[Qo,Ql,k1,decide_true,i3,sv,hv,Qt]
    ·have i2:=inner [e.ao,⟨1000000,e.af.Value⟩] (by simp)
     simp only[Qo,Qp,Ql,Qk,k1,decide_false,i2,sv,hv,Qt,Qu,at_]
  ·simp only[hd,Ql]
 obtain⟨_,h2,_,h4⟩:=lF hl hlen;have hflat:l.foldl (fun s e=>(sv e).foldl ue s) []=(l.flatMap sv).foldl ue []:=by rw[List.foldl_flatMap]
 rw[hF,hflat,KZ];obtain⟨h5,h6⟩:=BZ zk.flip ((l.flatMap sv).filter fun b=> !aG b) [] .nil
 congr 1;refine zk.flip.unique h5 h2 fun x=> ?_
 rw[h6,h4];simp only[List.mem_filter,QQ,QR,or_false,Bool.not_eq_true'];constructor
 ·rintro⟨⟨e,he,hx⟩,hz⟩;exact⟨e,he,(NQ hz).1 hx,hz⟩
 ·rintro⟨e,he,hx,hz⟩;exact⟨⟨e,he,(NQ hz).2 hx⟩,hz⟩
end
section
variable {l : List al} (hl : ∀ e ∈ l, c5 e.aa) (hlen : l.length <= 1000)
 include hl hlen
theorem Zq:qx l=some (fJ l):=by
 have hF:qx l=some (l.foldl (fun s e=>if aW e then dR c9 e.af.Value s else s) []):=by
  unfold qx;refine CY l (by omega) (fun s e=>if aW e then dR c9 e.af.Value s else s) (fun i s=>s.length<=i) (fin:=fun s=>some s) (fun i s x _ hs=> ?_) (fun i e s hs hi he hd hx hw=> ?_) (fun s hd=> ?_) [] (by simp)
  ·show(if aW x then dR c9 x.af.Value s else s).length<=i+1
   have:=wv (lt:=c9) x.af.Value s;split<;>omega
  ·simp only[hd,hx,hw,Qk,aU,Qa,aj.eta,al.eta,jl (hl e he)]
   cases hv:aW e with
   |false=>simp
   |true=>
    simp only[Qo,Ql,Qt];refine IA (lt:=c9) s (by omega) e.af.Value (k:=fun t=>some (Sum.inl (t,((i+1:Nat):Int),()))) (fun j y hd' hx' hlt hw'=> ?_) (fun j y hj hd' hde hx' hlt=> ?_) (fun hd' hde=> ?_)
    ·simp only[hd',hx',hw',Qk,Qa,yc,hlt]
    ·have e1:=tQ s j;have e2:=yE s j;simp only[hd',hx',hde,Qk,Ql,Qa,yc,hlt,e1,e2,DV (show j<=s.length by omega),DW (show j<=s.length by omega)]
     rw[iC (by omega) (by simp;omega),iC (by omega) (by simp;omega),iC (by omega) (by simp;omega)]
     by_cases hyx:y=e.af.Value<;>simp[hyx]
    ·have e1:=tQ s s.length;have e2:=yE s s.length;simp only[hd',hde,Qk,Ql,e1,e2,DV (QI s.length),DW (QI s.length)];rw[iC (by omega) (by simp;omega),iC (by omega) (by simp;omega),iC (by omega) (by simp;omega)]
     simp
  ·simp only[hd,Ql]
 obtain⟨_,h2,_,h4⟩:=qN hl hlen
 have hflat:l.foldl (fun s e=>if aW e then dR c9 e.af.Value s else s) []=(l.flatMap fun e=>if aW e then[e.af.Value]else[]).foldl (fun l x=>dR c9 x l) []:=by
  rw[List.foldl_flatMap];congr 1
  funext s e
  split<;>rfl
 rw[hF,hflat];obtain⟨h5,h6⟩:=BZ nb (l.flatMap fun e=>if aW e then[e.af.Value]else[]) [] .nil
 congr 1;refine nb.unique h5 h2 fun x=> ?_
 rw[h6,h4];simp only[QQ,QR,or_false];constructor
 ·rintro⟨e,he,hx⟩;split at hx
  ·rename_i hv;exact⟨e,he,hv,by simpa using hx⟩
  ·cases hx
 ·rintro⟨e,he,hv,hx⟩;exact⟨e,he,by rw[Qr hv];simpa using hx⟩
theorem xl(v:ByteArray):iW l v=some (bo l v):=by
 have hF:iW l v=some (l.foldl (fun s e=>if gY v e then dR (fun a b=>decide (a<b)) e.bb (dR (fun a b=>decide (a<b)) e.aQ s)else s) []):=by
  unfold iW;refine CY l (by omega) (fun s e=>if gY v e then dR (fun a b=>decide (a<b)) e.bb (dR (fun a b=>decide (a<b)) e.aQ s)else s) (fun i s=>s.length<=2*i) (fin:=fun s=>some s) (fun i s x _ hs=> ?_) (fun i e s hs hi he hd hx hw=> ?_) (fun s hd=> ?_) [] (by simp)
  ·show(if gY v x then dR (fun a b=>decide (a<b)) x.bb (dR (fun a b=>decide (a<b)) x.aQ s)else s).length<=2*(i+1)
   have h1:=wv (lt:=fun a b:Int=>decide (a<b)) x.aQ s
   have h2:=wv (lt:=fun a b:Int=>decide (a<b)) x.bb (dR (fun a b=>decide (a<b)) x.aQ s)
   split<;>omega
  ·simp only[hd,hx,hw,Qk,aU,Qa,aj.eta,al.eta,jl (hl e he)]
   have inner:∀(t:List Int) (x:Int) (z:Int),t.length<=3000->aF (fun(v12:Int×Unit)=>
     Option.bind (bif (decide (v12.1<((List.length t:Nat):Int)))then Option.bind (idx t v12.1) fun x13=>some (decide (x13<x))else some false) fun b14=>
     bif b14 then some (Sum.inl ((aB .i64 v12.1 (1:Int)),()))else
     Option.map Sum.inr (Option.bind (bif (decide (v12.1=((List.length t:Nat):Int)))then some true else Option.bind (idx t v12.1) fun x15=>some (!decide (x15=x))) fun b16=>
     bif b16 then
     bif cD (0:Int) v12.1 (List.length t)then
     bif bc 8 (List.length ((t.take (Int.toNat v12.1)).drop (Int.toNat (0:Int))))then
     bif bc 8 (List.length ((t.take (Int.toNat v12.1)).drop (Int.toNat (0:Int)))+List.length [x])then
     bif cD v12.1 (t.length:Int) (List.length t)then
     bif bc 8 (List.length (((t.take (Int.toNat v12.1)).drop (Int.toNat (0:Int)))++[x])+List.length ((t.take (Int.toNat (t.length:Int))).drop (Int.toNat v12.1)))then
     some (Sum.inl (((((t.take (Int.toNat v12.1)).drop (Int.toNat (0:Int)))++[x])++((t.take (Int.toNat (t.length:Int))).drop (Int.toNat v12.1))),z,()):((List Int)×Int×Unit)⊕(((List Int)×Int×Unit)⊕(List Int)))
     else none else none else none else none else none
     else some (Sum.inl (t,z,())))) ((0:Int),())=some (Sum.inl (dR (fun a b=>decide (a<b)) x t,z,())):=by
    intro t x z ht;refine IA (lt:=fun a b:Int=>decide (a<b)) t (by omega) x (k:=fun t=>some (Sum.inl (t,z,()))) (fun j y hd' hx' hlt hw'=> ?_) (fun j y hj hd' hde hx' hlt=> ?_) (fun hd' hde=> ?_)
    ·simp only[hd',hx',hw',Qk,Qa,hlt]
    ·have e1:=tQ t j;have e2:=yE t j;simp only[hd',hx',hde,Qk,Ql,Qa,hlt,e1,e2,DV (show j<=t.length by omega),DW (show j<=t.length by omega)]
     rw[iC (by omega) (by simp;omega),iC (by omega) (by simp;omega),iC (by omega) (by simp;omega)]
     by_cases hyx:y=x<;>simp[hyx]
    ·have e1:=tQ t t.length;have e2:=yE t t.length;simp only[hd',hde,Qk,Ql,Qa,e1,e2,DV (QI t.length),DW (QI t.length)];rw[iC (by omega) (by simp;omega),iC (by omega) (by simp;omega),iC (by omega) (by simp;omega)]
     simp
   have hw1:aB .i64 (0:Int) 1=1:=rfl;have hw2:aB .i64 (1:Int) 1=2:=rfl;have hd0:decide ((0:Int)<2)=true:=rfl;have hd1:decide ((1:Int)<2)=true:=rfl;have hd2:decide ((2:Int)<2)=false:=rfl;have hx0:idx [e.aQ,e.bb] 0=some e.aQ:=rfl;have hx1:idx [e.aQ,e.bb] 1=some e.bb:=rfl;have hl1:=wv (lt:=fun a b:Int=>decide (a<b)) e.aQ s
   unfold gY
   cases hv:aW e with
   |false=>simp
   |true=>
    by_cases hvv:e.af.Value=v
    ·by_cases hlo:e.aQ=0
     ·simp[hvv,hlo]
     ·simp only[Qo,Ql,hvv,decide_true,hlo,decide_false,Bool.and_self,Qp,Qa,Qt];refine(bz (s':=(dR (fun a b=>decide (a<b)) e.aQ s,(1:Int),())) ?_).trans ((bz (s':=(dR (fun a b=>decide (a<b)) e.bb (dR (fun a b=>decide (a<b)) e.aQ s),(2:Int),())) ?_).trans (bJ ?_))
      ·simp only[hd0,hx0,hw1,Qk,Qa];exact inner s e.aQ 1 (by omega)
      ·simp only[hd1,hx1,hw2,Qk,Qa];exact inner _ e.bb 2 (by omega)
      ·simp only[hd2,Ql,Qe]
    ·simp[hvv]
  ·simp only[hd,Ql]
 obtain⟨_,h2,_,h4⟩:=il hl hlen v
 have hflat:l.foldl (fun s e=>if gY v e then dR (fun a b=>decide (a<b)) e.bb (dR (fun a b=>decide (a<b)) e.aQ s)else s) []=(ends v l).foldl (fun l x=>dR (fun a b=>decide (a<b)) x l) []:=by
  rw[ends,List.foldl_flatMap];congr 1
  funext s e
  split<;>rfl
 rw[hF,hflat];obtain⟨h5,h6⟩:=BZ Bf (ends v l) [] .nil;congr 1;refine Bf.unique h5 (h2.imp fun h=>Qg h) fun x=> ?_
 rw[h6,h4];simp
end
end Go.Proofs.YtjbfdglebjnelaaGreat
namespace Go.Proofs.YtjbfdglebjnelaaGreat
open Go.TQ
theorem kinds{e:al}(hv:aW e=true):e.bD=1\/e.bD=2\/e.bD=3:=by
 unfold aW gu at hv;rw[Qm]at hv;have h:=hv.2
 by_cases k1:e.bD=1
 ·exact .inl k1
 ·by_cases k2:e.bD=2
  ·exact .inr (.inl k2)
  ·by_cases k3:e.bD=3
   ·exact .inr (.inr k3)
   ·rw[Qs k1,Qs k2,Qs k3]at h;cases h
theorem Zo{e:al}(h:c5 e.aa)(b:ab):nj e b=some (aW e&&oC e b):=by
 simp only[nj,aj.eta,al.eta,jl h,Qa,c6,fV,AK]
 cases hv:aW e with
 |false=>simp
 |true=>
  cases hz:aG b with
  |true=>simp[oC,hz]
  |false=>by_cases k1:e.bD=1<;>simp[oC,hz,k1]
theorem Vn{e:al}(h:c5 e.aa)(v:ByteArray)(lo hi:Int):mo e v lo hi=some (aW e&&fh e v lo hi):=by
 simp only[mo,aj.eta,al.eta,jl h,Qa,ky,fh,Jr]
 cases hv:aW e with
 |false=>simp
 |true=>
  have hk:=kinds hv
  by_cases a1:lo<1<;>by_cases a2:hi<lo<;>by_cases a3:e.af.Value=v<;>by_cases a4:lo<e.aQ<;>by_cases k1:e.bD=1<;>by_cases k3:e.bD=3<;>simp_all<;>grind
theorem Zp{e:al}(h:c5 e.aa)(v:ByteArray)(lo hi:Int):n4 e v lo hi=some (aW e&&rI e v lo hi):=by
 simp only[n4,aj.eta,al.eta,jl h,Qa,ky,rI,Jr]
 cases hv:aW e with
 |false=>simp
 |true=>
  have hl:=afi hv
  by_cases a1:lo<1<;>by_cases a2:hi<lo<;>by_cases a3:e.af.Value=v<;>by_cases a4:lo<e.aQ<;>by_cases k1:e.bD=1<;>by_cases a5:e.aQ=0<;>simp_all<;>grind
theorem uX(p:al->Bool):∀l:List al,dB (fun e=>aW e&&p e) l=dB p (bW l)
 |[]=>rfl
 |e::l=>by
  have ih:=uX p l;rw[dB,ih];cases hv:aW e<;>simp[bW,hv,dB]
theorem zd(l:List al)(hlen:l.length<=1000)(p:al->Bool)(hp:∀e∈l,p e=true->0<=e.au/\e.au<10):fI l (l.map p)=some ((dB p l:Nat):Int):=by
 unfold fI
 suffices key:∀(k i s:Nat),i+k=l.length->s<1024->aF _ ((s:Int),(i:Int),())=some ((s|||dB p (l.drop i):Nat):Int)by
  have:=key l.length 0 0 (by omega) (by omega)
  rw[Nat.zero_or,List.drop_zero]at this;exact this
 intro k
 induction k with
 |zero=>
  intro i s hi hs;obtain rfl:i=l.length:=by omega
  have hd:decide (((l.length:Nat):Int)<((l.length:Nat):Int))=false:=Qh (Int.lt_irrefl _);rw[bJ (r:=(s:Int)) (by simp only[hd,Ql,Qe]),List.drop_length,dB]
  simp
 |succ k ih=>
  intro i s hi hs;have hlt:i<l.length:=by omega
  have hd:decide ((i:Int)<((l.length:Nat):Int))=true:=Qg (by omega)
  have hd2:decide ((i:Int)<(((l.map p).length:Nat):Int))=true:=Qg (by rw[QC];omega)
  have hw:aB .i64 (i:Int) 1=((i+1:Nat):Int):=bL (by omega) (by omega)
  have hx:idx l (i:Int)=some l[i]:=by rw[bA];exact Qv hlt
  have hx2:idx (l.map p) (i:Int)=some (p l[i]):=by rw[bA,QT,Qv hlt];rfl
  rw[QM hlt,dB]
  cases hpe:p l[i]with
  |false=>
   rw[bz (s':=((s:Int),((i+1:Nat):Int),())) (by simp only[hd,hd2,hx,hx2,hw,hpe,Qk,Ql,aU,Qa]),ih (i+1) s (by omega) hs]
   simp
  |true=>
   obtain⟨h0,h1⟩:=hp _ (Q0 hlt) hpe
   have hc:bK .u64 l[i].au=l[i].au:=by
    obtain⟨n,hn⟩:∃n:Nat,l[i].au=n:=⟨l[i].au.toNat,by omega⟩
    rw[hn];exact aei (by omega)
   have hn0:¬l[i].au<0:=by omega
   have d1:decide ((0:Int)<=l[i].au)=true:=Qg h0;have d2:decide (l[i].au<=(9:Int))=true:=Qg (by omega)
   rw[bz (s':=(((s|||2 ^ l[i].au.toNat:Nat):Int),((i+1:Nat):Int),())) (by
    simp only[hd,hd2,hx,hx2,hw,hpe,Qk,aU,Qa,d1,d2,hc,hn0,Qu]
    rw[qc hs h0 h1]),ih (i+1) _ (by omega) (CM hs h1)]
   simp[Nat.or_assoc]
theorem UO{ρ:Type}(l:List al)(hl:l.length<=1000)(p q:al->Bool){step:Int×List Bool×List Bool×Unit->Option ((Int×List Bool×List Bool×Unit)⊕ρ)}{fin:List Bool->List Bool->Option ρ}
  (h1:∀(i:Nat) (e:al) (vs as_:List Bool),e∈l->decide ((i:Int)<((l.length:Nat):Int))=true->idx l (i:Int)=some e->aB .i64 (i:Int) 1=((i+1:Nat):Int)->(∀x:Bool,bc 1 (vs.length+[x].length)=true)->(∀x:Bool,bc 1 (as_.length+[x].length)=true)->step ((i:Int),vs,as_,())=some (.inl (((i+1:Nat):Int),vs++[p e],as_++[q e],())))
  (h2:∀vs as_,decide (((l.length:Nat):Int)<((l.length:Nat):Int))=false->step (((l.length:Nat):Int),vs,as_,())=Option.map Sum.inr (fin vs as_)):aF step ((0:Int),[],[],())=fin (l.map p) (l.map q):=by
 suffices key:∀(k i:Nat),i+k=l.length->aF step ((i:Int),(l.take i).map p,(l.take i).map q,())=fin (l.map p) (l.map q)from key l.length 0 (by omega)
 intro k
 induction k with
 |zero=>
  intro i hi;obtain rfl:i=l.length:=by omega
  rw[jd,h2 _ _ (Qh (Int.lt_irrefl _)),List.take_length];cases fin (l.map p) (l.map q)<;>rfl
 |succ k ih=>
  intro i hi;have hlt:i<l.length:=by omega
  rw[bz (h1 i l[i] _ _ (Q0 hlt) (Qg (by omega)) (by rw[bA];exact Qv hlt) (bL (by omega) (by omega)) (fun x=>iC (by omega) (by simp;omega)) (fun x=>iC (by omega) (by simp;omega))),<-ih (i+1) (by omega),List.take_succ_eq_append_getElem hlt,List.map_append,List.map_append]
  rfl
theorem EV{p:al->Bool}{l:List al}:∀e∈l,(aW e&&p e)=true->0<=e.au/\e.au<10:=fun e _ h=>by
 rw[Qm]at h;exact iD h.1
section
variable {l : List al} (hl : ∀ e ∈ l, c5 e.aa) (hlen : l.length <= 1000)
 include hl hlen
theorem Sf(b:ab):tE l b=some (((dB (fun e=>oC e b||de e b) (bW l):Nat):Int),((dB (de · b) (bW l):Nat):Int),()):=by
 unfold tE;refine(UO l hlen (fun e=>aW e&&(oC e b||de e b)) (fun e=>aW e&&de e b) (fin:=fun vs as_=>Option.bind (fI l vs) fun r6=>Option.bind (fI l as_) fun r7=>some (r6,r7,())) (fun i e vs as_ he hd hx hw o1 o2=> ?_) (fun vs as_ hd=> ?_)).trans ?_
 ·simp only[hd,hx,hw,Qk,Qa,aj.eta,al.eta,Vm (hl e he),Zo (hl e he),ky,o1,o2];cases aW e<;>cases oC e b<;>cases de e b<;>rfl
 ·simp only[hd,Ql]
 ·rw[zd l hlen _ EV,zd l hlen _ EV,Qa,Qa,uX,uX]
theorem Se(v:ByteArray)(lo hi:Int):tB l v lo hi=some (((dB (fun e=>rI e v lo hi||fh e v lo hi) (bW l):Nat):Int),((dB (fh · v lo hi) (bW l):Nat):Int),()):=by
 unfold tB;refine(UO l hlen (fun e=>aW e&&(rI e v lo hi||fh e v lo hi)) (fun e=>aW e&&fh e v lo hi) (fin:=fun vs as_=>Option.bind (fI l vs) fun r6=>Option.bind (fI l as_) fun r7=>some (r6,r7,())) (fun i e vs as_ he hd hx hw o1 o2=> ?_) (fun vs as_ hd=> ?_)).trans ?_
 ·simp only[hd,hx,hw,Qk,Qa,aj.eta,al.eta,Vn (hl e he),Zp (hl e he),ky,o1,o2];cases aW e<;>cases rI e v lo hi<;>cases fh e v lo hi<;>rfl
 ·simp only[hd,Ql]
 ·rw[zd l hlen _ EV,zd l hlen _ EV,Qa,Qa,uX,uX]
end
theorem yI{c:aZ}(hc:yC c){v a b:Nat}(hv:v<10)(h1:a<1024)(h2:b<1024):mq c v a b=some (lE c.bl v a b):=by
 unfold mq lE;have h3:a|||b<1024:=Nat.or_lt_two_pow (n:=10) h1 h2
 rw[u7 h1,u7 h2,NZ hc h2,Eh a b (by omega) (by omega),BD hc h3]
 simp[qY (A6 hc h3).lt,ti,hv]
theorem xh{c:aZ}(hc:yC c){v b:Nat}(hv:v<10)(h2:b<1024):lx c v b=some ((gq c.bl b).testBit v):=by
 unfold lx;rw[BD hc h2];simp[qY (A6 hc h2).lt,ti,hv]
end Go.Proofs.YtjbfdglebjnelaaGreat
namespace Go.Proofs.YtjbfdglebjnelaaGreat
open Go.TQ
theorem M9{c:aZ}{aC:Int}{l:List al}(hlen:l.length<=100000)(b:ab):gG ⟨aC,c,(bW l).map bE.mk⟩ b=fO c aC ((dB (fun e=>oC e b||de e b) (bW l):Nat):Int) ((dB (de · b) (bW l):Nat):Int):=by
 have hrl:=AU l;have hin:=lL l;simp only[gG,mT,jQ,Qa,Option.bind_fun_some,aav (by omega:(bW l).length<=1000000) hin,Ld (by omega:(bW l).length<=1000000) hin]
theorem Ln{c:aZ}{aC:Int}{l:List al}(hlen:l.length<=100000)(b:ab):eN ⟨aC,c,(bW l).map bE.mk⟩ b=fD c aC ((dB (de · b) (bW l):Nat):Int):=by
 have hrl:=AU l;have hin:=lL l;simp only[eN,Qa,Option.bind_fun_some,Ld (by omega:(bW l).length<=1000000) hin]
theorem aaV(b:ab):ny b=some (qm b):=O3 b
def vB(x:ab->Bool)(p q:ab)(v:ByteArray)(b:ab):Bool:=(decide (v=eQ)||decide (b.Value=v))&& !dL (qm p) (qm q) b&&x b
def vD(y:ab->Bool)(a b:ab):Bool:=bs a b&&decide (b.an<=1000)&&y b
section
variable {aC : Int} {t : aj} {l : List al} (hl : pI l) (hlen : l.length <= 1000) {c : aZ} {x y : ab -> Bool}
 include hl hlen
theorem afh(hL:fo aC t l=some ⟨aC,c,(bW l).map bE.mk⟩)(hx:∀b,gG ⟨aC,c,(bW l).map bE.mk⟩ b=some (x b))(p q:ab)(v:ByteArray):nC aC t l p q v=some (((ep l).find? (vB x p q v)).getD yw):=by
 obtain⟨h1,_,h3,_⟩:=lF hl.aO hlen;unfold nC;simp only[aj.eta,hL,h1,Qa];refine A7 (ep l) (by omega) (fun i=>(i,ab.mk (0:Int) (ByteArray.mk #[]),())) (vB x p q v) yw (fun i b hd hx' hw=> ?_) (fun hd=> ?_)
 ·simp only[hd,hx',hw,Qk,aU,Qa,O3,qJ,hx];unfold vB eQ;cases decide (v=ByteArray.mk #[])<;>cases decide (b.Value=v)<;>cases dL (qm p) (qm q) b<;>cases x b<;>simp
 ·simp only[hd,Ql,Qe];rfl
theorem acs(hx:∀b,oY aC t l b=some (x b))(p q:ab)(v:ByteArray):qw aC t l p q v=some (((ep l).find? (vB x p q v)).getD yw):=by
 obtain⟨h1,_,h3,_⟩:=lF hl.aO hlen;unfold qw;simp only[aj.eta,KO hl.aO hlen,Qa];refine A7 (ep l) (by omega) (fun i=>(i,ab.mk (0:Int) (ByteArray.mk #[]),())) (vB x p q v) yw (fun i b hd hx' hw=> ?_) (fun hd=> ?_)
 ·simp only[hd,hx',hw,Qk,aU,Qa,aaV,sq,hx];unfold vB eQ;cases decide (v=ByteArray.mk #[])<;>cases decide (b.Value=v)<;>cases dL (qm p) (qm q) b<;>cases x b<;>simp
 ·simp only[hd,Ql,Qe];rfl
theorem aft(hL:fo aC t l=some ⟨aC,c,(bW l).map bE.mk⟩)(hy:∀b,eN ⟨aC,c,(bW l).map bE.mk⟩ b=some (y b))(a:ab):kN aC t l a=some (((ep l).find? (vD y a)).getD yw):=by
 obtain⟨h1,_,h3,_⟩:=lF hl.aO hlen;unfold kN;simp only[aj.eta,hL,h1,Qa];refine A7 (ep l) (by omega) (fun i=>(i,ab.mk (0:Int) (ByteArray.mk #[]),())) (vD y a) yw (fun i b hd hx' hw=> ?_) (fun hd=> ?_)
 ·simp only[hd,hx',hw,Qk,aU,Qa,jj,mT,hy];unfold vD;cases bs a b<;>cases decide (b.an<=1000)<;>cases y b<;>simp
 ·simp only[hd,Ql,Qe];rfl
theorem acu(hy:∀b,nR aC t l b=some (y b))(a:ab):mm aC t l a=some (((ep l).find? (vD y a)).getD yw):=by
 obtain⟨h1,_,h3,_⟩:=lF hl.aO hlen;unfold mm;simp only[aj.eta,KO hl.aO hlen,Qa];refine A7 (ep l) (by omega) (fun i=>(i,ab.mk (0:Int) (ByteArray.mk #[]),())) (vD y a) yw (fun i b hd hx' hw=> ?_) (fun hd=> ?_)
 ·simp only[hd,hx',hw,Qk,Qa,jq,hy];unfold vD;cases bs a b<;>cases decide (b.an<=1000)<;>cases y b<;>simp
 ·simp only[hd,Ql,Qe];rfl
end
end Go.Proofs.YtjbfdglebjnelaaGreat
end
