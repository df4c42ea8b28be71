/-
  Texts made small by a program (see NOTES). Conditions: those that each theorem names.
-/
import Derived.Test.YtkgenianmdfmdaaGreatMachineHonestMd
set_option linter.unusedVariables false
set_option linter.unusedSimpArgs false
set_option linter.unusedSectionVars false
set_option maxHeartbeats 2000000
noncomputable section
namespace Go.TQ
@[simp] theorem ba {σ ρ:Type} (j:σ->Option ρ) (f:(σ->Option ρ)->Option ρ):bm j f=f j:=rfl
@[simp] theorem ji {α:Type} (b:Bool) (x y:α):(bif b then some x else some y)=some (bif b then x else y):=by cases b<;>rfl
@[simp] theorem adh {α:Type} (b:Bool) (x:α):(bif b then x else x)=x:=by cases b<;>rfl
theorem BT{α:Type}(p:Prop)[Decidable p](x y:α):(bif decide p then x else y)=if p then x else y:=by
 by_cases h:p<;>simp[h]
theorem y8{α:Type}(p:Prop)[Decidable p](x y:α):(if p then some x else some y)=some (if p then x else y):=by split<;>rfl
@[simp] theorem BS {α:Type} (b:Bool) (x y:α):(bif !b then x else y)=bif b then y else x:=by cases b<;>rfl
@[simp] theorem xc (a b:Int) (s t:ByteArray):js false a b s t=(decide (a=b)&&decide (s=t)):=by simp[js]
@[simp] theorem Xn (a b:Int) (s t:ByteArray):js true a b s t= !(decide (a=b)&&decide (s=t)):=by simp[js]
def Yd{α:Type}(o:Option α)(p:α->Prop):Prop:=∃x,o=some x/\p x
theorem Yd.bind{α β:Type}{o:Option α}{p:α->Prop}{f:α->Option β}{q:β->Prop}(h:Yd o p)(k:∀x,p x->Yd (f x) q):Yd (o.bind f) q:=by
 obtain⟨x,rfl,hx⟩:=h;exact k x hx
theorem Yd.mono{α:Type}{o:Option α}{p q:α->Prop}(h:Yd o p)(k:∀x,p x->q x):Yd o q:=by
 obtain⟨x,h1,hx⟩:=h;exact⟨x,h1,k x hx⟩
theorem Yd.some{α:Type}{x:α}{p:α->Prop}(h:p x):Yd (Option.some x) p:=⟨x,rfl,h⟩
theorem Yd.of_eq{α:Type}{o:Option α}{x:α}{p:α->Prop}(h:o=Option.some x)(hp:p x):Yd o p:=⟨x,h,hp⟩
theorem Yd.cond{α:Type}{b:Bool}{x y:Option α}{p:α->Prop}(h1:b=true->Yd x p)(h2:b=false->Yd y p):Yd (bif b then x else y) p:=by
 cases b
 ·exact h2 rfl
 ·exact h1 rfl
theorem Yd.map{α β:Type}{o:Option α}{f:α->β}{p:β->Prop}(h:Yd o fun x=>p (f x)):Yd (o.map f) p:=by
 obtain⟨x,rfl,hx⟩:=h;exact⟨f x,rfl,hx⟩
theorem Yd.eq_true{o:Option Bool}(h:Yd o (·=true)):o=Option.some true:=by
 obtain⟨x,h1,rfl⟩:=h;exact h1
theorem wrap64{n:Int}(h1: -9223372036854775808<=n)(h2:n<=9223372036854775807):IntKind.i64.wrap n=n:=i64_in h1 h2
theorem bP{a b:Int}(h1: -9223372036854775808<=a+b)(h2:a+b<=9223372036854775807):aG .i64 a b=a+b:=wrap64 h1 h2
theorem tu{a b:Int}(h1: -9223372036854775808<=a - b)(h2:a - b<=9223372036854775807):dK .i64 a b=a - b:=wrap64 h1 h2
theorem bC{α:Type}(l:List α)(i:Nat):idx l (i:Int)=l[i]?:=by simp[idx]
theorem Px{α:Type}(l:List α){n:Int}(h:0<=n):idx l n=l[n.toNat]?:=by simp[idx,h]
@[simp] theorem aaZ (n:Nat) (h:n<256):FQ .i64 (n:Int)=n:=wrap64 (by omega) (by omega)
@[simp] theorem cj {bytes n:Nat} (h:n*bytes<=140737488355328/\n<=1000000):bB bytes n=true:=by
 simp only[bB,Qm,Qi];exact⟨h.1,QK h.2 (by simp[maxLen])⟩
theorem qR(a:Nat)(h:a<2 ^ 62):(BitVec.ofInt 64 (a:Int)).toNat=a:=by
 rw[BitVec.ofInt_natCast,BitVec.toNat_ofNat];exact Nat.mod_eq_of_lt (by omega)
theorem B2(n:Nat)(h:n<2 ^ 62):IntKind.i64.wrap (n:Int)=n:=wrap64 (by omega) (by omega)
theorem zm(a b:Nat)(ha:a<2 ^ 62)(hb:b<2 ^ 62):Fi .i64 (a:Int) (b:Int)=((a&&&b:Nat):Int):=by
 show IntKind.i64.wrap (((BitVec.ofInt 64 (a:Int)&&&BitVec.ofInt 64 (b:Int)).toNat:Nat):Int)=_;rw[BitVec.toNat_and,qR a ha,qR b hb];exact B2 _ (Nat.lt_of_le_of_lt Nat.and_le_left ha)
theorem Bs(a b:Nat)(ha:a<2 ^ 62)(hb:b<2 ^ 62):uD .i64 (a:Int) (b:Int)=((a|||b:Nat):Int):=by
 show IntKind.i64.wrap (((BitVec.ofInt 64 (a:Int)|||BitVec.ofInt 64 (b:Int)).toNat:Nat):Int)=_
 rw[BitVec.toNat_or,qR a ha,qR b hb];exact B2 _ (Nat.or_lt_two_pow ha hb)
theorem ZW(s k:Nat):s&&&2 ^ k=if s.testBit k then 2 ^ k else 0:=by
 refine Nat.eq_of_testBit_eq fun i=> ?_
 rw[Nat.testBit_and,Nat.testBit_two_pow]
 by_cases h:k=i
 ·subst h;cases hs:s.testBit k<;>simp
 ·cases hs:s.testBit k<;>simp[h]
theorem tN(k:Nat)(h:k<=60):iS .i64 1 (k:Int)=((2 ^ k:Nat):Int):=by
 show IntKind.i64.wrap (1*2 ^ min (k:Int).toNat 64)=_;rw[QV,show min k 64=k from Nat.min_eq_left (by omega),Int.one_mul]
 have:=B2 (2 ^ k) (Nat.pow_lt_pow_right (by omega) (by omega))
 simpa using this
theorem Wu(a k:Nat)(h:k<=60):Wv .i64 (a:Int) (k:Int)=((a>>>k:Nat):Int):=by
 show(a:Int).fdiv (2 ^ min (k:Int).toNat 64)=_;rw[QV,show min k 64=k from Nat.min_eq_left (by omega),Nat.shiftRight_eq_div_pow]
 rw[show(2:Int) ^ k=((2 ^ k:Nat):Int)by simp,Int.fdiv_eq_ediv_of_nonneg _ (Int.natCast_nonneg _)]
 exact(Int.natCast_ediv a (2 ^ k)).symm
theorem bX{σ ρ:Type}{step:σ->Option (σ⊕ρ)}{s:σ}{r:ρ}(h:step s=some (.inr r)):aI step s=some r:=by rw[iu,h]
theorem bn{σ ρ:Type}{step:σ->Option (σ⊕ρ)}{s s':σ}(h:step s=some (.inl s')):aI step s=aI step s':=by rw[iu,h]
theorem JJ{σ ρ:Type}{step:σ->Option (σ⊕ρ)}{s:σ}(h:step s=none):aI step s=none:=by rw[iu,h]
theorem Yd.loop{σ ρ:Type}{step:σ->Option (σ⊕ρ)}{s:σ}{p:ρ->Prop}(h:Yd (step s) fun y=>match y with| .inl s'=>Yd (aI step s') p| .inr r=>p r):Yd (aI step s) p:=by
 obtain⟨y,h1,h2⟩:=h
 cases y with
 |inl s'=>rw[bn h1];exact h2
 |inr r=>exact⟨r,bX h1,h2⟩
theorem Yd.join{σ ρ:Type}{j:σ->Option ρ}{f:(σ->Option ρ)->Option ρ}{p:ρ->Prop}(inv:σ->Prop)(h1:∀v,inv v->Yd (j v) p)(h2:∀j':σ->Option ρ,(∀v,inv v->Yd (j' v) p)->Yd (f j') p):Yd (bm j f) p:=h2 j h1
theorem Yd.inr{σ ρ:Type}{o:Option ρ}{p:σ⊕ρ->Prop}(h:Yd o fun r=>p (.inr r)):Yd (Option.map Sum.inr o) p:=h.map
def eN{α σ ρ:Type}(g:α->σ->Option (σ⊕ρ))(fin:σ->Option ρ):List α->σ->Option ρ
 |[],s=>fin s
 |x::l,s=>match g x s with
  |none=>none
  |some (.inr r)=>some r
  |some (.inl s')=>eN g fin l s'
theorem T3{α σ τ ρ:Type}(l:List α)(mk:Int->σ->τ){step:τ->Option (τ⊕ρ)}(g:α->σ->Option (σ⊕ρ))(fin:σ->Option ρ)
  (h1:∀(i:Nat) (x:α) (s:σ),i<l.length->l[i]?=some x->step (mk i s)=match g x s with|none=>none|some (.inr r)=>some (.inr r)|some (.inl s')=>some (.inl (mk (i+1:Nat) s')))
  (h2:∀s,step (mk l.length s)=(fin s).map Sum.inr) (s:σ):aI step (mk 0 s)=eN g fin l s:=by
 suffices h:∀(k:Nat) (i:Nat) (s:σ),i+k=l.length->aI step (mk i s)=eN g fin (l.drop i) s by
  have:=h l.length 0 s (by omega)
  simpa using this
 intro k
 induction k with
 |zero=>
  intro i s hi;obtain rfl:i=l.length:=by omega
  rw[List.drop_length,eN,iu,h2];cases fin s<;>rfl
 |succ k ih=>
  intro i s hi;have hlt:i<l.length:=by omega
  rw[QM hlt,eN,iu,h1 i l[i] s hlt (Qv hlt)]
  cases hg:g l[i] s with
  |none=>rfl
  |some y=>
   cases y with
   |inr r=>rfl
   |inl s'=>exact ih (i+1) s' (by omega)
theorem gp{α σ τ ρ:Type}(l:List α)(hl:l.length<=9223372036854775807)(mk:Int->σ->τ){step:τ->Option (τ⊕ρ)}(g:α->σ->Option (σ⊕ρ))(fin:σ->Option ρ)
  (h1:∀(i:Nat) (x:α) (s:σ),decide ((i:Int)<((l.length:Nat):Int))=true->idx l (i:Int)=some x->aG .i64 (i:Int) 1=((i+1:Nat):Int)->step (mk i s)=match g x s with|none=>none|some (.inr r)=>some (.inr r)|some (.inl s')=>some (.inl (mk (i+1:Nat) s')))
  (h2:∀s,decide (((l.length:Nat):Int)<((l.length:Nat):Int))=false->step (mk l.length s)=(fin s).map Sum.inr) (s:σ):aI step (mk 0 s)=eN g fin l s:=
 T3 l mk g fin (fun i x s hi hx=>h1 i x s (Qg (Int.ofNat_lt.2 hi)) (by rw[bC];exact hx) (bP (by omega) (by omega))) (fun s=>h2 s (Qh (Int.lt_irrefl _))) s
end Go.TQ
namespace Go.Proofs.YtkgenianmdfmdaaGreat
open Go.TQ
def fu:ByteArray:=⟨#[]⟩
def aD(b:ae):Bool:=decide (b.aj=0)&&decide (b.Value=fu)
def jx(a b:ByteArray):Bool:=if a.size=b.size then j0 a b else decide (a.size<b.size)
def bg(a b:ae):Bool:=if a.aj=b.aj then jx a.Value b.Value else decide (a.aj<b.aj)
def bE(a b:ae):Bool:=decide (a.Value=b.Value)
def gK(p b:ae):Bool:= !aD p&&bE p b&&decide (b.aj<=p.aj)
def b0(p q b:ae):Bool:=gK p b||gK q b||(!aD q&&bg b q)
def dO(p b:ae):Bool:= !aD p&& !bE p b&&bg b p
def ct(b:ae):Bool:=(decide (1<=b.aj)&&decide (b.aj<=1000)||decide (b.aj=1000000))&&decide (1<=b.Value.size)&&decide (b.Value.size<=200)
theorem Nb:∀x:List UInt8,Op.bytesLess x x=false
 |[]=>rfl
 |a::l=>by simp[Op.bytesLess,Nb l]
theorem Ra:∀{x y:List UInt8},x≠y->Op.bytesLess x y=true\/Op.bytesLess y x=true
 |[],[],h=>absurd rfl h
 |[],_::_,_=> .inl rfl
 |_::_,[],_=> .inr rfl
 |a::l,b::m,h=>by
  simp only[Op.bytesLess]
  by_cases hab:a=b
  ·subst hab;have:l≠m:=fun e=>h (by rw[e])
   simpa using Ra this
  ·rcases Nat.lt_or_gt_of_ne (fun e=>hab (UInt8.toNat_inj.1 e))with h1|h1
   ·have h2:a<b:=h1;simp[h2]
   ·have h2:b<a:=h1;simp[h2]
theorem Ou(a:ByteArray):j0 a a=false:=Nb _
@[simp] theorem cJ (b:ae):bl b=some (aD b):=by unfold bl aD;rw[xc];rfl
@[simp] theorem de (b:ae):bz b=some (aD b):=by unfold bz aD;rw[xc];rfl
@[simp] theorem eY (a b:ae):bQ a b=some (bE a b):=rfl
@[simp] theorem fI (a b:ae):cm a b=some (bE a b):=rfl
@[simp] theorem rE (b:ae):fR b=some (ct b):=by
 have h1:decide ((1:Int)<=(b.Value.size:Nat))=decide (1<=b.Value.size):=by rw[decide_eq_decide];omega
 have h2:decide (((b.Value.size:Nat):Int)<=200)=decide (b.Value.size<=200):=by rw[decide_eq_decide];omega
 simp only[fR,ct,h1,h2,ji,Qa,Bool.cond_false_right,Bool.cond_true_left]
@[simp] theorem zw (b:ae):je b=some (ct b):=rE b
@[simp] theorem vD (a b:ByteArray):lG a b=some (jx a b):=by
 simp only[lG,jx,BS,Int.ofNat_inj,Int.ofNat_lt,BT,y8]
@[simp] theorem iN (a b:ae):eL a b=some (bg a b):=by
 simp[eL,bg,BT,y8]
@[simp] theorem xM (a b:ae):kp a b=some (gK a b):=by simp[kp,gK]
@[simp] theorem UK (a b:ae):jm a b=some (gK a b):=by simp[jm,gK]
@[simp] theorem mL (p q b:ae):fq p q b=some (b0 p q b):=by simp[fq,b0]
@[simp] theorem sP (p b:ae):eE p b=some (dO p b):=by simp[eE,dO]
def xx(a b:Int):Int:=if a<b then -1 else if b<a then 1 else 0
def P7(a b:ByteArray):Int:=if j0 a b then -1 else if j0 a b||decide (a=b)then 0 else 1
def Ya:List Int->Int
 |[]=>0
 |x::l=>if x=0 then Ya l else x
@[simp] theorem De (a b:Int):iE a b=some (xx a b):=by
 simp[iE,qC,xx,BT,y8]
@[simp] theorem Rz (a b:ByteArray):lU a b=some (P7 a b):=by
 simp only[lU,nP,P7];cases h1:j0 a b<;>by_cases h2:a=b<;>simp[h2]
theorem KN(l:List Int)(hl:l.length<=1000000):oQ l=some (Ya l):=by
 unfold oQ;rw[gp l (by omega) (fun i (_:Unit)=>(i,())) (fun x _=>some (if x=0 then .inl ()else .inr x)) (fun _=>some 0) (fun i x s hd hx hw=> ?_) (fun s hd=> ?_) ()]
 ·induction l with
  |nil=>rfl
  |cons x l ih=>
   rw[eN,Ya]
   by_cases h:x=0
   ·simp only[h,Qt];exact ih (by simp at hl;omega)
   ·simp only[Qs h]
 ·by_cases h:x=0<;>simp only[hd,hx,hw,h,Qk,Qa]<;>simp
 ·simp only[hd,Ql]
@[simp] theorem XT (a b:Int):oQ [a,b]=some (if a=0 then b else a):=by
 rw[KN _ (by simp)]
 simp only[Ya]
 by_cases h:a=0<;>by_cases h':b=0<;>simp[h,h']
def LS(a b:ByteArray):Int:=if xx a.size b.size=0 then P7 a b else xx a.size b.size
def P9(a b:ae):Int:=if xx a.aj b.aj=0 then LS a.Value b.Value else xx a.aj b.aj
@[simp] theorem xA (a b:ByteArray):ga a b=some (LS a b):=by simp[ga,LS]
@[simp] theorem UH (a b:ae):lM a b=some (P9 a b):=by simp[lM,P9]
theorem Ai(a b:Int):xx a b=0↔a=b:=by unfold xx;split<;>(try split)<;>omega
theorem Io(a b:Int):xx a b<0↔a<b:=by unfold xx;split<;>(try split)<;>omega
theorem Xz(a b:ByteArray):P7 a b<0↔j0 a b=true:=by
 unfold P7;split
 ·rename_i h;simp[h]
 ·rename_i h;split<;>simp[h]
theorem P6(a b:ByteArray):decide (LS a b<0)=jx a b:=by
 unfold LS jx
 by_cases h:a.size=b.size
 ·rw[Qr ((Ai _ _).2 (by rw[h])),Qr h]
  rw[QW,Qi,Xz]
 ·rw[Qs (fun e=>h (by have:=(Ai _ _).1 e;omega)),Qs h,decide_eq_decide,Io]
  omega
theorem P8(a b:ae):decide (P9 a b<0)=bg a b:=by
 unfold P9 bg
 by_cases h:a.aj=b.aj
 ·rw[Qr ((Ai _ _).2 h),Qr h,P6]
 ·rw[Qs (fun e=>h ((Ai _ _).1 e)),Qs h,decide_eq_decide,Io]
@[simp] theorem iF (a b:ae):dL a b=some (bg a b):=by simp[dL,P8]
@[simp] theorem oR (p q b:ae):fY p q b=some (b0 p q b):=by simp[fY,b0]
@[simp] theorem qj (p b:ae):dM p b=some (dO p b):=by simp[dM,dO]
def finite(b:ae):Bool:=ct b&&decide (b.aj<=1000)
@[simp] theorem BZ (b:ae):kR b=some (finite b):=by simp[kR,finite]
@[simp] theorem zP (b:ae):jT b=some (aD b||ct b):=by simp[jT]
@[simp] theorem xN (e:ai) (n:Int):mj e n=some ⟨n,e.aa.Value⟩:=rfl
end Go.Proofs.YtkgenianmdfmdaaGreat
namespace Go.Proofs.YtkgenianmdfmdaaGreat
open Go.TQ
theorem L6{rec:(an×Unit)->Option Int}{t:an}(hl:t.aS.length<=9223372036854775807):
  iG rec t=eN (fun u m=>(rec (u,())).map fun r=> .inl (bo m r)) (fun m=>some (aG .i64 m 1)) t.aS 0:=by
 unfold iG;rw[gp t.aS hl (fun i (m:Int)=>(m,i,())) (fun u m=>(rec (u,())).map fun r=> .inl (bo m r)) (fun m=>some (aG .i64 m 1)) (fun i x s hd hx hw=> ?_) (fun s hd=> ?_) 0]
 ·simp only[hd,hx,hw,Qk,Qa,an.eta];cases rec (x,())<;>rfl
 ·simp only[hd,Ql]
theorem Ry{rec:(an×Unit)->Option Int}{t:an}(hl:t.aS.length<=9223372036854775807):
  jn rec t=eN (fun u m=>(rec (u,())).map fun r=> .inl (aG .i64 m r)) (fun m=>some m) t.aS (aG .i64 t.bq.length t.aS.length):=by
 unfold jn;rw[gp t.aS hl (fun i (m:Int)=>(m,i,())) (fun u m=>(rec (u,())).map fun r=> .inl (aG .i64 m r)) (fun m=>some m) (fun i x s hd hx hw=> ?_) (fun s hd=> ?_) (aG .i64 t.bq.length t.aS.length)]
 ·simp only[hd,hx,hw,Qk,Qa,an.eta];cases rec (x,())<;>rfl
 ·simp only[hd,Ql]
theorem Mq(t:an):xy t=iw t:=rfl
theorem OL(t:an):zx t=jj t:=rfl
def et(x:Int):Bool:=decide (0<=x)&&decide (x<10)
def wo(s x:Int):Bool:=decide (0<=s)&&decide (s<1024)&&et x&&s.toNat.testBit x.toNat
theorem FV(s:Int):eJ s=some (decide (0<=s)&&decide (s<1024)):=by
 have:iS .i64 1 10=1024:=tN 10 (by omega)
 simp[eJ,vG,this]
theorem Rg{s x:Int}(h1:0<=s)(h2:s<1024)(h3:0<=x)(h4:x<10):(Fi .i64 s (iS .i64 1 x)=0)=(s.toNat.testBit x.toNat=false):=by
 obtain⟨n,rfl⟩:=Int.eq_ofNat_of_zero_le h1;obtain⟨j,rfl⟩:=Int.eq_ofNat_of_zero_le h3;have hj:2 ^ j<=2 ^ 10:=Nat.pow_le_pow_right (by omega) (by omega)
 rw[tN j (by omega),zm n (2 ^ j) (by omega) (by omega),ZW]
 simp only[QV];have hp:2 ^ j≠0:=Nat.pos_iff_ne_zero.1 (Nat.pow_pos (by omega))
 cases n.testBit j
 ·simp
 ·rw[Qr rfl];simp only[Bool.true_eq_false,eq_iff_iff,iff_false];omega
@[simp] theorem kx (s x:Int):jf s x=some (wo s x):=by
 unfold jf wo et;rw[FV]
 by_cases h1:0<=s
 ·by_cases h2:s<1024
  ·by_cases h3:0<=x
   ·by_cases h4:x<10
    ·have h5:¬x<0:=by omega
     have:=Rg h1 h2 h3 h4;simp[h1,h2,h3,h4,h5,this]
    ·simp[h1,h2,h3,h4]
   ·simp[h1,h2,h3]
  ·simp[h1,h2]
 ·simp[h1]
theorem RE{s x:Int}(h1:0<=s)(h2:s<1024)(h3:0<=x)(h4:x<10):(Fi .i64 (Wv .i64 s x) 1=1)=(s.toNat.testBit x.toNat=true):=by
 obtain⟨n,rfl⟩:=Int.eq_ofNat_of_zero_le h1;obtain⟨j,rfl⟩:=Int.eq_ofNat_of_zero_le h3;have hle:n>>>j<=n:=by rw[Nat.shiftRight_eq_div_pow];exact Nat.div_le_self _ _
 rw[Wu n j (by omega),show(1:Int)=((1:Nat):Int)from rfl,zm _ 1 (by omega) (by omega)]
 simp only[QV,Int.ofNat_inj,Nat.testBit,eq_iff_iff];rw[Nat.and_comm];simp
@[simp] theorem so (s x:Int):kK s x=some (wo s x):=by
 unfold kK eI wo et
 by_cases h1:0<=s
 ·by_cases h2:s<1024
  ·have h2':s<=1023:=by omega
   by_cases h3:0<=x
   ·by_cases h4:x<10
    ·have h5:¬x<0:=by omega
     have:=RE h1 h2 h3 h4;simp[h1,h2,h2',h3,h4,h5,this]
    ·simp[h1,h2,h2',h3,h4]
   ·simp[h1,h2,h2',h3]
  ·have h2':¬s<=1023:=by omega
   simp[h1,h2,h2']
 ·simp[h1]
theorem yv{s:Nat}{x:Int}(h1:s<1024)(h3:0<=x)(h4:x<10):uD .i64 (s:Int) (iS .i64 1 x)=((s|||2 ^ x.toNat:Nat):Int):=by
 obtain⟨j,rfl⟩:=Int.eq_ofNat_of_zero_le h3;have hj:2 ^ j<=2 ^ 9:=Nat.pow_le_pow_right (by omega) (by omega)
 rw[tN j (by omega)]
 exact Bs s (2 ^ j) (by omega) (by omega)
theorem Jq{s:Nat}{x:Int}(h1:s<1024)(h4:x<10):s|||2 ^ x.toNat<1024:=by
 have hj:2 ^ x.toNat<=2 ^ 9:=Nat.pow_le_pow_right (by omega) (by omega)
 exact Nat.or_lt_two_pow (n:=10) h1 (by omega)
def o0(s:Nat):List Int->Int×Int×Unit
 |[]=>(s,0,())
 |x::l=>if et x then(if s.testBit x.toNat then(0,6,())else o0 (s|||2 ^ x.toNat) l)else(0,5,())
theorem Sv(g:Int->Int->Option (Int⊕(Int×Int×Unit)))
  (hg:∀x (s:Nat),s<1024->g x s=some (if et x then(if s.testBit x.toNat then .inr (0,6,())else .inl ((s|||2 ^ x.toNat:Nat):Int))else .inr (0,5,()))):
  ∀(l:List Int) (s:Nat),s<1024->eN g (fun s=>some (s,0,())) l s=some (o0 s l)
 |[],s,_=>rfl
 |x::l,s,hs=>by
  rw[eN,hg x s hs,o0]
  cases h1:et x with
  |false=>simp
  |true=>
   cases h2:s.testBit x.toNat with
   |true=>simp
   |false=>
    simp only[Qt,Qq,Qu];have h3:x<10:=by simp[et]at h1;omega
    exact Sv g hg l _ (Jq hs h3)
theorem Al(l:List Int)(hl:l.length<=9223372036854775807):oM l=some (o0 0 l):=by
 unfold oM;rw[gp l hl (fun i (s:Int)=>(s,i,())) (fun x s=>if et x then(if wo s x then some (.inr (0,6,()))else some (.inl (uD .i64 s (iS .i64 1 x))))else some (.inr (0,5,()))) (fun s=>some (s,0,())) (fun i x s hd hx hw=> ?_) (fun s hd=> ?_) 0]
 ·refine Sv _ (fun x s hs=> ?_) l 0 (by omega)
  cases h1:et x with
  |false=>simp
  |true=>
   have h3:0<=x/\x<10:=by simp[et]at h1;omega
   have h2:wo s x=s.testBit x.toNat:=by simp[wo,h1];omega
   rw[h2,yv hs h3.1 h3.2];cases s.testBit x.toNat<;>simp
 ·simp only[hd,hx,hw,Qk,Qa,kx]
  by_cases h0:x<0
  ·have:¬0<=x:=by omega
   simp[h0,et,this]
  ·have h0':0<=x:=by omega
   by_cases h10:10<=x
   ·have:¬x<10:=by omega
    simp[h0,h10,et,this,h0']
   ·have h10':x<10:=by omega
    cases h:wo s x<;>simp[h0,h10,et,h0',h10']
 ·simp only[hd,Ql]
theorem NV(l:List Int)(hl:l.length<=9223372036854775807):vF l=some (o0 0 l):=by
 have:vF l=oM l:=by
  unfold vF oM;simp only[so,kx]
 rw[this,Al l hl]
@[simp] theorem tr (x:Int):kf x=some (!et x):=by simp[kf,uq,et]
theorem GK(l:List Int)(hl:l.length<=9223372036854775807):fF l=some (l.any fun x=> !et x):=by
 have key:∀(i:Nat) (k:Nat),i+k=l.length->Yd (aI (fun(v1:Int×Unit)=>bif (decide (v1.1<((List.length l:Nat):Int)))then Option.bind (idx l v1.1) fun x2=>Option.bind (kf x2) fun r3=>bif r3 then Option.map Sum.inr (some v1.1)else some (Sum.inl ((aG .i64 v1.1 (1:Int)),()))else Option.map Sum.inr (some (-1:Int))) ((i:Int),())) fun r=>decide (0<=r)=(l.drop i).any fun x=> !et x:=by
  intro i k
  induction k generalizing i with
  |zero=>
   intro hi;refine⟨-1,bX ?_,?_⟩
   ·have:¬((i:Int)<(l.length:Int)):=by omega
    simp[this]
   ·rw[List.drop_eq_nil_of_le (by omega)];rfl
  |succ k ih=>
   intro hi;have hlt:i<l.length:=by omega
   have hd:decide ((i:Int)<((l.length:Nat):Int))=true:=Qg (Int.ofNat_lt.2 hlt);have hx:idx l (i:Int)=some l[i]:=by rw[bC];exact Qv hlt
   have hw:aG .i64 (i:Int) 1=((i+1:Nat):Int):=bP (by omega) (by omega)
   rw[QM hlt,List.any_cons]
   cases h:et l[i]with
   |true=>
    rw[bn (s':=(((i+1:Nat):Int),())) (by simp only[hd,hx,hw,Qk,Qa,tr,h];rfl)]
    exact(ih (i+1) (by omega)).mono fun r hr=>by simpa using hr
   |false=>
    refine⟨i,bX (by simp only[hd,hx,Qk,Qa,tr,h];rfl),?_⟩
    simp
 obtain⟨r,h1,h2⟩:=key 0 l.length (by omega)
 unfold fF jD;simp only[Int.natCast_zero]at h1;rw[h1];simpa using h2
def oy(rec:an->Option Int)(t:an):Option Int:=
 if t.aT<1\/aG .i64 t.bq.length t.aS.length<t.aT then some 4
 else if(t.bq.any fun x=> !et x)then some 5
 else if(o0 0 t.bq).2.1=0 then eN (fun u (_:Unit)=>(rec u).map fun r=>if r=0 then .inl ()else .inr r) (fun _=>some 0) t.aS ()
 else some (o0 0 t.bq).2.1
theorem F0{rec:(an×Unit)->Option Int}{t:an}(hn:t.bq.length<=9223372036854775807)(hl:t.aS.length<=9223372036854775807):gC rec t=oy (fun u=>rec (u,())) t:=by
 unfold gC oy;rw[GK _ hn,Al _ hn];rw[gp t.aS hl (fun i (_:Unit)=>(i,())) (fun u (_:Unit)=>(rec (u,())).map fun r=>if r=0 then .inl ()else .inr r) (fun _=>some 0) (fun i x s hd hx hw=> ?_) (fun s hd=> ?_) ()]
 ·by_cases h1:t.aT<1
  ·simp[h1]
  ·by_cases h2:aG .i64 t.bq.length t.aS.length<t.aT
   ·simp[h1,h2]
   ·simp only[h1,h2,decide_false,Ql,Qa,or_self,Qu]
    cases (t.bq.any fun x=> !et x)with
    |true=>simp
    |false=>
     by_cases h3:(o0 0 t.bq).2.1=0<;>simp[h3]
 ·simp only[hd,hx,hw,Qk,Qa,an.eta]
  cases rec (x,())with
  |none=>rfl
  |some r=>by_cases h:r=0<;>simp[h]
 ·simp only[hd,Ql]
theorem L8{rec:(an×Unit)->Option Int}{t:an}(hn:t.bq.length<=9223372036854775807)(hl:t.aS.length<=9223372036854775807):lA rec t=oy (fun u=>rec (u,())) t:=by
 unfold lA oy;rw[gp t.bq hn (fun i (_:Unit)=>(i,())) (fun x (_:Unit)=>some (if et x then .inl ()else .inr 5)) (fun _=>if(o0 0 t.bq).2.1=0 then eN (fun u (_:Unit)=>(rec (u,())).map fun r=>if r=0 then .inl ()else .inr r) (fun _=>some 0) t.aS ()else some (o0 0 t.bq).2.1) (fun i x s hd hx hw=> ?_) (fun s hd=> ?_) ()]
 ·by_cases h1:t.aT<1
  ·simp[h1]
  ·by_cases h2:aG .i64 t.bq.length t.aS.length<t.aT
   ·simp[h1,h2]
   ·simp only[h1,h2,decide_false,Ql,Qa,or_self,Qu]
    have:∀(l:List Int) (fin:Unit->Option Int),eN (fun x (_:Unit)=>some (if et x then .inl ()else .inr 5)) fin l ()=if(l.any fun x=> !et x)then some 5 else fin ():=by
     intro l fin
     induction l with
     |nil=>rfl
     |cons x l ih=>
      rw[eN,List.any_cons]
      cases h:et x with
      |true=>simpa using ih
      |false=>simp
    exact this _ _
 ·simp only[hd,hx,hw,Qk,Qa,et]
  by_cases h0:x<0
  ·have h0':¬0<=x:=by omega
   simp[h0,h0']
  ·have h0':0<=x:=by omega
   by_cases h1:10<=x
   ·have h1':¬x<10:=by omega
    simp[h0,h0',h1,h1']
   ·have h1':x<10:=by omega
    simp[h0,h0',h1,h1']
 ·simp only[hd,Ql];rw[NV _ hn,Qa];rw[gp t.aS hl (fun i (_:Unit)=>(i,())) (fun u (_:Unit)=>(rec (u,())).map fun r=>if r=0 then .inl ()else .inr r) (fun _=>some 0) (fun i x s hd hx hw=> ?_) (fun s hd=> ?_) ()]
  ·by_cases h3:(o0 0 t.bq).2.1=0<;>simp[h3]
  ·simp only[hd,hx,hw,Qk,Qa,an.eta]
   cases rec (x,())with
   |none=>rfl
   |some r=>by_cases h:r=0<;>simp[h]
  ·simp only[hd,Ql]
structure gL (t:an):Prop where
 nodes:∀x∈t.bq,0<=x/\x<10
 nodup:t.bq.Nodup
 len:t.bq.length<=10
 inner:t.aS=[]\/∃x,0<=x/\x<10/\t.aS=[⟨1,[x],[]⟩]
 th:1<=t.aT/\t.aT<=t.bq.length+t.aS.length
theorem Cw:∀(l:List Int) (s:Nat),(∀x∈l,0<=x/\x<10)->l.Nodup->(∀x∈l,s.testBit x.toNat=false)->(o0 s l).2.1=0
 |[],s,_,_,_=>rfl
 |x::l,s,h1,h2,h3=>by
  rw[List.nodup_cons]at h2;have hx:=h1 x (by simp)
  have:et x=true:=by simp[et];omega
  rw[o0,this,h3 x (by simp)]
  simp only[Qt,Qq,Qu];refine Cw l _ (fun y hy=>h1 y (by simp[hy])) h2.2 fun y hy=> ?_
  have hy1:=h1 y (by simp[hy])
  rw[Nat.testBit_or,h3 y (by simp[hy]),Nat.testBit_two_pow]
  have:x.toNat≠y.toNat:=fun e=>by
   have:x=y:=by omega
   subst this;exact h2.1 hy
  simp[this]
theorem Rf{l:List Int}(h:∀x∈l,0<=x/\x<10):(l.any fun x=> !et x)=false:=by
 rw[List.any_eq_false];intro x hx;have:=h x hx;simp[et];omega
theorem GX{rec:an->Option Int}{x:Int}(h0:0<=x)(h1:x<10):oy rec ⟨1,[x],[]⟩=some 0:=by
 have h2:aG .i64 (1:Nat) (0:Nat)=1:=rfl;have h3:(o0 0 [x]).2.1=0:=Cw [x] 0 (by simp;omega) (by simp) (by simp)
 have h4:([x].any fun x=> !et x)=false:=Rf (by simp;omega)
 simp only[oy,QE,QZ,Nat.zero_add,h2,h3,h4];simp[eN]
theorem JK{t:an}(h:gL t){rec:an->Option Int}(hr:∀x,0<=x->x<10->rec ⟨1,[x],[]⟩=some 0):oy rec t=some 0:=by
 have hil:t.aS.length<=1:=by rcases h.inner with e|⟨x,_,_,e⟩<;>rw[e]<;>simp
 have hlen:=h.len;have h2:aG .i64 t.bq.length t.aS.length=t.bq.length+t.aS.length:=bP (by omega) (by omega)
 have h3:(o0 0 t.bq).2.1=0:=Cw _ 0 h.nodes h.nodup (by simp)
 have h4:=Rf h.nodes;have h5:=h.th;unfold oy;rw[h2,Qs (by omega),h4,h3]
 simp only[Qq,Qu,Qt];rcases h.inner with e|⟨x,hx0,hx1,e⟩
 ·rw[e];rfl
 ·rw[e,eN,hr x hx0 hx1];rfl
theorem Iz(t:an):∃n,SizeOf.sizeOf t=n+1:=by
 have:1<=SizeOf.sizeOf t:=by
  cases t;simp only[an.mk.sizeOf_spec];omega
 exact⟨SizeOf.sizeOf t - 1,by omega⟩
theorem Uo(n:Nat)(th:Int)(l:List Int):lF (n+1) (⟨th,l,[]⟩,())=some 1:=by
 show iG _ _=_;rw[L6 (by simp)]
 rfl
theorem size_leaf(n:Nat)(th:Int)(l:List Int):mA (n+1) (⟨th,l,[]⟩,())=some (aG .i64 l.length (0:Nat)):=by
 show jn _ _=_;rw[Ry (by simp)]
 rfl
theorem Kn{t:an}(h:gL t):∃d,iw t=some d/\d<=2:=by
 obtain⟨n,hn⟩:=Iz t;have hil:t.aS.length<=1:=by rcases h.inner with e|⟨x,_,_,e⟩<;>rw[e]<;>simp
 unfold iw;rw[hn];show∃d,iG (lF (n+1)) t=some d/\d<=2;rw[L6 (by omega)]
 rcases h.inner with e|⟨x,_,_,e⟩
 ·rw[e];exact⟨1,rfl,by omega⟩
 ·rw[e,eN,Uo n 1 [x]];exact⟨2,rfl,by omega⟩
theorem Mg{t:an}(h:gL t):∃d,jj t=some d/\d<=200:=by
 obtain⟨n,hn⟩:=Iz t;have hil:t.aS.length<=1:=by rcases h.inner with e|⟨x,_,_,e⟩<;>rw[e]<;>simp
 have hlen:=h.len;unfold jj;rw[hn];show∃d,jn (mA (n+1)) t=some d/\d<=200;rw[Ry (by omega),bP (by omega) (by omega)]
 rcases h.inner with e|⟨x,_,_,e⟩
 ·rw[e];exact⟨_,rfl,by simp;omega⟩
 ·rw[e,eN,size_leaf n 1 [x]];have h1:aG .i64 (([x]:List Int).length:Nat) (0:Nat)=1:=rfl;rw[h1];refine⟨_,rfl,?_⟩;simp only[QE,QZ];rw[bP (by omega) (by omega)]
  omega
theorem nX{t:an}(h:gL t):db t=some 0:=by
 obtain⟨d,h1,h2⟩:=Kn h;obtain⟨z,h3,h4⟩:=Mg h;obtain⟨n,hn⟩:=Iz t;have hil:t.aS.length<=1:=by rcases h.inner with e|⟨x,_,_,e⟩<;>rw[e]<;>simp
 have hlen:=h.len
 have h5:jW t=some 0:=by
  unfold jW;rw[hn];show gC (eV (n+1)) t=some 0;rw[F0 (by omega) (by omega)]
  refine JK h fun x hx0 hx1=> ?_
  show gC (eV n) ⟨1,[x],[]⟩=some 0;rw[F0 (by simp) (by simp)]
  exact GX hx0 hx1
 have h6:¬4<d:=by omega
 have h7:¬200<z:=by omega
 simp[db,h1,h3,h5,h6,h7]
theorem nL{t:an}(h:gL t):fG t=some 0:=by
 obtain⟨d,h1,h2⟩:=Kn h;obtain⟨z,h3,h4⟩:=Mg h;obtain⟨n,hn⟩:=Iz t;have hil:t.aS.length<=1:=by rcases h.inner with e|⟨x,_,_,e⟩<;>rw[e]<;>simp
 have hlen:=h.len
 have h5:pQ t=some 0:=by
  unfold pQ;rw[hn];show lA (nc (n+1)) t=some 0;rw[L8 (by omega) (by omega)]
  refine JK h fun x hx0 hx1=> ?_
  show lA (nc n) ⟨1,[x],[]⟩=some 0;rw[L8 (by simp) (by simp)]
  exact GX hx0 hx1
 have h6:¬4<d:=by omega
 have h7:¬200<z:=by omega
 simp[fG,Mq,OL,h1,h3,h5,h6,h7]
end Go.Proofs.YtkgenianmdfmdaaGreat
namespace Go.Proofs.YtkgenianmdfmdaaGreat
open Go.TQ
structure lX (s:dQ):Prop where
 len:s.L.length<=800
 lo:0<=s.At
 hi:s.At<=800
theorem abc(l:List Int):Yd (ym l) fun s=>lX s:=by
 have h:dP (l.length:Int) 800=((min l.length 800:Nat):Int):=by unfold dP;split<;>omega
 have h2:cr 0 ((min l.length 800:Nat):Int) l.length=true:=by
  simp only[cr,Qm,Qi];omega
 unfold ym;rw[h,h2];refine Yd.some ⟨?_,by simp,by simp⟩
 simp only[QV,List.length_drop,List.length_take];omega
theorem YD(x n:Int)(hn:1<=n): -n<x.tmod n/\x.tmod n<n:=by
 have h2:=Int.emod_nonneg x (show n≠0 by omega)
 have h3:=Int.emod_lt_of_pos x (show 0<n by omega)
 rw[Int.tmod_eq_emod];split
 ·omega
 ·rw[Int.natAbs_of_nonneg (by omega)];omega
theorem rq{s:dQ}(h:lX s){n:Int}(hn:n<=1000000000):Yd (cg s n) fun p=>lX p.2/\0<=p.1/\(1<=n->p.1<n)/\(n<1->p.1=0):=by
 unfold cg;simp only[ba];refine Yd.cond (fun h1=> ?_) (fun h1=> ?_)
 ·exact Yd.some ⟨h,by simp,fun _=>by simp;omega,fun _=>rfl⟩
 ·simp only[Qj,Int.not_le]at h1;refine Yd.cond (fun h2=> ?_) (fun h2=> ?_)
  ·simp only[Qi]at h2;exact Yd.some ⟨h,by simp,fun _=>by simp;omega,fun _=>rfl⟩
  ·simp only[Qj,Int.not_lt]at h2;obtain⟨hl,hlo,hhi⟩:=h;have e1:aG .i64 s.At 1=s.At+1:=bP (by omega) (by omega)
   have e2:dK .i64 (s.At+1) 1=s.At:=by rw[tu (by omega) (by omega)];omega
   rw[e1,e2];have hlt:s.At.toNat<s.L.length:=by omega
   rw[Px _ hlo,Qv hlt,Qa,Qs (by omega),Qs (by omega)]
   have hb:=YD s.L[s.At.toNat] n h2;have e3:TA .i64 s.L[s.At.toNat] n=s.L[s.At.toNat].tmod n:=rfl;rw[e3];generalize s.L[s.At.toNat].tmod n=y at hb;have e4:aG .i64 y n=y+n:=bP (by omega) (by omega)
   rw[e4];have h5:TA .i64 (y+n) n=(y+n) % n:=Int.tmod_eq_emod_of_nonneg (by omega)
   rw[h5];exact Yd.some ⟨⟨hl,by simp;omega,by simp;omega⟩,Int.emod_nonneg _ (by omega),fun _=>Int.emod_lt_of_pos _ (by omega),fun _=>by omega⟩
theorem pw{s:dQ}(h:lX s){a b:Int}(h1:0<=a)(h2:a<=b+1)(h3:b<=1000000):Yd (c9 s a b) fun p=>lX p.2/\a<=p.1/\(a<=b->p.1<=b)/\(b<a->p.1=a):=by
 unfold c9;have e1:dK .i64 b a=b - a:=tu (by omega) (by omega)
 have e2:aG .i64 (b - a) 1=b - a+1:=bP (by omega) (by omega)
 rw[e1,e2];refine(rq h (by omega)).bind fun p ⟨h4,h5,h6,h7⟩=> ?_
 have e3:aG .i64 a p.1=a+p.1:=by
  by_cases hq:b - a+1<1
  ·rw[h7 hq];exact bP (by omega) (by omega)
  ·have:=h6 (by omega);exact bP (by omega) (by omega)
 rw[e3];refine Yd.some ⟨h4,by simp;omega,fun hab=> ?_,fun hab=> ?_⟩
 ·have:=h6 (by omega)
  show a+p.1<=b;omega
 ·have:=h7 (by omega)
  show a+p.1=a;omega
theorem Z3{s:dQ}(h:lX s){l:List ByteArray}(h1:1<=l.length)(h2:l.length<=1000):Yd (qy s l) fun p=>lX p.2/\p.1∈l:=by
 unfold qy;refine(rq h (by omega)).bind fun p ⟨h4,h5,h6,_⟩=> ?_
 have:=h6 (by omega)
 have hlt:p.1.toNat<l.length:=by omega
 rw[Px _ h5,Qv hlt];exact Yd.some ⟨h4,Q0 hlt⟩
def KG(v:ByteArray):Prop:=v∈[(ByteArray.mk #[97]),(ByteArray.mk #[98]),(ByteArray.mk #[99]),(ByteArray.mk #[97,97])]
theorem KG.size{v:ByteArray}(h:KG v):1<=v.size/\v.size<=2:=by
 simp only[KG,QA,QR,or_false]at h;rcases h with rfl|rfl|rfl|rfl<;>exact⟨by decide,by decide⟩
theorem Iu{s:dQ}(h:lX s):Yd (ku s) fun p=>lX p.2/\KG p.1:=by
 unfold ku;exact(Z3 h (by simp) (by simp)).bind fun p hp=>Yd.some hp
theorem We{s:dQ}(h:lX s):Yd (oL s) fun p=>lX p.2/\1<=p.1.aj/\p.1.aj<=6/\KG p.1.Value:=by
 unfold oL;refine(pw h (by omega) (by omega) (by omega)).bind fun p ⟨h1,h2,h3,_⟩=> ?_
 refine(Iu h1).bind fun q ⟨h4,h5⟩=> ?_
 exact Yd.some ⟨h4,h2,h3 (by omega),h5⟩
theorem Iv{s:dQ}(h:lX s){n:Nat}(hn1:1<=n)(hn:n<=10):Yd (kv s n) fun p=>lX p.2/\gL p.1/\(∀x∈p.1.bq,x<n)/\p.1.bq≠[]:=by
 unfold kv;simp only[ba]
 let I (i:Nat) (s:dQ) (t:an) (ns:List Int) (is:List an):Prop:=lX s/\t.aT=0/\(∀x∈ns,0<=x/\x<i)/\ns.Nodup/\ns.length<=i/\is=[]
 suffices key:∀(k i:Nat) (s:dQ) (t:an) (ns:List Int) (is:List an),i+k=n->I i s t ns is->Yd (aI _ ((i:Int),s,t,ns,is,())) _ from key n 0 s _ _ _ (by omega) ⟨h,rfl,by simp,by simp,by simp,rfl⟩
 intro k
 induction k with
 |zero=>
  intro i s t ns is hi ⟨h1,h2,h3,h4,h5,h6⟩;obtain rfl:i=n:=by omega
  subst h6;have hd:decide ((i:Int)<(i:Int))=false:=Qh (Int.lt_irrefl _);refine Yd.loop ?_;simp only[hd,Ql];refine Yd.inr ?_
  have fin:∀(s:dQ) (ns:List Int) (is:List an) (th:Int),lX s->(∀x∈ns,0<=x/\x<i)->ns.Nodup->ns.length<=10->ns≠[]->(is=[]\/∃x,0<=x/\x<10/\is=[⟨1,[x],[]⟩])->1<=th->th<=ns.length+is.length->
    lX s/\gL ⟨th,ns,is⟩/\(∀x∈ns,x<(i:Int))/\ns≠[]:=by
   intro s ns is th a1 a2 a3 a4 a5 a6 a7 a8;exact⟨a1,⟨fun x hx=>by have:=a2 x hx;exact⟨this.1,by omega⟩,a3,a4,a6,a7,a8⟩,fun x hx=>(a2 x hx).2,a5⟩
  have tail:∀(s:dQ) (ns:List Int) (is:List an),lX s->(∀x∈ns,0<=x/\x<i)->ns.Nodup->ns.length<=10->ns≠[]->(is=[]\/∃x,0<=x/\x<10/\is=[⟨1,[x],[]⟩])->
    Yd (Option.bind (c9 s (OU .i64 (aG .i64 (aG .i64 ((List.length ns:Nat):Int) ((List.length is:Nat):Int)) (1:Int)) (2:Int)) (aG .i64 ((List.length ns:Nat):Int) ((List.length is:Nat):Int))) fun p9=>
     Option.bind (cg p9.2 (6:Int)) fun p12=>
     bif (decide (p12.1=(5:Int)))then some ((an.mk (1:Int) ns is),p12.2)else some ((an.mk p9.1 ns is),p12.2)) fun p=>lX p.2/\gL p.1/\(∀x∈p.1.bq,x<(i:Int))/\p.1.bq≠[]:=by
   intro s ns is a1 a2 a3 a4 a5 a6;have hp:1<=ns.length:=by cases ns with|nil=>exact absurd rfl a5|cons x l=>simp
   have hil:is.length<=1:=by rcases a6 with e|⟨x,_,_,e⟩<;>rw[e]<;>simp
   have e1:aG .i64 ((List.length ns:Nat):Int) ((List.length is:Nat):Int)=ns.length+is.length:=bP (by omega) (by omega)
   have e2:aG .i64 ((ns.length:Int)+is.length) 1=ns.length+is.length+1:=bP (by omega) (by omega)
   have e3:OU .i64 ((ns.length:Int)+is.length+1) 2=(ns.length+is.length+1) / 2:=by
    show IntKind.i64.wrap (Int.tdiv _ _)=_;rw[Int.tdiv_eq_ediv_of_nonneg (by omega)]
    exact wrap64 (by omega) (by omega)
   rw[e1,e2,e3];refine(pw a1 (by omega) (by omega) (by omega)).bind fun p ⟨b1,b2,b3,_⟩=> ?_
   refine(rq b1 (by omega)).bind fun q ⟨c1,_⟩=> ?_
   have b4:=b3 (by omega)
   refine Yd.cond (fun _=>Yd.some (fin q.2 ns is 1 c1 a2 a3 a4 a5 a6 (by omega) (by omega))) (fun _=>Yd.some (fin q.2 ns is p.1 c1 a2 a3 a4 a5 a6 (by omega) (by omega)))
  have mid:∀(s:dQ) (ns:List Int),lX s->(∀x∈ns,0<=x/\x<i)->ns.Nodup->ns.length<=10->ns≠[]->
    Yd (Option.bind (cg s (4:Int)) fun p13=>
     bif (decide (p13.1=(3:Int)))then
     Option.bind (cg p13.2 (i:Int)) fun p14=>
     bif bB 56 (List.length ([]:List an)+List.length [(an.mk (1:Int) [p14.1] ([]:List an))])then
     (Option.bind (c9 p14.2 (OU .i64 (aG .i64 (aG .i64 ((List.length ns:Nat):Int) ((List.length (([]:List an)++[(an.mk (1:Int) [p14.1] ([]:List an))]):Nat):Int)) (1:Int)) (2:Int)) (aG .i64 ((List.length ns:Nat):Int) ((List.length (([]:List an)++[(an.mk (1:Int) [p14.1] ([]:List an))]):Nat):Int))) fun p9=>
     Option.bind (cg p9.2 (6:Int)) fun p12=>
     bif (decide (p12.1=(5:Int)))then some ((an.mk (1:Int) ns (([]:List an)++[(an.mk (1:Int) [p14.1] ([]:List an))])),p12.2)else some ((an.mk p9.1 ns (([]:List an)++[(an.mk (1:Int) [p14.1] ([]:List an))])),p12.2))
     else none
     else
     (Option.bind (c9 p13.2 (OU .i64 (aG .i64 (aG .i64 ((List.length ns:Nat):Int) ((List.length ([]:List an):Nat):Int)) (1:Int)) (2:Int)) (aG .i64 ((List.length ns:Nat):Int) ((List.length ([]:List an):Nat):Int))) fun p9=>
     Option.bind (cg p9.2 (6:Int)) fun p12=>
     bif (decide (p12.1=(5:Int)))then some ((an.mk (1:Int) ns []),p12.2)else some ((an.mk p9.1 ns []),p12.2))) fun p=>lX p.2/\gL p.1/\(∀x∈p.1.bq,x<(i:Int))/\p.1.bq≠[]:=by
   intro s ns a1 a2 a3 a4 a5;refine(rq a1 (by omega)).bind fun p ⟨b1,b2,b3,_⟩=> ?_
   refine Yd.cond (fun _=> ?_) (fun _=> ?_)
   ·refine(rq b1 (by omega)).bind fun q ⟨c1,c2,c3,_⟩=> ?_
    have c4:=c3 (by omega)
    rw[cj (by simp)]
    exact tail q.2 ns _ c1 a2 a3 a4 a5 (.inr ⟨q.1,c2,by omega,rfl⟩)
   ·exact tail p.2 ns [] b1 a2 a3 a4 a5 (.inl rfl)
  refine Yd.cond (fun hz=> ?_) (fun hz=> ?_)
  ·refine(rq h1 (by omega)).bind fun p ⟨b1,b2,b3,_⟩=> ?_
   have b4:=b3 (by omega)
   exact mid p.2 [p.1] b1 (by simp;omega) (by simp) (by simp) (by simp)
  ·have hne:ns≠[]:=by
    intro e;subst e;simp at hz
   exact mid s ns h1 h3 h4 (by omega) hne
 |succ k ih=>
  intro i s t ns is hi ⟨h1,h2,h3,h4,h5,h6⟩;have hd:decide ((i:Int)<(n:Int))=true:=Qg (by omega)
  have hw:aG .i64 (i:Int) 1=((i+1:Nat):Int):=bP (by omega) (by omega)
  refine Yd.loop ?_;simp only[hd,Qk,hw];refine(rq h1 (by omega)).bind fun p ⟨b1,b2,b3,_⟩=> ?_
  refine Yd.cond (fun _=> ?_) (fun _=> ?_)
  ·rw[cj (by simp;omega)]
   refine Yd.some (ih (i+1) p.2 _ _ _ (by omega) ⟨b1,h2,?_,?_,by simp;omega,h6⟩)
   ·intro x hx;rcases Qz.1 hx with hx|hx
    ·have:=h3 x hx;omega
    ·simp at hx;omega
   ·refine List.nodup_append.2 ⟨h4,by simp,?_⟩
    intro x hx y hy;simp at hy;have:=h3 x hx;omega
  ·refine Yd.some (ih (i+1) p.2 _ _ _ (by omega) ⟨b1,h2,?_,h4,by omega,h6⟩)
   intro x hx;have:=h3 x hx;omega
end Go.Proofs.YtkgenianmdfmdaaGreat
namespace Go.Proofs.YtkgenianmdfmdaaGreat
open Go.TQ
def at_(e:ai)(n:Int):ae:=⟨n,e.aa.Value⟩
def yt(e:ai):Bool:=aD e.aw||(!aD e.ak&&bg e.aw e.ak&& !bE e.aw e.ak)
def fC(e:ai):Bool:=
 finite e.aa&&(aD e.ak||ct e.ak)&&(aD e.aw||ct e.aw)&&yt e&&decide (0<=e.aF)&&decide (e.aF<=e.aM)&&decide (e.aM<=e.aa.aj)
  &&(decide (e.aM=0)||b0 e.ak e.aw (at_ e e.aM))&&(decide (e.aF=0)||(!dO e.ak (at_ e e.aF)&& !dO e.aw (at_ e e.aF)))
def pI(e:ai):Bool:=decide (1<=e.aF)&&decide (e.aF<=e.aM)&&decide (e.aM<=1000)
def rj(e:ai):Bool:=finite e.aa&&ct e.ak&&bE e.ak e.aa&&aD e.aw&&pI e&&decide (e.aM<=e.ak.aj)
def wQ(e:ai):Bool:=ct e.aa&&aD e.ak&&aD e.aw&&pI e
def vp(e:ai):Bool:=decide (0<=e.au)&&decide (e.au<10)&&decide (1<=e.bs)&&decide (e.bs<=1000000)&&decide (1<=e.aL)&&decide (e.aL<=1000000)
def fV(tv:Int)(e:ai):Bool:=
 vp e&&decide (tv=0)&&(if e.bx=1 then fC e else if e.bx=2 then rj e else if e.bx=3 then wQ e else false)
theorem dlt(a b:Int):decide (a<b)= !decide (b<=a):=by by_cases h:a<b<;>simp[h]<;>omega
theorem NW(e:ai):lT e=some (fC e):=by
 unfold lT fC yt at_
 simp only[cJ,iF,eY,BZ,zP,xN,qj,oR,Qa,ji,ba,dlt,BS];cases finite e.aa<;>cases (aD e.ak||ct e.ak)<;>cases (aD e.aw||ct e.aw)<;>simp
 by_cases h:e.aM=0<;>simp[h,Bool.and_assoc]
theorem vK{e:ai}{tv:Int}(hT:db e.ab=some tv):df e=some (fV tv e):=by
 unfold df fV vp;simp[NW,hT,dlt,rj,wQ,pI]
 grind
theorem pB{e:ai}{tv:Int}(hT:fG e.ab=some tv):cD e=some (fV tv e):=by
 unfold cD fV vp;simp[hT,dlt,rj,wQ,pI,fC,finite,yt,at_]
 have h9:decide (e.au<=9)= !decide (10<=e.au):=by by_cases h:e.au<=9<;>simp[h]<;>omega
 rw[h9];generalize (decide (0<=e.au)&& !decide (10<=e.au)&&decide (1<=e.bs)&&decide (e.bs<=1000000)&&decide (1<=e.aL)&&decide (e.aL<=1000000)&&decide (tv=0))=hd
 by_cases k1:e.bx=1
 ·simp only[k1,decide_true,Qk,Qt]
  by_cases hl:0<=e.aF
  ·by_cases hh:e.aF<=e.aM
   ·have:decide (e.aM<=0)=decide (e.aM=0):=by rw[decide_eq_decide];omega
    rw[this]
    grind
   ·simp[hh]
  ·simp[hl]
 ·by_cases k2:e.bx=2
  ·simp only[k2,decide_true,Qk,Qt]
   grind
  ·simp only[k1,k2,decide_false,Ql,Qu]
   grind
def vr(e:ai)(v:ByteArray)(lo hi:Int):Bool:=decide (1<=lo)&&decide (lo<=hi)&&decide (e.aa.Value=v)&&decide (e.aF<=lo)
def ke(e:ai)(v:ByteArray)(lo hi:Int):Bool:=vr e v lo hi&&(!decide (e.bx=1)||(!decide (e.aF=0)&&decide (hi<=e.aM)))
def dj(e:ai)(v:ByteArray)(lo hi:Int):Bool:=vr e v lo hi&&(decide (e.bx=3)||(decide (e.bx=2)&&decide (hi<=e.aM)))
def ni(e:ai)(b:ae):Bool:= !aD b&&(if e.bx=1 then gK e.aa b else bE e.aa b)
def cQ(e:ai)(b:ae):Bool:= !aD b&&(if e.bx=1 then b0 e.ak e.aw b else if e.bx=2 then gK e.ak b else bE e.aa b)
def eu(e:ai):Int:=if e.bx=3 then 1000000 else e.aa.aj
@[simp] theorem A2 (r:bu) (v:ByteArray) (lo hi:Int):gR r v lo hi=some (ke r.ax v lo hi):=by
 simp[gR,ja,ke,vr]
@[simp] theorem rF (r:bu) (v:ByteArray) (lo hi:Int):gn r v lo hi=some (dj r.ax v lo hi):=by
 simp[gn,ja,dj,vr]
@[simp] theorem zQ (r:bu) (b:ae):gN r b=some (ni r.ax b):=by
 simp only[gN,ni];cases hz:aD b<;>by_cases h:r.ax.bx=1<;>simp[h,hz]
@[simp] theorem qD (r:bu) (b:ae):gg r b=some (cQ r.ax b):=by
 simp only[gg,cQ];cases hz:aD b<;>by_cases h:r.ax.bx=1<;>by_cases h2:r.ax.bx=2<;>simp[h,h2,hz]
@[simp] theorem XU (r:bu):kc r=some (eu r.ax):=by
 simp[kc,eu,BT,y8]
section
variable {e : ai} {tv : Int} (hT : db e.ab = some tv)
 include hT
theorem Rv:iR e=some (if fV tv e then eu e else 0):=by
 simp only[iR,an.eta,ai.eta,vK hT,Qa];cases fV tv e<;>simp
end
def sU(n:Nat):List Int:=(List.range n).map fun i:Nat=>(i:Int)
theorem Oh(n:Nat):sU (n+1)=sU n++[(n:Int)]:=by simp[sU,List.range_succ]
@[simp] theorem abn (n:Nat):(sU n).length=n:=by simp[sU]
theorem Z5(n:Nat)(hn:n<=1000)(k:Int):tt n k=some ⟨k,sU n,[]⟩:=by
 unfold tt
 suffices key:∀(m i:Nat) (t:an),i+m=n->t.aT=k->t.aS=[]->aI (fun(v1:Int×an×(List Int)×Unit)=>
   bif (decide (v1.1<(n:Int)))then
   bif bB 8 (List.length v1.2.2.1+List.length [v1.1])then
   some (Sum.inl ((aG .i64 v1.1 (1:Int)),(an.mk v1.2.1.aT ([]:List Int) v1.2.1.aS),(v1.2.2.1++[v1.1]),()))
   else none
   else
   Option.map Sum.inr (some (an.mk v1.2.1.aT v1.2.2.1 v1.2.1.aS))) ((i:Int),t,sU i,())=some ⟨k,sU n,[]⟩from key n 0 _ (by omega) rfl rfl
 intro m
 induction m with
 |zero=>
  intro i t hi h1 h2;obtain rfl:i=n:=by omega
  refine bX ?_;have hd:decide ((i:Int)<(i:Int))=false:=Qh (Int.lt_irrefl _);simp only[hd,Ql,h1,h2,Qe]
 |succ m ih=>
  intro i t hi h1 h2;have hd:decide ((i:Int)<(n:Int))=true:=Qg (by omega)
  have hw:aG .i64 (i:Int) 1=((i+1:Nat):Int):=bP (by omega) (by omega)
  rw[bn (s':=(((i+1:Nat):Int),⟨t.aT,[],t.aS⟩,sU (i+1),()))]
  ·exact ih (i+1) _ (by omega) h1 h2
  ·simp only[hd,hw,Qk];rw[cj (by simp;omega)]
   simp[Oh]
theorem Af(n:Nat)(hn:n<=10)(k:Int)(h1:1<=k)(h2:k<=n):gL ⟨k,sU n,[]⟩:=by
 refine⟨fun x hx=> ?_,?_,by simpa using hn,.inl rfl,h1,by simpa using h2⟩
 ·simp only[sU,QP,List.mem_range]at hx;obtain⟨i,hi,rfl⟩:=hx;omega
 ·show(sU n).Nodup;exact List.Pairwise.map _ (fun a b h e=>h (by omega)) List.nodup_range
structure KP (ay bD n:Int) (e:ai):Prop where
 ay:e.au=ay
 bD:e.bs=bD
 seq:1<=e.aL/\e.aL<=9
 aR:gL e.ab
 nodes:∀x∈e.ab.bq,x<n
 ne:e.ab.bq≠[]
 val:KG e.aa.Value
 valid:fV 0 e=true
theorem DL{b:ae}(h1:1<=b.aj)(h2:b.aj<=1000)(h3:KG b.Value):ct b=true:=by
 have:=h3.size;have h4:b.Value.size<=200:=by omega
 simp[ct,h1,h2,h4,this.1]
theorem R9{s:dQ}(h:lX s){ay bD:Int}(hn0:0<=ay)(hn1:ay<10)(hs0:1<=bD)(hs1:bD<=1000000){n:Nat}(hn2:1<=n)(hn:n<=10):
  Yd (mN s ay bD n) fun p=>lX p.2/\KP ay bD n p.1:=by
 unfold mN;refine(pw h (by omega) (by omega) (by omega)).bind fun p1 ⟨a1,a2,a3,_⟩=> ?_
 have a4:=a3 (by omega)
 refine(Iv a1 hn2 hn).bind fun p2 ⟨b1,b2,b3,b4⟩=> ?_
 refine(Iu b1).bind fun p3 ⟨c1,c2⟩=> ?_
 have c3:=c2.size;have hv:∀k:Int,1<=k->k<=1000->ct ⟨k,p3.1⟩=true:=fun k h1 h2=>DL h1 h2 c2
 simp only[an.eta,ai.eta]
 have hd:∀e:ai,e.au=ay->e.bs=bD->e.aL=p1.1->vp e=true:=by
  intro e h1 h2 h3;simp only[vp,h1,h2,h3,Qm,Qi];omega
 refine Yd.join (fun v=>lX v.1/\KP ay bD n v.2.1) (fun v hv=>Yd.some hv) fun j5 hj5=> ?_
 refine(rq c1 (by omega)).bind fun p6 ⟨d1,_⟩=> ?_
 refine Yd.join (fun v=>lX v.1/\v.2.1=ai.mk ay bD p1.1 p2.1 0 ⟨0,fu⟩ ⟨0,fu⟩ ⟨0,fu⟩ 0 0) (fun v ⟨hv1,hv2⟩=> ?_) fun j8 hj8=> ?_
 ·
  refine Yd.join (fun v=>lX v.1/\KP ay bD n v.2.1) (fun v hv=>hj5 _ hv) fun j10 hj10=> ?_
  refine(pw hv1 (by omega) (by omega) (by omega)).bind fun p11 ⟨e1,e2,e3,_⟩=> ?_
  have e4:=e3 (by omega)
  simp only[hv2];refine Yd.join (fun v=>lX v.1/\v.2.1.au=ay/\v.2.1.bs=bD/\v.2.1.aL=p1.1/\v.2.1.ab=p2.1/\v.2.1.bx=1/\v.2.1.aa=⟨p11.1,p3.1⟩/\(aD v.2.1.ak=true\/ct v.2.1.ak=true)) (fun v ⟨f0,f1,f2,f3,f4,f5,f6,f7⟩=> ?_) fun j13 hj13=> ?_
  ·rw[f6];have g1:aG .i64 p11.1 1=p11.1+1:=bP (by omega) (by omega)
   simp only[g1];refine(rq f0 (by omega)).bind fun p14 ⟨k1,k2,k3,_⟩=> ?_
   have k4:=k3 (by omega)
   have g2:aG .i64 p14.1 1=p14.1+1:=bP (by omega) (by omega)
   simp only[g2];refine(rq k1 (by omega)).bind fun p15 ⟨l1,l2,l3,_⟩=> ?_
   have hTr:∀t,t=p2.1->fG t=some 0:=fun t ht=>by rw[ht];exact nL b2
   have done:∀e:ai,e.au=ay->e.bs=bD->e.aL=p1.1->e.ab=p2.1->e.aa=⟨p11.1,p3.1⟩->fV 0 e=true->KP ay bD n e:=by
    intro e h1 h2 h3 h4 h5 h6;exact⟨h1,h2,by rw[h3];exact⟨a2,a4⟩,by rw[h4];exact b2,by rw[h4];exact b3,by rw[h4];exact b4,by rw[h5];exact c2,h6⟩
   refine Yd.join (fun w=>w.1.au=ay/\w.1.bs=bD/\w.1.aL=p1.1/\w.1.ab=p2.1/\w.1.bx=1/\w.1.aa=⟨p11.1,p3.1⟩/\(aD w.1.ak=true\/ct w.1.ak=true)/\(fV 0 w.1=true\/w.1.aF=0)) (fun w ⟨m1,m2,m3,m4,m5,m6,m7,m8⟩=> ?_) fun j17 hj17=> ?_
   ·refine Yd.join (fun w=>w.1.au=ay/\w.1.bs=bD/\w.1.aL=p1.1/\w.1.ab=p2.1/\w.1.bx=1/\w.1.aa=⟨p11.1,p3.1⟩/\(aD w.1.ak=true\/ct w.1.ak=true)/\(fV 0 w.1=true\/w.1.aF=0/\w.1.aM=0)) (fun w ⟨o1,o2,o3,o4,o5,o6,o7,o8⟩=> ?_) fun j19 hj19=> ?_
    ·rw[pB (hTr _ o4)];simp only[Qa,BS];refine Yd.cond (fun hx=>hj10 _ ⟨l1,done _ o1 o2 o3 o4 o6 hx⟩) (fun hx=>hj10 _ ⟨l1,done _ o1 o2 o3 o4 o6 ?_⟩)
     rcases o8 with o8|⟨o8,o9⟩
     ·rw[o8]at hx;cases hx
     ·have q1:finite w.1.aa=true:=by rw[o6];simp[finite,hv p11.1 e2 (by omega)];omega
      have q2:aD (ae.mk 0 (ByteArray.mk #[]))=true:=by decide+kernel
      have q3:(aD w.1.ak||ct w.1.ak)=true:=by simpa using o7
      have q4:=hd w.1 o1 o2 o3;have q5:0<=w.1.aa.aj:=by rw[o6];show 0<=p11.1;omega
      simp only[fV,vp,fC,yt,o5,o8,o9,q1,q2,q3,Qt]at q4 ⊢;simp[q4,q5]
    ·rw[pB (hTr _ m4)];simp only[Qa,BS];refine Yd.cond (fun hx=>hj19 _ ⟨m1,m2,m3,m4,m5,m6,m7,.inl hx⟩) (fun hx=>hj19 _ ⟨m1,m2,m3,m4,m5,m6,m7,.inr ⟨?_,rfl⟩⟩)
     rcases m8 with m8|m8
     ·rw[m8]at hx;cases hx
     ·exact m8
   ·rw[pB (e:=ai.mk v.2.1.au v.2.1.bs v.2.1.aL v.2.1.ab v.2.1.bx ⟨p11.1,p3.1⟩ v.2.1.ak v.2.1.aw p15.1 p14.1) (tv:=0) (hTr _ f4)];simp only[Qa,BS];refine Yd.cond (fun hx=>hj17 _ ⟨f1,f2,f3,f4,f5,rfl,f7,.inl hx⟩) (fun hx=>hj17 _ ⟨f1,f2,f3,f4,f5,rfl,f7,.inr rfl⟩)
  ·refine(rq e1 (by omega)).bind fun p23 ⟨k1,_⟩=> ?_
   refine Yd.cond (fun _=> ?_) (fun _=> ?_)
   ·refine(We k1).bind fun p24 ⟨l1,l2,l3,l4⟩=> ?_
    refine(rq l1 (by omega)).bind fun p25 ⟨m1,_⟩=> ?_
    have hvl:=DL (b:=p24.1) l2 (by omega) l4
    refine Yd.cond (fun _=> ?_) (fun _=> ?_)
    ·refine(We m1).bind fun p26 ⟨o1,_⟩=> ?_
     exact hj13 _ ⟨o1,rfl,rfl,rfl,rfl,rfl,rfl,.inr hvl⟩
    ·exact hj13 _ ⟨m1,rfl,rfl,rfl,rfl,rfl,rfl,.inr hvl⟩
   ·have z0:aD (ae.mk 0 fu)=true:=by decide+kernel
    exact hj13 _ ⟨k1,rfl,rfl,rfl,rfl,rfl,rfl,.inl z0⟩
 ·have z0:aD (ae.mk 0 (ByteArray.mk #[]))=true:=by decide+kernel
  refine Yd.cond (fun _=> ?_) (fun _=> ?_)
  ·refine(pw d1 (by omega) (by omega) (by omega)).bind fun p27 ⟨e1,e2,e3,_⟩=> ?_
   refine(pw e1 (by omega) (by omega) (by omega)).bind fun p28 ⟨f1,f2,f3,_⟩=> ?_
   refine(rq f1 (by omega)).bind fun p29 ⟨k1,k2,k3,_⟩=> ?_
   refine(rq k1 (by omega)).bind fun p30 ⟨l1,l2,l3,_⟩=> ?_
   have e4:=e3 (by omega)
   have f4:=f3 (by omega)
   have k4:=k3 (by omega)
   have l4:=l3 (by omega)
   have g1:aG .i64 p28.1 p29.1=p28.1+p29.1:=bP (by omega) (by omega)
   have g2:aG .i64 (p28.1+p29.1) p30.1=p28.1+p29.1+p30.1:=bP (by omega) (by omega)
   simp only[g1,g2];refine hj5 _ ⟨l1,⟨rfl,rfl,⟨a2,a4⟩,b2,b3,b4,c2,?_⟩⟩;have q4:=hd ⟨ay,bD,p1.1,p2.1,2,⟨p27.1,p3.1⟩,⟨p28.1+p29.1+p30.1,p3.1⟩,⟨0,ByteArray.mk #[]⟩,p28.1,p28.1+p29.1⟩ rfl rfl rfl;have q5:=hv p27.1 e2 (by omega)
   have q6:=hv (p28.1+p29.1+p30.1) (by omega) (by omega)
   have r1:p27.1<=1000:=by omega
   have r2:p28.1<=p28.1+p29.1:=by omega
   have r3:p28.1+p29.1<=1000:=by omega
   have r4:p28.1+p29.1<=p28.1+p29.1+p30.1:=by omega
   simp[fV,q4,rj,finite,q5,q6,bE,z0,pI,r1,f2,r3,r4];omega
  ·refine Yd.cond (fun _=> ?_) (fun _=> ?_)
   ·refine(rq d1 (by omega)).bind fun p31 ⟨e1,_⟩=> ?_
    refine Yd.cond (fun _=> ?_) (fun _=>hj8 _ ⟨e1,rfl⟩)
    refine(pw e1 (by omega) (by omega) (by omega)).bind fun p32 ⟨f1,f2,f3,_⟩=> ?_
    refine(pw f1 (by omega) (by omega) (by omega)).bind fun p33 ⟨k1,k2,k3,_⟩=> ?_
    refine(rq k1 (by omega)).bind fun p34 ⟨l1,l2,l3,_⟩=> ?_
    have f4:=f3 (by omega)
    have k4:=k3 (by omega)
    have l4:=l3 (by omega)
    have g1:aG .i64 p33.1 p34.1=p33.1+p34.1:=bP (by omega) (by omega)
    simp only[g1];refine hj5 _ ⟨l1,⟨rfl,rfl,⟨a2,a4⟩,b2,b3,b4,c2,?_⟩⟩;have q4:=hd ⟨ay,bD,p1.1,p2.1,3,⟨p32.1,p3.1⟩,⟨0,ByteArray.mk #[]⟩,⟨0,ByteArray.mk #[]⟩,p33.1,p33.1+p34.1⟩ rfl rfl rfl;have q5:=hv p32.1 f2 (by omega)
    have r3:p33.1+p34.1<=1000:=by omega
    simp[fV,q4,wQ,q5,z0,pI,k2,r3];omega
   ·exact hj8 _ ⟨d1,rfl⟩
end Go.Proofs.YtkgenianmdfmdaaGreat
namespace Go.Proofs.YtkgenianmdfmdaaGreat
open Go.TQ
inductive dR:an->Prop where
 |mk (t:an) (h1:t.bq.length<=1000000) (h2:t.aS.length<=1000000) (h3:∀u∈t.aS,dR u):dR t
theorem dR.nodes{t:an}:dR t->t.bq.length<=1000000| .mk _ h _ _=>h
theorem dR.len{t:an}:dR t->t.aS.length<=1000000| .mk _ _ h _=>h
theorem dR.inner{t:an}:dR t->∀u∈t.aS,dR u| .mk _ _ _ h=>h
theorem q8{t u:an}(h:u∈t.aS):SizeOf.sizeOf u<SizeOf.sizeOf t:=by
 have h1:=List.sizeOf_lt_of_mem h
 cases t with
 |mk th ns is=>
  simp only[an.mk.sizeOf_spec]at h1 ⊢;omega
theorem gL.sm{t:an}(h:gL t):dR t:=by
 have:=h.len;refine .mk t (by omega) ?_ fun u hu=> ?_
 ·rcases h.inner with e|⟨x,_,_,e⟩<;>rw[e]<;>simp
 ·rcases h.inner with e|⟨x,_,_,e⟩
  ·rw[e]at hu;cases hu
  ·rw[e]at hu;simp only[List.mem_singleton]at hu;subst hu;exact .mk _ (by simp) (by simp) (by simp)
@[simp] theorem XB (l:List Int) (h:l.length<=1000000):kI l=some l:=by
 unfold kI;rw[cj (by simp;omega)]
 cases l with
 |nil=>simp
 |cons x l=>simp
theorem XS{n:Nat}:∀{t:an},SizeOf.sizeOf t<n->dR t->sk n (t,())=some t:=by
 induction n with
 |zero=>intro t h;omega
 |succ n ih=>
  intro t hs hm;show ss (sk n) t=some t;unfold ss;have hl:=hm.len;rw[XB _ hm.nodes,Qa]
  suffices key:∀(k i:Nat) (t':an),i+k=t.aS.length->t'.aT=t.aT->t'.bq=t.bq->aI (fun(v2:Int×an×(List an)×Unit)=>
    bif (decide (v2.1<((List.length t.aS:Nat):Int)))then
    Option.bind (idx t.aS v2.1) fun x3=>
    Option.bind (sk n ((an.mk x3.aT x3.bq x3.aS),())) fun r4=>
    bif bB 56 (List.length v2.2.2.1+List.length [(an.mk r4.aT r4.bq r4.aS)])then
    some (Sum.inl ((aG .i64 v2.1 (1:Int)),(an.mk v2.2.1.aT v2.2.1.bq ([]:List an)),(v2.2.2.1++[(an.mk r4.aT r4.bq r4.aS)]),()))
    else none
    else
    Option.map Sum.inr (some (an.mk v2.2.1.aT v2.2.1.bq v2.2.2.1))) ((i:Int),t',t.aS.take i,())=some t by
   have:=key t.aS.length 0 ⟨t.aT,t.bq,[]⟩ (by omega) rfl rfl
   simpa using this
  intro k
  induction k with
  |zero=>
   intro i t' hi h1 h2;refine bX ?_;have hd:decide ((i:Int)<((t.aS.length:Nat):Int))=false:=Qh (by omega)
   simp only[hd,Ql,Qe,h1,h2];rw[List.take_of_length_le (by omega),an.eta]
  |succ k ihk=>
   intro i t' hi h1 h2;have hlt:i<t.aS.length:=by omega
   have hd:decide ((i:Int)<((t.aS.length:Nat):Int))=true:=Qg (by omega)
   have hx:idx t.aS (i:Int)=some t.aS[i]:=by rw[bC];exact Qv hlt
   have hw:aG .i64 (i:Int) 1=((i+1:Nat):Int):=bP (by omega) (by omega)
   have hmem:t.aS[i]∈t.aS:=Q0 hlt;have hr:=ih (t:=t.aS[i]) (by have:=q8 hmem;omega) (hm.inner _ hmem)
   rw[bn (s':=(((i+1:Nat):Int),⟨t'.aT,t'.bq,[]⟩,t.aS.take (i+1),()))]
   ·exact ihk (i+1) _ (by omega) h1 h2
   ·simp only[hd,Qk,hx,hw,Qa,an.eta,hr];rw[cj (by simp;omega),List.take_succ_eq_append_getElem hlt]
    rfl
@[simp] theorem uJ {t:an} (h:dR t):kC t=some t:=XS (by omega) h
theorem wP{α σ ρ:Type}{g:α->σ->Option (σ⊕ρ)}{fin:σ->Option ρ}(hf:∀s,∃r,fin s=some r):∀(l:List α),(∀x∈l,∀s,∃y,g x s=some y)->∀s,∃r,eN g fin l s=some r
 |[],_,s=>hf s
 |x::l,h,s=>by
  obtain⟨y,hy⟩:=h x (by simp) s
  rw[eN,hy]
  cases y with
  |inr r=>exact⟨r,rfl⟩
  |inl s'=>exact wP hf l (fun x hx=>h x (by simp[hx])) s'
theorem G0{α σ ρ:Type}{g g':α->σ->Option (σ⊕ρ)}{fin:σ->Option ρ}:∀(l:List α),(∀x∈l,∀s,g x s=g' x s)->∀s,eN g fin l s=eN g' fin l s
 |[],_,s=>rfl
 |x::l,h,s=>by
  rw[eN,eN,h x (by simp) s]
  cases g' x s with
  |none=>rfl
  |some y=>
   cases y with
   |inr r=>rfl
   |inl s'=>exact G0 l (fun x hx=>h x (by simp[hx])) s'
theorem G5{n:Nat}:∀{t:an},SizeOf.sizeOf t<n->dR t->∃d,lF n (t,())=some d:=by
 induction n with
 |zero=>intro t h;omega
 |succ n ih=>
  intro t hs hm;show∃d,iG (lF n) t=some d;have hl:=hm.len;rw[L6 (by omega)]
  refine wP (fun s=>⟨_,rfl⟩) _ (fun u hu s=> ?_) _
  obtain⟨d,hd⟩:=ih (t:=u) (by have:=q8 hu;omega) (hm.inner u hu)
  exact⟨_,by rw[hd];rfl⟩
theorem II{n:Nat}:∀{t:an},SizeOf.sizeOf t<n->dR t->∃d,mA n (t,())=some d:=by
 induction n with
 |zero=>intro t h;omega
 |succ n ih=>
  intro t hs hm;show∃d,jn (mA n) t=some d;have hl:=hm.len;rw[Ry (by omega)]
  refine wP (fun s=>⟨_,rfl⟩) _ (fun u hu s=> ?_) _
  obtain⟨d,hd⟩:=ih (t:=u) (by have:=q8 hu;omega) (hm.inner u hu)
  exact⟨_,by rw[hd];rfl⟩
theorem EK{rec:an->Option Int}{t:an}(h:∀u∈t.aS,∃r,rec u=some r):∃r,oy rec t=some r:=by
 unfold oy;split
 ·exact⟨_,rfl⟩
 ·split
  ·exact⟨_,rfl⟩
  ·split
   ·refine wP (fun s=>⟨_,rfl⟩) _ (fun u hu s=> ?_) _
    obtain⟨r,hr⟩:=h u hu;exact⟨_,by rw[hr];rfl⟩
   ·exact⟨_,rfl⟩
theorem Pd{rec rec':an->Option Int}{t:an}(h:∀u∈t.aS,rec u=rec' u):oy rec t=oy rec' t:=by
 unfold oy;rw[G0 _ fun u hu s=>by rw[h u hu]]
theorem RY{n:Nat}:∀{t:an},SizeOf.sizeOf t<n->dR t->∃d,eV n (t,())=some d/\nc n (t,())=some d:=by
 induction n with
 |zero=>intro t h;omega
 |succ n ih=>
  intro t hs hm;show∃d,gC (eV n) t=some d/\lA (nc n) t=some d;have hl:=hm.len;have hn:=hm.nodes;rw[F0 (by omega) (by omega),L8 (by omega) (by omega)]
  have hih:∀u∈t.aS,∃r,eV n (u,())=some r/\nc n (u,())=some r:=fun u hu=>ih (t:=u) (by have:=q8 hu;omega) (hm.inner u hu)
  obtain⟨r,hr⟩:=EK (rec:=fun u=>eV n (u,())) (t:=t) fun u hu=>by obtain⟨r,h1,_⟩:=hih u hu;exact⟨r,h1⟩
  refine⟨r,hr,?_⟩;rw[<-hr];refine Pd fun u hu=> ?_
  obtain⟨r,h1,h2⟩:=hih u hu;rw[h1,h2]
theorem level_p{n:Nat}:∀{t:an},SizeOf.sizeOf t<n->dR t->∃d,eV n (t,())=some d:=by
 induction n with
 |zero=>intro t h;omega
 |succ n ih=>
  intro t hs hm;show∃d,gC (eV n) t=some d;have hl:=hm.len;have hn:=hm.nodes;rw[F0 (by omega) (by omega)]
  exact EK (rec:=fun u=>eV n (u,())) (t:=t) fun u hu=>ih (t:=u) (by have:=q8 hu;omega) (hm.inner u hu)
theorem valid_p{t:an}(h:dR t):∃v,db t=some v:=by
 obtain⟨d,hd⟩:∃d,iw t=some d:=G5 (by omega) h
 obtain⟨z,hz⟩:∃z,jj t=some z:=II (by omega) h
 obtain⟨l,hl1⟩:∃l,jW t=some l:=level_p (by omega) h
 simp[db,hd,hz,hl1]
theorem Tp{t:an}(h:dR t):∃v,db t=some v/\fG t=some v:=by
 obtain⟨d,hd⟩:∃d,iw t=some d:=G5 (by omega) h
 obtain⟨z,hz⟩:∃z,jj t=some z:=II (by omega) h
 obtain⟨l,hl1,hl2⟩:∃l,jW t=some l/\pQ t=some l:=RY (by omega) h
 simp[db,fG,Mq,OL,hd,hz,hl1,hl2]
 def DM(t:an):Int:=(db t).getD 1
theorem Sd{t:an}(h:dR t):db t=some (DM t):=by
 obtain⟨v,h1⟩:=valid_p h;rw[DM,h1];rfl
theorem Wp{t:an}(h:dR t):fG t=some (DM t):=by
 obtain⟨v,h1,h2⟩:=Tp h;rw[DM,h1,h2];rfl
theorem Md{t:an}(h:gL t):DM t=0:=by rw[DM,nX h];rfl
 def aO(e:ai):Bool:=fV (DM e.ab) e
theorem nV{e:ai}(h:dR e.ab):df e=some (aO e):=vK (Sd h)
theorem iI{e:ai}(h:dR e.ab):cD e=some (aO e):=pB (Wp h)
def jZ(s:Nat)(x:Int):Bool:=et x&&s.testBit x.toNat
theorem pf{s:Nat}(h:s<1024)(x:Int):wo s x=jZ s x:=by
 have h1:decide (0<=(s:Int))=true:=Qg (by omega)
 have h2:decide ((s:Int)<1024)=true:=Qg (by omega)
 simp only[wo,jZ,h1,h2,Bool.true_and,QV]
mutual
def jA(s:Nat):an->Bool
 |⟨th,ns,is⟩=>decide (th<=((ns.countP (jZ s)+tO s is:Nat):Int))
def tO(s:Nat):List an->Nat
 |[]=>0
 |t::l=>(if jA s t then 1 else 0)+tO s l
end
theorem Fw(s:Nat)(t:an):jA s t=decide (t.aT<=((t.bq.countP (jZ s)+tO s t.aS:Nat):Int)):=by
 cases t;rw[jA]
theorem C1(s:Nat)(hs:s<1024)(fin:Int->Option Bool):∀(l:List Int) (n:Nat),n+l.length<=9000000->
  eN (fun x (m:Int)=>some (.inl (if wo s x then aG .i64 m 1 else m))) fin l n=fin ((n+l.countP (jZ s):Nat):Int)
 |[],n,_=>by simp[eN]
 |x::l,n,h=>by
  simp at h;rw[eN,pf hs,List.countP_cons]
  cases hx:jZ s x with
  |false=>
   simp only[Qq,Qu,Nat.add_zero];exact C1 s hs fin l n (by omega)
  |true=>
   simp only[Qt];rw[bP (by omega) (by omega)]
   rw[show(n:Int)+1=((n+1:Nat):Int)by omega,C1 s hs fin l (n+1) (by omega)]
   congr 2;omega
theorem Hn(s:Nat)(rec:an->Option Bool)(fin:Int->Option Bool):∀(l:List an) (n:Nat),n+l.length<=9000000->(∀u∈l,rec u=some (jA s u))->
  eN (fun u (m:Int)=>(rec u).map fun r=> .inl (if r then aG .i64 m 1 else m)) fin l n=fin ((n+tO s l:Nat):Int)
 |[],n,_,_=>by simp[eN,tO]
 |u::l,n,h,hr=>by
  simp at h;rw[eN,hr u (by simp),tO]
  cases hx:jA s u with
  |false=>
   simp only[Qe,Qq,Qu,Nat.zero_add];exact Hn s rec fin l n (by omega) fun u hu=>hr u (by simp[hu])
  |true=>
   simp only[Qe,Qt];rw[bP (by omega) (by omega)]
   rw[show(n:Int)+1=((n+1:Nat):Int)by omega,Hn s rec fin l (n+1) (by omega) fun u hu=>hr u (by simp[hu])]
   congr 2;omega
theorem acj{rec:(an×Int×Unit)->Option Bool}{t:an}{s:Nat}(hs:s<1024)(hm:dR t)(hr:∀u∈t.aS,rec (u,(s:Int),())=some (jA s u)):fK rec t s=some (jA s t):=by
 unfold fK;have hn:=hm.nodes;have hl:=hm.len;have hv:eJ (s:Int)=some true:=by rw[FV];simp;omega
 rw[hv];simp only[Qa,Qo,Ql,ba];rw[gp t.bq (by omega) (fun i (m:Int)=>(m,i,())) (fun x (m:Int)=>some (.inl (if wo s x then aG .i64 m 1 else m))) (fun m=>eN (fun u (m:Int)=>(rec (u,(s:Int),())).map fun r=> .inl (if r then aG .i64 m 1 else m)) (fun m=>some (decide (t.aT<=m))) t.aS m) (fun i x m hd hx hw=> ?_) (fun m hd=> ?_) 0]
 ·rw[show(0:Int)=((0:Nat):Int)from rfl,C1 s hs _ t.bq 0 (by omega)]
  rw[Hn s (fun u=>rec (u,(s:Int),())) _ t.aS _ (by have:=List.countP_le_length (p:=jZ s) (l:=t.bq);omega) hr,Fw]
  simp
 ·simp only[hd,hx,hw,Qk,Qa,kx];cases wo s x<;>rfl
 ·simp only[hd,Ql];rw[gp t.aS (by omega) (fun i (m:Int)=>(m,i,())) (fun u (m:Int)=>(rec (u,(s:Int),())).map fun r=> .inl (if r then aG .i64 m 1 else m)) (fun m=>some (decide (t.aT<=m))) (fun i x m hd hx hw=> ?_) (fun m hd=> ?_) m]
  ·simp only[hd,hx,hw,Qk,Qa,an.eta]
   cases rec (x,(s:Int),())with
   |none=>rfl
   |some r=>cases r<;>rfl
  ·simp only[hd,Ql]
theorem acg{s:Nat}(hs:s<1024){n:Nat}:∀{t:an},SizeOf.sizeOf t<n->dR t->k7 n (t,(s:Int),())=some (jA s t):=by
 induction n with
 |zero=>intro t h;omega
 |succ n ih=>
  intro t hz hm;show fK (k7 n) t s=some (jA s t);exact acj hs hm fun u hu=>ih (t:=u) (by have:=q8 hu;omega) (hm.inner u hu)
theorem zq{s:Nat}(hs:s<1024){t:an}(hm:dR t):gQ t s=some (jA s t):=acg hs (by omega) hm
theorem TH(t:an)(s:Int):ix t s=gQ t s:=by
 have hB:∀(rec:(an×Int×Unit)->Option Bool) (t:an) (s:Int),om rec t s=fK rec t s:=by
  intro rec t s;unfold om fK
  have hv:eI s=eJ s:=by
   rw[FV];unfold eI;simp;congr 1;rw[decide_eq_decide];omega
  simp only[hv,so,kx]
 unfold ix gQ xK k7;congr 1;congr 1
 funext rec a
 exact hB rec a.1 a.2.1
theorem Dh{s:Nat}(hs:s<1024){t:an}(hm:dR t):ix t s=some (jA s t):=by rw[TH];exact zq hs hm
theorem MU{s s':Nat}(h:∀k,s.testBit k=true->s'.testBit k=true)(x:Int)(hx:jZ s x=true):jZ s' x=true:=by
 simp only[jZ,Qm]at hx ⊢;exact⟨hx.1,h _ hx.2⟩
mutual
theorem DU{s s':Nat}(h:∀k,s.testBit k=true->s'.testBit k=true):∀(t:an),jA s t=true->jA s' t=true
 |⟨th,ns,is⟩,ht=>by
  rw[jA,Qi]at ht ⊢;have h1:=Mk h is;have h2:ns.countP (jZ s)<=ns.countP (jZ s'):=List.countP_mono_left fun x _ hx=>MU h x hx
  omega
theorem Mk{s s':Nat}(h:∀k,s.testBit k=true->s'.testBit k=true):∀(l:List an),tO s l<=tO s' l
 |[]=>by simp[tO]
 |t::l=>by
  have h1:=Mk h l;have h2:=DU h t;rw[tO,tO]
  cases hs:jA s t with
  |false=>simp;omega
  |true=>rw[h2 hs];simp;omega
end
end Go.Proofs.YtkgenianmdfmdaaGreat
namespace Go.Proofs.YtkgenianmdfmdaaGreat
open Go.TQ
theorem YI(s:Int):eI s=some (decide (0<=s)&&decide (s<1024)):=by
 unfold eI;simp;congr 1;rw[decide_eq_decide];omega
theorem xO{s:Nat}(h:s<1024):eJ (s:Int)=some true:=by rw[FV];simp;omega
theorem s8{s:Nat}(h:s<1024):eI (s:Int)=some true:=by rw[YI];simp;omega
theorem Hb(a b:Nat)(ha:a<2 ^ 62)(hb:b<2 ^ 62):∃c:Nat,wC .i64 (a:Int) (b:Int)=(c:Int)/\c<=a/\∀k,c.testBit k=(a.testBit k&& !b.testBit k):=by
 refine⟨((BitVec.ofInt 64 (a:Int)&&& ~~~ BitVec.ofInt 64 (b:Int)).toNat),?_,?_,fun k=> ?_⟩
 ·have hle:(BitVec.ofInt 64 (a:Int)&&& ~~~ BitVec.ofInt 64 (b:Int)).toNat<=a:=by
   rw[BitVec.toNat_and,qR a ha];exact Nat.and_le_left
  show IntKind.i64.wrap (((BitVec.ofInt 64 (a:Int)&&& ~~~ BitVec.ofInt 64 (b:Int)).toNat:Nat):Int)=_;exact B2 _ (by omega)
 ·rw[BitVec.toNat_and,qR a ha];exact Nat.and_le_left
 ·have h1:∀i (x:Nat),x<2 ^ 62->(BitVec.ofInt 64 (x:Int)).getLsbD i=x.testBit i:=by
   intro i x hx;rw[<-BitVec.testBit_toNat,qR x hx]
  rw[BitVec.testBit_toNat,BitVec.getLsbD_and,BitVec.getLsbD_not,h1 k a ha,h1 k b hb]
  by_cases hk:k<64
  ·simp[hk]
  ·have:a.testBit k=false:=Nat.testBit_lt_two_pow (QJ ha (Nat.pow_le_pow_right (by omega) (by omega)))
   simp[this]
theorem yy{a b:Nat}(h:∀k,a.testBit k=b.testBit k):a=b:=Nat.eq_of_testBit_eq h
theorem Ku{s k:Nat}(hs:s<1024)(hk:s.testBit k=true):k<10:=by
 rcases Nat.lt_or_ge k 10 with h|h
 ·exact h
 ·have:s.testBit k=false:=Nat.testBit_lt_two_pow (QJ hs (show 2 ^ 10<=2 ^ k from Nat.pow_le_pow_right (by omega) h))
  rw[this]at hk;cases hk
theorem Bu{s:Nat}(h:∀k,s.testBit k=true->k<10):s<1024:=by
 rcases Nat.lt_or_ge s 1024 with h1|h1
 ·exact h1
 ·obtain⟨k,hk1,hk2⟩:=Nat.exists_ge_and_testBit_of_ge_two_pow (n:=10) h1;have:=h k hk2;omega
theorem q9(s k:Nat):jZ s (k:Int)=(decide (k<10)&&s.testBit k):=by
 have h1:decide ((k:Int)<10)=decide (k<10):=by rw[decide_eq_decide];omega
 have h2:decide (0<=(k:Int))=true:=Qg (by omega)
 simp only[jZ,et,h1,h2,Bool.true_and,QV]
def CY(i:Nat)(s:Nat):List bh->Nat
 |[]=>s
 |m::l=>CY (i+1) (if m.dx&&decide (i<10)then s|||2 ^ i else s) l
def iJ(l:List bh):Nat:=CY 0 0 l
theorem M6:∀(l:List bh) (i s k:Nat),(CY i s l).testBit k=(s.testBit k||(decide (i<=k)&&decide (k<10)&&((l[k - i]?).any (·.dx))))
 |[],i,s,k=>by simp[CY]
 |m::l,i,s,k=>by
  rw[CY,M6 l (i+1)]
  by_cases hk:k=i
  ·subst hk;have h1:¬(k+1<=k):=by omega
   cases hm:m.dx<;>by_cases hi:k<10<;>simp[hm,hi,h1,Nat.testBit_or]
  ·have h2:i<=k↔i+1<=k:=by omega
   have h3:∀b:Bool,(if(b&&decide (i<10))=true then s|||2 ^ i else s).testBit k=s.testBit k:=by
    intro b;split
    ·rw[Nat.testBit_or,Nat.testBit_two_pow];have:¬i=k:=fun e=>hk e.symm
     simp[this]
    ·rfl
   rw[h3]
   by_cases hik:i+1<=k
   ·have h4:(m::l)[k - i]?=l[k - (i+1)]?:=by
     rw[show k - i=(k - (i+1))+1 by omega,List.getElem?_cons_succ]
    rw[h4];have:i<=k:=by omega
    simp[this,hik]
   ·have:¬i<=k:=by omega
    simp[this,hik]
theorem E6(l:List bh)(k:Nat):(iJ l).testBit k=(decide (k<10)&&((l[k]?).any (·.dx))):=by
 rw[iJ,M6];simp
theorem zg(l:List bh):iJ l<1024:=Bu fun k hk=>by
 rw[E6]at hk;simp at hk;exact hk.1
theorem M5(step:(Int×Int×Unit)->Option ((Int×Int×Unit)⊕Int))(l:List bh)
  (h1:∀(i:Nat) (m:bh) (s:Nat),l[i]?=some m->s<1024->step ((s:Int),(i:Int),())=some (.inl (((if m.dx&&decide (i<10)then s|||2 ^ i else s:Nat):Int),((i+1:Nat):Int),())))
  (h2:∀s:Int,step (s,(l.length:Int),())=some (.inr s)):aI step (0,0,())=some ((iJ l:Nat):Int):=by
 suffices key:∀(k i s:Nat),i+k=l.length->s<1024->aI step ((s:Int),(i:Int),())=some ((CY i s (l.drop i):Nat):Int)by
  have:=key l.length 0 0 (by omega) (by omega)
  simpa[iJ]using this
 intro k
 induction k with
 |zero=>
  intro i s hi hs;obtain rfl:i=l.length:=by omega
  rw[bX (h2 s),List.drop_length];rfl
 |succ k ih=>
  intro i s hi hs;have hlt:i<l.length:=by omega
  rw[QM hlt,CY,bn (h1 i l[i] s (Qv hlt) hs)];refine ih (i+1) _ (by omega) ?_
  split
  ·rename_i hc;simp only[Qm,Qi]at hc;have:=Jq (x:=(i:Int)) hs (by omega)
   simpa using this
  ·exact hs
theorem Hi{c:bp}(h:c.aX.length<=1000000):gY c=some ((iJ c.aX:Nat):Int):=by
 unfold gY;refine M5 _ _ (fun i m s hm hs=> ?_) (fun s=> ?_)
 ·have hlt:i<c.aX.length:=(Qw.1 hm).1;have hd:decide ((i:Int)<((c.aX.length:Nat):Int))=true:=Qg (by omega)
  have hw:aG .i64 (i:Int) 1=((i+1:Nat):Int):=bP (by omega) (by omega)
  have hx:idx c.aX (i:Int)=some m:=by rw[bC];exact hm
  have h0:¬(i:Int)<0:=by omega
  simp only[hd,hx,hw,Qk,Qa,ba,h0,Qu]
  cases m.dx with
  |false=>simp
  |true=>
   by_cases h10:i<10
   ·have:(i:Int)<10:=by omega
    have ho:=yv (x:=(i:Int)) hs (by omega) (by omega)
    simp only[QV]at ho;simp[this,h10,ho]
   ·have:¬(i:Int)<10:=by omega
    simp[this,h10]
 ·have hd:decide (((c.aX.length:Nat):Int)<((c.aX.length:Nat):Int))=false:=Qh (Int.lt_irrefl _);simp only[hd,Ql,Qe]
theorem yT{c:bp}(h:c.aX.length<=1000000):kq c=some ((iJ c.aX:Nat):Int):=by
 unfold kq;refine M5 _ _ (fun i m s hm hs=> ?_) (fun s=> ?_)
 ·have hlt:i<c.aX.length:=(Qw.1 hm).1;have hd:decide ((i:Int)<((c.aX.length:Nat):Int))=true:=Qg (by omega)
  have hw:aG .i64 (i:Int) 1=((i+1:Nat):Int):=bP (by omega) (by omega)
  have hx:idx c.aX (i:Int)=some m:=by rw[bC];exact hm
  have h0:¬(i:Int)<0:=by omega
  simp only[hd,hx,hw,Qk,Qa,ba,h0,Qu]
  by_cases h10:i<10
  ·have:(i:Int)<10:=by omega
   have ho:=yv (x:=(i:Int)) hs (by omega) (by omega)
   simp only[QV]at ho;cases m.dx<;>simp[this,h10,ho]
  ·have:¬(i:Int)<10:=by omega
   cases m.dx<;>simp[this,h10]
 ·have hd:decide (((c.aX.length:Nat):Int)<((c.aX.length:Nat):Int))=false:=Qh (Int.lt_irrefl _);simp only[hd,Ql,Qe]
structure xI (c:bp):Prop where
 len:c.aX.length<=1000000
 aR:∀m∈c.aX,dR m.ab
def jU(l:List bh)(k:Nat):an:=((l[k]?).map (·.ab)).getD ⟨0,[],[]⟩
def lD(l:List bh)(k:Nat):Bool:=(iJ l).testBit k
theorem vo{l:List bh}{k:Nat}(h:lD l k=true):k<10/\∃m,l[k]?=some m/\m.dx=true:=by
 rw[lD,E6]at h;simp only[Qm,Qi,Option.any_eq_true]at h;obtain⟨h1,m,h2,h3⟩:=h;exact⟨h1,m,h2,h3⟩
theorem pU{l:List bh}{k:Nat}{m:bh}(h:l[k]?=some m):jU l k=m.ab:=by rw[jU,h];rfl
def pW(s v:Nat):Nat:=(1023^^^s)|||2 ^ v
def na(l:List bh)(v s:Nat):Bool:=lD l v&& !jA (pW s v) (jU l v)
theorem X0(k:Nat):(1023:Nat).testBit k=decide (k<10):=by
 rw[show(1023:Nat)=2 ^ 10 - 1 from rfl,Nat.testBit_two_pow_sub_one]
theorem rU{s:Nat}(hs:s<1024)(v k:Nat):(pW s v).testBit k=(decide (k<10)&& !s.testBit k||decide (v=k)):=by
 rw[pW,Nat.testBit_or,Nat.testBit_xor,X0,Nat.testBit_two_pow]
 by_cases hk:k<10
 ·simp[hk]
 ·have:s.testBit k=false:=by
   cases h:s.testBit k with
   |false=>rfl
   |true=>exact absurd (Ku hs h) hk
  simp[hk,this]
theorem MK{s v:Nat}(hs:s<1024)(hv:v<10):pW s v<1024:=Bu fun k hk=>by
 rw[rU hs]at hk;simp at hk;omega
theorem RR{s v:Nat}(hs:s<1024)(hv:v<10):uD .i64 (wC .i64 1023 (s:Int)) (iS .i64 1 (v:Int))=((pW s v:Nat):Int):=by
 obtain⟨c,h1,h2,h3⟩:=Hb 1023 s (by omega) (by omega)
 have h1':wC .i64 1023 (s:Int)=(c:Int):=h1;rw[h1',tN v (by omega),Bs c (2 ^ v) (by omega) (Nat.pow_lt_pow_right (by omega) (by omega))]
 congr 1;refine yy fun k=> ?_
 rw[rU hs,Nat.testBit_or,h3,X0,Nat.testBit_two_pow]
theorem TV{s v:Nat}(hs:s<1024)(hv:v<10):uD .i64 (dK .i64 1023 (s:Int)) (iS .i64 1 (v:Int))=((pW s v:Nat):Int):=by
 have h1:dK .i64 1023 (s:Int)=((1023 - s:Nat):Int):=by rw[tu (by omega) (by omega)];omega
 rw[h1,tN v (by omega),Bs _ (2 ^ v) (by omega) (Nat.pow_lt_pow_right (by omega) (by omega))]
 congr 1;refine yy fun k=> ?_
 rw[rU hs,Nat.testBit_or,Nat.testBit_two_pow]
 have h2:(1023 - s).testBit k=(decide (k<10)&& !s.testBit k):=by
  have:=Nat.testBit_two_pow_sub_succ (x:=s) (n:=10) (by omega) k
  rw[show 2 ^ 10 - (s+1)=1023 - s by omega]at this
  exact this
 rw[h2]
theorem Nk{c:bp}(hc:xI c){v s:Nat}(hs:s<1024):lL c v s=some (na c.aX v s):=by
 unfold lL na;rw[xO hs,Hi hc.len];simp only[Qa,Qo,Ql,kx,pf (zg _),q9]
 cases hd:lD c.aX v with
 |false=>
  have:(decide (v<10)&&(iJ c.aX).testBit v)=false:=by
   rw[show(iJ c.aX).testBit v=lD c.aX v from rfl,hd];simp
  simp[this]
 |true=>
  obtain⟨h10,m,hm,hdm⟩:=vo hd
  have:(decide (v<10)&&(iJ c.aX).testBit v)=true:=by
   rw[show(iJ c.aX).testBit v=lD c.aX v from rfl,hd];simp[h10]
  rw[bC,hm,RR hs h10];have h0:¬(v:Int)<0:=by omega
  have hmem:m∈c.aX:=List.mem_of_getElem? hm;simp only[this,Qo,Ql,Qa,h0,Qu,an.eta,zq (MK hs h10) (hc.aR m hmem),pU hm,Bool.true_and]
theorem Jk{c:bp}(hc:xI c){v s:Nat}(hs:s<1024):mg c v s=some (na c.aX v s):=by
 unfold mg na;rw[s8 hs,yT hc.len];simp only[Qa,Qo,Ql,so,pf (zg _),q9]
 cases hd:lD c.aX v with
 |false=>
  have:(decide (v<10)&&(iJ c.aX).testBit v)=false:=by
   rw[show(iJ c.aX).testBit v=lD c.aX v from rfl,hd];simp
  simp[this]
 |true=>
  obtain⟨h10,m,hm,hdm⟩:=vo hd
  have:(decide (v<10)&&(iJ c.aX).testBit v)=true:=by
   rw[show(iJ c.aX).testBit v=lD c.aX v from rfl,hd];simp[h10]
  rw[bC,hm,TV hs h10];have h0:¬(v:Int)<0:=by omega
  have hmem:m∈c.aX:=List.mem_of_getElem? hm;simp only[this,Qo,Ql,Qa,h0,Qu,an.eta,Dh (MK hs h10) (hc.aR m hmem),pU hm,Bool.true_and]
end Go.Proofs.YtkgenianmdfmdaaGreat
namespace Go.Proofs.YtkgenianmdfmdaaGreat
open Go.TQ
def pJ(s:Nat):List Int:=(sU 10).filter (jZ s)
theorem Za{n:Nat}{x:Int}:x∈sU n↔∃k:Nat,k<n/\x=k:=by
 simp only[sU,QP,List.mem_range];exact⟨fun⟨k,h1,h2⟩=>⟨k,h1,h2.symm⟩,fun⟨k,h1,h2⟩=>⟨k,h1,h2.symm⟩⟩
theorem yb{s:Nat}{x:Int}:x∈pJ s↔∃k:Nat,k<10/\x=k/\s.testBit k=true:=by
 rw[pJ,List.mem_filter,Za];constructor
 ·rintro⟨⟨k,h1,rfl⟩,h2⟩;rw[q9]at h2;simp at h2;exact⟨k,h1,rfl,h2.2⟩
 ·rintro⟨k,h1,rfl,h2⟩;exact⟨⟨k,h1,rfl⟩,by rw[q9];simp[h1,h2]⟩
theorem JC(step:(Int×List Int×Unit)->Option ((Int×List Int×Unit)⊕List Int))(s:Nat)
  (h1:∀(i:Nat) (acc:List Int),i<10->acc.length<=i->step ((i:Int),acc,())=some (.inl (((i+1:Nat):Int),(if jZ s i then acc++[(i:Int)]else acc),())))
  (h2:∀acc,step (((10:Nat):Int),acc,())=some (.inr acc)):aI step (0,[],())=some (pJ s):=by
 suffices key:∀(k i:Nat) (acc:List Int),i+k=10->acc=(sU i).filter (jZ s)->aI step ((i:Int),acc,())=some (pJ s)from key 10 0 [] rfl rfl
 intro k
 induction k with
 |zero=>
  intro i acc hi ha;obtain rfl:i=10:=by omega
  rw[bX (h2 acc),ha];rfl
 |succ k ih=>
  intro i acc hi ha;have hlen:acc.length<=i:=by rw[ha];exact QK (List.length_filter_le _ _) (by simp)
  rw[bn (h1 i acc (by omega) hlen)]
  refine ih (i+1) _ (by omega) ?_
  rw[Oh,List.filter_append,<-ha];cases hh:jZ s i<;>simp[hh]
theorem XO{s:Nat}(hs:s<1024):qz (s:Int)=some (pJ s):=by
 unfold qz;refine JC _ s (fun i acc hi hl=> ?_) (fun acc=> ?_)
 ·have hd:decide ((i:Int)<10)=true:=Qg (by omega)
  have hw:aG .i64 (i:Int) 1=((i+1:Nat):Int):=bP (by omega) (by omega)
  simp only[hd,hw,Qk,ba,kx,pf hs,Qa];rw[cj (by simp;omega)]
  cases jZ s i<;>simp
 ·rfl
theorem U6{s:Nat}(hs:s<1024):pR (s:Int)=some (pJ s):=by
 unfold pR;refine JC _ s (fun i acc hi hl=> ?_) (fun acc=> ?_)
 ·have hd:decide ((i:Int)<10)=true:=Qg (by omega)
  have hw:aG .i64 (i:Int) 1=((i+1:Nat):Int):=bP (by omega) (by omega)
  simp only[hd,hw,Qk,ba,so,pf hs,Qa];rw[cj (by simp;omega)]
  cases jZ s i<;>simp
 ·rfl
def BX(l:List bh)(s r:Nat):Prop:=∀k,r.testBit k=true->s.testBit k=true/\lD l k=true/\jA r (jU l k)=true
structure wD (l:List bh) (s q:Nat):Prop where
 inside:BX l s q
 max:∀r,BX l s r->∀k,r.testBit k=true->q.testBit k=true
theorem wD.unique{l:List bh}{s q q':Nat}(h:wD l s q)(h':wD l s q'):q=q':=by
 refine yy fun k=> ?_
 rw[QW];exact⟨h'.max q h.inside k,h.max q' h'.inside k⟩
theorem wD.lt{l:List bh}{s q:Nat}(h:wD l s q):q<1024:=Bu fun k hk=>(vo (h.inside k hk).2.1).1
def nQ(l:List bh)(s:Nat):Option Int:=(pJ s).find? fun x=> !jA s (jU l x.toNat)
theorem Dg{l:List bh}{s:Nat}{x:Int}(h:nQ l s=some x):∃k:Nat,x=k/\k<10/\s.testBit k=true/\jA s (jU l k)=false:=by
 have h1:=List.mem_of_find?_eq_some h;have h2:=List.find?_some h;obtain⟨k,hk,rfl,hb⟩:=yb.1 h1;simp at h2;exact⟨k,rfl,hk,hb,h2⟩
theorem Nl{l:List bh}{s:Nat}(hs:s<1024)(h:nQ l s=none):∀k,s.testBit k=true->jA s (jU l k)=true:=by
 intro k hk;have:=List.find?_eq_none.1 h (k:Int) (yb.2 ⟨k,Ku hs hk,rfl,hk⟩);simpa using this
theorem YF:∀s,s<1024->∀k,k<10->s.testBit k=true->s - 2 ^ k=s^^^2 ^ k:=by decide+kernel
theorem Fv{s k:Nat}(hs:s<1024)(hk:s.testBit k=true):2 ^ k<=s/\∀j,(s - 2 ^ k).testBit j=(s.testBit j&& !decide (k=j)):=by
 have hle:2 ^ k<=s:=Nat.ge_two_pow_of_testBit hk;refine⟨hle,?_⟩;have hx:s - 2 ^ k=s^^^2 ^ k:=YF s hs k (Ku hs hk) hk;intro j;rw[hx,Nat.testBit_xor,Nat.testBit_two_pow]
 by_cases hj:k=j
 ·subst hj;simp[hk]
 ·simp[hj]
structure oS (l:List bh) (s0 s:Nat):Prop where
 lt:s<1024
 sub:∀k,s.testBit k=true->s0.testBit k=true/\lD l k=true
 max:∀r,BX l s0 r->∀k,r.testBit k=true->s.testBit k=true
theorem oS.first(l:List bh){s:Nat}(hs:s<1024):oS l s (s&&&iJ l):=by
 refine⟨Nat.lt_of_le_of_lt Nat.and_le_left hs,fun k hk=> ?_,fun r hr k hk=> ?_⟩
 ·rw[Nat.testBit_and,Qm]at hk;exact hk
 ·rw[Nat.testBit_and,Qm];exact⟨(hr k hk).1,(hr k hk).2.1⟩
theorem oS.next{l:List bh}{s0 s k:Nat}(h:oS l s0 s)(hk:s.testBit k=true)(hu:jA s (jU l k)=false):oS l s0 (s - 2 ^ k):=by
 obtain⟨h1,h2⟩:=Fv h.lt hk;refine⟨Nat.lt_of_le_of_lt (Nat.sub_le _ _) h.lt,fun j hj=> ?_,fun r hr j hj=> ?_⟩
 ·rw[h2]at hj;simp at hj;exact h.sub j hj.1
 ·rw[h2,h.max r hr j hj]
  have:k≠j:=by
   intro e;subst e;have:=DU (fun i hi=>h.max r hr i hi) _ (hr k hj).2.2
   rw[hu]at this;cases this
  simp[this]
theorem oS.done{l:List bh}{s0 s:Nat}(h:oS l s0 s)(hn:nQ l s=none):wD l s0 s:=
 ⟨fun k hk=>⟨(h.sub k hk).1,(h.sub k hk).2,Nl h.lt hn k hk⟩,h.max⟩
theorem MY{l:List Int}{ρ:Type}{f:Int->Bool}{hit:Int->ρ}{fin:Unit->Option ρ}{g:Int->Unit->Option (Unit⊕ρ)}(hg:∀x∈l,∀s,g x s=some (if f x then .inr (hit x)else .inl ())):
  eN g fin l ()=match l.find? f with|some x=>some (hit x)|none=>fin ():=by
 induction l with
 |nil=>rfl
 |cons x l ih=>
  rw[eN,hg x (by simp),List.find?_cons]
  cases hx:f x with
  |true=>simp
  |false=>
   simp only[Qq,Qu];exact ih fun y hy=>hg y (by simp[hy])
theorem JD(s:Nat):(pJ s).length<=10:=QK (List.length_filter_le _ _) (by simp)
theorem Tq{c:bp}(hc:xI c){s:Nat}(hs:s<1024)(hsub:∀k,s.testBit k=true->lD c.aX k=true):
  lJ c s=some (match nQ c.aX s with|some x=>(x,true,())|none=>(0,false,())):=by
 unfold lJ;rw[XO hs,Qa];have hlen:=JD s;rw[gp (pJ s) (by omega) (fun i (_:Unit)=>(i,())) (fun x (_:Unit)=>(lK c x s).map fun r=>if r then .inl ()else .inr (x,true,())) (fun _=>some (0,false,())) (fun i x u hd hx hw=> ?_) (fun u hd=> ?_) ()]
 ·rw[MY (f:=fun x=> !jA s (jU c.aX x.toNat)) (hit:=fun x=>(x,true,()))]
  ·unfold nQ;cases (pJ s).find? _<;>rfl
  ·intro x hx u;obtain⟨k,hk,rfl,hb⟩:=yb.1 hx;obtain⟨_,m,hm,_⟩:=vo (hsub k hb);unfold lK;rw[bC,hm];simp only[Qa,an.eta,zq hs (hc.aR m (List.mem_of_getElem? hm)),Qe,QV,pU hm];cases jA s m.ab<;>rfl
 ·simp only[hd,hx,hw,Qk,Qa]
  cases lK c x s with
  |none=>rfl
  |some r=>cases r<;>rfl
 ·simp only[hd,Ql]
theorem UB{s k:Nat}(hs:s<1024)(hk:s.testBit k=true):wC .i64 (s:Int) (iS .i64 1 (k:Int))=((s - 2 ^ k:Nat):Int):=by
 have h10:=Ku hs hk;obtain⟨c,h1,_,h3⟩:=Hb s (2 ^ k) (by omega) (Nat.pow_lt_pow_right (by omega) (by omega))
 rw[tN k (by omega),h1]
 congr 1;refine yy fun j=> ?_
 rw[h3,(Fv hs hk).2,Nat.testBit_two_pow]
theorem Hg{c:bp}(hc:xI c){s:Nat}(hs:s<1024):Yd (jw c s) fun q=>∃n:Nat,q=n/\wD c.aX s n:=by
 unfold jw qi;rw[xO hs,Hi hc.len];simp only[Qa,Qo,Ql];have hdl:=zg c.aX;rw[zm s (iJ c.aX) (by omega) (by omega)]
 suffices key:∀(n t:Nat) (out:List Int),t<n->oS c.aX s t->out.length+t<=1024->Yd (aI (fun(v3:Int×(List Int)×Unit)=>
   Option.bind (lJ c v3.1) fun r4=>
   bif (!r4.2.1)then
   Option.map Sum.inr (some (v3.1,v3.2.1,()))
   else
   bif bB 8 (List.length v3.2.1+List.length [r4.1])then
   if r4.1<0 then none else
   some (Sum.inl ((wC .i64 v3.1 (iS .i64 (1:Int) r4.1)),(v3.2.1++[r4.1]),()))
   else none) ((t:Int),out,())) fun p=>∃n:Nat,p.1=n/\wD c.aX s n by
  have hfirst:=oS.first c.aX hs
  have hb:=hfirst.lt;refine(key 1024 (s&&&iJ c.aX) [] hb hfirst (by simp;omega)).bind fun p hp=>Yd.some hp
 intro n
 induction n with
 |zero=>intro t out h;omega
 |succ n ih=>
  intro t out ht hinv hout;refine Yd.loop ?_;rw[Tq hc hinv.lt fun k hk=>(hinv.sub k hk).2]
  simp only[Qa]
  cases hu:nQ c.aX t with
  |none=>exact Yd.some ⟨t,rfl,hinv.done hu⟩
  |some x=>
   obtain⟨k,rfl,hk10,hkb,hks⟩:=Dg hu;have h0:¬(k:Int)<0:=by omega
   have hlb:=(Fv hinv.lt hkb).1;have hp:0<2 ^ k:=Nat.pow_pos (by omega)
   simp only[Qo,Ql];rw[cj (by simp;omega),Qs h0,UB hinv.lt hkb]
   exact Yd.some (ih (t - 2 ^ k) _ (by omega) (hinv.next hkb hks) (by simp;omega))
theorem VA{c:bp}(hc:xI c){s:Nat}(hs:s<1024):∃q,wD c.aX s q:=by
 obtain⟨_,_,n,_,h⟩:=Hg hc hs;exact⟨n,h⟩
open Classical in
 def gq(l:List bh)(s:Nat):Nat:=if h:∃q,wD l s q then Classical.choose h else 0
theorem wO{c:bp}(hc:xI c){s:Nat}(hs:s<1024):wD c.aX s (gq c.aX s):=by
 have h:=VA hc hs;rw[gq,dif_pos h];exact Classical.choose_spec h
theorem Hh{c:bp}(hc:xI c){s:Nat}(hs:s<1024):jw c s=some ((gq c.aX s:Nat):Int):=by
 obtain⟨q,h1,n,rfl,h2⟩:=Hg hc hs;rw[h1,h2.unique (wO hc hs)]
def sV(s:Nat):List Int->Nat
 |[]=>s
 |x::l=>sV (s - 2 ^ x.toNat) l
theorem IB(s:Nat):∀(l:List Int) (x:Int),sV s (l++[x])=sV s l - 2 ^ x.toNat
 |[],x=>rfl
 |y::l,x=>by rw[List.cons_append,sV,IB _ l x,sV]
def FW(s:Nat):List Int->Prop
 |[]=>True
 |x::l=>(∃k:Nat,x=k/\k<10/\2 ^ k<=s)/\FW (s - 2 ^ x.toNat) l
theorem Ni{s:Nat}:∀{l:List Int} {k:Nat},FW s l->k<10->2 ^ k<=sV s l->FW s (l++[(k:Int)])
 |[],k,_,h1,h2=>⟨⟨k,rfl,h1,h2⟩,trivial⟩
 |_::_,_,h,h1,h2=>⟨h.1,Ni h.2 h1 h2⟩
theorem Oo{t k:Nat}(hk:k<10)(h:2 ^ k<=t)(ht:t<1024):dK .i64 (t:Int) (iS .i64 1 (k:Int))=((t - 2 ^ k:Nat):Int):=by
 rw[tN k (by omega)]
 generalize 2 ^ k=z at*;rw[tu (by omega) (by omega)]
 omega
theorem Z7{c:bp}(hc:xI c){s:Nat}(hs:s<1024):Yd (mM c s) fun out=>FW (s&&&iJ c.aX) out/\wD c.aX s (sV (s&&&iJ c.aX) out)/\out.length<=1024:=by
 unfold mM;rw[s8 hs,yT hc.len];simp only[Qa,Qo,Ql];have hdl:=zg c.aX;rw[zm s (iJ c.aX) (by omega) (by omega)]
 generalize hs0:s&&&iJ c.aX=s0
 suffices key:∀(n t:Nat) (b:Bool) (out:List Int),t<n->oS c.aX s t->(b=false->nQ c.aX t=none)->out.length+t<=1024->FW s0 out->sV s0 out=t->
   Yd (aI (fun(v3:Int×Bool×(List Int)×Unit)=>
    bif v3.2.1 then
    Option.bind (pR v3.1) fun r4=>
    aI (fun(v5:Int×Bool×Int×(List Int)×Unit)=>
    bif (decide (v5.2.2.1<((List.length r4:Nat):Int)))then
    Option.bind (idx r4 v5.2.2.1) fun x6=>
    Option.bind (idx c.aX x6) fun x7=>
    Option.bind (ix (an.mk x7.ab.aT x7.ab.bq x7.ab.aS) v5.1) fun r8=>
    bif (!r8)then
    if x6<0 then none else
    bif bB 8 (List.length v5.2.2.2.1+List.length [x6])then
    Option.map Sum.inr (some (Sum.inl ((dK .i64 v5.1 (iS .i64 (1:Int) x6)),true,(v5.2.2.2.1++[x6]),())))
    else none
    else
    some (Sum.inl (v5.1,v5.2.1,(aG .i64 v5.2.2.1 (1:Int)),v5.2.2.2.1,()))
    else
    Option.map Sum.inr (some (Sum.inl (v5.1,v5.2.1,v5.2.2.2.1,())))) (v3.1,false,(0:Int),v3.2.2.1,())
    else
    Option.map Sum.inr (some v3.2.2.1)) ((t:Int),b,out,())) fun out=>FW s0 out/\wD c.aX s (sV s0 out)/\out.length<=1024 by
  have hfirst:=oS.first c.aX hs
  rw[hs0]at hfirst;have hb:=hfirst.lt;exact key 1024 s0 true [] hb hfirst (fun h=>by cases h) (by simp;omega) trivial rfl
 intro n
 induction n with
 |zero=>intro t b out h;omega
 |succ n ih=>
  intro t b out ht hinv hb hout hso hsub;refine Yd.loop ?_
  cases b with
  |false=>
   simp only[Ql];refine Yd.inr (Yd.some ⟨hso,?_,by omega⟩)
   rw[hsub];exact hinv.done (hb rfl)
  |true=>
   simp only[Qk];rw[U6 hinv.lt,Qa];have hlen:=JD t;rw[gp (pJ t) (by omega) (fun i (_:Unit)=>((t:Int),false,i,out,())) (fun x (_:Unit)=>some (if !jA t (jU c.aX x.toNat)then .inr (Sum.inl ((dK .i64 (t:Int) (iS .i64 (1:Int) x)),true,(out++[x]),()))else .inl ())) (fun _=>some (Sum.inl ((t:Int),false,out,()))) (fun i x u hd hx hw=> ?_) (fun u hd=> ?_) ()]
   ·rw[MY (f:=fun x=> !jA t (jU c.aX x.toNat)) (hit:=fun x=>Sum.inl ((dK .i64 (t:Int) (iS .i64 (1:Int) x)),true,(out++[x]),())) (fun x hx u=>rfl)]
    cases hu:nQ c.aX t with
    |none=>
     rw[nQ]at hu;rw[hu];refine Yd.some ?_;refine Yd.loop ?_;simp only[Ql];refine Yd.inr (Yd.some ⟨hso,?_,by omega⟩)
     rw[hsub];exact hinv.done hu
    |some x=>
     obtain⟨k,rfl,hk10,hkb,hks⟩:=Dg hu;rw[nQ]at hu;rw[hu];have hlb:=(Fv hinv.lt hkb).1;have hp:0<2 ^ k:=Nat.pow_pos (by omega)
     simp only;rw[Oo hk10 hlb hinv.lt];refine Yd.some (ih (t - 2 ^ k) true _ (by omega) (hinv.next hkb hks) (fun h=>by cases h) (by simp;omega) (Ni hso hk10 (by rw[hsub];exact hlb)) (by rw[IB,hsub];rfl))
   ·have hmem:x∈pJ t:=by
     rw[bC]at hx;exact List.mem_of_getElem? hx
    obtain⟨k,hk10,rfl,hkb⟩:=yb.1 hmem;obtain⟨_,m,hm,_⟩:=vo (hinv.sub k hkb).2;have h0:¬(k:Int)<0:=by omega
    simp only[hd,hx,hw,Qk,Qa,bC c.aX,hm,an.eta,Dh hinv.lt (hc.aR m (List.mem_of_getElem? hm)),h0,Qu,QV,pU hm];rw[cj (by simp;omega)]
    cases jA t m.ab<;>rfl
   ·simp only[hd,Ql]
theorem Eu{c:bp}(hc:xI c){s:Nat}(hs:s<1024):mF c s=some ((gq c.aX s:Nat):Int):=by
 unfold mF;rw[s8 hs,yT hc.len];simp only[Qa,Qo,Ql];have hdl:=zg c.aX;rw[zm s (iJ c.aX) (by omega) (by omega)]
 obtain⟨out,h1,h2,h3,h4⟩:=Z7 hc hs;rw[h1,Qa];rw[gp out (by omega) (fun i (t:Int)=>(t,i,())) (fun x (t:Int)=>if x<0 then none else some (.inl (dK .i64 t (iS .i64 1 x)))) (fun t=>some t) (fun i x u hd hx hw=> ?_) (fun u hd=> ?_) _]
 ·rw[<-h3.unique (wO hc hs)];have hlt:s&&&iJ c.aX<1024:=Nat.lt_of_le_of_lt Nat.and_le_left hs;generalize s&&&iJ c.aX=t at h2 hlt;clear h1 h3 h4
  induction out generalizing t with
  |nil=>rfl
  |cons x l ih=>
   obtain⟨⟨k,rfl,hk,hle⟩,h2⟩:=h2;have h0:¬(k:Int)<0:=by omega
   rw[eN,Qs h0,Oo hk hle hlt,sV];simp only[QV]at h2 ⊢;exact ih _ h2 (Nat.lt_of_le_of_lt (Nat.sub_le _ _) hlt)
 ·simp only[hd,hx,hw,Qk,Qa];split<;>rfl
 ·simp only[hd,Ql]
end Go.Proofs.YtkgenianmdfmdaaGreat
namespace Go.Proofs.YtkgenianmdfmdaaGreat
open Go.TQ
structure oF (l:List ai):Prop where
 len:l.length<=100000
 aR:∀e∈l,dR e.ab
theorem iX{e:ai}(h:aO e=true):0<=e.au/\e.au<10:=by
 simp only[aO,fV,vp,Qm,Qi]at h;exact⟨h.1.1.1.1.1.1.1,h.1.1.1.1.1.1.2⟩
def fo:bh:=⟨false,⟨0,[],[]⟩⟩
 def cF(ms:List bh)(e:ai):List bh:=
 if aO e&& !((ms[e.au.toNat]?).any (·.dx))then ms.set e.au.toNat ⟨true,e.ab⟩else ms
 def eW(ay:Nat)(t:an)(l:List ai):List bh:=l.foldl cF ((List.replicate 10 fo).set ay ⟨true,t⟩)
theorem uQ(ms:List bh)(e:ai):(cF ms e).length=ms.length:=by
 unfold cF;split
 ·rw[QY]
 ·rfl
theorem A4:∀(l:List ai) (ms:List bh),(l.foldl cF ms).length=ms.length
 |[],_=>rfl
 |e::l,ms=>by rw[QU,A4 l,uQ]
theorem DK(ay:Nat)(t:an)(l:List ai):(eW ay t l).length=10:=by
 rw[eW,A4,QY,List.length_replicate]
theorem N6{ms:List bh}(hl:ms.length=10){n:Int}(h0:0<=n)(h1:n<10):∃m,ms[n.toNat]?=some m/\idx ms n=some m:=by
 have:n.toNat<ms.length:=by omega
 exact⟨ms[n.toNat],Qv this,by rw[Px _ h0];exact Qv this⟩
theorem Tf{ay:Nat}(hn:ay<10){t:an}(ht:dR t){l:List ai}(hl:oF l):oK ay t l=some ⟨eW ay t l⟩:=by
 unfold oK
 have h1:(decide ((10:Int)=10)&&decide ((0:Int)<=10)&&bB 64 (Int.toNat 10))=true:=by
  rw[cj (by decide)];rfl
 have h2:¬(ay:Int)<0:=by omega
 have h3:¬(10:Int)<=ay:=by omega
 rw[h1];simp only[Qk,h2,h3,decide_false,Ql,Qa,an.eta,uJ ht,ba];obtain⟨m,hm1,hm2⟩:=N6 (ms:=List.replicate 10 fo) (by simp) (n:=(ay:Int)) (by omega) (by omega)
 have e10:List.replicate (Int.toNat 10) (bh.mk false (an.mk 0 [] []))=List.replicate 10 fo:=rfl;rw[e10,hm2,hm1,Qa,Qa];have hlen:=hl.len
 suffices key:∀(k i:Nat) (ms:List bh) (c:bp),i+k=l.length->ms.length=10->aI _ ((i:Int),c,ms,())=some (bp.mk ((l.drop i).foldl cF ms))by
  have:=key l.length 0 ((List.replicate 10 fo).set ay ⟨true,t⟩) ⟨[]⟩ (by omega) (by simp)
  simpa[eW]using this
 intro k
 induction k with
 |zero=>
  intro i ms c hi hms;obtain rfl:i=l.length:=by omega
  refine bX ?_;have hd:decide (((l.length:Nat):Int)<((l.length:Nat):Int))=false:=Qh (Int.lt_irrefl _);simp only[hd,Ql,List.drop_length,List.foldl_nil]
 |succ k ih=>
  intro i ms c hi hms;have hlt:i<l.length:=by omega
  have hd:decide ((i:Int)<((l.length:Nat):Int))=true:=Qg (by omega)
  have hw:aG .i64 (i:Int) 1=((i+1:Nat):Int):=bP (by omega) (by omega)
  have hx:idx l (i:Int)=some l[i]:=by rw[bC];exact Qv hlt
  have hsm:=hl.aR _ (Q0 hlt);rw[QM hlt,QU];refine Eq.trans (bn (s':=(((i+1:Nat):Int),⟨[]⟩,cF ms l[i],())) ?_) (ih (i+1) _ _ (by omega) (by rw[uQ];exact hms))
  simp only[hd,hx,hw,Qk,Qa,nV hsm];unfold cF
  cases hv:aO l[i]with
  |false=>simp
  |true=>
   obtain⟨h4,h5⟩:=iX hv;obtain⟨m,hm1,hm2⟩:=N6 hms h4 h5;simp only[Qk,hm1,hm2,Qa,uJ hsm,Option.any_some,Bool.true_and];cases m.dx<;>simp
theorem yS{ay:Nat}(hn:ay<10){t:an}{l:List ai}(hl:oF l):jQ ay t l=some ⟨eW ay t l⟩:=by
 unfold jQ
 have h1:(decide ((10:Int)=10)&&decide ((0:Int)<=10)&&bB 64 (Int.toNat 10))=true:=by
  rw[cj (by decide)];rfl
 have h2:¬(ay:Int)<0:=by omega
 have h3:¬(9:Int)<ay:=by omega
 rw[h1];simp only[Qk,h2,h3,decide_false,Ql,Qa,an.eta,ba];obtain⟨m,hm1,hm2⟩:=N6 (ms:=List.replicate 10 fo) (by simp) (n:=(ay:Int)) (by omega) (by omega)
 have e10:List.replicate (Int.toNat 10) (bh.mk false (an.mk 0 [] []))=List.replicate 10 fo:=rfl;rw[e10,hm2,hm1,Qa,Qa];have hlen:=hl.len
 suffices key:∀(k i:Nat) (ms:List bh) (c:bp),i+k=l.length->ms.length=10->aI _ ((i:Int),c,ms,())=some (bp.mk ((l.drop i).foldl cF ms))by
  have:=key l.length 0 ((List.replicate 10 fo).set ay ⟨true,t⟩) ⟨[]⟩ (by omega) (by simp)
  simpa[eW]using this
 intro k
 induction k with
 |zero=>
  intro i ms c hi hms;obtain rfl:i=l.length:=by omega
  refine bX ?_;have hd:decide (((l.length:Nat):Int)<((l.length:Nat):Int))=false:=Qh (Int.lt_irrefl _);simp only[hd,Ql,List.drop_length,List.foldl_nil]
 |succ k ih=>
  intro i ms c hi hms;have hlt:i<l.length:=by omega
  have hd:decide ((i:Int)<((l.length:Nat):Int))=true:=Qg (by omega)
  have hw:aG .i64 (i:Int) 1=((i+1:Nat):Int):=bP (by omega) (by omega)
  have hx:idx l (i:Int)=some l[i]:=by rw[bC];exact Qv hlt
  have hsm:=hl.aR _ (Q0 hlt);rw[QM hlt,QU];refine Eq.trans (bn (s':=(((i+1:Nat):Int),⟨[]⟩,cF ms l[i],())) ?_) (ih (i+1) _ _ (by omega) (by rw[uQ];exact hms))
  simp only[hd,hx,hw,Qk,Qa,iI hsm];unfold cF
  cases hv:aO l[i]with
  |false=>simp
  |true=>
   obtain⟨h4,h5⟩:=iX hv;obtain⟨m,hm1,hm2⟩:=N6 hms h4 h5;simp only[Qk,hm1,hm2,Qa,Option.any_some,Bool.true_and];cases m.dx<;>simp
theorem jG{ay:Nat}{t:an}(ht:dR t){l:List ai}(hl:oF l):xI ⟨eW ay t l⟩:=by
 refine⟨by rw[DK];omega,?_⟩
 have key:∀(l:List ai) (ms:List bh),(∀e∈l,dR e.ab)->(∀m∈ms,dR m.ab)->∀m∈l.foldl cF ms,dR m.ab:=by
  intro l
  induction l with
  |nil=>intro ms _ h;exact h
  |cons e l ih=>
   intro ms he h;rw[QU];refine ih _ (fun e' h'=>he e' (by simp[h'])) fun m hm=> ?_
   unfold cF at hm;split at hm
   ·rcases List.mem_or_eq_of_mem_set hm with hm|rfl
    ·exact h m hm
    ·exact he e (by simp)
   ·exact h m hm
 refine key l _ hl.aR fun m hm=> ?_
 rcases List.mem_or_eq_of_mem_set hm with hm|rfl
 ·rw[List.eq_of_mem_replicate hm];exact .mk _ (by simp[fo]) (by simp[fo]) (by simp[fo])
 ·exact ht
 def bL(l:List ai):List ai:=l.filter aO
theorem Wd{l:List ai}(hl:oF l):nN l=some ((bL l).map bu.mk):=by
 unfold nN;have hlen:=hl.len;simp only[ba]
 suffices key:∀(k i:Nat) (acc:List bu),i+k=l.length->acc=(bL (l.take i)).map bu.mk->aI _ ((i:Int),acc,())=some ((bL l).map bu.mk)from key l.length 0 [] (by omega) rfl
 intro k
 induction k with
 |zero=>
  intro i acc hi ha;obtain rfl:i=l.length:=by omega
  refine bX ?_;have hd:decide (((l.length:Nat):Int)<((l.length:Nat):Int))=false:=Qh (Int.lt_irrefl _);simp only[hd,Ql,Qe,ha,List.take_length]
 |succ k ih=>
  intro i acc hi ha;have hlt:i<l.length:=by omega
  have hd:decide ((i:Int)<((l.length:Nat):Int))=true:=Qg (by omega)
  have hw:aG .i64 (i:Int) 1=((i+1:Nat):Int):=bP (by omega) (by omega)
  have hx:idx l (i:Int)=some l[i]:=by rw[bC];exact Qv hlt
  have hsm:=hl.aR _ (Q0 hlt)
  have hal:acc.length<=i:=by
   rw[ha,QC];exact QK (List.length_filter_le _ _) (by rw[List.length_take];omega)
  refine Eq.trans (bn (s':=(((i+1:Nat):Int),(if aO l[i]then acc++[bu.mk l[i]]else acc),())) ?_) (ih (i+1) _ (by omega) ?_)
  ·simp only[hd,hx,hw,Qk,Qa,an.eta,ai.eta,nV hsm];rw[cj (by simp;omega)]
   cases aO l[i]<;>simp
  ·rw[List.take_succ_eq_append_getElem hlt,bL,List.filter_append,ha];cases hv:aO l[i]<;>simp[bL,hv]
def cW(p:ai->Bool):List ai->Nat
 |[]=>0
 |e::l=>(if p e then 2 ^ e.au.toNat else 0)|||cW p l
theorem oX(p:ai->Bool)(k:Nat):∀(l:List ai),(cW p l).testBit k=l.any fun e=>p e&&decide (e.au.toNat=k)
 |[]=>by simp[cW]
 |e::l=>by
  rw[cW,Nat.testBit_or,oX p k l,List.any_cons];cases p e<;>simp[Nat.testBit_two_pow]
def qb(l:List ai):Prop:=∀e∈l,0<=e.au/\e.au<10
theorem iH(l:List ai):qb (bL l):=fun _ he=>iX (List.mem_filter.1 he).2
theorem xU(l:List ai):(bL l).length<=l.length:=List.length_filter_le _ _
theorem fZ{p:ai->Bool}{l:List ai}(h:qb l):cW p l<1024:=Bu fun k hk=>by
 rw[oX,List.any_eq_true]at hk;obtain⟨e,he,h1⟩:=hk;simp only[Qm,Qi]at h1;have:=h e he;omega
theorem B3(p:ai->Bool)(l:List ai)(hin:qb l)(step:(Int×Int×Unit)->Option ((Int×Int×Unit)⊕Int))
  (h1:∀(i:Nat) (e:ai) (s:Int),l[i]?=some e->step (s,(i:Int),())=if p e then(if e.au<0 then none else some (.inl (uD .i64 s (iS .i64 1 e.au),((i+1:Nat):Int),())))else some (.inl (s,((i+1:Nat):Int),())))
  (h2:∀s:Int,step (s,(l.length:Int),())=some (.inr s)):aI step (0,0,())=some ((cW p l:Nat):Int):=by
 suffices key:∀(k i s:Nat),i+k=l.length->s<1024->aI step ((s:Int),(i:Int),())=some ((s|||cW p (l.drop i):Nat):Int)by
  have:=key l.length 0 0 (by omega) (by omega)
  simpa using this
 intro k
 induction k with
 |zero=>
  intro i s hi hs;obtain rfl:i=l.length:=by omega
  rw[bX (h2 s),List.drop_length,cW];simp
 |succ k ih=>
  intro i s hi hs;have hlt:i<l.length:=by omega
  have hm:=hin l[i] (Q0 hlt);rw[QM hlt,cW];have hst:=h1 i l[i] s (Qv hlt)
  cases hp:p l[i]with
  |false=>
   rw[hp]at hst;rw[bn hst,ih (i+1) s (by omega) hs]
   simp
  |true=>
   rw[hp,Qr rfl,Qs (by omega),yv hs hm.1 hm.2]at hst
   rw[bn hst,ih (i+1) _ (by omega) (Jq hs hm.2)]
   simp[Nat.or_assoc]
theorem Hd{v:bp}{ay:Int}{l:List ai}(hl:l.length<=1000000)(hin:qb l)(b:ae):iq ⟨ay,v,l.map bu.mk⟩ b=some ((cW (cQ · b) l:Nat):Int):=by
 unfold iq;refine B3 (cQ · b) l hin _ (fun i e s he=> ?_) (fun s=> ?_)
 ·have hlt:i<l.length:=(Qw.1 he).1;have hd:decide ((i:Int)<(((l.map bu.mk).length:Nat):Int))=true:=Qg (by rw[QC];omega)
  have hw:aG .i64 (i:Int) 1=((i+1:Nat):Int):=bP (by omega) (by omega)
  have hx:idx (l.map bu.mk) (i:Int)=some ⟨e⟩:=by rw[bC,QT,he];rfl
  simp only[hd,hx,hw,Qk,Qa,an.eta,ai.eta,kg,qD,ba];cases cQ e b<;>simp
 ·have hd:decide (((l.length:Nat):Int)<(((l.map bu.mk).length:Nat):Int))=false:=Qh (by rw[QC];exact Int.lt_irrefl _)
  simp only[hd,Ql,Qe]
theorem UE{v:bp}{ay:Int}{l:List ai}(hl:l.length<=1000000)(hin:qb l)(b:ae):fQ ⟨ay,v,l.map bu.mk⟩ b b=some ((cW (fun e=>ni e b||cQ e b) l:Nat):Int):=by
 unfold fQ;refine B3 (fun e=>ni e b||cQ e b) l hin _ (fun i e s he=> ?_) (fun s=> ?_)
 ·have hlt:i<l.length:=(Qw.1 he).1;have hd:decide ((i:Int)<(((l.map bu.mk).length:Nat):Int))=true:=Qg (by rw[QC];omega)
  have hw:aG .i64 (i:Int) 1=((i+1:Nat):Int):=bP (by omega) (by omega)
  have hx:idx (l.map bu.mk) (i:Int)=some ⟨e⟩:=by rw[bC,QT,he];rfl
  simp only[hd,hx,hw,Qk,Qa,an.eta,ai.eta,iA,kg,nZ,qD,zQ,ba,ji,Bool.cond_true_left];cases (ni e b||cQ e b)<;>simp
 ·have hd:decide (((l.length:Nat):Int)<(((l.map bu.mk).length:Nat):Int))=false:=Qh (by rw[QC];exact Int.lt_irrefl _)
  simp only[hd,Ql,Qe]
 def jL(ms:List bh)(v votes accepts:Nat):Bool:=na ms v accepts||(gq ms (votes|||accepts)).testBit v
theorem Dm{c:bp}(hc:xI c){v votes accepts:Nat}(hv:v<10)(h1:votes<1024)(h2:accepts<1024):iQ c v votes accepts=some (jL c.aX v votes accepts):=by
 unfold iQ jL;have h3:votes|||accepts<1024:=Nat.or_lt_two_pow (n:=10) h1 h2
 rw[xO h1,xO h2,Nk hc h2,Bs votes accepts (by omega) (by omega),Hh hc h3]
 simp[pf (wO hc h3).lt,q9,hv]
theorem BK{c:bp}(hc:xI c){v accepts:Nat}(hv:v<10)(h2:accepts<1024):ik c v accepts=some ((gq c.aX accepts).testBit v):=by
 unfold ik;rw[Hh hc h2];simp[pf (wO hc h2).lt,q9,hv]
 def jE(ay:Nat)(t:an)(l:List ai)(b:ae):Bool:=
 jL (eW ay t l) ay (cW (fun e=>ni e b||cQ e b) (bL l)) (cW (cQ · b) (bL l))
 def iV(ay:Nat)(t:an)(l:List ai)(b:ae):Bool:=
 (gq (eW ay t l) (cW (cQ · b) (bL l))).testBit ay
theorem LY{ay:Nat}(hn:ay<10){t:an}(ht:dR t){l:List ai}(hl:oF l):fc ay t l=some ⟨ay,⟨eW ay t l⟩,(bL l).map bu.mk⟩:=by
 unfold fc;simp only[an.eta,Tf hn ht hl,Wd hl,Qa]
end Go.Proofs.YtkgenianmdfmdaaGreat
namespace Go.Proofs.YtkgenianmdfmdaaGreat
open Go.TQ
theorem XK{α:Type}{l l':List α}(h:l.Perm l')(p:α->Bool):l.any p=l'.any p:=by
 rw[QW,List.any_eq_true,List.any_eq_true];exact⟨fun⟨x,h1,h2⟩=>⟨x,h.mem_iff.1 h1,h2⟩,fun⟨x,h1,h2⟩=>⟨x,h.mem_iff.2 h1,h2⟩⟩
theorem UL{l l':List ai}(h:l.Perm l')(p:ai->Bool):cW p l=cW p l':=yy fun k=>by rw[oX,oX,XK h]
theorem RJ{l l':List ai}(h:l.Perm l'):(bL l).Perm (bL l'):=h.filter _
def wV(l:List ai):Prop:=∀a∈l,∀b∈l,a.au=b.au->a=b
theorem wV.perm{l l':List ai}(h:wV l)(hp:l.Perm l'):wV l':=fun a ha b hb=>h a (hp.mem_iff.2 ha) b (hp.mem_iff.2 hb)
 def mn(l:List ai)(k:Nat):Option ai:=l.find? fun e=>aO e&&decide (e.au.toNat=k)
theorem AB{l:List ai}{k:Nat}{e:ai}(h:mn l k=some e):e∈l/\aO e=true/\e.au=k:=by
 unfold mn at h;have h1:=List.mem_of_find?_eq_some h;have h2:=List.find?_some h;simp only[Qm,Qi]at h2;have:=iX h2.1;exact⟨h1,h2.1,by omega⟩
theorem JA{l:List ai}(ha:wV l){k:Nat}{e:ai}(h1:e∈l)(h2:aO e=true)(h3:e.au=k):mn l k=some e:=by
 cases h:mn l k with
 |none=>
  unfold mn at h;rw[List.find?_eq_none]at h;have:=h e h1;simp[h2,h3]at this
 |some e'=>
  obtain⟨g1,g2,g3⟩:=AB h;rw[ha e' g1 e h1 (by omega)]
theorem RT{l l':List ai}(ha:wV l)(h:l.Perm l')(k:Nat):mn l k=mn l' k:=by
 cases h1:mn l k with
 |some e=>
  obtain⟨g1,g2,g3⟩:=AB h1;exact(JA (ha.perm h) (h.mem_iff.1 g1) g2 g3).symm
 |none=>
  cases h2:mn l' k with
  |none=>rfl
  |some e=>
   obtain⟨g1,g2,g3⟩:=AB h2;rw[JA ha (h.mem_iff.2 g1) g2 g3]at h1;cases h1
theorem Mb:∀(l:List ai) (ms:List bh),ms.length=10->(∀m∈ms,m.dx=false->m=fo)->∀k,k<10->(l.foldl cF ms)[k]?=some (match ms[k]? with
  |some m=>if m.dx then m else(match mn l k with
   |some e=>⟨true,e.ab⟩
   |none=>fo)
  |none=>fo)
 |[],ms,hl,hn,k,hk=>by
  have hk':k<ms.length:=by omega
  rw[List.foldl_nil,Qv hk']
  cases hd:ms[k].dx with
  |true=>simp[hd]
  |false=>
   have:=hn _ (Q0 hk') hd;simp[hd,mn,this]
 |e::l,ms,hl,hn,k,hk=>by
  have hk':k<ms.length:=by omega
  rw[QU];have hlen:(cF ms e).length=10:=by rw[uQ];exact hl
  have hn':∀m∈cF ms e,m.dx=false->m=fo:=by
   unfold cF;split
   ·intro m hm hd;rcases List.mem_or_eq_of_mem_set hm with hm|rfl
    ·exact hn m hm hd
    ·cases hd
   ·exact hn
  rw[Mb l (cF ms e) hlen hn' k hk];congr 1
  have hof:mn (e::l) k=if(aO e&&decide (e.au.toNat=k))=true then some e else mn l k:=by
   unfold mn;rw[List.find?_cons];cases aO e&&decide (e.au.toNat=k)<;>rfl
  rw[hof];unfold cF
  by_cases hv:aO e=true
  ·have hnode:=iX hv;have hi:e.au.toNat<ms.length:=by omega
   rw[hv,Bool.true_and,Bool.true_and]
   by_cases hke:e.au.toNat=k
   ·subst hke;rw[Qv hi]
    cases hd:ms[e.au.toNat].dx with
    |true=>simp[hd,Qv hi]
    |false=>simp[hd,hi]
   ·have hne:decide (e.au.toNat=k)=false:=Qh hke
    have hset:∀c:Bool,(if c=true then ms.set e.au.toNat ⟨true,e.ab⟩else ms)[k]?=ms[k]?:=fun c=>by
     cases c
     ·rfl
     ·rw[Qr rfl,List.getElem?_set_ne hke]
    rw[hne,hset];simp
  ·have hv':aO e=false:=by simpa using hv
   simp[hv']
theorem DJ{ay:Nat}(hn:ay<10)(t:an)(l:List ai){k:Nat}(hk:k<10):(eW ay t l)[k]?=some (if k=ay then⟨true,t⟩else match mn l k with
  |some e=>⟨true,e.ab⟩
  |none=>fo):=by
 rw[eW,Mb l _ (by simp) (fun m hm hd=> ?_) k hk]
 ·by_cases h:k=ay
  ·subst h;simp[hn]
  ·rw[List.getElem?_set_ne (fun e=>h e.symm),List.getElem?_replicate,Qr hk]
   simp[h,fo]
 ·rcases List.mem_or_eq_of_mem_set hm with hm|rfl
  ·exact(List.mem_replicate.1 hm).2
  ·cases hd
theorem To{ay:Nat}(hn:ay<10)(t:an){l l':List ai}(ha:wV l)(h:l.Perm l'):eW ay t l=eW ay t l':=by
 refine List.ext_getElem? fun k=> ?_
 by_cases hk:k<10
 ·rw[DJ hn t l hk,DJ hn t l' hk,RT ha h]
 ·rw[List.getElem?_eq_none (by rw[DK];omega),List.getElem?_eq_none (by rw[DK];omega)]
end Go.Proofs.YtkgenianmdfmdaaGreat
namespace Go.Proofs.YtkgenianmdfmdaaGreat
open Go.TQ
theorem V4{τ ρ:Type}(n:Nat)(mk:Int->τ){step:τ->Option (τ⊕ρ)}{fin:Option ρ}(h1:∀i:Nat,i<n->step (mk (i:Int))=some (.inl (mk ((i+1:Nat):Int))))(h2:step (mk (n:Int))=Option.map Sum.inr fin):aI step (mk 0)=fin:=by
 suffices key:∀(k i:Nat),i+k=n->aI step (mk (i:Int))=fin from key n 0 (by omega)
 intro k
 induction k with
 |zero=>
  intro i hi;obtain rfl:i=n:=by omega
  rw[iu,h2];cases fin<;>rfl
 |succ k ih=>exact fun i hi=>(bn (h1 i (by omega))).trans (ih (i+1) (by omega))
theorem Mp{ρ:Type}(n:Nat)(hn:n<=1000000){fin:Option ρ}{step:Int×Unit->Option ((Int×Unit)⊕ρ)}
  (h1:∀i:Nat,i<n->decide ((i:Int)<((n:Nat):Int))=true->aG .i64 (i:Int) 1=((i+1:Nat):Int)->step ((i:Int),())=some (.inl (((i+1:Nat):Int),())))
  (h2:decide (((n:Nat):Int)<((n:Nat):Int))=false->step ((n:Int),())=Option.map Sum.inr fin):aI step (0,())=fin:=
 V4 n (fun i=>(i,())) (fun i hi=>h1 i hi (Qg (by omega)) (bP (by omega) (by omega))) (h2 (Qh (Int.lt_irrefl _)))
end Go.Proofs.YtkgenianmdfmdaaGreat
namespace Go.Proofs.YtkgenianmdfmdaaGreat
open Go.TQ
def CV:List UInt8->Nat
 |[]=>0
 |a::l=>a.toNat*256 ^ l.length+CV l
theorem FN:∀l:List UInt8,CV l<256 ^ l.length
 |[]=>by simp[CV]
 |a::l=>by
  have h1:=FN l;have h2:a.toNat<256:=a.toNat_lt;rw[CV,QE,Nat.pow_succ];have h3:(a.toNat+1)*256 ^ l.length<=256*256 ^ l.length:=Nat.mul_le_mul_right _ h2;rw[Nat.add_mul,Nat.one_mul,Nat.mul_comm 256]at h3;omega
theorem V0:∀{x y:List UInt8},x.length=y.length->Op.bytesLess x y=true->CV x<CV y
 |[],[],_,h=>by simp[Op.bytesLess]at h
 |[],_::_,hl,_=>by simp at hl
 |_::_,[],hl,_=>by simp at hl
 |a::x,b::y,hl,h=>by
  simp only[QE,Nat.add_right_cancel_iff]at hl;simp only[Op.bytesLess,Qn,Qi,Qm,beq_iff_eq]at h;rw[CV,CV,hl];rcases h with h|⟨rfl,h⟩
  ·have h1:=FN x;rw[hl]at h1;have h2:a.toNat<b.toNat:=UInt8.lt_iff_toNat_lt.1 h;have h3:(a.toNat+1)*256 ^ y.length<=b.toNat*256 ^ y.length:=Nat.mul_le_mul_right _ h2;rw[Nat.add_mul,Nat.one_mul]at h3;omega
  ·have:=V0 hl h;omega
def WV:Nat:=256 ^ 201
def LP(v:ByteArray):Nat:=v.size*256 ^ 200+CV v.toList
theorem toList_len(v:ByteArray):v.toList.length=v.size:=by
 rw[Lib.toList_data];cases v;simp[ByteArray.size]
theorem U9{a b:Nat}(h:a<=b):(256:Nat) ^ a<=256 ^ b:=Nat.pow_le_pow_right (by omega) h
theorem SS{v:ByteArray}(h:v.size<=200):LP v<WV:=by
 have h1:=FN v.toList;rw[toList_len]at h1;have h2:=U9 h;have h3:v.size*256 ^ 200<=200*256 ^ 200:=Nat.mul_le_mul_right _ h;have h4:WV=256*256 ^ 200:=by rw[WV,Nat.pow_succ,Nat.mul_comm]
 unfold LP;rw[h4];generalize (256:Nat) ^ 200=Z at*;omega
theorem Vq{a b:ByteArray}(hb:b.size<=200)(h:jx a b=true):LP a<LP b:=by
 unfold jx at h;unfold LP
 by_cases hs:a.size=b.size
 ·rw[Qr hs]at h;have:=V0 (x:=a.toList) (y:=b.toList) (by rw[toList_len,toList_len,hs]) h
  rw[hs];omega
 ·rw[Qs hs,Qi]at h;have h1:=FN a.toList;rw[toList_len]at h1;have h2:=U9 (show a.size<=200 by omega)
  have h3:(a.size+1)*256 ^ 200<=b.size*256 ^ 200:=Nat.mul_le_mul_right _ h;rw[Nat.add_mul,Nat.one_mul]at h3;generalize (256:Nat) ^ 200=Z at*;omega
def Sm(b:ae):Prop:=0<=b.aj/\b.aj<=1000/\b.Value.size<=200
def lO(b:ae):Nat:=b.aj.toNat*WV+LP b.Value
def WB:Nat:=1001*WV
theorem mZ{b:ae}(h:Sm b):lO b<WB:=by
 obtain⟨h1,h2,h3⟩:=h;have h4:=SS h3;unfold lO WB;have h5:b.aj.toNat*WV<=1000*WV:=Nat.mul_le_mul_right _ (by omega)
 generalize WV=Z at*;omega
theorem qU{a b:ae}(ha:Sm a)(hb:Sm b)(h:bg a b=true):lO a<lO b:=by
 unfold bg at h;unfold lO
 by_cases hc:a.aj=b.aj
 ·rw[Qr hc]at h;have:=Vq hb.2.2 h;rw[hc];omega
 ·rw[Qs hc,Qi]at h;have h1:=SS ha.2.2;have h2:=ha.1;have h3:(a.aj.toNat+1)*WV<=b.aj.toNat*WV:=Nat.mul_le_mul_right _ (by omega)
  rw[Nat.add_mul,Nat.one_mul]at h3;generalize WV=Z at*;omega
theorem Yd.down{σ ρ:Type}{step:σ->Option (σ⊕ρ)}{p:ρ->Prop}(inv:σ->Prop)(μ:σ->Nat)(h:∀s,inv s->Yd (step s) fun y=>match y with| .inl s'=>inv s'/\μ s'<μ s| .inr r=>p r){s:σ}(hs:inv s):Yd (aI step s) p:=by
 suffices key:∀(n:Nat) (s:σ),μ s<n->inv s->Yd (aI step s) p from key _ s (Nat.lt_succ_self _) hs
 intro n
 induction n with
 |zero=>intro s h0;omega
 |succ n ih=>
  intro s hn hi;refine Yd.loop ((h s hi).mono fun y hy=> ?_)
  cases y with
  |inl s'=>exact ih s' (by have:=hy.2;omega) hy.1
  |inr r=>exact hy
end Go.Proofs.YtkgenianmdfmdaaGreat
namespace Go.Proofs.YtkgenianmdfmdaaGreat
open Go.TQ
def bN:ae:=⟨0,fu⟩
def eH(m:af):Int:=if(!aD m.av&&bE m.av m.aa)=true then m.av.aj else 0
def bR(m:af):ai:=
 if m.aA=1 then⟨m.au,m.bs,m.aL,m.ab,m.aA,m.aa,m.ak,m.aw,m.aF,eH m⟩
 else if m.aA=2 then⟨m.au,m.bs,m.aL,m.ab,m.aA,m.aa,m.ak,bN,m.aF,m.aM⟩
 else⟨m.au,m.bs,m.aL,m.ab,m.aA,m.aa,bN,bN,m.aF,m.aM⟩
theorem lW(m:af):(bR m).au=m.au:=by unfold bR;split<;>(try split)<;>rfl
theorem xd(m:af):(bR m).bs=m.bs:=by unfold bR;split<;>(try split)<;>rfl
theorem PL(m:af):(bR m).aL=m.aL:=by unfold bR;split<;>(try split)<;>rfl
theorem pj(m:af):(bR m).ab=m.ab:=by unfold bR;split<;>(try split)<;>rfl
theorem VI(m:af):(bR m).bx=m.aA:=by unfold bR;split<;>(try split)<;>rfl
theorem yh(m:af):gX m=some (bR m):=by
 unfold gX bR eH;simp only[ba,an.eta,de,fI,Qa]
 by_cases h1:m.aA=1
 ·rw[Qg h1,Qr h1];cases aD m.av<;>cases bE m.av m.aa<;>rfl
 ·rw[Qh h1,Qs h1]
  by_cases h2:m.aA=2
  ·rw[Qg h2,Qr h2];rfl
  ·rw[Qh h2,Qs h2];rfl
def dS(m:af):ai:={bR m with aL:=bo (bR m).aL 1}
def qf(e:ai):List ai->List ai
 |[]=>[e]
 |x::l=>if e.au<x.au then e::x::l else x::qf e l
theorem w9(e:ai):∀l,(qf e l).Perm (l++[e])
 |[]=> .refl _
 |x::l=>by
  unfold qf;split
  ·exact(List.perm_append_singleton e (x::l)).symm
  ·exact(w9 e l).cons x
def aP(m:af):List ai:=if aD m.aa=true then m.aC else qf (dS m) m.aC
theorem KC{m:af}(h:m.aC.length<=1000):jF m=some (aP m):=by
 unfold jF aP;simp only[af.eta,an.eta,ai.eta,de,yh,Qa]
 cases aD m.aa with
 |true=>rfl
 |false=>
  simp only[Ql,Qq,Qu];have hown:ai.mk (bR m).au (bR m).bs (bo (bR m).aL 1) (bR m).ab (bR m).bx (bR m).aa (bR m).ak (bR m).aw (bR m).aF (bR m).aM=dS m:=rfl;have hnode:(bR m).au=(dS m).au:=rfl;rw[hown,hnode];generalize dS m=e
  suffices key:∀(k i:Nat) (b:Bool) (o:List ai),i+k=m.aC.length->o.length<=i+(bif b then 1 else 0)->aI _ (b,(i:Int),o,())=some (o++if b=true then m.aC.drop i else qf e (m.aC.drop i))from(key m.aC.length 0 false [] (by omega) (by simp)).trans (by simp)
  intro k
  induction k with
  |zero=>
   intro i b o hi ho;obtain rfl:i=m.aC.length:=by omega
   have hd:decide (((m.aC.length:Nat):Int)<((m.aC.length:Nat):Int))=false:=Qh (Int.lt_irrefl _);refine bX ?_;rw[List.drop_length];simp only[hd,Ql,ba]
   cases b with
   |true=>simp
   |false=>
    simp only[Ql]at ho;rw[cj (by simp;omega)]
    simp[qf]
  |succ k ih=>
   intro i b o hi ho;have hlt:i<m.aC.length:=by omega
   have hd:decide ((i:Int)<((m.aC.length:Nat):Int))=true:=Qg (by omega)
   have hw:aG .i64 (i:Int) 1=((i+1:Nat):Int):=bP (by omega) (by omega)
   have hx:idx m.aC (i:Int)=some m.aC[i]:=by rw[bC];exact Qv hlt
   rw[QM hlt]
   cases b with
   |true=>
    simp only[Qk]at ho;have:=ih (i+1) true (o++[m.aC[i]]) (by omega) (by simp;omega)
    simp only[Qt]at this ⊢;rw[show o++m.aC[i]::m.aC.drop (i+1)=(o++[m.aC[i]])++m.aC.drop (i+1)by simp]
    refine Eq.trans (bn ?_) this;simp only[hd,hx,hw,Qk,ba,Qa,Qo,Ql,an.eta,ai.eta];rw[cj (by simp;omega),Qk]
   |false=>
    simp only[Ql]at ho
    by_cases hn:e.au<m.aC[i].au
    ·have:=ih (i+1) true (o++[e]++[m.aC[i]]) (by omega) (by simp;omega)
     simp only[Qt,Qq,Qu]at this ⊢;rw[qf,Qr hn,show o++e::m.aC[i]::m.aC.drop (i+1)=(o++[e]++[m.aC[i]])++m.aC.drop (i+1)by simp]
     refine Eq.trans (bn ?_) this;simp only[hd,hx,hw,Qk,ba,Qa,Qp,Qg hn,an.eta,ai.eta];rw[cj (by simp;omega),Qk,cj (by simp;omega),Qk]
    ·have:=ih (i+1) false (o++[m.aC[i]]) (by omega) (by simp;omega)
     simp only[Qq,Qu]at this ⊢;rw[qf,Qs hn,show o++m.aC[i]::qf e (m.aC.drop (i+1))=(o++[m.aC[i]])++qf e (m.aC.drop (i+1))by simp]
     refine Eq.trans (bn ?_) this;simp only[hd,hx,hw,Qk,ba,Qa,Qp,Qh hn,Ql,an.eta,ai.eta];rw[cj (by simp;omega),Qk]
def wG(a b:ae):Bool:=decide (a.aj=b.aj)&&decide (a.Value=b.Value)
theorem qG{a b:ae}:wG a b=true↔a=b:=by
 cases a;cases b;simp[wG]
def lN(a b:af):Bool:=decide (a.aA=b.aA)&&wG a.aa b.aa&&wG a.ak b.ak&&wG a.aw b.aw&&wG a.av b.av&&decide (a.aF=b.aF)&&decide (a.aM=b.aM)
theorem Xy(a b:Bool):(bif a then b else false)=(a&&b):=by cases a<;>rfl
theorem aal(a b:af):kQ a b=some (lN a b):=by
 unfold kQ lN wG;simp only[xc,Qa,ji,Xy]
end Go.Proofs.YtkgenianmdfmdaaGreat
namespace Go.Proofs.YtkgenianmdfmdaaGreat
open Go.TQ
def tw(v:ByteArray)(n:Int)(x:ae):Int:=
 if(ct x&&dO x ⟨n,v⟩)=true then(if dO x ⟨x.aj,v⟩=true then x.aj+1 else x.aj)else n
def jC(v:ByteArray)(n:Int)(p q:ae):Int:=tw v (tw v (bo n 1) p) q
theorem Pb(v:ByteArray)(n:Int)(p q:ae):oJ v n p q=some (jC v n p q):=by
 unfold oJ jC;generalize bo n 1=k
 have hst:∀(i:Nat) (x:ae) (k:Int),i<2->[p,q][i]?=some x->
   (fun(v1:Int×Int×Unit)=>
    bif (decide (v1.2.1<(2:Int)))then
    bm (fun(v2:Int×Unit)=>some (Sum.inl (v2.1,(aG .i64 v1.2.1 (1:Int)),v2.2))) fun j3=>
    Option.bind (idx [p,q] v1.2.1) fun x4=>
    Option.bind (je x4) fun r5=>
    Option.bind (bif r5 then Option.bind (eE x4 (ae.mk v1.1 v)) fun r6=>some r6 else some false) fun b7=>
    bif b7 then Option.bind (eE x4 (ae.mk x4.aj v)) fun r8=>
     bif r8 then j3 ((aG .i64 x4.aj (1:Int)),())else j3 (x4.aj,())
    else j3 (v1.1,())
    else(Option.map Sum.inr (some v1.1):Option ((Int×Int×Unit)⊕Int))) (k,(i:Int),())=some (Sum.inl (tw v k x,((i+1:Nat):Int),())):=by
  intro i x k hi hx;have hd:decide ((i:Int)<2)=true:=Qg (by omega)
  have hw:aG .i64 (i:Int) 1=((i+1:Nat):Int):=bP (by omega) (by omega)
  have hx':idx [p,q] (i:Int)=some x:=by rw[bC];exact hx
  simp only[hd,hw,hx',Qk,ba,Qa,zw,sP];unfold tw
  cases hv:ct x with
  |false=>simp
  |true=>
   have hc:aG .i64 x.aj 1=x.aj+1:=by
    have:1<=x.aj/\x.aj<=1000000:=by
     simp only[ct,Qm,Qn,Qi]at hv;omega
    exact bP (by omega) (by omega)
   cases h1:dO x ⟨k,v⟩with
   |false=>simp
   |true=>cases h2:dO x ⟨x.aj,v⟩<;>simp[hc]
 refine(bn (hst 0 p k (by omega) rfl)).trans ((bn (hst 1 q _ (by omega) rfl)).trans (bX ?_))
 rfl
theorem Xl(b:ae):oG b=some (if 1000<b.aj then⟨1000,b.Value⟩else b):=by
 unfold oG
 by_cases h:1000<b.aj
 ·simp[h]
 ·simp[h]
end Go.Proofs.YtkgenianmdfmdaaGreat
namespace Go.Proofs.YtkgenianmdfmdaaGreat
open Go.TQ
theorem T4{lo k:Int}{v:ByteArray}{p:ae}(h:lo<=k)(hl:bg ⟨k,v⟩ p=true):bg ⟨lo,v⟩ p=true:=by
 unfold bg at hl ⊢;simp only at hl ⊢
 by_cases h1:lo=k
 ·rw[h1];exact hl
 ·have h2:lo<p.aj:=by
   split at hl
   ·omega
   ·simp only[Qi]at hl;omega
  rw[Qs (by omega)]
  simpa using h2
theorem R7{lo k:Int}{v:ByteArray}{p:ae}(h:lo<=k)(ha:dO p ⟨lo,v⟩=false):dO p ⟨k,v⟩=false:=by
 cases hk:dO p ⟨k,v⟩with
 |false=>rfl
 |true=>
  simp only[dO,Qm,bE]at hk;simp only[dO,bE,hk.1.1,hk.1.2,T4 h hk.2]at ha;cases ha
theorem jM(p b:ae):gK p b=true↔aD p=false/\p.Value=b.Value/\b.aj<=p.aj:=by
 simp[gK,bE,and_assoc]
theorem JI{b:ae}(h:1<=b.aj):aD b=false:=by
 have:¬b.aj=0:=by omega
 simp[aD,this]
end Go.Proofs.YtkgenianmdfmdaaGreat
namespace Go.Proofs.YtkgenianmdfmdaaGreat
open Go.TQ
theorem ab3{n:Nat}(h:n<1000000):FQ .u64 (n:Int)=n:=by
 unfold FQ IntKind.wrap;simp[IntKind.signed,IntKind.bits];omega
def vE(b p:ae)(j:Nat)(t:an):ai:=⟨j,1,1,t,1,b,p,⟨0,ByteArray.mk #[]⟩,0,0⟩
structure Rs (b:ae):Prop where
 lo:1<=b.aj
 hi:b.aj<=6
 val:KG b.Value
theorem Rs.valid{b:ae}(h:Rs b):ct b=true:=DL h.lo (by have:=h.hi;omega) h.val
theorem Rs.nz{b:ae}(h:Rs b):aD b=false:=JI h.lo
theorem xV{l:List ai}(h:∀e∈l,aO e=true):bL l=l:=List.filter_eq_self.2 h
end Go.Proofs.YtkgenianmdfmdaaGreat
namespace Go.Proofs.YtkgenianmdfmdaaGreat
open Go.TQ
theorem yF:∀(l:List ai) (ms:List bh) (k:Nat) (m:bh),ms[k]?=some m->
  (l.foldl cF ms)[k]?=some (if m.dx then m else match(bL l).find? (fun e=>decide (e.au.toNat=k))with|some e=>⟨true,e.ab⟩|none=>m)
 |[],ms,k,m,h=>by simp[bL,h]
 |e::l,ms,k,m,h=>by
  rw[QU]
  by_cases hv:aO e=true
  ·have hr:bL (e::l)=e::bL l:=by simp[bL,hv]
   rw[hr,List.find?_cons]
   by_cases hk:e.au.toNat=k
   ·have hstep:(cF ms e)[k]?=some (if m.dx then m else⟨true,e.ab⟩):=by
     unfold cF;rw[hv,hk,h]
     cases hm:m.dx with
     |true=>simp[hm,h]
     |false=>
      have hlt:k<ms.length:=(Qw.1 h).1;simp[hm,hlt]
    rw[yF l _ k _ hstep]
    cases hm:m.dx with
    |true=>simp[hm]
    |false=>simp[hk]
   ·have hstep:(cF ms e)[k]?=some m:=by
     unfold cF;split
     ·rw[List.getElem?_set_ne hk];exact h
     ·exact h
    rw[yF l _ k m hstep];simp[hk]
  ·have hv':aO e=false:=by simpa using hv
   have hr:bL (e::l)=bL l:=by simp[bL,hv']
   have hstep:cF ms e=ms:=by simp[cF,hv']
   rw[hr,hstep];exact yF l ms k m h
theorem UQ{ay:Nat}{t:an}{l:List ai}{k:Nat}(hk:k<10)(hn:ay<10):
  (eW ay t l)[k]?=some (if k=ay then⟨true,t⟩else match(bL l).find? (fun e=>decide (e.au.toNat=k))with|some e=>⟨true,e.ab⟩|none=>fo):=by
 unfold eW
 by_cases h:k=ay
 ·subst h;rw[yF l _ k ⟨true,t⟩ (by simp[hk])]
  simp
 ·rw[yF l _ k fo (by
   rw[List.getElem?_set_ne (fun e=>h e.symm),List.getElem?_replicate,Qr hk])]
  simp[h,fo]
theorem MP{l:List bh}{k:Nat}{m:bh}(hk:k<10)(h:l[k]?=some m)(hd:m.dx=true):lD l k=true:=by
 rw[lD,E6,h];simp[hk,hd]
theorem UP{ay:Nat}(hn:ay<10){t:an}{l:List ai}(T:Nat->an)(ht:T ay=t)(hT:∀e∈bL l,e.ab=T e.au.toNat){k:Nat}(hk:k<10)(hs:k=ay\/∃e∈bL l,e.au.toNat=k):
  lD (eW ay t l) k=true/\jU (eW ay t l) k=T k:=by
 have hg:=UQ (t:=t) (l:=l) hk hn
 by_cases h:k=ay
 ·rw[Qr h]at hg;exact⟨MP hk hg rfl,by rw[pU hg,h,ht]⟩
 ·rw[Qs h]at hg;obtain⟨e,he,hek⟩:=hs.resolve_left h
  cases hf:(bL l).find? (fun e=>decide (e.au.toNat=k))with
  |none=>
   have:=List.find?_eq_none.1 hf e he;simp[hek]at this
  |some e'=>
   rw[hf]at hg;have h1:=List.mem_of_find?_eq_some hf;have h2:=List.find?_some hf;simp only[Qi]at h2;exact⟨MP hk hg rfl,by rw[pU hg,<-h2];exact hT e' h1⟩
def B0(b p:ae)(ts:List an)(q n:Nat)(l:List ai):Prop:=
 l.length<=n/\(∀e∈l,∃i t,i<n/\q.testBit i=true/\ts[i]?=some t/\e=vE b p i t)/\∀i t,i<n->q.testBit i=true->ts[i]?=some t->vE b p i t∈l
theorem B0.nil(b p:ae)(ts:List an)(q:Nat):B0 b p ts q 0 []:=⟨by simp,by simp,fun i t h=>by omega⟩
theorem B0.take{b p:ae}{ts:List an}{q n:Nat}{l:List ai}(h:B0 b p ts q n l)(hq:q.testBit n=true){t:an}(ht:ts[n]?=some t):B0 b p ts q (n+1) (l++[vE b p n t]):=by
 obtain⟨h1,h2,h3⟩:=h;refine⟨by simp;omega,fun e he=> ?_,fun i t' hi hb ht'=> ?_⟩
 ·rcases Qz.1 he with he|he
  ·obtain⟨i,t,a,b,c⟩:=h2 e he;exact⟨i,t,by omega,b,c⟩
  ·simp only[List.mem_singleton]at he;exact⟨n,t,by omega,hq,ht,he⟩
 ·rcases Nat.lt_or_ge i n with h|h
  ·exact Qz.2 (.inl (h3 i t' h hb ht'))
  ·obtain rfl:i=n:=by omega
   rw[ht]at ht';injection ht' with ht'
   subst ht';exact Qz.2 (.inr (by simp))
section
variable {b p : ae} (hb : Rs b) (hp : aD p = true \/ ct p = true) {ts : List an} (hts : ∀ t ∈ ts, gL t) {q : Nat} {l : List ai} (hlen : ts.length <= 5) (hc : B0 b p ts q ts.length l)
 include hb hp hts hlen hc
end
end Go.Proofs.YtkgenianmdfmdaaGreat
namespace Go.Proofs.YtkgenianmdfmdaaGreat
open Go.TQ
section
variable {α : Type}
structure SWO (lt:α->α->Bool):Prop where
 asymm:∀x y,lt x y=true->lt y x=false
 trans:∀x y z,lt y x=false->lt z y=false->lt z x=false
end
end Go.Proofs.YtkgenianmdfmdaaGreat
namespace Go.Proofs.YtkgenianmdfmdaaGreat
open Go.TQ
section
variable {α : Type}
 def PZ(eq ne:α->α->Bool)(z:α)(K:Int)(n:Nat)(v6:Int×Int×(List α)×Unit):Option ((Int×Int×(List α)×Unit)⊕((Int×(List α)×Unit)⊕List α)):=
 bif (decide (v6.2.1<((List.length ((v6.2.2.1.drop (Int.toNat K)).take (Int.toNat (n:Int) - Int.toNat K)):Nat):Int)))then
 bm (fun(v7:Int×(List α)×Unit)=>
 some (Sum.inl (v7.1,(aG .i64 v6.2.1 (1:Int)),v7.2.1,()))) fun j8=>
 Option.bind (idx ((v6.2.2.1.drop (Int.toNat K)).take (Int.toNat (n:Int) - Int.toNat K)) v6.2.1) fun x9=>
 Option.bind (v6.2.2.1[((Int.toNat K)+Int.toNat v6.2.1)]?) fun x10=>
 Option.bind (idx ((v6.2.2.1.drop (Int.toNat K)).take (Int.toNat (n:Int) - Int.toNat K)) (dK .i64 v6.2.1 (1:Int))) fun x11=>
 Option.bind (v6.2.2.1[((Int.toNat K)+Int.toNat (dK .i64 v6.2.1 (1:Int)))]?) fun x12=>
 bif (ne x10 x12)then
 Option.bind (idx ((v6.2.2.1.drop (Int.toNat K)).take (Int.toNat (n:Int) - Int.toNat K)) v6.2.1) fun x13=>
 Option.bind (v6.2.2.1[((Int.toNat K)+Int.toNat v6.2.1)]?) fun x14=>
 Option.bind (idx v6.2.2.1 v6.1) fun x15=>
 Option.bind (v6.2.2.1[(Int.toNat v6.1)]?) fun x16=>
 j8 ((aG .i64 v6.1 (1:Int)),(v6.2.2.1.set (Int.toNat v6.1) x14),())
 else
 j8 (v6.1,v6.2.2.1,())
 else
 Option.map Sum.inr (bif cr v6.1 ((List.length v6.2.2.1):Int) (List.length v6.2.2.1)then
 bif cr (0:Int) v6.1 (List.length (v6.2.2.1.take (Int.toNat v6.1)++List.replicate (Int.toNat ((List.length v6.2.2.1):Int) - Int.toNat v6.1) z++v6.2.2.1.drop ((Int.toNat v6.1)+(Int.toNat ((List.length v6.2.2.1):Int) - Int.toNat v6.1))))then
 Option.map Sum.inr (some ((v6.2.2.1.take (Int.toNat v6.1)++List.replicate (Int.toNat ((List.length v6.2.2.1):Int) - Int.toNat v6.1) z++v6.2.2.1.drop ((Int.toNat v6.1)+(Int.toNat ((List.length v6.2.2.1):Int) - Int.toNat v6.1))).take (Int.toNat v6.1 - Int.toNat (0:Int))))
 else none
 else none)
 def Ko(eq ne:α->α->Bool)(z:α)(v1:Int×(List α)×Unit):Option ((Int×(List α)×Unit)⊕List α):=
 bif (decide (v1.1<((List.length v1.2.1:Nat):Int)))then
 Option.bind (idx v1.2.1 v1.1) fun x2=>
 Option.bind (v1.2.1[(Int.toNat v1.1)]?) fun x3=>
 Option.bind (idx v1.2.1 (dK .i64 v1.1 (1:Int))) fun x4=>
 Option.bind (v1.2.1[(Int.toNat (dK .i64 v1.1 (1:Int)))]?) fun x5=>
 bif (eq x3 x5)then
 bif cr v1.1 ((List.length v1.2.1):Int) (List.length v1.2.1)then
 aI (PZ eq ne z v1.1 (List.length v1.2.1)) (v1.1,(1:Int),v1.2.1,())
 else none
 else
 some (Sum.inl ((aG .i64 v1.1 (1:Int)),v1.2.1,()))
 else
 Option.map Sum.inr (some v1.2.1)
 def Ic(eq ne:α->α->Bool)(z:α)(s:List α):Option (List α):=
 bif (decide (((List.length s:Nat):Int)<(2:Int)))then
 some s
 else
 aI (Ko eq ne z) ((1:Int),s,())
theorem Of(d:List α){K n m:Nat}(hm:m<n - K):idx ((d.drop K).take (n - K)) (m:Int)=d[K+m]?:=by
 rw[bC,List.getElem?_take,Qr hm,List.getElem?_drop]
variable [DecidableEq α]
def oE(acc:List α)(x:α):List α:=if acc.getLast?=some x then acc else acc++[x]
def dd(l:List α):List α:=l.foldl oE []
theorem SZ(l:List α)(x:α):dd (l++[x])=oE (dd l) x:=by simp[dd,List.foldl_append]
theorem ZM(l:List α):(dd l).getLast?=l.getLast?:=by
 suffices h:∀r:List α,(dd r.reverse).getLast?=r.reverse.getLast? by
  have:=h l.reverse
  rwa [List.reverse_reverse]at this
 intro r
 induction r with
 |nil=>rfl
 |cons x r ih=>
  rw[List.reverse_cons,SZ,oE];split
  ·rename_i h;rw[h];simp
  ·simp
theorem SY{s:List α}{k:Nat}{x:α}(h:s[k]?=some x):dd (s.take (k+1))=oE (dd (s.take k)) x:=by
 obtain⟨hl,hx⟩:=Qw.1 h;rw[List.take_succ_eq_append_getElem hl,hx,SZ]
theorem MO{s:List α}{k:Nat}{x:α}(h:s[k]?=some x):(dd (s.take (k+1))).getLast?=some x:=by
 obtain⟨hl,hx⟩:=Qw.1 h;rw[ZM,List.take_succ_eq_append_getElem hl,hx];simp
variable {eq ne : α -> α -> Bool} {z : α}
theorem Im(hne:∀x y,ne x y= !decide (x=y)){s:List α}{K:Nat}(hn:s.length<1000000000):∀(r i k2:Nat) (d:List α),k2+r=s.length - K->1<=k2->i<=K+k2 - 1->d.length=s.length->d.take i=dd (s.take (K+k2))->(∀j,K+k2 - 1<=j->d[j]?=s[j]?)->
  aI (PZ eq ne z (K:Int) s.length) ((i:Int),(k2:Int),d,())=some (.inr (dd s))
 |0,i,k2,d,hr,h1,hi,hd,ht,hs=>by
  have hKn:K+k2=s.length:=by omega
  refine bX ?_;have e1:(((d.drop K).take (s.length - K)).length)=s.length - K:=by simp;omega
  have e2:decide ((k2:Int)<((s.length - K:Nat):Int))=false:=Qh (by omega)
  have e3:∀n,cr (i:Int) (d.length:Int) n=decide (d.length<=n):=by
   intro n;have:i<=d.length:=by omega
   simp only[cr];have h1:decide ((0:Int)<=(i:Int))=true:=Qg (by omega)
   have h2:decide ((i:Int)<=(d.length:Int))=true:=Qg (by omega)
   rw[h1,h2,Bool.and_self,Bool.true_and,decide_eq_decide];omega
  have e4:(d.take i++List.replicate (d.length - i) z++d.drop (i+(d.length - i))).length=d.length:=by simp;omega
  have e5:cr (0:Int) (i:Int) d.length=true:=by
   simp only[cr,Qm,Qi];omega
  have e6:(d.take i++List.replicate (d.length - i) z++d.drop (i+(d.length - i))).take (i - 0)=dd s:=by
   rw[Nat.sub_zero,QL,List.take_append_of_le_length (by simp;omega),List.take_take,Nat.min_self,ht,hKn,List.take_length]
  simp only[PZ,QV,e1,e2,Ql,e3,QI,decide_true,Qk,e4,e5,Int.toNat_zero,e6,Qe]
 |r+1,i,k2,d,hr,h1,hi,hd,ht,hs=>by
  have hKn:K+k2<s.length:=by omega
  obtain⟨x,hx⟩:∃x,s[K+k2]?=some x:=⟨_,Qv hKn⟩;obtain⟨y,hy⟩:∃y,s[K+(k2 - 1)]?=some y:=⟨_,Qv (by omega)⟩
  have e1:(((d.drop K).take (s.length - K)).length)=s.length - K:=by simp;omega
  have e2:decide ((k2:Int)<((s.length - K:Nat):Int))=true:=Qg (by omega)
  have e3:dK .i64 (k2:Int) 1=((k2 - 1:Nat):Int):=by rw[tu (by omega) (by omega)];omega
  have e4:aG .i64 (k2:Int) 1=((k2+1:Nat):Int):=bP (by omega) (by omega)
  have e5:aG .i64 (i:Int) 1=((i+1:Nat):Int):=bP (by omega) (by omega)
  have hdx:d[K+k2]?=some x:=by rw[hs _ (by omega),hx]
  have hdy:d[K+(k2 - 1)]?=some y:=by rw[hs _ (by omega),hy]
  have hv1:=Of d (K:=K) (n:=s.length) (m:=k2) (by omega)
  have hv2:=Of d (K:=K) (n:=s.length) (m:=k2 - 1) (by omega)
  obtain⟨w,hw⟩:∃w,d[i]?=some w:=⟨_,Qv (by omega)⟩
  have hstep:=SY hx
  have hlast:(dd (s.take (K+k2))).getLast?=some y:=by
   have:=MO hy
   rwa [show K+(k2 - 1)+1=K+k2 by omega]at this
  rw[oE,hlast]at hstep;have hil:i<d.length:=by omega
  by_cases hxy:x=y
  ·refine Eq.trans (bn (s':=((i:Int),((k2+1:Nat):Int),d,())) ?_) (Im hne hn r i (k2+1) d (by omega) (by omega) (by omega) hd ?_ fun j hj=>hs j (by omega))
   ·simp only[PZ,QV,e1,e2,Qk,ba,hv1,hdx,Qa,e3,hv2,hdy,hne,hxy,decide_true,Qo,Ql,e4]
   ·rw[show K+(k2+1)=K+k2+1 by omega,hstep,Qr (by rw[hxy]),ht]
  ·refine Eq.trans (bn (s':=(((i+1:Nat):Int),((k2+1:Nat):Int),d.set i x,())) ?_) (Im hne hn r (i+1) (k2+1) (d.set i x) (by omega) (by omega) (by omega) (by rw[QY];exact hd) ?_ fun j hj=> ?_)
   ·simp only[PZ,QV,e1,e2,Qk,ba,hv1,hdx,Qa,e3,hv2,hdy,hne,hxy,decide_false,Qp,e4,e5,bC,hw]
   ·rw[show K+(k2+1)=K+k2+1 by omega,hstep,Qs (fun e=>hxy (by injection e with e;exact e.symm)),<-ht,List.take_succ_eq_append_getElem (by rw[QY];exact hil)]
    congr 1
    ·rw[List.take_set_of_le (QI _)]
    ·simp
   ·rw[List.getElem?_set,Qs (by omega)]
    exact hs j (by omega)
theorem PY(heq:∀x y,eq x y=decide (x=y))(hne:∀x y,ne x y= !decide (x=y)){s:List α}(hn:s.length<1000000000):∀(r k:Nat),k+r=s.length->1<=k->dd (s.take k)=s.take k->aI (Ko eq ne z) ((k:Int),s,())=some (dd s)
 |0,k,hr,h1,h=>by
  refine bX ?_;have hk:k=s.length:=by omega
  have e2:decide ((k:Int)<((s.length:Nat):Int))=false:=Qh (by omega)
  rw[hk,List.take_length]at h;simp only[Ko,e2,Ql,Qe,h]
 |r+1,k,hr,h1,h=>by
  have hk:k<s.length:=by omega
  obtain⟨x,hx⟩:∃x,s[k]?=some x:=⟨_,Qv hk⟩;obtain⟨y,hy⟩:∃y,s[k - 1]?=some y:=⟨_,Qv (by omega)⟩
  have e2:decide ((k:Int)<((s.length:Nat):Int))=true:=Qg (by omega)
  have e3:dK .i64 (k:Int) 1=((k - 1:Nat):Int):=by rw[tu (by omega) (by omega)];omega
  have e4:aG .i64 (k:Int) 1=((k+1:Nat):Int):=bP (by omega) (by omega)
  have hstep:=SY hx
  have hlast:(dd (s.take k)).getLast?=some y:=by
   have:=MO hy
   rwa [show k - 1+1=k by omega]at this
  rw[oE,hlast]at hstep
  by_cases hxy:x=y
  ·rw[Qr (by rw[hxy])]at hstep
   have e5:cr (k:Int) (s.length:Int) s.length=true:=by
    simp only[cr,Qm,Qi];omega
   have hin:=Im (eq:=eq) (z:=z) (K:=k) hne hn (s.length - k - 1) k 1 s (by omega) (by omega) (by omega) rfl (by rw[hstep,h]) (fun _ _=>rfl)
   refine bX ?_;simp only[Ko,e2,Qk,bC,QV,hx,hy,e3,Qa,heq,hxy,decide_true,e5];exact hin
  ·rw[Qs (fun e=>hxy (by injection e with e;exact e.symm))]at hstep
   refine Eq.trans (bn (s':=(((k+1:Nat):Int),s,())) ?_) (PY heq hne hn r (k+1) (by omega) (by omega) ?_)
   ·simp only[Ko,e2,Qk,bC,QV,hx,hy,e3,Qa,heq,hxy,decide_false,Ql,e4]
   ·obtain⟨hl,hx'⟩:=Qw.1 hx;rw[hstep,h,List.take_succ_eq_append_getElem hl,hx']
theorem C3(heq:∀x y,eq x y=decide (x=y))(hne:∀x y,ne x y= !decide (x=y))(s:List α)(hn:s.length<1000000000):Ic eq ne z s=some (dd s):=by
 unfold Ic
 by_cases h:s.length<2
 ·have e:decide (((s.length:Nat):Int)<2)=true:=Qg (by omega)
  rw[e,Qk]
  match s,h with
  |[],_=>rfl
  |[x],_=>rfl
 ·have e:decide (((s.length:Nat):Int)<2)=false:=Qh (by omega)
  rw[e,Ql];refine PY heq hne hn (s.length - 1) 1 (by omega) (by omega) ?_
  cases s with
  |nil=>rfl
  |cons x l=>rfl
theorem Up(acc:List α)(x:α):∀y,y∈oE acc x↔y∈acc\/y=x:=by
 intro y;unfold oE;split
 ·rename_i h;have:=List.mem_of_getLast? h;exact⟨.inl,fun h'=>h'.elim id fun e=>e▸this⟩
 ·simp
theorem EF:∀(l acc:List α) (y:α),y∈l.foldl oE acc↔y∈acc\/y∈l
 |[],acc,y=>by simp
 |x::l,acc,y=>by
  rw[QU,EF l,Up];simp[or_assoc]
theorem aaA(l:List α)(y:α):y∈dd l↔y∈l:=by rw[dd,EF];simp
theorem PW(l:List α):(dd l).length<=l.length:=by
 suffices h:∀(l acc:List α),(l.foldl oE acc).length<=acc.length+l.length by simpa[dd]using h l []
 intro l
 induction l with
 |nil=>intro acc;simp
 |cons x l ih=>
  intro acc;rw[QU];refine QK (ih _) ?_;unfold oE;split<;>simp<;>omega
theorem VM{lt:α->α->Bool}(ho:SWO lt)(hto:∀x y,lt x y=false->lt y x=false->x=y){l:List α}(hl:l.Pairwise (fun a b=>lt b a=false)):(dd l).Pairwise (fun a b=>lt a b=true):=by
 suffices h:∀(l acc:List α),(acc++l).Pairwise (fun a b=>lt b a=false)->acc.Pairwise (fun a b=>lt a b=true)->(l.foldl oE acc).Pairwise (fun a b=>lt a b=true)from h l [] (by simpa using hl) .nil
 intro l
 induction l with
 |nil=>intro acc _ h;exact h
 |cons x l ih=>
  intro acc h1 h2;rw[QU];unfold oE;split
  ·rename_i hlast;refine ih acc ?_ h2;rw[List.pairwise_append]at h1 ⊢;exact⟨h1.1,(Q4.1 h1.2.1).2,fun a ha b hb=>h1.2.2 a ha b (by simp[hb])⟩
  ·rename_i hlast;refine ih _ (by simpa using h1) ?_
   rw[List.pairwise_append]at h1 ⊢;refine⟨h2,by simp,fun a ha b hb=> ?_⟩
   rw[List.mem_singleton.1 hb];have hax:lt x a=false:=h1.2.2 a ha x (by simp)
   cases hc:lt a x with
   |true=>rfl
   |false=>
    exfalso;have e:=hto a x hc hax;subst e
    obtain⟨y,hy⟩:∃y,acc.getLast?=some y:=by
     cases hg:acc.getLast? with
     |none=>rw[List.getLast?_eq_none_iff.1 hg]at ha;cases ha
     |some y=>exact⟨y,rfl⟩
    obtain⟨pre,rfl⟩:∃pre,acc=pre++[y]:=by
     have:=List.getLast?_eq_some_iff.1 hy;exact this
    rcases Qz.1 ha with ha|ha
    ·rw[List.pairwise_append]at h2;have h3:=h2.2.2 a ha y (by simp)
     have h4:=h1.2.2 y (by simp) a (by simp)
     rw[h3]at h4;cases h4
    ·rw[List.mem_singleton.1 ha]at hlast;exact hlast hy
end
end Go.Proofs.YtkgenianmdfmdaaGreat
namespace Go.Proofs.YtkgenianmdfmdaaGreat
open Go.TQ
theorem Xx(s:List Int):mB s=Ic (fun x y=>decide (x=y)) (fun x y=> !decide (x=y)) 0 s:=rfl
 def gB(v:ByteArray)(e:ai):Bool:=aO e&&decide (e.aa.Value=v)&& !decide (e.aF=0)
 def ends(v:ByteArray)(l:List ai):List Int:=l.flatMap fun e=>if gB v e then[e.aF,e.aM]else[]
theorem qT{v:ByteArray}{l:List ai}{x:Int}:x∈ends v l↔∃e∈l,gB v e=true/\(x=e.aF\/x=e.aM):=by
 simp only[ends,QQ];constructor
 ·rintro⟨e,he,hx⟩;split at hx
  ·rename_i h;exact⟨e,he,h,by simpa using hx⟩
  ·cases hx
 ·rintro⟨e,he,h,hx⟩;exact⟨e,he,by rw[Qr h];simpa using hx⟩
end Go.Proofs.YtkgenianmdfmdaaGreat
namespace Go.Proofs.YtkgenianmdfmdaaGreat
open Go.TQ
theorem Fk{v:bp}{ay:Int}{l:List ai}(hl:l.length<=1000000)(hin:qb l)(val:ByteArray)(lo hi:Int):im ⟨ay,v,l.map bu.mk⟩ val lo hi=some ((cW (dj · val lo hi) l:Nat):Int):=by
 unfold im;refine B3 (dj · val lo hi) l hin _ (fun i e s he=> ?_) (fun s=> ?_)
 ·have hlt:i<l.length:=(Qw.1 he).1;have hd:decide ((i:Int)<(((l.map bu.mk).length:Nat):Int))=true:=Qg (by rw[QC];omega)
  have hw:aG .i64 (i:Int) 1=((i+1:Nat):Int):=bP (by omega) (by omega)
  have hx:idx (l.map bu.mk) (i:Int)=some ⟨e⟩:=by rw[bC,QT,he];rfl
  simp only[hd,hx,hw,Qk,Qa,an.eta,ai.eta,kS,rF,ba];cases dj e val lo hi<;>simp
 ·have hd:decide (((l.length:Nat):Int)<(((l.map bu.mk).length:Nat):Int))=false:=Qh (by rw[QC];exact Int.lt_irrefl _)
  simp only[hd,Ql,Qe]
theorem R8{v:bp}{ay:Int}{l:List ai}(hl:l.length<=1000000)(hin:qb l)(val:ByteArray)(lo hi:Int):fP ⟨ay,v,l.map bu.mk⟩ val lo hi val lo hi=some ((cW (fun e=>ke e val lo hi||dj e val lo hi) l:Nat):Int):=by
 unfold fP;refine B3 (fun e=>ke e val lo hi||dj e val lo hi) l hin _ (fun i e s he=> ?_) (fun s=> ?_)
 ·have hlt:i<l.length:=(Qw.1 he).1;have hd:decide ((i:Int)<(((l.map bu.mk).length:Nat):Int))=true:=Qg (by rw[QC];omega)
  have hw:aG .i64 (i:Int) 1=((i+1:Nat):Int):=bP (by omega) (by omega)
  have hx:idx (l.map bu.mk) (i:Int)=some ⟨e⟩:=by rw[bC,QT,he];rfl
  simp only[hd,hx,hw,Qk,Qa,an.eta,ai.eta,iz,kS,uu,rF,A2,ba,ji,Bool.cond_true_left];cases (ke e val lo hi||dj e val lo hi)<;>simp
 ·have hd:decide (((l.length:Nat):Int)<(((l.map bu.mk).length:Nat):Int))=false:=Qh (by rw[QC];exact Int.lt_irrefl _)
  simp only[hd,Ql,Qe]
 def DT(ay:Nat)(t:an)(l:List ai):fO:=⟨ay,⟨eW ay t l⟩,(bL l).map bu.mk⟩
 def jt(ay:Nat)(t:an)(l:List ai)(val:ByteArray)(lo hi:Int):Bool:=
 jL (eW ay t l) ay (cW (fun e=>ke e val lo hi||dj e val lo hi) (bL l)) (cW (dj · val lo hi) (bL l))
 def pr(ay:Nat)(t:an)(l:List ai)(val:ByteArray)(lo hi:Int):Bool:=
 (gq (eW ay t l) (cW (dj · val lo hi) (bL l))).testBit ay
section
variable {ay : Nat} (hn : ay < 10) {t : an} (ht : dR t) {l : List ai} (hl : oF l)
 include hn ht hl
theorem ON(val:ByteArray)(lo hi:Int):gw (DT ay t l) val lo hi=some (jt ay t l val lo hi):=by
 have hlen:=hl.len;have hrl:=xU l;have hin:=iH l
 simp only[DT,gw,mG,jk,Qa,R8 (by omega:(bL l).length<=1000000) hin,Fk (by omega:(bL l).length<=1000000) hin,
  Dm (jG ht hl) hn (fZ hin) (fZ hin),jt]
theorem YE(val:ByteArray)(lo hi:Int):lz (DT ay t l) val lo hi=some (pr ay t l val lo hi):=by
 have hlen:=hl.len;have hrl:=xU l;have hin:=iH l;simp only[DT,lz,mG,kr,Qa,Fk (by omega:(bL l).length<=1000000) hin,BK (jG ht hl) hn (fZ hin),pr]
theorem look_eq:fc ay t l=some (DT ay t l):=LY hn ht hl
end
def bH(q:Int->Bool):List Int->Int->Int
 |[],lo=>lo
 |e::l,lo=>if lo<=e then bH q l lo else if q e then bH q l e else lo
theorem yC{p:Int->Option Bool}{q:Int->Bool}(h:∀e,p e=some (q e)):∀(l:List Int) (lo:Int),kX (fun(m5:Nat) (e6:Int) (v4:Int×Unit)=>
  bif (decide (v4.1<=e6))then some (Sum.inl (v4.1,()))else
  Option.bind (p e6) fun r7=>bif (!r7)then Option.map Sum.inr (some v4.1)else some (Sum.inl (e6,()))) (fun v8=>some v8.1) l (lo,())=some (bH q l lo)
 |[],lo=>rfl
 |e::l,lo=>by
  rw[kX,bH]
  by_cases hle:lo<=e
  ·rw[Qr hle];simp only[hle,decide_true,Qk];exact yC h l lo
  ·rw[Qs hle];simp only[hle,decide_false,Ql,h,Qa]
   cases hq:q e with
   |true=>
    simp only[Qo,Ql,Qt];have:=yC h l e;simp only[h,Qa]at this;exact this
   |false=>rfl
def flat(n:Nat)(k:Int):an:=⟨k,sU n,[]⟩
theorem Ho(s n:Nat)(k:Int):jA s (flat n k)=decide (k<=(((sU n).countP (jZ s):Nat):Int)):=by
 rw[Fw];simp[flat,tO]
theorem Ur{s s':Nat}(h:∀k,s.testBit k=true->s'.testBit k=true)(l:List Int):l.countP (jZ s)<=l.countP (jZ s'):=List.countP_mono_left fun x _ hx=>MU h x hx
structure Dd (n:Nat) (k:Int) (l:List ai):Prop where
 n10:n<=10
 k1:1<=k
 kn:k<=n
 valid:∀e∈l,aO e=true
 aR:∀e∈l,e.ab=flat n k
 few:l.length<=1000
 all:∀i,i<n->∃e∈l,e.au.toNat=i
theorem Dd.fS{n:Nat}{k:Int}{l:List ai}(h:Dd n k l):gL (flat n k):=Af n h.n10 k h.k1 h.kn
theorem Dd.sm{n:Nat}{k:Int}{l:List ai}(h:Dd n k l):oF l:=⟨by have:=h.few;omega,fun e he=>by rw[h.aR e he];exact h.fS.sm⟩
theorem Dd.bL{n:Nat}{k:Int}{l:List ai}(h:Dd n k l):Go.Proofs.YtkgenianmdfmdaaGreat.bL l=l:=xV h.valid
def cE(n:Nat)(k:Int)(c:Int)(v:ByteArray)(lo hi:Nat->Int)(i:Nat):ai:=⟨i,1,1,flat n k,2,⟨c,v⟩,⟨c,v⟩,⟨0,ByteArray.mk #[]⟩,lo i,hi i⟩
end Go.Proofs.YtkgenianmdfmdaaGreat
namespace Go.Proofs.YtkgenianmdfmdaaGreat
open Go.TQ
def tj(b:List Int)(sure:Int->Int->Bool):Int×Int×Bool×Unit:=
 match b.reverse.find? (fun e=>sure e e)with
 |some e=>(bH (fun x=>sure x e) b.reverse e,e,true,())
 |none=>(0,0,false,())
theorem SP{p:Int->Option Bool}{q:Int->Bool}{d:Int->Option Int}{f:Int->Int}(hp:∀e,p e=some (q e))(hd:∀e,d e=some (f e)):∀r:List Int,kX (fun(m5:Nat) (e6:Int) (v4:Int×Int×Bool×Unit)=>
  Option.bind (p e6) fun r7=>bif r7 then Option.bind (d e6) fun r8=>Option.map Sum.inr (some (r8,e6,true,()))else some (Sum.inl (v4.1,v4.2.1,v4.2.2.1,()))) (fun(v9:Int×Int×Bool×Unit)=>some ((0:Int),(0:Int),false,())) r ((0:Int),(0:Int),false,())=
  some (match r.find? q with|some e=>(f e,e,true,())|none=>(0,0,false,()))
 |[]=>rfl
 |e::r=>by
  have ih:=SP hp hd r;rw[kX,List.find?_cons];simp only[hp,hd,Qa,Qe]at ih ⊢
  cases q e with
  |true=>rfl
  |false=>simp only[Ql];exact ih
section
variable {ay : Nat} (hn : ay < 10) {t : an} (ht : dR t) {l : List ai} (hl : oF l)
 include hn ht hl
end
section
variable {n : Nat} {k c : Int} {v : ByteArray} {lo hi : Nat -> Int} (h : Dd n k ((List.range n).map (cE n k c v lo hi))) {i : Nat} (hi' : i < n)
 include h hi'
end
end Go.Proofs.YtkgenianmdfmdaaGreat
namespace Go.Proofs.YtkgenianmdfmdaaGreat
open Go.TQ
section
variable {α : Type}
structure tq (lt:α->α->Bool):Prop where
 irrefl:∀x,lt x x=false
 trans:∀x y z,lt x y=true->lt y z=true->lt x z=true
 total:∀x y,lt x y=false->lt y x=false->x=y
variable {lt : α -> α -> Bool}
theorem tq.asymm(h:tq lt){x y:α}(hxy:lt x y=true):lt y x=false:=by
 cases hc:lt y x with
 |false=>rfl
 |true=>have:=h.trans x y x hxy hc;rw[h.irrefl]at this;cases this
theorem tq.ntrans(h:tq lt){x y z:α}(h1:lt x y=false)(h2:lt y z=false):lt x z=false:=by
 cases hc:lt x z with
 |false=>rfl
 |true=>
  cases hyx:lt y x with
  |false=>rw[h.total x y h1 hyx,h2]at hc;cases hc
  |true=>have:=h.trans y x z hyx hc;rw[h2]at this;cases this
theorem tq.kit(h:tq lt):Go.Sort.SWO lt:=⟨h.irrefl,h.trans,fun _ _ _=>h.ntrans⟩
theorem tq.own(h:tq lt):SWO lt:=⟨fun _ _=>h.asymm,fun _ _ _ h1 h2=>h.ntrans h2 h1⟩
theorem tq.flip(h:tq lt):tq fun a b=>lt b a:=⟨h.irrefl,fun x y z h1 h2=>h.trans z y x h2 h1,fun x y h1 h2=>h.total x y h2 h1⟩
theorem tq.unique(h:tq lt):∀{a b:List α},a.Pairwise (fun x y=>lt x y=true)->b.Pairwise (fun x y=>lt x y=true)->(∀x,x∈a↔x∈b)->a=b
 |[],[],_,_,_=>rfl
 |[],y::b,_,_,h'=>by have:=(h' y).2 (by simp);cases this
 |x::a,[],_,_,h'=>by have:=(h' x).1 (by simp);cases this
 |x::a,y::b,ha,hb,h'=>by
  rw[Q4]at ha hb
  have hxy:x=y:=by
   have h1:=(h' x).1 (by simp)
   have h2:=(h' y).2 (by simp)
   rcases QA.1 h1 with h1|h1
   ·exact h1
   ·rcases QA.1 h2 with h2|h2
    ·exact h2.symm
    ·have q1:=ha.1 y h2;have q2:=hb.1 x h1;rw[h.asymm q1]at q2;cases q2
  subst hxy;congr 1;refine h.unique ha.2 hb.2 fun z=>⟨fun hz=> ?_,fun hz=> ?_⟩
  ·rcases QA.1 ((h' z).1 (by simp[hz]))with e|e
   ·subst e;have:=ha.1 z hz;rw[h.irrefl]at this;cases this
   ·exact e
  ·rcases QA.1 ((h' z).2 (by simp[hz]))with e|e
   ·subst e;have:=hb.1 z hz;rw[h.irrefl]at this;cases this
   ·exact e
theorem tq.Wt[DecidableEq α](h:tq lt){cmp:α->α->Option Int}{c:α->α->Int}(hc:∀x y,cmp x y=some (c x y))(hlt:∀x y,decide (c x y<0)=lt x y)(s:List α)(hs:s.length<1000000000):
  ∃t,yH cmp s=some ((),t)/\t.length=s.length/\(dd t).Pairwise (fun x y=>lt x y=true)/\∀x,x∈dd t↔x∈s:=by
 have hcf:Fc cmp=c:=funext fun x=>funext fun y=>by unfold Fc;rw[hc];rfl
 have hl:Go.Proofs.ltOf (Fc cmp)=lt:=by
  rw[hcf];exact funext fun x=>funext fun y=>hlt x y
 have hok:Yv cmp:=⟨fun x y=>by rw[hcf];exact hc x y,by rw[hl];exact h.kit,fun x y h1 h2=>by rw[hl]at h1 h2;exact h.total x y h1 h2⟩
 refine⟨s.mergeSort fun x y=> !lt y x,?_,List.length_mergeSort s,VM h.own h.total ?_,fun x=>by rw[aaA,List.mem_mergeSort]⟩
 ·unfold yH;rw[Qr ⟨hok,by omega⟩,hl]
 ·refine(List.pairwise_mergeSort (le:=fun x y=> !lt y x) (fun a b c h1 h2=> ?_) (fun a b=> ?_) s).imp fun{a b} hab=>by simpa using hab
  ·simp only[Bool.not_eq_true']at h1 h2 ⊢;exact h.ntrans h2 h1
  ·cases hab:lt a b with
   |false=>simp
   |true=>rw[h.asymm hab];rfl
end
theorem yn:tq fun a b:Int=>decide (a<b):=
 ⟨fun x=>Qh (Int.lt_irrefl x),fun x y z h1 h2=>by simp only[Qi]at*;omega,fun x y h1 h2=>by simp only[Qj]at*;omega⟩
theorem Q9:∀{x y z:List UInt8},Op.bytesLess x y=true->Op.bytesLess y z=true->Op.bytesLess x z=true
 |[],[],_,h,_=>by simp[Op.bytesLess]at h
 |_::_,[],_,h,_=>by simp[Op.bytesLess]at h
 |[],_::_,[],_,h=>by simp[Op.bytesLess]at h
 |[],_::_,_::_,_,_=>rfl
 |_::_,_::_,[],_,h=>by simp[Op.bytesLess]at h
 |a::x,b::y,c::z,h,h'=>by
  simp only[Op.bytesLess,Qn,Qi,Qm,beq_iff_eq]at h h' ⊢;rcases h with h|⟨rfl,h⟩
  ·rcases h' with h'|⟨rfl,h'⟩
   ·exact .inl (UInt8.lt_trans h h')
   ·exact .inl h
  ·rcases h' with h'|⟨rfl,h'⟩
   ·exact .inl h'
   ·exact .inr ⟨rfl,Q9 h h'⟩
theorem RC{a b c:ByteArray}(h:j0 a b=true)(h':j0 b c=true):j0 a c=true:=Q9 h h'
theorem RD{a b:ByteArray}(h:a≠b):j0 a b=true\/j0 b a=true:=
 Ra fun e=>h (by
  rw[Lib.toList_data,Lib.toList_data]at e;cases a;cases b;rename_i x y;cases x;cases y
  simp_all)
theorem wE:tq jx:=by
 refine⟨fun x=>by rw[jx,Qr rfl,Ou],fun x y z h1 h2=> ?_,fun x y h1 h2=> ?_⟩
 ·unfold jx at*
  by_cases e1:x.size=y.size
  ·rw[Qr e1]at h1
   by_cases e2:y.size=z.size
   ·rw[Qr e2]at h2;rw[Qr (e1.trans e2)];exact RC h1 h2
   ·rw[Qs e2]at h2;rw[Qs (by omega),e1]
    exact h2
  ·rw[Qs e1,Qi]at h1
   by_cases e2:y.size=z.size
   ·rw[Qs (by omega),<-e2]
    exact Qg h1
   ·rw[Qs e2,Qi]at h2;rw[Qs (by omega)]
    exact Qg (by omega)
 ·unfold jx at*
  by_cases e1:x.size=y.size
  ·rw[Qr e1]at h1;rw[Qr e1.symm]at h2;refine Classical.byContradiction fun hne=> ?_
   rcases RD hne with h|h
   ·rw[h]at h1;cases h1
   ·rw[h]at h2;cases h2
  ·rw[Qs e1,Qj]at h1;rw[Qs (fun e=>e1 e.symm),Qj]at h2
   omega
theorem wF:tq bg:=by
 refine⟨fun x=>by rw[bg,Qr rfl,wE.irrefl],fun x y z h1 h2=> ?_,fun x y h1 h2=> ?_⟩
 ·unfold bg at*
  by_cases e1:x.aj=y.aj
  ·rw[Qr e1]at h1
   by_cases e2:y.aj=z.aj
   ·rw[Qr e2]at h2;rw[Qr (e1.trans e2)];exact wE.trans _ _ _ h1 h2
   ·rw[Qs e2]at h2;rw[Qs (by omega),e1]
    exact h2
  ·rw[Qs e1,Qi]at h1
   by_cases e2:y.aj=z.aj
   ·rw[Qs (by omega),<-e2]
    exact Qg h1
   ·rw[Qs e2,Qi]at h2;rw[Qs (by omega)]
    exact Qg (by omega)
 ·unfold bg at*
  by_cases e1:x.aj=y.aj
  ·rw[Qr e1]at h1;rw[Qr e1.symm]at h2;have:=wE.total _ _ h1 h2;cases x;cases y
   simp_all
  ·rw[Qs e1,Qj]at h1;rw[Qs (fun e=>e1 e.symm),Qj]at h2
   omega
end Go.Proofs.YtkgenianmdfmdaaGreat
namespace Go.Proofs.YtkgenianmdfmdaaGreat
open Go.TQ
structure KO (n:Nat) (l:List ai):Prop where
 of:∀e∈l,∃i:Nat,i<n/\KP i 1 n e
 asc:l.Pairwise fun a b=>a.au<b.au
 len:l.length<=n
theorem KO.valid{n:Nat}{l:List ai}(h:KO n l):∀e∈l,aO e=true:=fun e he=>by
 obtain⟨i,_,hi⟩:=h.of e he;rw[aO,Md hi.aR];exact hi.valid
theorem KO.sm{n:Nat}{l:List ai}(h:KO n l)(hn:n<=1000):oF l:=⟨by have:=h.len;omega,fun e he=>by
 obtain⟨i,_,hi⟩:=h.of e he
 exact hi.aR.sm⟩
theorem BX.mono{l:List bh}{s s' r:Nat}(h:∀k,s.testBit k=true->s'.testBit k=true)(hi:BX l s r):BX l s' r:=fun k hk=>⟨h k (hi k hk).1,(hi k hk).2⟩
theorem Zo{c:bp}(hc:xI c){s s':Nat}(hs:s<1024)(hs':s'<1024)(h:∀k,s.testBit k=true->s'.testBit k=true)(k:Nat)(hk:(gq c.aX s).testBit k=true):(gq c.aX s').testBit k=true:=
 (wO hc hs').max _ ((wO hc hs).inside.mono h) k hk
theorem R6{l:List bh}{v s s':Nat}(hs:s<1024)(hs':s'<1024)(h:∀k,s.testBit k=true->s'.testBit k=true)(hb:na l v s=true):na l v s'=true:=by
 simp only[na,Qm,Bool.not_eq_true']at hb ⊢;refine⟨hb.1,?_⟩
 cases hc:jA (pW s' v) (jU l v)with
 |false=>rfl
 |true=>
  have:=DU (s:=pW s' v) (s':=pW s v) (fun k hk=> ?_) _ hc
  ·rw[this]at hb;cases hb.2
  ·rw[rU hs']at hk;rw[rU hs];simp only[Qn,Qm,Qi,Bool.not_eq_true']at hk ⊢;rcases hk with⟨h1,h2⟩|h1
   ·refine .inl ⟨h1,?_⟩
    cases hb:s.testBit k with
    |false=>rfl
    |true=>rw[h k hb]at h2;cases h2
   ·exact .inr h1
theorem PK{c:bp}(hc:xI c){v a b a' b':Nat}(ha:a<1024)(hb:b<1024)(ha':a'<1024)(hb':b'<1024)(h1:∀k,a.testBit k=true->a'.testBit k=true)(h2:∀k,b.testBit k=true->b'.testBit k=true)
  (h:jL c.aX v a b=true):jL c.aX v a' b'=true:=by
 simp only[jL,Qn]at h ⊢;rcases h with h|h
 ·exact .inl (R6 hb hb' h2 h)
 ·refine .inr (Zo hc (Nat.or_lt_two_pow (n:=10) ha hb) (Nat.or_lt_two_pow (n:=10) ha' hb') (fun k hk=> ?_) v h)
  rw[Nat.testBit_or,Qn]at hk ⊢;exact hk.imp (h1 k) (h2 k)
theorem L9{p q:ai->Bool}{l:List ai}(h:∀e∈l,p e=true->q e=true)(k:Nat)(hk:(cW p l).testBit k=true):(cW q l).testBit k=true:=by
 rw[oX,List.any_eq_true]at hk ⊢;obtain⟨e,he,h1⟩:=hk;rw[Qm]at h1;exact⟨e,he,by rw[h e he h1.1,h1.2];rfl⟩
section
variable {ay : Nat} {t : an} (ht : dR t) {l : List ai} (hl : oF l) {v : ByteArray} {lo hi k : Int} (h1 : lo <= k) (h2 : k <= hi)
 include ht hl h1 h2
end
end Go.Proofs.YtkgenianmdfmdaaGreat
namespace Go.Proofs.YtkgenianmdfmdaaGreat
open Go.TQ
section
variable {α : Type}
 def pZ(p:α->Option Bool)(a0:List α)(v1:Int×Unit):Option ((Int×Unit)⊕Int):=
 bif (decide (v1.1<((List.length a0:Nat):Int)))then
  Option.bind (idx a0 v1.1) fun x2=>Option.bind (p x2) fun r3=>bif r3 then Option.map Sum.inr (some v1.1)else some (Sum.inl ((aG .i64 v1.1 (1:Int)),()))
 else Option.map Sum.inr (some (-1:Int))
 def VB(p:α->Option Bool)(a0:List α):Option Int:=aI (pZ p a0) ((0:Int),())
 def BM(p:α->Option Bool)(z:α)(v2:Int×Int×(List α)×Unit):Option ((Int×Int×(List α)×Unit)⊕List α):=
 bif (decide (v2.2.1<((List.length v2.2.2.1:Nat):Int)))then
  bm (fun(v3:Int×(List α)×Unit)=>some (Sum.inl (v3.1,(aG .i64 v2.2.1 (1:Int)),v3.2.1,()))) fun j4=>
  Option.bind (idx v2.2.2.1 v2.2.1) fun x5=>Option.bind (v2.2.2.1[(Int.toNat v2.2.1)]?) fun x6=>Option.bind (p x6) fun r7=>
  bif (!r7)then
   Option.bind (idx v2.2.2.1 v2.1) fun x8=>Option.bind (v2.2.2.1[(Int.toNat v2.1)]?) fun x9=>j4 ((aG .i64 v2.1 (1:Int)),(v2.2.2.1.set (Int.toNat v2.1) x6),())
  else j4 (v2.1,v2.2.2.1,())
 else
  Option.map Sum.inr (bif cr v2.1 ((List.length v2.2.2.1):Int) (List.length v2.2.2.1)then
   bif cr (0:Int) v2.1 (List.length (v2.2.2.1.take (Int.toNat v2.1)++List.replicate (Int.toNat ((List.length v2.2.2.1):Int) - Int.toNat v2.1) z++v2.2.2.1.drop ((Int.toNat v2.1)+(Int.toNat ((List.length v2.2.2.1):Int) - Int.toNat v2.1))))then
    some ((v2.2.2.1.take (Int.toNat v2.1)++List.replicate (Int.toNat ((List.length v2.2.2.1):Int) - Int.toNat v2.1) z++v2.2.2.1.drop ((Int.toNat v2.1)+(Int.toNat ((List.length v2.2.2.1):Int) - Int.toNat v2.1))).take (Int.toNat v2.1 - Int.toNat (0:Int)))
   else none
  else none)
 def SL(p:α->Option Bool)(z:α)(s:List α):Option (List α):=
 Option.bind (VB p s) fun r1=>bif (decide (r1=(-1:Int)))then some s else aI (BM p z) (r1,(aG .i64 r1 (1:Int)),s,())
theorem AS{q:α->Bool}{s:List α}{j:Nat}{x:α}(h:s[j]?=some x):(s.take (j+1)).filter q=(s.take j).filter q++if q x then[x]else[]:=by
 obtain⟨hl,hx⟩:=Qw.1 h;rw[List.take_succ_eq_append_getElem hl,List.filter_append,hx];congr 1;cases hq:q x<;>simp[hq]
variable {p : α -> Option Bool} {q : α -> Bool} (hp : ∀ x, p x = some (q x)) {z : α}
 include hp
theorem Py{s:List α}(hs:s.length<1000000000):∀(k i:Nat),i+k=s.length->(s.take i).filter (fun x=> !q x)=s.take i->
  (∃m:Nat,∃x,aI (pZ p s) ((i:Int),())=some (m:Int)/\(s.take m).filter (fun x=> !q x)=s.take m/\s[m]?=some x/\q x=true)\/(aI (pZ p s) ((i:Int),())=some (-1)/\s.filter (fun x=> !q x)=s)
 |0,i,hi,hf=>by
  have hd:decide ((i:Int)<((s.length:Nat):Int))=false:=Qh (by omega)
  refine .inr ⟨bX ?_,?_⟩
  ·simp only[pZ,hd,Ql,Qe]
  ·rwa [show i=s.length by omega,List.take_length]at hf
 |k+1,i,hi,hf=>by
  have hd:decide ((i:Int)<((s.length:Nat):Int))=true:=Qg (by omega)
  have hw:aG .i64 (i:Int) 1=((i+1:Nat):Int):=bP (by omega) (by omega)
  obtain⟨x,hx⟩:∃x,s[i]?=some x:=⟨_,Qv (by omega)⟩
  cases hq:q x with
  |true=>
   refine .inl ⟨i,x,bX ?_,hf,hx,hq⟩;simp only[pZ,hd,Qk,bC,hx,Qa,hp,hq,Qe]
  |false=>
   have hstep:aI (pZ p s) ((i:Int),())=aI (pZ p s) (((i+1:Nat):Int),()):=bn (by simp only[pZ,hd,Qk,bC,hx,Qa,hp,hq,Ql,hw])
   rw[hstep];refine Py hs k (i+1) (by omega) ?_
   rw[AS hx,hf,hq];obtain⟨hl,hx'⟩:=Qw.1 hx;rw[List.take_succ_eq_append_getElem hl,hx'];rfl
theorem Ih{s:List α}(hs:s.length<1000000000):∀(r i j:Nat) (d:List α),j+r=s.length->i<j->d.length=s.length->d.take i=(s.take j).filter (fun x=> !q x)->(∀m,j<=m->d[m]?=s[m]?)->
  aI (BM p z) ((i:Int),(j:Int),d,())=some (s.filter fun x=> !q x)
 |0,i,j,d,hr,hij,hd,ht,hm=>by
  have e2:decide ((j:Int)<((d.length:Nat):Int))=false:=Qh (by omega)
  refine bX ?_
  have e3:∀n,cr (i:Int) (d.length:Int) n=decide (d.length<=n):=by
   intro n;simp only[cr];have h1:decide ((0:Int)<=(i:Int))=true:=Qg (by omega)
   have h2:decide ((i:Int)<=(d.length:Int))=true:=Qg (by omega)
   rw[h1,h2,Bool.and_self,Bool.true_and,decide_eq_decide];omega
  have e4:(d.take i++List.replicate (d.length - i) z++d.drop (i+(d.length - i))).length=d.length:=by simp;omega
  have e5:cr (0:Int) (i:Int) d.length=true:=by
   simp only[cr,Qm,Qi];omega
  have e6:(d.take i++List.replicate (d.length - i) z++d.drop (i+(d.length - i))).take (i - 0)=s.filter fun x=> !q x:=by
   rw[Nat.sub_zero,QL,List.take_append_of_le_length (by simp;omega),List.take_take,Nat.min_self,ht,show j=s.length by omega,List.take_length]
  simp only[BM,e2,Ql,QV,e3,QI,decide_true,Qk,e4,e5,Int.toNat_zero,e6,Qe]
 |r+1,i,j,d,hr,hij,hd,ht,hm=>by
  have e2:decide ((j:Int)<((d.length:Nat):Int))=true:=Qg (by omega)
  have ej:aG .i64 (j:Int) 1=((j+1:Nat):Int):=bP (by omega) (by omega)
  have ei:aG .i64 (i:Int) 1=((i+1:Nat):Int):=bP (by omega) (by omega)
  obtain⟨x,hx⟩:∃x,s[j]?=some x:=⟨_,Qv (by omega)⟩
  obtain⟨y,hy⟩:∃y,d[i]?=some y:=⟨_,Qv (by omega)⟩
  have hdx:d[j]?=some x:=by rw[hm j (QI _),hx]
  have hstep:=AS (q:=fun x=> !q x) hx
  cases hq:q x with
  |true=>
   rw[hq]at hstep;refine(bn (s':=((i:Int),((j+1:Nat):Int),d,())) ?_).trans (Ih hs r i (j+1) d (by omega) (by omega) hd (by rw[hstep,ht];simp) fun m h=>hm m (by omega))
   simp only[BM,e2,Qk,ba,bC,QV,hdx,Qa,hp,hq,Qo,Ql,ej]
  |false=>
   rw[hq]at hstep;refine(bn (s':=(((i+1:Nat):Int),((j+1:Nat):Int),d.set i x,())) ?_).trans (Ih hs r (i+1) (j+1) (d.set i x) (by omega) (by omega) (by rw[QY];exact hd) ?_ fun m h=> ?_)
   ·simp only[BM,e2,Qk,ba,bC,QV,hdx,hy,Qa,hp,hq,Qp,ej,ei]
   ·rw[hstep,<-ht,List.take_succ_eq_append_getElem (by rw[QY];omega),List.take_set_of_le (QI _)]
    simp
   ·rw[List.getElem?_set,Qs (by omega)]
    exact hm m (by omega)
theorem Ub(s:List α)(hs:s.length<1000000000):SL p z s=some (s.filter fun x=> !q x):=by
 rw[SL,VB];rcases Py hp hs s.length 0 (by omega) (by simp)with⟨m,x,h1,h2,h3,h4⟩|⟨h1,h2⟩
 ·have hm:m<s.length:=(Qw.1 h3).1;have h1':aI (pZ p s) ((0:Int),())=some (m:Int):=h1;have e:decide ((m:Int)= -1)=false:=Qh (by omega)
  rw[h1',Qa,e,Ql,show aG .i64 (m:Int) 1=((m+1:Nat):Int)from bP (by omega) (by omega)]
  refine Ih hp hs (s.length - (m+1)) m (m+1) s (by omega) (by omega) rfl ?_ fun _ _=>rfl
  rw[AS h3,h2,h4];simp
 ·have h1':aI (pZ p s) ((0:Int),())=some (-1):=h1;rw[h1',Qa,h2];rfl
end
theorem C4{α β ρ:Type}(l:List α)(hl:l.length<=1000000)(f:α->List β)(hf:∀x∈l,(f x).length<=3){step:Int×List β×Unit->Option ((Int×List β×Unit)⊕ρ)}{fin:List β->Option ρ}
  (h1:∀(i:Nat) (x:α) (acc:List β),x∈l->decide ((i:Int)<((l.length:Nat):Int))=true->idx l (i:Int)=some x->aG .i64 (i:Int) 1=((i+1:Nat):Int)->(∀bytes n:Nat,bytes<=40->n<=3->acc.length<=3000000->bB bytes (acc.length+n)=true)->acc.length<=3000000->step ((i:Int),acc,())=some (.inl (((i+1:Nat):Int),acc++f x,())))
  (h2:∀acc,decide (((l.length:Nat):Int)<((l.length:Nat):Int))=false->step (((l.length:Nat):Int),acc,())=Option.map Sum.inr (fin acc)):aI step ((0:Int),([]:List β),())=fin (l.flatMap f):=by
 suffices key:∀(k i:Nat) (acc:List β),i+k=l.length->acc=(l.take i).flatMap f->acc.length<=3*i->aI step ((i:Int),acc,())=fin (l.flatMap f)from key l.length 0 [] (by omega) (by simp) (by simp)
 intro k
 induction k with
 |zero=>
  intro i acc hi ha hal;obtain rfl:i=l.length:=by omega
  rw[List.take_length]at ha;rw[iu,h2 acc (Qh (Int.lt_irrefl _)),ha];cases fin (l.flatMap f)<;>rfl
 |succ k ih=>
  intro i acc hi ha hal;have hlt:i<l.length:=by omega
  have hx:l[i]?=some l[i]:=Qv hlt;have:=hf _ (Q0 hlt);refine(bn (h1 i l[i] acc (Q0 hlt) (Qg (by omega)) (by rw[bC];exact hx) (bP (by omega) (by omega)) (fun bytes n hb hn ha=> ?_) (by omega))).trans (ih (i+1) _ (by omega) ?_ (by rw[QB];omega))
  ·simp only[bB,Qm,Qi];exact⟨QK (Nat.mul_le_mul (show acc.length+n<=3000003 by omega) hb) (show 3000003*40<=140737488355328 by decide),QK (show acc.length+n<=3000003 by omega) (by simp[maxLen])⟩
  ·rw[List.take_succ_eq_append_getElem hlt,List.flatMap_append,ha];simp
instance:Inhabited ae:=⟨⟨0,ByteArray.mk #[]⟩⟩
instance:DecidableEq ae:=fun a b=>decidable_of_iff (a.aj=b.aj/\a.Value=b.Value) (by cases a;cases b;simp)
theorem YC(s:List ae)(hs:s.length<1000000000):∃b,ew s=some b/\b.Pairwise (fun x y=>bg y x=true)/\b.length<=s.length/\∀x,x∈b↔x∈s:=by
 obtain⟨t,h1,h2,h3,h4⟩:=wF.flip.Wt (cmp:=ll) (c:=fun x y=>P9 y x) (fun x y=>by simp[ll]) (fun x y=>P8 y x) s hs
 have hc:=C3 (eq:=fun x y:ae=>js false x.aj y.aj x.Value y.Value) (ne:=fun x y=>js true x.aj y.aj x.Value y.Value) (z:=ae.mk 0 (ByteArray.mk #[])) (fun x y=>by
  rw[xc,QW];cases x;cases y;simp) (fun x y=>by
  rw[Xn];congr 1;rw[QW];cases x;cases y
  simp) t (by omega)
 refine⟨dd t,?_,h3,by have:=PW t;omega,h4⟩
 have h1':fp s=some ((),t):=h1;have hc':gF t=some (dd t):=hc;simp only[ew,h1',hc',Qa]
theorem YA(s:List ByteArray)(hs:s.length<1000000000):∃b,fj s=some b/\b.Pairwise (fun x y=>jx x y=true)/\b.length<=s.length/\∀x,x∈b↔x∈s:=by
 obtain⟨t,h1,h2,h3,h4⟩:=wE.Wt (cmp:=ga) (c:=LS) (fun x y=>xA x y) P6 s hs
 have hc:=C3 (eq:=fun x y:ByteArray=>decide (x=y)) (ne:=fun x y=> !decide (x=y)) (z:=ByteArray.mk #[]) (fun _ _=>rfl) (fun _ _=>rfl) t (by omega)
 refine⟨dd t,?_,h3,by have:=PW t;omega,h4⟩
 have h1':gW s=some ((),t):=h1;have hc':jP t=some (dd t):=hc;simp only[fj,h1',hc',Qa]
theorem XA(a b:Int):decide (xx a b<0)=decide (a<b):=by rw[decide_eq_decide];exact Io a b
theorem YB(s:List Int)(hs:s.length<1000000000):∃b,fX s=some b/\b.Pairwise (·<·)/\b.length<=s.length/\∀x,x∈b↔x∈s:=by
 obtain⟨t,h1,h2,h3,h4⟩:=yn.Wt (cmp:=iE) (c:=xx) (fun x y=>De x y) XA s hs
 have hc:=C3 (eq:=fun x y:Int=>decide (x=y)) (ne:=fun x y=> !decide (x=y)) (z:=0) (fun _ _=>rfl) (fun _ _=>rfl) t (by omega)
 refine⟨dd t,?_,h3.imp fun h=>of_decide_eq_true h,by have:=PW t;omega,h4⟩
 have h1':jO s=some ((),t):=h1;simp only[fX,h1',Qa,Xx,hc]
 def said(e:ai):List ae:=if aO e then(if e.bx=1 then[e.aa,e.ak,e.aw]else if e.bx=2 then[e.ak,at_ e 1000000]else[at_ e 1000000])else[]
theorem Ca(e:ai):(said e).length<=3:=by
 unfold said;split
 ·split
  ·simp
  ·split<;>simp
 ·simp
theorem rh{α β:Type}(f:α->List β)(hf:∀x,(f x).length<=3):∀l:List α,(l.flatMap f).length<=3*l.length
 |[]=>by simp
 |x::l=>by
  have:=rh f hf l;have:=hf x;rw[List.flatMap_cons,QB,QE];omega
section
variable {l : List ai} (hl : ∀ e ∈ l, dR e.ab) (hlen : l.length <= 1000)
 include hl hlen
theorem UJ:∃b,gG l=some b/\b.Pairwise (fun x y=>bg y x=true)/\b.length<=3000/\∀x,x∈b↔∃e∈l,x∈said e/\aD x=false:=by
 have hd:=Ub (p:=bl) (q:=aD) cJ (z:=ae.mk 0 (ByteArray.mk #[])) (l.flatMap said) (by have:=rh said Ca l;omega)
 obtain⟨b,h1,h2,hbl,h3⟩:=YC ((l.flatMap said).filter fun x=> !aD x) (by have:=rh said Ca l;have:=List.length_filter_le (fun x=> !aD x) (l.flatMap said);omega)
 refine⟨b,?_,h2,by have:=rh said Ca l;have:=List.length_filter_le (fun x=> !aD x) (l.flatMap said);omega,fun x=> ?_⟩
 ·unfold gG;refine(C4 l (by omega) said (fun e _=>Ca e) (fin:=fun acc=>Option.bind (dJ acc) fun r8=>Option.bind (ew r8) fun r9=>some r9) (fun i e acc he hd hx hw hok hal=> ?_) (fun acc hd=> ?_)).trans ?_
  ·have o1:=hok 24 3 (by omega) (by omega) hal
   have o2:=hok 24 2 (by omega) (by omega) hal
   have o3:=hok 24 1 (by omega) (by omega) hal
   simp only[hd,hx,hw,Qk,ba,Qa,an.eta,ai.eta,nV (hl e he),xN,QE,QZ,o1,o2,o3,Nat.zero_add,Nat.reduceAdd];unfold said at_
   cases aO e<;>by_cases k1:e.bx=1<;>by_cases k2:e.bx=2<;>simp[k1,k2]
  ·simp only[hd,Ql]
  ·have hd':dJ (l.flatMap said)=_:=hd;simp only[hd',h1,Qa]
 ·rw[h3,List.mem_filter,QQ];constructor
  ·rintro⟨⟨e,he,hx⟩,hz⟩;exact⟨e,he,hx,by simpa using hz⟩
  ·rintro⟨e,he,hx,hz⟩;exact⟨⟨e,he,hx⟩,by simpa using hz⟩
theorem Wa:∃b,jv l=some b/\b.Pairwise (fun x y=>jx x y=true)/\b.length<=3000/\∀x,x∈b↔∃e∈l,aO e=true/\x=e.aa.Value:=by
 have hf:∀e:ai,(if aO e then[e.aa.Value]else[]).length<=3:=fun e=>by split<;>simp
 obtain⟨b,h1,h2,hbl,h3⟩:=YA (l.flatMap fun e=>if aO e then[e.aa.Value]else[]) (by have:=rh _ hf l;omega)
 refine⟨b,?_,h2,by have:=rh _ hf l;omega,fun x=> ?_⟩
 ·unfold jv;refine(C4 l (by omega) (fun e=>if aO e then[e.aa.Value]else[]) (fun e _=>hf e) (fin:=fun acc=>Option.bind (fj acc) fun r6=>some r6) (fun i e acc he hd hx hw hok hal=> ?_) (fun acc hd=> ?_)).trans ?_
  ·have o3:=hok 16 1 (by omega) (by omega) hal
   simp only[hd,hx,hw,Qk,ba,Qa,an.eta,ai.eta,nV (hl e he),QE,QZ,o3,Nat.zero_add];cases aO e<;>simp
  ·simp only[hd,Ql]
  ·simp only[h1,Qa]
 ·rw[h3,QQ];constructor
  ·rintro⟨e,he,hx⟩;split at hx
   ·rename_i hv;exact⟨e,he,hv,by simpa using hx⟩
   ·cases hx
  ·rintro⟨e,he,hv,hx⟩;exact⟨e,he,by rw[Qr hv];simpa using hx⟩
theorem UI(v:ByteArray):∃b,fl l v=some b/\b.Pairwise (·<·)/\b.length<=3000/\∀x,x∈b↔x∈ends v l:=by
 have hf:∀e:ai,(if gB v e then[e.aF,e.aM]else[]).length<=3:=fun e=>by split<;>simp
 obtain⟨b,h1,h2,hbl,h3⟩:=YB (ends v l) (by have:=rh _ hf l;unfold ends;omega)
 refine⟨b,?_,h2,by have:=rh _ hf l;unfold ends at hbl;omega,h3⟩
 unfold fl;refine(C4 l (by omega) (fun e=>if gB v e then[e.aF,e.aM]else[]) (fun e _=>hf e) (fin:=fun acc=>Option.bind (fX acc) fun r6=>some r6) (fun i e acc he hd hx hw hok hal=> ?_) (fun acc hd=> ?_)).trans ?_
 ·have o3:=hok 8 2 (by omega) (by omega) hal
  simp only[hd,hx,hw,Qk,ba,Qa,an.eta,ai.eta,nV (hl e he),QE,QZ,o3,Nat.zero_add,Nat.reduceAdd];unfold gB;cases aO e<;>cases decide (e.aa.Value=v)<;>cases decide (e.aF=0)<;>simp
 ·simp only[hd,Ql]
 ·exact(congrArg (fun o=>Option.bind o fun r6=>some r6) h1)
end
end Go.Proofs.YtkgenianmdfmdaaGreat
namespace Go.Proofs.YtkgenianmdfmdaaGreat
open Go.TQ
theorem Zb{e:ai}(hv:aO e=true):e.bx=1/\0<=e.aF/\e.aF<=e.aM\/e.bx≠1/\1<=e.aF/\e.aF<=e.aM:=by
 unfold aO fV at hv;rw[Qm]at hv;have h:=hv.2
 by_cases k1:e.bx=1
 ·rw[Qr k1]at h;simp only[fC,Qm,Qi]at h;omega
 ·rw[Qs k1]at h
  by_cases k2:e.bx=2
  ·rw[Qr k2]at h;simp only[rj,pI,Qm,Qi]at h;omega
  ·rw[Qs k2]at h
   by_cases k3:e.bx=3
   ·rw[Qr k3]at h;simp only[wQ,pI,Qm,Qi]at h;omega
   ·rw[Qs k3]at h;cases h
end Go.Proofs.YtkgenianmdfmdaaGreat
namespace Go.Proofs.YtkgenianmdfmdaaGreat
open Go.TQ
def vP:ae:=⟨0,fu⟩
theorem yg{α τ:Type}(l:List α)(hl:l.length<=1000000)(mk:Int->τ)(P:α->Bool)(z:α){step:τ->Option (τ⊕α)}
  (h1:∀(i:Nat) (x:α),decide ((i:Int)<((l.length:Nat):Int))=true->idx l (i:Int)=some x->aG .i64 (i:Int) 1=((i+1:Nat):Int)->step (mk (i:Int))=some (bif P x then .inr x else .inl (mk ((i+1:Nat):Int))))
  (h2:decide (((l.length:Nat):Int)<((l.length:Nat):Int))=false->step (mk ((l.length:Nat):Int))=some (.inr z)):aI step (mk 0)=some ((l.find? P).getD z):=by
 suffices key:∀(k i:Nat),i+k=l.length->aI step (mk (i:Int))=some (((l.drop i).find? P).getD z)from key l.length 0 (by omega)
 intro k
 induction k with
 |zero=>
  intro i hi;obtain rfl:i=l.length:=by omega
  rw[bX (h2 (Qh (Int.lt_irrefl _))),List.drop_length];rfl
 |succ k ih=>
  intro i hi;have hlt:i<l.length:=by omega
  have hs:=h1 i l[i] (Qg (by omega)) (by rw[bC];exact Qv hlt) (bP (by omega) (by omega))
  rw[QM hlt,List.find?_cons]
  cases hP:P l[i]with
  |true=>rw[hP]at hs;rw[bX hs];rfl
  |false=>rw[hP]at hs;rw[bn hs];exact ih (i+1) (by omega)
 def ea(l:List ai):List ae:=(gG l).getD []
section
variable {l : List ai} (hl : ∀ e ∈ l, dR e.ab) (hlen : l.length <= 1000)
 include hl hlen
theorem kG:gG l=some (ea l)/\(ea l).Pairwise (fun x y=>bg y x=true)/\(ea l).length<=3000/\∀x,x∈ea l↔∃e∈l,x∈said e/\aD x=false:=by
 obtain⟨b,h1,h2,h3,h4⟩:=UJ hl hlen;have:ea l=b:=by rw[ea,h1];rfl
 rw[this];exact⟨h1,h2,h3,h4⟩
end
def oC(b:ae):ae:=if 1000<=b.aj then⟨1000000,b.Value⟩else b
theorem Kk(b:ae):iy b=some (oC b):=by
 unfold iy oC;simp only[ba,BT,y8]
section
variable {ay : Nat} (hn : ay < 10) {t : an} (ht : dR t) {l : List ai} (hl : oF l)
 include hn ht hl
end
theorem OS{e:ai}(h:dR e.ab)(b:ae):kJ e b=some (aO e&&cQ e b):=by
 simp only[kJ,an.eta,ai.eta,iI h,Qa,de,fI,mL]
 cases hv:aO e with
 |false=>simp
 |true=>
  cases hz:aD b with
  |true=>simp[cQ,hz]
  |false=>
   by_cases k1:e.bx=1
   ·simp[cQ,hz,k1]
   ·by_cases k3:e.bx=3
    ·simp[cQ,hz,k3]
    ·by_cases k2:e.bx=2
     ·have hp:aD e.aw=true:=by
       unfold aO fV at hv;rw[Qm,Qs k1,Qr k2]at hv;simp only[rj,Qm]at hv;exact hv.2.1.1.2
      simp[cQ,hz,k2,b0,gK,hp]
     ·unfold aO fV at hv;rw[Qs k1,Qs k2,Qs k3]at hv;simp at hv
end Go.Proofs.YtkgenianmdfmdaaGreat
namespace Go.Proofs.YtkgenianmdfmdaaGreat
open Go.TQ
 def ft(l:List ai):List ByteArray:=(jv l).getD []
 def aU(l:List ai)(v:ByteArray):List Int:=(fl l v).getD []
section
variable {l : List ai} (hl : ∀ e ∈ l, dR e.ab) (hlen : l.length <= 1000)
 include hl hlen
theorem nj:jv l=some (ft l)/\(ft l).Pairwise (fun x y=>jx x y=true)/\(ft l).length<=3000/\∀x,x∈ft l↔∃e∈l,aO e=true/\x=e.aa.Value:=by
 obtain⟨b,h1,h2,h3,h4⟩:=Wa hl hlen;have:ft l=b:=by rw[ft,h1];rfl
 rw[this];exact⟨h1,h2,h3,h4⟩
theorem ff(v:ByteArray):fl l v=some (aU l v)/\(aU l v).Pairwise (·<·)/\(aU l v).length<=3000/\∀x,x∈aU l v↔x∈ends v l:=by
 obtain⟨b,h1,h2,h3,h4⟩:=UI hl hlen v;have:aU l v=b:=by rw[aU,h1];rfl
 rw[this];exact⟨h1,h2,h3,h4⟩
end
theorem Aj{l:List ai}(hl:oF l)(hlen:l.length<=1000)(v:ByteArray):∀x∈aU l v,1<=x/\x<=1000:=by
 obtain⟨_,_,_,h⟩:=ff hl.aR hlen v;intro x hx;obtain⟨e,he,hb,hy⟩:=qT.1 ((h x).1 hx);simp only[gB,Qm,Bool.not_eq_true',Qj]at hb;have hv:=hb.1.1;have h0:=hb.2;unfold aO fV at hv;rw[Qm]at hv;have hv:=hv.2
 by_cases k1:e.bx=1
 ·rw[Qr k1]at hv;simp only[fC,finite,Qm,Qi]at hv;omega
 ·rw[Qs k1]at hv
  by_cases k2:e.bx=2
  ·rw[Qr k2]at hv;simp only[rj,pI,Qm,Qi]at hv;omega
  ·rw[Qs k2]at hv
   by_cases k3:e.bx=3
   ·rw[Qr k3]at hv;simp only[wQ,pI,Qm,Qi]at hv;omega
   ·rw[Qs k3]at hv;cases hv
theorem Kf{α A B ρ:Type}(l:List α)(hl:l.length<=1000000)(f:A×B->α->A×B){step:A×Int×B×Unit->Option ((A×Int×B×Unit)⊕ρ)}{fin:A×B->Option ρ}
  (h1:∀(i:Nat) (x:α) (a:A) (b:B),x∈l->decide ((i:Int)<((l.length:Nat):Int))=true->idx l (i:Int)=some x->aG .i64 (i:Int) 1=((i+1:Nat):Int)->step (a,(i:Int),b,())=some (.inl ((f (a,b) x).1,((i+1:Nat):Int),(f (a,b) x).2,())))
  (h2:∀a b,decide (((l.length:Nat):Int)<((l.length:Nat):Int))=false->step (a,((l.length:Nat):Int),b,())=Option.map Sum.inr (fin (a,b))) (a:A) (b:B):aI step (a,(0:Int),b,())=fin (l.foldl f (a,b)):=by
 suffices key:∀(k i:Nat) (a:A) (b:B),i+k=l.length->aI step (a,(i:Int),b,())=fin ((l.drop i).foldl f (a,b))from key l.length 0 a b (by omega)
 intro k
 induction k with
 |zero=>
  intro i a b hi;obtain rfl:i=l.length:=by omega
  rw[iu,h2 a b (Qh (Int.lt_irrefl _)),List.drop_length,List.foldl_nil];cases fin (a,b)<;>rfl
 |succ k ih=>
  intro i a b hi;have hlt:i<l.length:=by omega
  rw[bn (h1 i l[i] a b (Q0 hlt) (Qg (by omega)) (by rw[bC];exact Qv hlt) (bP (by omega) (by omega))),ih (i+1) _ _ (by omega),QM hlt,QU]
def kD(p q:ae)(v:ByteArray)(n:Int):Bool:=dO p ⟨n,v⟩||dO q ⟨n,v⟩
theorem KM(v:ByteArray)(n:Int)(p q:ae):mH v n p q=some (kD p q v n):=by
 simp only[mH,qj,Qa,ji,Bool.cond_true_left,kD]
 def uf(b:List Int)(ready:Int->Int->Bool)(low bG:Int):Int×Int:=
 match b.reverse.find? (fun n=>decide (bG<n)&&ready n n)with
 |none=>(bH (fun x=>ready x bG) b.reverse low,bG)
 |some n=>
  let bottom:=bH (fun x=>ready x n) b.reverse n
  (bH (fun x=>ready x n) b.reverse (if bG<bottom - 1\/bottom<low then bottom else low),n)
 def yB(S:fO)(b:List Int)(v:ByteArray)(m8:Nat)(e9:Int)(v7:Int×Int×Unit):Option ((Int×Int×Unit)⊕(Int×Int×Unit)):=
 Option.bind (bif (decide (e9<=v7.2.1))then some true else Option.bind (gw S v e9 e9) fun r10=>some (!r10)) fun b11=>
 bif b11 then some (Sum.inl (v7.1,v7.2.1,()))else
 Option.bind (jc b e9 S v e9) fun r12=>
 bm (fun(v13:Int×Unit)=>Option.map Sum.inr (Option.bind (gy b v13.1 S v e9) fun r5=>some (r5,e9,()))) fun j14=>
 Option.bind (bif (decide (v7.2.1<(dK .i64 r12 (1:Int))))then some true else some (decide (r12<v7.1))) fun b15=>
 bif b15 then j14 (r12,())else j14 (v7.1,())
 def VG(S:fO)(b:List Int)(v:ByteArray)(v16:Int×Int×Unit):Option (Int×Int×Unit):=Option.bind (gy b v16.1 S v v16.2.1) fun r5=>some (r5,v16.2.1,())
section
variable {ay : Nat} (hn : ay < 10) {t : an} (ht : dR t) {l : List ai} (hl : oF l)
 include hn ht hl
end
end Go.Proofs.YtkgenianmdfmdaaGreat
namespace Go.Proofs.YtkgenianmdfmdaaGreat
open Go.TQ
section
variable {α : Type} [DecidableEq α] {lt : α -> α -> Bool}
def eK(lt:α->α->Bool)(x:α):List α->List α
 |[]=>[x]
 |y::l=>if lt y x then y::eK lt x l else if y=x then y::l else x::y::l
theorem HU(x:α):∀(l:List α) (z:α),z∈eK lt x l↔z=x\/z∈l
 |[],z=>by simp[eK]
 |y::l,z=>by
  rw[eK];split
  ·rw[QA,HU x l z,QA];constructor
   ·rintro(h|h|h)
    ·exact .inr (.inl h)
    ·exact .inl h
    ·exact .inr (.inr h)
   ·rintro(h|h|h)
    ·exact .inr (.inl h)
    ·exact .inl h
    ·exact .inr (.inr h)
  ·split
   ·rename_i h;rw[QA];constructor
    ·exact .inr
    ·rintro(h1|h1)
     ·exact .inl (h1.trans h.symm)
     ·exact h1
   ·rw[QA]
theorem tq.eK(h:tq lt)(x:α):∀{l:List α},l.Pairwise (fun a b=>lt a b=true)->(Go.Proofs.YtkgenianmdfmdaaGreat.eK lt x l).Pairwise (fun a b=>lt a b=true)
 |[],_=>by rw[Go.Proofs.YtkgenianmdfmdaaGreat.eK];exact List.pairwise_singleton _ _
 |y::l,hp=>by
  rw[Q4]at hp;rw[Go.Proofs.YtkgenianmdfmdaaGreat.eK];split
  ·rename_i hy;rw[Q4];refine⟨fun z hz=> ?_,h.eK x hp.2⟩
   rcases(HU x l z).1 hz with rfl|hz
   ·exact hy
   ·exact hp.1 z hz
  ·rename_i hy;split
   ·exact Q4.2 hp
   ·rename_i hne
    have hxy:lt x y=true:=by
     cases hc:lt x y with
     |true=>rfl
     |false=>exact absurd (h.total y x (by simpa using hy) hc) hne
    rw[Q4,Q4];refine⟨fun z hz=> ?_,hp⟩
    rcases QA.1 hz with rfl|hz
    ·exact hxy
    ·exact h.trans _ _ _ hxy (hp.1 z hz)
theorem wm(x:α):∀l:List α,(eK lt x l).length<=l.length+1
 |[]=>by simp[eK]
 |y::l=>by
  have:=wm x l;rw[eK];split
  ·simp;omega
  ·split<;>simp
theorem SI(x:α):∀(l:List α) (i:Nat),(∀j,j<i->∃y,l[j]?=some y/\lt y x=true)->(∀y,l[i]?=some y->lt y x=false)->eK lt x l=if l[i]?=some x then l else l.take i++x::l.drop i
 |[],i,h1,h2=>by
  cases i with
  |zero=>simp[eK]
  |succ i=>obtain⟨y,hy,_⟩:=h1 0 (by omega);simp at hy
 |y::l,i,h1,h2=>by
  cases i with
  |zero=>
   have hy:=h2 y rfl;rw[eK,hy,Qs (by simp)]
   by_cases h:y=x
   ·simp[h]
   ·simp[h]
  |succ i=>
   obtain⟨y',hy',hlt⟩:=h1 0 (by omega)
   simp only[List.getElem?_cons_zero,Qf]at hy';subst hy'
   rw[eK,Qr hlt,SI x l i (fun j hj=>by
    obtain⟨z,hz,h⟩:=h1 (j+1) (by omega)
    exact⟨z,by simpa using hz,h⟩) (fun z hz=>h2 z (by simpa using hz))]
   simp only[List.getElem?_cons_succ,List.take_succ_cons,List.drop_succ_cons];split<;>simp
theorem y9(h:tq lt):∀(xs l:List α),l.Pairwise (fun a b=>lt a b=true)->(xs.foldl (fun l x=>eK lt x l) l).Pairwise (fun a b=>lt a b=true)/\∀z,z∈xs.foldl (fun l x=>eK lt x l) l↔z∈xs\/z∈l
 |[],l,hp=>⟨hp,by simp⟩
 |x::xs,l,hp=>by
  obtain⟨h1,h2⟩:=y9 h xs _ (h.eK x hp);rw[QU];refine⟨h1,fun z=> ?_⟩
  rw[h2,HU,QA];constructor
  ·rintro(a|a|a)
   ·exact .inl (.inr a)
   ·exact .inl (.inl a)
   ·exact .inr a
  ·rintro((a|a)|a)
   ·exact .inr (.inl a)
   ·exact .inl a
   ·exact .inr (.inr a)
end
theorem rL{α:Type}(l:List α)(i:Nat):(l.take (Int.toNat (i:Int))).drop (Int.toNat (0:Int))=l.take i:=by simp
theorem vV{α:Type}(l:List α)(i:Nat):(l.take (Int.toNat ((l.length:Nat):Int))).drop (Int.toNat (i:Int))=l.drop i:=by simp
theorem A7{i n:Nat}(h:i<=n):cr (0:Int) (i:Int) n=true:=by
 simp only[cr,Qm,Qi];omega
theorem A8{i n:Nat}(h:i<=n):cr (i:Int) (n:Int) n=true:=by
 simp only[cr,Qm,Qi];omega
theorem gU{bytes n:Nat}(h:bytes<=200)(hn:n<=1000000):bB bytes n=true:=
 cj ⟨QK (Nat.mul_le_mul hn h) (by decide),hn⟩
theorem Wi{α ρ:Type}(l:List α)(hl:l.length<=1000000)(P:α->Bool){step:Int×Unit->Option ((Int×Unit)⊕ρ)}{r:Nat->Option ρ}
  (h1:∀(i:Nat) (y:α),l[i]?=some y->decide ((i:Int)<((l.length:Nat):Int))=true->idx l (i:Int)=some y->P y=true->aG .i64 (i:Int) 1=((i+1:Nat):Int)->step ((i:Int),())=some (.inl (((i+1:Nat):Int),())))
  (h2:∀(i:Nat) (y:α),l[i]?=some y->decide ((i:Int)<((l.length:Nat):Int))=true->idx l (i:Int)=some y->P y=false->step ((i:Int),())=Option.map Sum.inr (r i))
  (h3:decide (((l.length:Nat):Int)<((l.length:Nat):Int))=false->step (((l.length:Nat):Int),())=Option.map Sum.inr (r l.length)):
  ∃i,i<=l.length/\(∀j,j<i->∃y,l[j]?=some y/\P y=true)/\(∀y,l[i]?=some y->P y=false)/\aI step ((0:Int),())=r i:=by
 suffices key:∀(k i:Nat),i+k=l.length->(∀j,j<i->∃y,l[j]?=some y/\P y=true)->∃m,m<=l.length/\(∀j,j<m->∃y,l[j]?=some y/\P y=true)/\(∀y,l[m]?=some y->P y=false)/\aI step ((i:Int),())=r m from key l.length 0 (by omega) (fun j hj=>absurd hj (Nat.not_lt_zero _))
 intro k
 induction k with
 |zero=>
  intro i hi hj;obtain rfl:i=l.length:=by omega
  refine⟨l.length,QI _,hj,fun y hy=>by simp at hy,?_⟩
  rw[iu,h3 (Qh (Int.lt_irrefl _))];cases r l.length<;>rfl
 |succ k ih=>
  intro i hi hj;have hx:l[i]?=some l[i]:=Qv (by omega)
  have hd:decide ((i:Int)<((l.length:Nat):Int))=true:=Qg (by omega)
  cases hP:P l[i]with
  |true=>
   rw[bn (h1 i _ hx hd (by rw[bC];exact hx) hP (bP (by omega) (by omega)))]
   refine ih (i+1) (by omega) fun j hj'=> ?_
   rcases Nat.lt_or_ge j i with h|h
   ·exact hj j h
   ·obtain rfl:j=i:=by omega
    exact⟨_,hx,hP⟩
  |false=>
   refine⟨i,by omega,hj,fun y hy=> ?_,?_⟩
   ·rw[hx]at hy;injection hy with hy
    rw[<-hy];exact hP
   ·rw[iu,h2 i _ hx hd (by rw[bC];exact hx) hP]
    cases r i<;>rfl
theorem EV{α ρ:Type}[DecidableEq α]{lt:α->α->Bool}(l:List α)(hl:l.length<=1000000)(x:α){step:Int×Unit->Option ((Int×Unit)⊕ρ)}{k:List α->Option ρ}
  (h1:∀(i:Nat) (y:α),decide ((i:Int)<((l.length:Nat):Int))=true->idx l (i:Int)=some y->lt y x=true->aG .i64 (i:Int) 1=((i+1:Nat):Int)->step ((i:Int),())=some (.inl (((i+1:Nat):Int),())))
  (h2:∀(i:Nat) (y:α),i<l.length->decide ((i:Int)<((l.length:Nat):Int))=true->decide ((i:Int)=((l.length:Nat):Int))=false->idx l (i:Int)=some y->lt y x=false->step ((i:Int),())=Option.map Sum.inr (k (if y=x then l else l.take i++x::l.drop i)))
  (h3:decide (((l.length:Nat):Int)<((l.length:Nat):Int))=false->decide (((l.length:Nat):Int)=((l.length:Nat):Int))=true->step (((l.length:Nat):Int),())=Option.map Sum.inr (k (l++[x]))):aI step ((0:Int),())=k (eK lt x l):=by
 obtain⟨i,hi,g1,g2,g3⟩:=Wi l hl (fun y=>lt y x) (step:=step) (r:=fun i=>k (if l[i]?=some x then l else l.take i++x::l.drop i)) (fun i y hy hd hx hP hw=>h1 i y hd hx hP hw) (fun i y hy hd hx hP=>by
   have hlt:=(Qw.1 hy).1;rw[h2 i y hlt hd (Qh (by omega)) hx hP,hy]
   by_cases hyx:y=x
   ·simp[hyx]
   ·have:¬(some y=some x):=fun h=>hyx (by injection h)
    rw[Qs hyx,Qs this]) (fun hd=>by
   rw[h3 hd (Qg rfl),Qs (by simp),List.take_length,List.drop_length])
 rw[g3,SI x l i g1 g2]
theorem Zh(l:List ae)(hl:l.length<=900000)(b:ae):rD l b=some (if aD b then l else eK (fun x y=>bg y x) b l):=by
 unfold rD;rw[de,Qa]
 cases hz:aD b with
 |true=>rfl
 |false=>
  simp only[Ql,ba]
  have he:∀y:ae,(decide (y.aj=b.aj)&&decide (y.Value=b.Value))=decide (y=b):=fun y=>by
   rw[QW];cases y;cases b;simp
  refine EV (lt:=fun x y=>bg y x) l (by omega) b (k:=fun t=>some t) (fun i y hd hx hlt hw=> ?_) (fun i y hi hd hde hx hlt=> ?_) (fun hd hde=> ?_)
  ·simp only[hd,hx,hw,Qk,Qa,iN,hlt]
  ·have e1:=rL l i;have e2:=vV l i;simp only[hd,hx,Qk,Qa,iN,hlt,Ql,xc,e1,e2,A7 (show i<=l.length by omega),A8 (show i<=l.length by omega),he]
   rw[gU (by omega) (by simp;omega),gU (by omega) (by simp;omega),gU (by omega) (by simp;omega)]
   by_cases hyb:y=b<;>simp[hyb]
  ·have e1:=rL l l.length;have e2:=vV l l.length;simp only[hd,Ql,e1,e2,A7 (QI l.length),A8 (QI l.length),Qk];rw[gU (by omega) (by simp;omega),gU (by omega) (by simp;omega),gU (by omega) (by simp;omega)]
   simp
theorem Ae{α σ ρ:Type}(l:List α)(hl:l.length<=1000000)(f:σ->α->σ)(Inv:Nat->σ->Prop){step:σ×Int×Unit->Option ((σ×Int×Unit)⊕ρ)}{fin:σ->Option ρ}
  (hI:∀i s x,x∈l->Inv i s->Inv (i+1) (f s x))
  (h1:∀(i:Nat) (x:α) (s:σ),Inv i s->i<=l.length->x∈l->decide ((i:Int)<((l.length:Nat):Int))=true->idx l (i:Int)=some x->aG .i64 (i:Int) 1=((i+1:Nat):Int)->step (s,(i:Int),())=some (.inl (f s x,((i+1:Nat):Int),())))
  (h2:∀s,decide (((l.length:Nat):Int)<((l.length:Nat):Int))=false->step (s,((l.length:Nat):Int),())=Option.map Sum.inr (fin s)) (s:σ) (hs:Inv 0 s):aI step (s,(0:Int),())=fin (l.foldl f s):=by
 suffices key:∀(k i:Nat) (s:σ),i+k=l.length->Inv i s->aI step (s,(i:Int),())=fin ((l.drop i).foldl f s)from key l.length 0 s (by omega) hs
 intro k
 induction k with
 |zero=>
  intro i s hi hs;obtain rfl:i=l.length:=by omega
  rw[iu,h2 s (Qh (Int.lt_irrefl _)),List.drop_length,List.foldl_nil];cases fin s<;>rfl
 |succ k ih=>
  intro i s hi hs;have hlt:i<l.length:=by omega
  rw[bn (h1 i l[i] s hs (by omega) (Q0 hlt) (Qg (by omega)) (by rw[bC];exact Qv hlt) (bP (by omega) (by omega))),ih (i+1) _ (by omega) (hI i s _ (Q0 hlt) hs),QM hlt,QU]
 def qk(e:ai):List ae:=if aO e then(if e.bx=1 then[e.aa,e.ak,e.aw]else[e.ak,at_ e 1000000])else[]
theorem Je{e:ai}{x:ae}(hz:aD x=false):x∈qk e↔x∈said e:=by
 unfold qk said
 cases hv:aO e with
 |false=>simp
 |true=>
  by_cases k1:e.bx=1
  ·simp[k1]
  ·by_cases k2:e.bx=2
   ·simp[k2]
   ·have hp:aD e.ak=true:=by
     unfold aO fV at hv;rw[Qm,Qs k1,Qs k2]at hv;have h:=hv.2
     by_cases k3:e.bx=3
     ·rw[Qr k3]at h;simp only[wQ,Qm]at h;exact h.1.1.2
     ·rw[Qs k3]at h;cases h
    simp only[Qt,k1,k2,Qu,QA,QR,or_false];constructor
    ·rintro(h|h)
     ·rw[h,hp]at hz;cases hz
     ·exact h
    ·exact .inr
def sb(l:List ae)(b:ae):List ae:=if aD b then l else eK (fun x y=>bg y x) b l
theorem GZ:∀(xs l:List ae),xs.foldl sb l=(xs.filter fun b=> !aD b).foldl (fun l x=>eK (fun x y=>bg y x) x l) l
 |[],l=>rfl
 |x::xs,l=>by
  rw[QU,GZ xs,List.filter_cons];cases hz:aD x<;>simp[sb,hz]
theorem MQ(l:List ae)(b:ae):(sb l b).length<=l.length+1:=by
 unfold sb;split
 ·omega
 ·exact wm b l
section
variable {l : List ai} (hl : ∀ e ∈ l, dR e.ab) (hlen : l.length <= 1000)
 include hl hlen
theorem GQ:lf l=some (ea l):=by
 have hfold:∀xs:List ae,xs.length<=3->∀s:List ae,(xs.foldl sb s).length<=s.length+xs.length:=by
  intro xs _
  induction xs with
  |nil=>intro s;simp
  |cons x xs ih=>
   intro s;have:=ih (by simp at*;omega) (sb s x)
   have:=MQ s x;rw[QU,QE];omega
 have hr3:∀e,(qk e).length<=3:=fun e=>by
  unfold qk;split
  ·split<;>simp
  ·simp
 have hF:lf l=some (l.foldl (fun s e=>(qk e).foldl sb s) []):=by
  unfold lf;refine Ae l (by omega) (fun s e=>(qk e).foldl sb s) (fun i s=>s.length<=3*i) (fin:=fun s=>some s) (fun i s x _ hs=> ?_) (fun i e s hs hi he hd hx hw=> ?_) (fun s hd=> ?_) [] (by simp)
  ·have:=hfold (qk x) (hr3 x) s;have:=hr3 x;show(List.foldl sb s (qk x)).length<=3*(i+1);omega
  ·simp only[hd,hx,hw,Qk,ba,Qa,an.eta,ai.eta,iI (hl e he)]
   have inner:∀L:List ae,L.length<=3->aI (fun(v8:(List ae)×Int×Unit)=>
     bif (decide (v8.2.1<((List.length L:Nat):Int)))then Option.bind (idx L v8.2.1) fun x9=>Option.bind (rD v8.1 x9) fun r10=>some (Sum.inl (r10,(aG .i64 v8.2.1 (1:Int)),()))
     else Option.map Sum.inr (some (Sum.inl (v8.1,((i+1:Nat):Int),()):((List ae)×Int×Unit)⊕(List ae)))) (s,(0:Int),())=some (Sum.inl (L.foldl sb s,((i+1:Nat):Int),())):=by
    intro L hL;refine Ae L (by omega) sb (fun k t=>t.length<=s.length+k) (fin:=fun t=>some (Sum.inl (t,((i+1:Nat):Int),()))) (fun k t x _ ht=> ?_) (fun k x t ht hk hx' hd' hxx hw'=> ?_) (fun t hd'=> ?_) s (by simp)
    ·have:=MQ t x;omega
    ·simp only[hd',hxx,hw',Qk,Qa,Zh t (by omega)]
     rfl
    ·simp only[hd',Ql]
   cases hv:aO e with
   |false=>simp[qk,hv]
   |true=>
    by_cases k1:e.bx=1
    ·have i3:=inner [e.aa,e.ak,e.aw] (by simp)
     simp only[Qo,Ql,k1,decide_true,i3,qk,hv,Qt]
    ·have i2:=inner [e.ak,⟨1000000,e.aa.Value⟩] (by simp)
     simp only[Qo,Qp,Ql,Qk,k1,decide_false,i2,qk,hv,Qt,Qu,at_]
  ·simp only[hd,Ql]
 obtain⟨_,h2,_,h4⟩:=kG hl hlen;have hflat:l.foldl (fun s e=>(qk e).foldl sb s) []=(l.flatMap qk).foldl sb []:=by rw[List.foldl_flatMap]
 rw[hF,hflat,GZ];obtain⟨h5,h6⟩:=y9 wF.flip ((l.flatMap qk).filter fun b=> !aD b) [] .nil
 congr 1;refine wF.flip.unique h5 h2 fun x=> ?_
 rw[h6,h4];simp only[List.mem_filter,QQ,QR,or_false,Bool.not_eq_true'];constructor
 ·rintro⟨⟨e,he,hx⟩,hz⟩;exact⟨e,he,(Je hz).1 hx,hz⟩
 ·rintro⟨e,he,hx,hz⟩;exact⟨⟨e,he,(Je hz).2 hx⟩,hz⟩
end
section
variable {l : List ai} (hl : ∀ e ∈ l, dR e.ab) (hlen : l.length <= 1000)
 include hl hlen
theorem TG:oI l=some (ft l):=by
 have hF:oI l=some (l.foldl (fun s e=>if aO e then eK jx e.aa.Value s else s) []):=by
  unfold oI;refine Ae l (by omega) (fun s e=>if aO e then eK jx e.aa.Value s else s) (fun i s=>s.length<=i) (fin:=fun s=>some s) (fun i s x _ hs=> ?_) (fun i e s hs hi he hd hx hw=> ?_) (fun s hd=> ?_) [] (by simp)
  ·show(if aO x then eK jx x.aa.Value s else s).length<=i+1
   have:=wm (lt:=jx) x.aa.Value s;split<;>omega
  ·simp only[hd,hx,hw,Qk,ba,Qa,an.eta,ai.eta,iI (hl e he)]
   cases hv:aO e with
   |false=>simp
   |true=>
    simp only[Qo,Ql,Qt];refine EV (lt:=jx) s (by omega) e.aa.Value (k:=fun t=>some (Sum.inl (t,((i+1:Nat):Int),()))) (fun j y hd' hx' hlt hw'=> ?_) (fun j y hj hd' hde hx' hlt=> ?_) (fun hd' hde=> ?_)
    ·simp only[hd',hx',hw',Qk,Qa,vD,hlt]
    ·have e1:=rL s j;have e2:=vV s j;simp only[hd',hx',hde,Qk,Ql,Qa,vD,hlt,e1,e2,A7 (show j<=s.length by omega),A8 (show j<=s.length by omega)]
     rw[gU (by omega) (by simp;omega),gU (by omega) (by simp;omega),gU (by omega) (by simp;omega)]
     by_cases hyx:y=e.aa.Value<;>simp[hyx]
    ·have e1:=rL s s.length;have e2:=vV s s.length;simp only[hd',hde,Qk,Ql,e1,e2,A7 (QI s.length),A8 (QI s.length)];rw[gU (by omega) (by simp;omega),gU (by omega) (by simp;omega),gU (by omega) (by simp;omega)]
     simp
  ·simp only[hd,Ql]
 obtain⟨_,h2,_,h4⟩:=nj hl hlen
 have hflat:l.foldl (fun s e=>if aO e then eK jx e.aa.Value s else s) []=(l.flatMap fun e=>if aO e then[e.aa.Value]else[]).foldl (fun l x=>eK jx x l) []:=by
  rw[List.foldl_flatMap];congr 1
  funext s e
  split<;>rfl
 rw[hF,hflat];obtain⟨h5,h6⟩:=y9 wE (l.flatMap fun e=>if aO e then[e.aa.Value]else[]) [] .nil
 congr 1;refine wE.unique h5 h2 fun x=> ?_
 rw[h6,h4];simp only[QQ,QR,or_false];constructor
 ·rintro⟨e,he,hx⟩;split at hx
  ·rename_i hv;exact⟨e,he,hv,by simpa using hx⟩
  ·cases hx
 ·rintro⟨e,he,hv,hx⟩;exact⟨e,he,by rw[Qr hv];simpa using hx⟩
theorem u4(v:ByteArray):ij l v=some (aU l v):=by
 have hF:ij l v=some (l.foldl (fun s e=>if gB v e then eK (fun a b=>decide (a<b)) e.aM (eK (fun a b=>decide (a<b)) e.aF s)else s) []):=by
  unfold ij;refine Ae l (by omega) (fun s e=>if gB v e then eK (fun a b=>decide (a<b)) e.aM (eK (fun a b=>decide (a<b)) e.aF s)else s) (fun i s=>s.length<=2*i) (fin:=fun s=>some s) (fun i s x _ hs=> ?_) (fun i e s hs hi he hd hx hw=> ?_) (fun s hd=> ?_) [] (by simp)
  ·show(if gB v x then eK (fun a b=>decide (a<b)) x.aM (eK (fun a b=>decide (a<b)) x.aF s)else s).length<=2*(i+1)
   have h1:=wm (lt:=fun a b:Int=>decide (a<b)) x.aF s
   have h2:=wm (lt:=fun a b:Int=>decide (a<b)) x.aM (eK (fun a b=>decide (a<b)) x.aF s)
   split<;>omega
  ·simp only[hd,hx,hw,Qk,ba,Qa,an.eta,ai.eta,iI (hl e he)]
   have inner:∀(t:List Int) (x:Int) (z:Int),t.length<=3000->aI (fun(v12:Int×Unit)=>
     Option.bind (bif (decide (v12.1<((List.length t:Nat):Int)))then Option.bind (idx t v12.1) fun x13=>some (decide (x13<x))else some false) fun b14=>
     bif b14 then some (Sum.inl ((aG .i64 v12.1 (1:Int)),()))else
     Option.map Sum.inr (Option.bind (bif (decide (v12.1=((List.length t:Nat):Int)))then some true else Option.bind (idx t v12.1) fun x15=>some (!decide (x15=x))) fun b16=>
     bif b16 then
     bif cr (0:Int) v12.1 (List.length t)then
     bif bB 8 (List.length ((t.take (Int.toNat v12.1)).drop (Int.toNat (0:Int))))then
     bif bB 8 (List.length ((t.take (Int.toNat v12.1)).drop (Int.toNat (0:Int)))+List.length [x])then
     bif cr v12.1 (t.length:Int) (List.length t)then
     bif bB 8 (List.length (((t.take (Int.toNat v12.1)).drop (Int.toNat (0:Int)))++[x])+List.length ((t.take (Int.toNat (t.length:Int))).drop (Int.toNat v12.1)))then
     some (Sum.inl (((((t.take (Int.toNat v12.1)).drop (Int.toNat (0:Int)))++[x])++((t.take (Int.toNat (t.length:Int))).drop (Int.toNat v12.1))),z,()):((List Int)×Int×Unit)⊕(((List Int)×Int×Unit)⊕(List Int)))
     else none else none else none else none else none
     else some (Sum.inl (t,z,())))) ((0:Int),())=some (Sum.inl (eK (fun a b=>decide (a<b)) x t,z,())):=by
    intro t x z ht;refine EV (lt:=fun a b:Int=>decide (a<b)) t (by omega) x (k:=fun t=>some (Sum.inl (t,z,()))) (fun j y hd' hx' hlt hw'=> ?_) (fun j y hj hd' hde hx' hlt=> ?_) (fun hd' hde=> ?_)
    ·simp only[hd',hx',hw',Qk,Qa,hlt]
    ·have e1:=rL t j;have e2:=vV t j;simp only[hd',hx',hde,Qk,Ql,Qa,hlt,e1,e2,A7 (show j<=t.length by omega),A8 (show j<=t.length by omega)]
     rw[gU (by omega) (by simp;omega),gU (by omega) (by simp;omega),gU (by omega) (by simp;omega)]
     by_cases hyx:y=x<;>simp[hyx]
    ·have e1:=rL t t.length;have e2:=vV t t.length;simp only[hd',hde,Qk,Ql,Qa,e1,e2,A7 (QI t.length),A8 (QI t.length)];rw[gU (by omega) (by simp;omega),gU (by omega) (by simp;omega),gU (by omega) (by simp;omega)]
     simp
   have hw1:aG .i64 (0:Int) 1=1:=rfl;have hw2:aG .i64 (1:Int) 1=2:=rfl;have hd0:decide ((0:Int)<2)=true:=rfl;have hd1:decide ((1:Int)<2)=true:=rfl;have hd2:decide ((2:Int)<2)=false:=rfl;have hx0:idx [e.aF,e.aM] 0=some e.aF:=rfl;have hx1:idx [e.aF,e.aM] 1=some e.aM:=rfl;have hl1:=wm (lt:=fun a b:Int=>decide (a<b)) e.aF s
   unfold gB
   cases hv:aO e with
   |false=>simp
   |true=>
    by_cases hvv:e.aa.Value=v
    ·by_cases hlo:e.aF=0
     ·simp[hvv,hlo]
     ·simp only[Qo,Ql,hvv,decide_true,hlo,decide_false,Bool.and_self,Qp,Qa,Qt];refine(bn (s':=(eK (fun a b=>decide (a<b)) e.aF s,(1:Int),())) ?_).trans ((bn (s':=(eK (fun a b=>decide (a<b)) e.aM (eK (fun a b=>decide (a<b)) e.aF s),(2:Int),())) ?_).trans (bX ?_))
      ·simp only[hd0,hx0,hw1,Qk,Qa];exact inner s e.aF 1 (by omega)
      ·simp only[hd1,hx1,hw2,Qk,Qa];exact inner _ e.aM 2 (by omega)
      ·simp only[hd2,Ql,Qe]
    ·simp[hvv]
  ·simp only[hd,Ql]
 obtain⟨_,h2,_,h4⟩:=ff hl hlen v
 have hflat:l.foldl (fun s e=>if gB v e then eK (fun a b=>decide (a<b)) e.aM (eK (fun a b=>decide (a<b)) e.aF s)else s) []=(ends v l).foldl (fun l x=>eK (fun a b=>decide (a<b)) x l) []:=by
  rw[ends,List.foldl_flatMap];congr 1
  funext s e
  split<;>rfl
 rw[hF,hflat];obtain⟨h5,h6⟩:=y9 yn (ends v l) [] .nil;congr 1;refine yn.unique h5 (h2.imp fun h=>Qg h) fun x=> ?_
 rw[h6,h4];simp
end
end Go.Proofs.YtkgenianmdfmdaaGreat
namespace Go.Proofs.YtkgenianmdfmdaaGreat
open Go.TQ
theorem kinds{e:ai}(hv:aO e=true):e.bx=1\/e.bx=2\/e.bx=3:=by
 unfold aO fV at hv;rw[Qm]at hv;have h:=hv.2
 by_cases k1:e.bx=1
 ·exact .inl k1
 ·by_cases k2:e.bx=2
  ·exact .inr (.inl k2)
  ·by_cases k3:e.bx=3
   ·exact .inr (.inr k3)
   ·rw[Qs k1,Qs k2,Qs k3]at h;cases h
theorem TE{e:ai}(h:dR e.ab)(b:ae):lR e b=some (aO e&&ni e b):=by
 simp only[lR,an.eta,ai.eta,iI h,Qa,de,fI,xM]
 cases hv:aO e with
 |false=>simp
 |true=>
  cases hz:aD b with
  |true=>simp[ni,hz]
  |false=>by_cases k1:e.bx=1<;>simp[ni,hz,k1]
theorem OT{e:ai}(h:dR e.ab)(v:ByteArray)(lo hi:Int):lg e v lo hi=some (aO e&&dj e v lo hi):=by
 simp only[lg,an.eta,ai.eta,iI h,Qa,ji,dj,vr]
 cases hv:aO e with
 |false=>simp
 |true=>
  have hk:=kinds hv
  by_cases a1:lo<1<;>by_cases a2:hi<lo<;>by_cases a3:e.aa.Value=v<;>by_cases a4:lo<e.aF<;>by_cases k1:e.bx=1<;>by_cases k3:e.bx=3<;>simp_all<;>grind
theorem TF{e:ai}(h:dR e.ab)(v:ByteArray)(lo hi:Int):mK e v lo hi=some (aO e&&ke e v lo hi):=by
 simp only[mK,an.eta,ai.eta,iI h,Qa,ji,ke,vr]
 cases hv:aO e with
 |false=>simp
 |true=>
  have hl:=Zb hv
  by_cases a1:lo<1<;>by_cases a2:hi<lo<;>by_cases a3:e.aa.Value=v<;>by_cases a4:lo<e.aF<;>by_cases k1:e.bx=1<;>by_cases a5:e.aF=0<;>simp_all<;>grind
theorem sS(p:ai->Bool):∀l:List ai,cW (fun e=>aO e&&p e) l=cW p (bL l)
 |[]=>rfl
 |e::l=>by
  have ih:=sS p l;rw[cW,ih];cases hv:aO e<;>simp[bL,hv,cW]
theorem zp(l:List ai)(hlen:l.length<=1000)(p:ai->Bool)(hp:∀e∈l,p e=true->0<=e.au/\e.au<10):gr l (l.map p)=some ((cW p l:Nat):Int):=by
 unfold gr
 suffices key:∀(k i s:Nat),i+k=l.length->s<1024->aI _ ((s:Int),(i:Int),())=some ((s|||cW p (l.drop i):Nat):Int)by
  have:=key l.length 0 0 (by omega) (by omega)
  rw[Nat.zero_or,List.drop_zero]at this;exact this
 intro k
 induction k with
 |zero=>
  intro i s hi hs;obtain rfl:i=l.length:=by omega
  have hd:decide (((l.length:Nat):Int)<((l.length:Nat):Int))=false:=Qh (Int.lt_irrefl _);rw[bX (r:=(s:Int)) (by simp only[hd,Ql,Qe]),List.drop_length,cW]
  simp
 |succ k ih=>
  intro i s hi hs;have hlt:i<l.length:=by omega
  have hd:decide ((i:Int)<((l.length:Nat):Int))=true:=Qg (by omega)
  have hd2:decide ((i:Int)<(((l.map p).length:Nat):Int))=true:=Qg (by rw[QC];omega)
  have hw:aG .i64 (i:Int) 1=((i+1:Nat):Int):=bP (by omega) (by omega)
  have hx:idx l (i:Int)=some l[i]:=by rw[bC];exact Qv hlt
  have hx2:idx (l.map p) (i:Int)=some (p l[i]):=by rw[bC,QT,Qv hlt];rfl
  rw[QM hlt,cW]
  cases hpe:p l[i]with
  |false=>
   rw[bn (s':=((s:Int),((i+1:Nat):Int),())) (by simp only[hd,hd2,hx,hx2,hw,hpe,Qk,Ql,ba,Qa]),ih (i+1) s (by omega) hs]
   simp
  |true=>
   obtain⟨h0,h1⟩:=hp _ (Q0 hlt) hpe
   have hc:FQ .u64 l[i].au=l[i].au:=by
    obtain⟨n,hn⟩:∃n:Nat,l[i].au=n:=⟨l[i].au.toNat,by omega⟩
    rw[hn];exact ab3 (by omega)
   have hn0:¬l[i].au<0:=by omega
   have d1:decide ((0:Int)<=l[i].au)=true:=Qg h0;have d2:decide (l[i].au<=(9:Int))=true:=Qg (by omega)
   rw[bn (s':=(((s|||2 ^ l[i].au.toNat:Nat):Int),((i+1:Nat):Int),())) (by
    simp only[hd,hd2,hx,hx2,hw,hpe,Qk,ba,Qa,d1,d2,hc,hn0,Qu]
    rw[yv hs h0 h1]),ih (i+1) _ (by omega) (Jq hs h1)]
   simp[Nat.or_assoc]
theorem Om{ρ:Type}(l:List ai)(hl:l.length<=1000)(p q:ai->Bool){step:Int×List Bool×List Bool×Unit->Option ((Int×List Bool×List Bool×Unit)⊕ρ)}{fin:List Bool->List Bool->Option ρ}
  (h1:∀(i:Nat) (e:ai) (vs as_:List Bool),e∈l->decide ((i:Int)<((l.length:Nat):Int))=true->idx l (i:Int)=some e->aG .i64 (i:Int) 1=((i+1:Nat):Int)->(∀x:Bool,bB 1 (vs.length+[x].length)=true)->(∀x:Bool,bB 1 (as_.length+[x].length)=true)->step ((i:Int),vs,as_,())=some (.inl (((i+1:Nat):Int),vs++[p e],as_++[q e],())))
  (h2:∀vs as_,decide (((l.length:Nat):Int)<((l.length:Nat):Int))=false->step (((l.length:Nat):Int),vs,as_,())=Option.map Sum.inr (fin vs as_)):aI step ((0:Int),[],[],())=fin (l.map p) (l.map q):=by
 suffices key:∀(k i:Nat),i+k=l.length->aI step ((i:Int),(l.take i).map p,(l.take i).map q,())=fin (l.map p) (l.map q)from key l.length 0 (by omega)
 intro k
 induction k with
 |zero=>
  intro i hi;obtain rfl:i=l.length:=by omega
  rw[iu,h2 _ _ (Qh (Int.lt_irrefl _)),List.take_length];cases fin (l.map p) (l.map q)<;>rfl
 |succ k ih=>
  intro i hi;have hlt:i<l.length:=by omega
  rw[bn (h1 i l[i] _ _ (Q0 hlt) (Qg (by omega)) (by rw[bC];exact Qv hlt) (bP (by omega) (by omega)) (fun x=>gU (by omega) (by simp;omega)) (fun x=>gU (by omega) (by simp;omega))),<-ih (i+1) (by omega),List.take_succ_eq_append_getElem hlt,List.map_append,List.map_append]
  rfl
theorem B4{p:ai->Bool}{l:List ai}:∀e∈l,(aO e&&p e)=true->0<=e.au/\e.au<10:=fun e _ h=>by
 rw[Qm]at h;exact iX h.1
section
variable {l : List ai} (hl : ∀ e ∈ l, dR e.ab) (hlen : l.length <= 1000)
 include hl hlen
theorem Mi(b:ae):rC l b=some (((cW (fun e=>ni e b||cQ e b) (bL l):Nat):Int),((cW (cQ · b) (bL l):Nat):Int),()):=by
 unfold rC;refine(Om l hlen (fun e=>aO e&&(ni e b||cQ e b)) (fun e=>aO e&&cQ e b) (fin:=fun vs as_=>Option.bind (gr l vs) fun r6=>Option.bind (gr l as_) fun r7=>some (r6,r7,())) (fun i e vs as_ he hd hx hw o1 o2=> ?_) (fun vs as_ hd=> ?_)).trans ?_
 ·simp only[hd,hx,hw,Qk,Qa,an.eta,ai.eta,OS (hl e he),TE (hl e he),ji,o1,o2];cases aO e<;>cases ni e b<;>cases cQ e b<;>rfl
 ·simp only[hd,Ql]
 ·rw[zp l hlen _ B4,zp l hlen _ B4,Qa,Qa,sS,sS]
theorem Mh(v:ByteArray)(lo hi:Int):ru l v lo hi=some (((cW (fun e=>ke e v lo hi||dj e v lo hi) (bL l):Nat):Int),((cW (dj · v lo hi) (bL l):Nat):Int),()):=by
 unfold ru;refine(Om l hlen (fun e=>aO e&&(ke e v lo hi||dj e v lo hi)) (fun e=>aO e&&dj e v lo hi) (fin:=fun vs as_=>Option.bind (gr l vs) fun r6=>Option.bind (gr l as_) fun r7=>some (r6,r7,())) (fun i e vs as_ he hd hx hw o1 o2=> ?_) (fun vs as_ hd=> ?_)).trans ?_
 ·simp only[hd,hx,hw,Qk,Qa,an.eta,ai.eta,OT (hl e he),TF (hl e he),ji,o1,o2];cases aO e<;>cases ke e v lo hi<;>cases dj e v lo hi<;>rfl
 ·simp only[hd,Ql]
 ·rw[zp l hlen _ B4,zp l hlen _ B4,Qa,Qa,sS,sS]
end
theorem Bm{c:bp}(hc:xI c){v a b:Nat}(hv:v<10)(h1:a<1024)(h2:b<1024):nK c v a b=some (jL c.aX v a b):=by
 unfold nK jL;have h3:a|||b<1024:=Nat.or_lt_two_pow (n:=10) h1 h2
 rw[s8 h1,s8 h2,Jk hc h2,Bs a b (by omega) (by omega),Eu hc h3]
 simp[pf (wO hc h3).lt,q9,hv]
theorem zW{c:bp}(hc:xI c){v b:Nat}(hv:v<10)(h2:b<1024):mE c v b=some ((gq c.aX b).testBit v):=by
 unfold mE;rw[Eu hc h2];simp[pf (wO hc h2).lt,q9,hv]
end Go.Proofs.YtkgenianmdfmdaaGreat
namespace Go.Proofs.YtkgenianmdfmdaaGreat
open Go.TQ
theorem IJ{c:bp}{ay:Int}{l:List ai}(hlen:l.length<=100000)(b:ae):gf ⟨ay,c,(bL l).map bu.mk⟩ b=iQ c ay ((cW (fun e=>ni e b||cQ e b) (bL l):Nat):Int) ((cW (cQ · b) (bL l):Nat):Int):=by
 have hrl:=xU l;have hin:=iH l;simp only[gf,lH,jl,Qa,Option.bind_fun_some,UE (by omega:(bL l).length<=1000000) hin,Hd (by omega:(bL l).length<=1000000) hin]
theorem Hm{c:bp}{ay:Int}{l:List ai}(hlen:l.length<=100000)(b:ae):eG ⟨ay,c,(bL l).map bu.mk⟩ b=ik c ay ((cW (cQ · b) (bL l):Nat):Int):=by
 have hrl:=xU l;have hin:=iH l;simp only[eG,Qa,Option.bind_fun_some,Hd (by omega:(bL l).length<=1000000) hin]
theorem U5(b:ae):mf b=some (oC b):=Kk b
def tB(x:ae->Bool)(p q:ae)(v:ByteArray)(b:ae):Bool:=(decide (v=fu)||decide (b.Value=v))&& !b0 (oC p) (oC q) b&&x b
def tD(y:ae->Bool)(a b:ae):Bool:=bg a b&&decide (b.aj<=1000)&&y b
section
variable {ay : Int} {t : an} {l : List ai} (hl : oF l) (hlen : l.length <= 1000) {c : bp} {x y : ae -> Bool}
 include hl hlen
theorem Y8(hL:fc ay t l=some ⟨ay,c,(bL l).map bu.mk⟩)(hx:∀b,gf ⟨ay,c,(bL l).map bu.mk⟩ b=some (x b))(p q:ae)(v:ByteArray):mh ay t l p q v=some (((ea l).find? (tB x p q v)).getD vP):=by
 obtain⟨h1,_,h3,_⟩:=kG hl.aR hlen;unfold mh;simp only[an.eta,hL,h1,Qa];refine yg (ea l) (by omega) (fun i=>(i,ae.mk (0:Int) (ByteArray.mk #[]),())) (tB x p q v) vP (fun i b hd hx' hw=> ?_) (fun hd=> ?_)
 ·simp only[hd,hx',hw,Qk,ba,Qa,Kk,oR,hx];unfold tB fu;cases decide (v=ByteArray.mk #[])<;>cases decide (b.Value=v)<;>cases b0 (oC p) (oC q) b<;>cases x b<;>simp
 ·simp only[hd,Ql,Qe];rfl
theorem Wx(hx:∀b,nI ay t l b=some (x b))(p q:ae)(v:ByteArray):oH ay t l p q v=some (((ea l).find? (tB x p q v)).getD vP):=by
 obtain⟨h1,_,h3,_⟩:=kG hl.aR hlen;unfold oH;simp only[an.eta,GQ hl.aR hlen,Qa];refine yg (ea l) (by omega) (fun i=>(i,ae.mk (0:Int) (ByteArray.mk #[]),())) (tB x p q v) vP (fun i b hd hx' hw=> ?_) (fun hd=> ?_)
 ·simp only[hd,hx',hw,Qk,ba,Qa,U5,mL,hx];unfold tB fu;cases decide (v=ByteArray.mk #[])<;>cases decide (b.Value=v)<;>cases b0 (oC p) (oC q) b<;>cases x b<;>simp
 ·simp only[hd,Ql,Qe];rfl
theorem Zk(hL:fc ay t l=some ⟨ay,c,(bL l).map bu.mk⟩)(hy:∀b,eG ⟨ay,c,(bL l).map bu.mk⟩ b=some (y b))(a:ae):jX ay t l a=some (((ea l).find? (tD y a)).getD vP):=by
 obtain⟨h1,_,h3,_⟩:=kG hl.aR hlen;unfold jX;simp only[an.eta,hL,h1,Qa];refine yg (ea l) (by omega) (fun i=>(i,ae.mk (0:Int) (ByteArray.mk #[]),())) (tD y a) vP (fun i b hd hx' hw=> ?_) (fun hd=> ?_)
 ·simp only[hd,hx',hw,Qk,ba,Qa,iF,lH,hy];unfold tD;cases bg a b<;>cases decide (b.aj<=1000)<;>cases y b<;>simp
 ·simp only[hd,Ql,Qe];rfl
theorem Wy(hy:∀b,mC ay t l b=some (y b))(a:ae):k9 ay t l a=some (((ea l).find? (tD y a)).getD vP):=by
 obtain⟨h1,_,h3,_⟩:=kG hl.aR hlen;unfold k9;simp only[an.eta,GQ hl.aR hlen,Qa];refine yg (ea l) (by omega) (fun i=>(i,ae.mk (0:Int) (ByteArray.mk #[]),())) (tD y a) vP (fun i b hd hx' hw=> ?_) (fun hd=> ?_)
 ·simp only[hd,hx',hw,Qk,Qa,iN,hy];unfold tD;cases bg a b<;>cases decide (b.aj<=1000)<;>cases y b<;>simp
 ·simp only[hd,Ql,Qe];rfl
end
end Go.Proofs.YtkgenianmdfmdaaGreat
end
