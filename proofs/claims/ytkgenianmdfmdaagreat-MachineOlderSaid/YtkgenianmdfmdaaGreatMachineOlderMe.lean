/-
  Texts made small by a program (see NOTES). Conditions: those that each theorem names.
-/
import Derived.Test.YtkgenianmdfmdaaGreatMachineOlderMd
set_option linter.unusedVariables false
set_option linter.unusedSimpArgs false
set_option linter.unusedSectionVars false
set_option maxHeartbeats 2000000
noncomputable section
namespace Go.TQ
@[simp] theorem aW {σ ρ:Type} (j:σ->Option ρ) (f:(σ->Option ρ)->Option ρ):bj j f=f j:=rfl
@[simp] theorem jw {α:Type} (b:Bool) (x y:α):(bif b then some x else some y)=some (bif b then x else y):=by cases b<;>rfl
@[simp] theorem acN {α:Type} (b:Bool) (x:α):(bif b then x else x)=x:=by cases b<;>rfl
theorem BE{α:Type}(p:Prop)[Decidable p](x y:α):(bif decide p then x else y)=if p then x else y:=by
 by_cases h:p<;>simp[h]
theorem yR{α:Type}(p:Prop)[Decidable p](x y:α):(if p then some x else some y)=some (if p then x else y):=by split<;>rfl
@[simp] theorem BD {α:Type} (b:Bool) (x y:α):(bif !b then x else y)=bif b then y else x:=by cases b<;>rfl
@[simp] theorem wY (a b:Int) (s t:ByteArray):jH false a b s t=(decide (a=b)&&decide (s=t)):=by simp[jH]
@[simp] theorem WM (a b:Int) (s t:ByteArray):jH true a b s t= !(decide (a=b)&&decide (s=t)):=by simp[jH]
def Yd{α:Type}(o:Option α)(p:α->Prop):Prop:=∃x,o=some x/\p x
theorem Yd.bind{α β:Type}{o:Option α}{p:α->Prop}{f:α->Option β}{q:β->Prop}(h:Yd o p)(k:∀x,p x->Yd (f x) q):Yd (o.bind f) q:=by
 obtain⟨x,rfl,hx⟩:=h;exact k x hx
theorem Yd.mono{α:Type}{o:Option α}{p q:α->Prop}(h:Yd o p)(k:∀x,p x->q x):Yd o q:=by
 obtain⟨x,h1,hx⟩:=h;exact⟨x,h1,k x hx⟩
theorem Yd.some{α:Type}{x:α}{p:α->Prop}(h:p x):Yd (Option.some x) p:=⟨x,rfl,h⟩
theorem Yd.of_eq{α:Type}{o:Option α}{x:α}{p:α->Prop}(h:o=Option.some x)(hp:p x):Yd o p:=⟨x,h,hp⟩
theorem Yd.cond{α:Type}{b:Bool}{x y:Option α}{p:α->Prop}(h1:b=true->Yd x p)(h2:b=false->Yd y p):Yd (bif b then x else y) p:=by
 cases b
 ·exact h2 rfl
 ·exact h1 rfl
theorem Yd.map{α β:Type}{o:Option α}{f:α->β}{p:β->Prop}(h:Yd o fun x=>p (f x)):Yd (o.map f) p:=by
 obtain⟨x,rfl,hx⟩:=h;exact⟨f x,rfl,hx⟩
theorem Yd.eq_true{o:Option Bool}(h:Yd o (·=true)):o=Option.some true:=by
 obtain⟨x,h1,rfl⟩:=h;exact h1
theorem wrap64{n:Int}(h1: -9223372036854775808<=n)(h2:n<=9223372036854775807):IntKind.i64.wrap n=n:=i64_in h1 h2
theorem bM{a b:Int}(h1: -9223372036854775808<=a+b)(h2:a+b<=9223372036854775807):aA .i64 a b=a+b:=wrap64 h1 h2
theorem pV{a b:Int}(h1: -9223372036854775808<=a - b)(h2:a - b<=9223372036854775807):de .i64 a b=a - b:=wrap64 h1 h2
theorem bB{α:Type}(l:List α)(i:Nat):idx l (i:Int)=l[i]?:=by simp[idx]
theorem Ph{α:Type}(l:List α){n:Int}(h:0<=n):idx l n=l[n.toNat]?:=by simp[idx,h]
@[simp] theorem aau (n:Nat) (h:n<256):Fz .i64 (n:Int)=n:=wrap64 (by omega) (by omega)
@[simp] theorem bZ {bytes n:Nat} (h:n*bytes<=140737488355328/\n<=1000000):bx bytes n=true:=by
 simp only[bx,Qm,Qi];exact⟨h.1,QK h.2 (by simp[maxLen])⟩
theorem qB(a:Nat)(h:a<2 ^ 62):(BitVec.ofInt 64 (a:Int)).toNat=a:=by
 rw[BitVec.ofInt_natCast,BitVec.toNat_ofNat];exact Nat.mod_eq_of_lt (by omega)
theorem BN(n:Nat)(h:n<2 ^ 62):IntKind.i64.wrap (n:Int)=n:=wrap64 (by omega) (by omega)
theorem y5(a b:Nat)(ha:a<2 ^ 62)(hb:b<2 ^ 62):EX .i64 (a:Int) (b:Int)=((a&&&b:Nat):Int):=by
 show IntKind.i64.wrap (((BitVec.ofInt 64 (a:Int)&&&BitVec.ofInt 64 (b:Int)).toNat:Nat):Int)=_;rw[BitVec.toNat_and,qB a ha,qB b hb];exact BN _ (Nat.lt_of_le_of_lt Nat.and_le_left ha)
theorem Bg(a b:Nat)(ha:a<2 ^ 62)(hb:b<2 ^ 62):um .i64 (a:Int) (b:Int)=((a|||b:Nat):Int):=by
 show IntKind.i64.wrap (((BitVec.ofInt 64 (a:Int)|||BitVec.ofInt 64 (b:Int)).toNat:Nat):Int)=_
 rw[BitVec.toNat_or,qB a ha,qB b hb];exact BN _ (Nat.or_lt_two_pow ha hb)
theorem Zr(s k:Nat):s&&&2 ^ k=if s.testBit k then 2 ^ k else 0:=by
 refine Nat.eq_of_testBit_eq fun i=> ?_
 rw[Nat.testBit_and,Nat.testBit_two_pow]
 by_cases h:k=i
 ·subst h;cases hs:s.testBit k<;>simp
 ·cases hs:s.testBit k<;>simp[h]
theorem tu(k:Nat)(h:k<=60):iI .i64 1 (k:Int)=((2 ^ k:Nat):Int):=by
 show IntKind.i64.wrap (1*2 ^ min (k:Int).toNat 64)=_;rw[QV,show min k 64=k from Nat.min_eq_left (by omega),Int.one_mul]
 have:=BN (2 ^ k) (Nat.pow_lt_pow_right (by omega) (by omega))
 simpa using this
theorem V4(a k:Nat)(h:k<=60):V5 .i64 (a:Int) (k:Int)=((a>>>k:Nat):Int):=by
 show(a:Int).fdiv (2 ^ min (k:Int).toNat 64)=_;rw[QV,show min k 64=k from Nat.min_eq_left (by omega),Nat.shiftRight_eq_div_pow]
 rw[show(2:Int) ^ k=((2 ^ k:Nat):Int)by simp,Int.fdiv_eq_ediv_of_nonneg _ (Int.natCast_nonneg _)]
 exact(Int.natCast_ediv a (2 ^ k)).symm
theorem bS{σ ρ:Type}{step:σ->Option (σ⊕ρ)}{s:σ}{r:ρ}(h:step s=some (.inr r)):aE step s=some r:=by rw[ic,h]
theorem bl{σ ρ:Type}{step:σ->Option (σ⊕ρ)}{s s':σ}(h:step s=some (.inl s')):aE step s=aE step s':=by rw[ic,h]
theorem Jr{σ ρ:Type}{step:σ->Option (σ⊕ρ)}{s:σ}(h:step s=none):aE step s=none:=by rw[ic,h]
theorem Yd.loop{σ ρ:Type}{step:σ->Option (σ⊕ρ)}{s:σ}{p:ρ->Prop}(h:Yd (step s) fun y=>match y with| .inl s'=>Yd (aE step s') p| .inr r=>p r):Yd (aE step s) p:=by
 obtain⟨y,h1,h2⟩:=h
 cases y with
 |inl s'=>rw[bl h1];exact h2
 |inr r=>exact⟨r,bS h1,h2⟩
theorem Yd.join{σ ρ:Type}{j:σ->Option ρ}{f:(σ->Option ρ)->Option ρ}{p:ρ->Prop}(inv:σ->Prop)(h1:∀v,inv v->Yd (j v) p)(h2:∀j':σ->Option ρ,(∀v,inv v->Yd (j' v) p)->Yd (f j') p):Yd (bj j f) p:=h2 j h1
theorem Yd.inr{σ ρ:Type}{o:Option ρ}{p:σ⊕ρ->Prop}(h:Yd o fun r=>p (.inr r)):Yd (Option.map Sum.inr o) p:=h.map
def eD{α σ ρ:Type}(g:α->σ->Option (σ⊕ρ))(fin:σ->Option ρ):List α->σ->Option ρ
 |[],s=>fin s
 |x::l,s=>match g x s with
  |none=>none
  |some (.inr r)=>some r
  |some (.inl s')=>eD g fin l s'
theorem TH{α σ τ ρ:Type}(l:List α)(mk:Int->σ->τ){step:τ->Option (τ⊕ρ)}(g:α->σ->Option (σ⊕ρ))(fin:σ->Option ρ)
  (h1:∀(i:Nat) (x:α) (s:σ),i<l.length->l[i]?=some x->step (mk i s)=match g x s with|none=>none|some (.inr r)=>some (.inr r)|some (.inl s')=>some (.inl (mk (i+1:Nat) s')))
  (h2:∀s,step (mk l.length s)=(fin s).map Sum.inr) (s:σ):aE step (mk 0 s)=eD g fin l s:=by
 suffices h:∀(k:Nat) (i:Nat) (s:σ),i+k=l.length->aE step (mk i s)=eD g fin (l.drop i) s by
  have:=h l.length 0 s (by omega)
  simpa using this
 intro k
 induction k with
 |zero=>
  intro i s hi;obtain rfl:i=l.length:=by omega
  rw[List.drop_length,eD,ic,h2];cases fin s<;>rfl
 |succ k ih=>
  intro i s hi;have hlt:i<l.length:=by omega
  rw[QM hlt,eD,ic,h1 i l[i] s hlt (Qv hlt)]
  cases hg:g l[i] s with
  |none=>rfl
  |some y=>
   cases y with
   |inr r=>rfl
   |inl s'=>exact ih (i+1) s' (by omega)
theorem ga{α σ τ ρ:Type}(l:List α)(hl:l.length<=9223372036854775807)(mk:Int->σ->τ){step:τ->Option (τ⊕ρ)}(g:α->σ->Option (σ⊕ρ))(fin:σ->Option ρ)
  (h1:∀(i:Nat) (x:α) (s:σ),decide ((i:Int)<((l.length:Nat):Int))=true->idx l (i:Int)=some x->aA .i64 (i:Int) 1=((i+1:Nat):Int)->step (mk i s)=match g x s with|none=>none|some (.inr r)=>some (.inr r)|some (.inl s')=>some (.inl (mk (i+1:Nat) s')))
  (h2:∀s,decide (((l.length:Nat):Int)<((l.length:Nat):Int))=false->step (mk l.length s)=(fin s).map Sum.inr) (s:σ):aE step (mk 0 s)=eD g fin l s:=
 TH l mk g fin (fun i x s hi hx=>h1 i x s (Qg (Int.ofNat_lt.2 hi)) (by rw[bB];exact hx) (bM (by omega) (by omega))) (fun s=>h2 s (Qh (Int.lt_irrefl _))) s
end Go.TQ
namespace Go.Proofs.YtkgenianmdfmdaaGreat
open Go.TQ
def eZ:ByteArray:=⟨#[]⟩
def aC(b:ae):Bool:=decide (b.aj=0)&&decide (b.Value=eZ)
def ji(a b:ByteArray):Bool:=if a.size=b.size then jM a b else decide (a.size<b.size)
def bd(a b:ae):Bool:=if a.aj=b.aj then ji a.Value b.Value else decide (a.aj<b.aj)
def bC(a b:ae):Bool:=decide (a.Value=b.Value)
def gY(p b:ae):Bool:= !aC p&&bC p b&&decide (b.aj<=p.aj)
def du(p q b:ae):Bool:=gY p b||gY q b||(!aC q&&bd b q)
def dJ(p b:ae):Bool:= !aC p&& !bC p b&&bd b p
def cn(b:ae):Bool:=(decide (1<=b.aj)&&decide (b.aj<=1000)||decide (b.aj=1000000))&&decide (1<=b.Value.size)&&decide (b.Value.size<=200)
theorem MV:∀x:List UInt8,Op.bytesLess x x=false
 |[]=>rfl
 |a::l=>by simp[Op.bytesLess,MV l]
theorem PX:∀{x y:List UInt8},x≠y->Op.bytesLess x y=true\/Op.bytesLess y x=true
 |[],[],h=>absurd rfl h
 |[],_::_,_=> .inl rfl
 |_::_,[],_=> .inr rfl
 |a::l,b::m,h=>by
  simp only[Op.bytesLess]
  by_cases hab:a=b
  ·subst hab;have:l≠m:=fun e=>h (by rw[e])
   simpa using PX this
  ·rcases Nat.lt_or_gt_of_ne (fun e=>hab (UInt8.toNat_inj.1 e))with h1|h1
   ·have h2:a<b:=h1;simp[h2]
   ·have h2:b<a:=h1;simp[h2]
theorem Ob(a:ByteArray):jM a a=false:=MV _
@[simp] theorem cy (b:ae):bh b=some (aC b):=by unfold bh aC;rw[wY];rfl
@[simp] theorem dj (b:ae):bA b=some (aC b):=by unfold bA aC;rw[wY];rfl
@[simp] theorem eJ (a b:ae):bN a b=some (bC a b):=rfl
@[simp] theorem fu (a b:ae):b0 a b=some (bC a b):=rfl
@[simp] theorem qZ (b:ae):fI b=some (cn b):=by
 have h1:decide ((1:Int)<=(b.Value.size:Nat))=decide (1<=b.Value.size):=by rw[decide_eq_decide];omega
 have h2:decide (((b.Value.size:Nat):Int)<=200)=decide (b.Value.size<=200):=by rw[decide_eq_decide];omega
 simp only[fI,cn,h1,h2,jw,Qa,Bool.cond_false_right,Bool.cond_true_left]
@[simp] theorem zf (b:ae):iV b=some (cn b):=qZ b
@[simp] theorem vl (a b:ByteArray):lC a b=some (ji a b):=by
 simp only[lC,ji,BD,Int.ofNat_inj,Int.ofNat_lt,BE,yR]
@[simp] theorem iD (a b:ae):ez a b=some (bd a b):=by
 simp[ez,bd,BE,yR]
@[simp] theorem xA (a b:ae):kb a b=some (gY a b):=by simp[kb,gY]
@[simp] theorem Ur (a b:ae):jb a b=some (gY a b):=by simp[jb,gY]
@[simp] theorem pR (p q b:ae):gM p q b=some (du p q b):=by simp[gM,du]
@[simp] theorem xB (p b:ae):fA p b=some (dJ p b):=by simp[fA,dJ]
def xl(a b:Int):Int:=if a<b then -1 else if b<a then 1 else 0
def PL(a b:ByteArray):Int:=if jM a b then -1 else if jM a b||decide (a=b)then 0 else 1
def XH:List Int->Int
 |[]=>0
 |x::l=>if x=0 then XH l else x
@[simp] theorem CY (a b:Int):iu a b=some (xl a b):=by
 simp[iu,qk,xl,BE,yR]
@[simp] theorem Rl (a b:ByteArray):lQ a b=some (PL a b):=by
 simp only[lQ,nC,PL];cases h1:jM a b<;>by_cases h2:a=b<;>simp[h2]
theorem Ku(l:List Int)(hl:l.length<=1000000):oD l=some (XH l):=by
 unfold oD;rw[ga l (by omega) (fun i (_:Unit)=>(i,())) (fun x _=>some (if x=0 then .inl ()else .inr x)) (fun _=>some 0) (fun i x s hd hx hw=> ?_) (fun s hd=> ?_) ()]
 ·induction l with
  |nil=>rfl
  |cons x l ih=>
   rw[eD,XH]
   by_cases h:x=0
   ·simp only[h,Qt];exact ih (by simp at hl;omega)
   ·simp only[Qs h]
 ·by_cases h:x=0<;>simp only[hd,hx,hw,h,Qk,Qa]<;>simp
 ·simp only[hd,Ql]
@[simp] theorem Xr (a b:Int):oD [a,b]=some (if a=0 then b else a):=by
 rw[Ku _ (by simp)]
 simp only[XH]
 by_cases h:a=0<;>by_cases h':b=0<;>simp[h,h']
def LB(a b:ByteArray):Int:=if xl a.size b.size=0 then PL a b else xl a.size b.size
def PN(a b:ae):Int:=if xl a.aj b.aj=0 then LB a.Value b.Value else xl a.aj b.aj
@[simp] theorem xn (a b:ByteArray):fP a b=some (LB a b):=by simp[fP,LB]
@[simp] theorem Uo (a b:ae):lI a b=some (PN a b):=by simp[lI,PN]
theorem z1(a b:Int):xl a b=0↔a=b:=by unfold xl;split<;>(try split)<;>omega
theorem H4(a b:Int):xl a b<0↔a<b:=by unfold xl;split<;>(try split)<;>omega
theorem W8(a b:ByteArray):PL a b<0↔jM a b=true:=by
 unfold PL;split
 ·rename_i h;simp[h]
 ·rename_i h;split<;>simp[h]
theorem PK(a b:ByteArray):decide (LB a b<0)=ji a b:=by
 unfold LB ji
 by_cases h:a.size=b.size
 ·rw[Qr ((z1 _ _).2 (by rw[h])),Qr h]
  rw[QW,Qi,W8]
 ·rw[Qs (fun e=>h (by have:=(z1 _ _).1 e;omega)),Qs h,decide_eq_decide,H4]
  omega
theorem PM(a b:ae):decide (PN a b<0)=bd a b:=by
 unfold PN bd
 by_cases h:a.aj=b.aj
 ·rw[Qr ((z1 _ _).2 h),Qr h,PK]
 ·rw[Qs (fun e=>h ((z1 _ _).1 e)),Qs h,decide_eq_decide,H4]
@[simp] theorem iv (a b:ae):dC a b=some (bd a b):=by simp[dC,PM]
@[simp] theorem oE (p q b:ae):fO p q b=some (du p q b):=by simp[fO,du]
@[simp] theorem pU (p b:ae):dD p b=some (dJ p b):=by simp[dD,dJ]
def finite(b:ae):Bool:=cn b&&decide (b.aj<=1000)
@[simp] theorem BK (b:ae):kI b=some (finite b):=by simp[kI,finite]
@[simp] theorem zz (b:ae):jD b=some (aC b||cn b):=by simp[jD]
@[simp] theorem xC (e:ai) (n:Int):ma e n=some ⟨n,e.ab.Value⟩:=rfl
end Go.Proofs.YtkgenianmdfmdaaGreat
namespace Go.Proofs.YtkgenianmdfmdaaGreat
open Go.TQ
theorem LM{rec:(al×Unit)->Option Int}{t:al}(hl:t.aN.length<=9223372036854775807):
  ix rec t=eD (fun u m=>(rec (u,())).map fun r=> .inl (bq m r)) (fun m=>some (aA .i64 m 1)) t.aN 0:=by
 unfold ix;rw[ga t.aN hl (fun i (m:Int)=>(m,i,())) (fun u m=>(rec (u,())).map fun r=> .inl (bq m r)) (fun m=>some (aA .i64 m 1)) (fun i x s hd hx hw=> ?_) (fun s hd=> ?_) 0]
 ·simp only[hd,hx,hw,Qk,Qa,al.eta];cases rec (x,())<;>rfl
 ·simp only[hd,Ql]
theorem Rk{rec:(al×Unit)->Option Int}{t:al}(hl:t.aN.length<=9223372036854775807):
  jc rec t=eD (fun u m=>(rec (u,())).map fun r=> .inl (aA .i64 m r)) (fun m=>some m) t.aN (aA .i64 t.bn.length t.aN.length):=by
 unfold jc;rw[ga t.aN hl (fun i (m:Int)=>(m,i,())) (fun u m=>(rec (u,())).map fun r=> .inl (aA .i64 m r)) (fun m=>some m) (fun i x s hd hx hw=> ?_) (fun s hd=> ?_) (aA .i64 t.bn.length t.aN.length)]
 ·simp only[hd,hx,hw,Qk,Qa,al.eta];cases rec (x,())<;>rfl
 ·simp only[hd,Ql]
theorem Mb(t:al):xm t=jF t:=rfl
theorem Ov(t:al):zg t=j1 t:=rfl
def dW(x:Int):Bool:=decide (0<=x)&&decide (x<10)
def wa(s x:Int):Bool:=decide (0<=s)&&decide (s<1024)&&dW x&&s.toNat.testBit x.toNat
theorem FD(s:Int):et s=some (decide (0<=s)&&decide (s<1024)):=by
 have:iI .i64 1 10=1024:=tu 10 (by omega)
 simp[et,vn,this]
theorem P6{s x:Int}(h1:0<=s)(h2:s<1024)(h3:0<=x)(h4:x<10):(EX .i64 s (iI .i64 1 x)=0)=(s.toNat.testBit x.toNat=false):=by
 obtain⟨n,rfl⟩:=Int.eq_ofNat_of_zero_le h1;obtain⟨j,rfl⟩:=Int.eq_ofNat_of_zero_le h3;have hj:2 ^ j<=2 ^ 10:=Nat.pow_le_pow_right (by omega) (by omega)
 rw[tu j (by omega),y5 n (2 ^ j) (by omega) (by omega),Zr]
 simp only[QV];have hp:2 ^ j≠0:=Nat.pos_iff_ne_zero.1 (Nat.pow_pos (by omega))
 cases n.testBit j
 ·simp
 ·rw[Qr rfl];simp only[Bool.true_eq_false,eq_iff_iff,iff_false];omega
@[simp] theorem kh (s x:Int):iW s x=some (wa s x):=by
 unfold iW wa dW;rw[FD]
 by_cases h1:0<=s
 ·by_cases h2:s<1024
  ·by_cases h3:0<=x
   ·by_cases h4:x<10
    ·have h5:¬x<0:=by omega
     have:=P6 h1 h2 h3 h4;simp[h1,h2,h3,h4,h5,this]
    ·simp[h1,h2,h3,h4]
   ·simp[h1,h2,h3]
  ·simp[h1,h2]
 ·simp[h1]
theorem Rq{s x:Int}(h1:0<=s)(h2:s<1024)(h3:0<=x)(h4:x<10):(EX .i64 (V5 .i64 s x) 1=1)=(s.toNat.testBit x.toNat=true):=by
 obtain⟨n,rfl⟩:=Int.eq_ofNat_of_zero_le h1;obtain⟨j,rfl⟩:=Int.eq_ofNat_of_zero_le h3;have hle:n>>>j<=n:=by rw[Nat.shiftRight_eq_div_pow];exact Nat.div_le_self _ _
 rw[V4 n j (by omega),show(1:Int)=((1:Nat):Int)from rfl,y5 _ 1 (by omega) (by omega)]
 simp only[QV,Int.ofNat_inj,Nat.testBit,eq_iff_iff];rw[Nat.and_comm];simp
@[simp] theorem rR (s x:Int):kv s x=some (wa s x):=by
 unfold kv er wa dW
 by_cases h1:0<=s
 ·by_cases h2:s<1024
  ·have h2':s<=1023:=by omega
   by_cases h3:0<=x
   ·by_cases h4:x<10
    ·have h5:¬x<0:=by omega
     have:=Rq h1 h2 h3 h4;simp[h1,h2,h2',h3,h4,h5,this]
    ·simp[h1,h2,h2',h3,h4]
   ·simp[h1,h2,h2',h3]
  ·have h2':¬s<=1023:=by omega
   simp[h1,h2,h2']
 ·simp[h1]
theorem ye{s:Nat}{x:Int}(h1:s<1024)(h3:0<=x)(h4:x<10):um .i64 (s:Int) (iI .i64 1 x)=((s|||2 ^ x.toNat:Nat):Int):=by
 obtain⟨j,rfl⟩:=Int.eq_ofNat_of_zero_le h3;have hj:2 ^ j<=2 ^ 9:=Nat.pow_le_pow_right (by omega) (by omega)
 rw[tu j (by omega)]
 exact Bg s (2 ^ j) (by omega) (by omega)
theorem I9{s:Nat}{x:Int}(h1:s<1024)(h4:x<10):s|||2 ^ x.toNat<1024:=by
 have hj:2 ^ x.toNat<=2 ^ 9:=Nat.pow_le_pow_right (by omega) (by omega)
 exact Nat.or_lt_two_pow (n:=10) h1 (by omega)
def oL(s:Nat):List Int->Int×Int×Unit
 |[]=>(s,0,())
 |x::l=>if dW x then(if s.testBit x.toNat then(0,6,())else oL (s|||2 ^ x.toNat) l)else(0,5,())
theorem Sb(g:Int->Int->Option (Int⊕(Int×Int×Unit)))
  (hg:∀x (s:Nat),s<1024->g x s=some (if dW x then(if s.testBit x.toNat then .inr (0,6,())else .inl ((s|||2 ^ x.toNat:Nat):Int))else .inr (0,5,()))):
  ∀(l:List Int) (s:Nat),s<1024->eD g (fun s=>some (s,0,())) l s=some (oL s l)
 |[],s,_=>rfl
 |x::l,s,hs=>by
  rw[eD,hg x s hs,oL]
  cases h1:dW x with
  |false=>simp
  |true=>
   cases h2:s.testBit x.toNat with
   |true=>simp
   |false=>
    simp only[Qt,Qq,Qu];have h3:x<10:=by simp[dW]at h1;omega
    exact Sb g hg l _ (I9 hs h3)
theorem Aa(l:List Int)(hl:l.length<=9223372036854775807):oA l=some (oL 0 l):=by
 unfold oA;rw[ga l hl (fun i (s:Int)=>(s,i,())) (fun x s=>if dW x then(if wa s x then some (.inr (0,6,()))else some (.inl (um .i64 s (iI .i64 1 x))))else some (.inr (0,5,()))) (fun s=>some (s,0,())) (fun i x s hd hx hw=> ?_) (fun s hd=> ?_) 0]
 ·refine Sb _ (fun x s hs=> ?_) l 0 (by omega)
  cases h1:dW x with
  |false=>simp
  |true=>
   have h3:0<=x/\x<10:=by simp[dW]at h1;omega
   have h2:wa s x=s.testBit x.toNat:=by simp[wa,h1];omega
   rw[h2,ye hs h3.1 h3.2];cases s.testBit x.toNat<;>simp
 ·simp only[hd,hx,hw,Qk,Qa,kh]
  by_cases h0:x<0
  ·have:¬0<=x:=by omega
   simp[h0,dW,this]
  ·have h0':0<=x:=by omega
   by_cases h10:10<=x
   ·have:¬x<10:=by omega
    simp[h0,h10,dW,this,h0']
   ·have h10':x<10:=by omega
    cases h:wa s x<;>simp[h0,h10,dW,h0',h10']
 ·simp only[hd,Ql]
theorem NF(l:List Int)(hl:l.length<=9223372036854775807):vm l=some (oL 0 l):=by
 have:vm l=oA l:=by
  unfold vm oA;simp only[rR,kh]
 rw[this,Aa l hl]
@[simp] theorem sZ (x:Int):jS x=some (!dW x):=by simp[jS,tW,dW]
theorem Gq(l:List Int)(hl:l.length<=9223372036854775807):fl l=some (l.any fun x=> !dW x):=by
 have key:∀(i:Nat) (k:Nat),i+k=l.length->Yd (aE (fun(v1:Int×Unit)=>bif (decide (v1.1<((List.length l:Nat):Int)))then Option.bind (idx l v1.1) fun x2=>Option.bind (jS x2) fun r3=>bif r3 then Option.map Sum.inr (some v1.1)else some (Sum.inl ((aA .i64 v1.1 (1:Int)),()))else Option.map Sum.inr (some (-1:Int))) ((i:Int),())) fun r=>decide (0<=r)=(l.drop i).any fun x=> !dW x:=by
  intro i k
  induction k generalizing i with
  |zero=>
   intro hi;refine⟨-1,bS ?_,?_⟩
   ·have:¬((i:Int)<(l.length:Int)):=by omega
    simp[this]
   ·rw[List.drop_eq_nil_of_le (by omega)];rfl
  |succ k ih=>
   intro hi;have hlt:i<l.length:=by omega
   have hd:decide ((i:Int)<((l.length:Nat):Int))=true:=Qg (Int.ofNat_lt.2 hlt);have hx:idx l (i:Int)=some l[i]:=by rw[bB];exact Qv hlt
   have hw:aA .i64 (i:Int) 1=((i+1:Nat):Int):=bM (by omega) (by omega)
   rw[QM hlt,List.any_cons]
   cases h:dW l[i]with
   |true=>
    rw[bl (s':=(((i+1:Nat):Int),())) (by simp only[hd,hx,hw,Qk,Qa,sZ,h];rfl)]
    exact(ih (i+1) (by omega)).mono fun r hr=>by simpa using hr
   |false=>
    refine⟨i,bS (by simp only[hd,hx,Qk,Qa,sZ,h];rfl),?_⟩
    simp
 obtain⟨r,h1,h2⟩:=key 0 l.length (by omega)
 unfold fl jn;simp only[Int.natCast_zero]at h1;rw[h1];simpa using h2
def oa(rec:al->Option Int)(t:al):Option Int:=
 if t.aP<1\/aA .i64 t.bn.length t.aN.length<t.aP then some 4
 else if(t.bn.any fun x=> !dW x)then some 5
 else if(oL 0 t.bn).2.1=0 then eD (fun u (_:Unit)=>(rec u).map fun r=>if r=0 then .inl ()else .inr r) (fun _=>some 0) t.aN ()
 else some (oL 0 t.bn).2.1
theorem LL{rec:(al×Unit)->Option Int}{t:al}(hn:t.bn.length<=9223372036854775807)(hl:t.aN.length<=9223372036854775807):iw rec t=oa (fun u=>rec (u,())) t:=by
 unfold iw oa;rw[Gq _ hn,Aa _ hn];rw[ga t.aN hl (fun i (_:Unit)=>(i,())) (fun u (_:Unit)=>(rec (u,())).map fun r=>if r=0 then .inl ()else .inr r) (fun _=>some 0) (fun i x s hd hx hw=> ?_) (fun s hd=> ?_) ()]
 ·by_cases h1:t.aP<1
  ·simp[h1]
  ·by_cases h2:aA .i64 t.bn.length t.aN.length<t.aP
   ·simp[h1,h2]
   ·simp only[h1,h2,decide_false,Ql,Qa,or_self,Qu]
    cases (t.bn.any fun x=> !dW x)with
    |true=>simp
    |false=>
     by_cases h3:(oL 0 t.bn).2.1=0<;>simp[h3]
 ·simp only[hd,hx,hw,Qk,Qa,al.eta]
  cases rec (x,())with
  |none=>rfl
  |some r=>by_cases h:r=0<;>simp[h]
 ·simp only[hd,Ql]
theorem LN{rec:(al×Unit)->Option Int}{t:al}(hn:t.bn.length<=9223372036854775807)(hl:t.aN.length<=9223372036854775807):lq rec t=oa (fun u=>rec (u,())) t:=by
 unfold lq oa;rw[ga t.bn hn (fun i (_:Unit)=>(i,())) (fun x (_:Unit)=>some (if dW x then .inl ()else .inr 5)) (fun _=>if(oL 0 t.bn).2.1=0 then eD (fun u (_:Unit)=>(rec (u,())).map fun r=>if r=0 then .inl ()else .inr r) (fun _=>some 0) t.aN ()else some (oL 0 t.bn).2.1) (fun i x s hd hx hw=> ?_) (fun s hd=> ?_) ()]
 ·by_cases h1:t.aP<1
  ·simp[h1]
  ·by_cases h2:aA .i64 t.bn.length t.aN.length<t.aP
   ·simp[h1,h2]
   ·simp only[h1,h2,decide_false,Ql,Qa,or_self,Qu]
    have:∀(l:List Int) (fin:Unit->Option Int),eD (fun x (_:Unit)=>some (if dW x then .inl ()else .inr 5)) fin l ()=if(l.any fun x=> !dW x)then some 5 else fin ():=by
     intro l fin
     induction l with
     |nil=>rfl
     |cons x l ih=>
      rw[eD,List.any_cons]
      cases h:dW x with
      |true=>simpa using ih
      |false=>simp
    exact this _ _
 ·simp only[hd,hx,hw,Qk,Qa,dW]
  by_cases h0:x<0
  ·have h0':¬0<=x:=by omega
   simp[h0,h0']
  ·have h0':0<=x:=by omega
   by_cases h1:10<=x
   ·have h1':¬x<10:=by omega
    simp[h0,h0',h1,h1']
   ·have h1':x<10:=by omega
    simp[h0,h0',h1,h1']
 ·simp only[hd,Ql];rw[NF _ hn,Qa];rw[ga t.aN hl (fun i (_:Unit)=>(i,())) (fun u (_:Unit)=>(rec (u,())).map fun r=>if r=0 then .inl ()else .inr r) (fun _=>some 0) (fun i x s hd hx hw=> ?_) (fun s hd=> ?_) ()]
  ·by_cases h3:(oL 0 t.bn).2.1=0<;>simp[h3]
  ·simp only[hd,hx,hw,Qk,Qa,al.eta]
   cases rec (x,())with
   |none=>rfl
   |some r=>by_cases h:r=0<;>simp[h]
  ·simp only[hd,Ql]
structure gA (t:al):Prop where
 nodes:∀x∈t.bn,0<=x/\x<10
 nodup:t.bn.Nodup
 len:t.bn.length<=10
 inner:t.aN=[]\/∃x,0<=x/\x<10/\t.aN=[⟨1,[x],[]⟩]
 th:1<=t.aP/\t.aP<=t.bn.length+t.aN.length
theorem Cj:∀(l:List Int) (s:Nat),(∀x∈l,0<=x/\x<10)->l.Nodup->(∀x∈l,s.testBit x.toNat=false)->(oL s l).2.1=0
 |[],s,_,_,_=>rfl
 |x::l,s,h1,h2,h3=>by
  rw[List.nodup_cons]at h2;have hx:=h1 x (by simp)
  have:dW x=true:=by simp[dW];omega
  rw[oL,this,h3 x (by simp)]
  simp only[Qt,Qq,Qu];refine Cj l _ (fun y hy=>h1 y (by simp[hy])) h2.2 fun y hy=> ?_
  have hy1:=h1 y (by simp[hy])
  rw[Nat.testBit_or,h3 y (by simp[hy]),Nat.testBit_two_pow]
  have:x.toNat≠y.toNat:=fun e=>by
   have:x=y:=by omega
   subst this;exact h2.1 hy
  simp[this]
theorem P5{l:List Int}(h:∀x∈l,0<=x/\x<10):(l.any fun x=> !dW x)=false:=by
 rw[List.any_eq_false];intro x hx;have:=h x hx;simp[dW];omega
theorem GC{rec:al->Option Int}{x:Int}(h0:0<=x)(h1:x<10):oa rec ⟨1,[x],[]⟩=some 0:=by
 have h2:aA .i64 (1:Nat) (0:Nat)=1:=rfl;have h3:(oL 0 [x]).2.1=0:=Cj [x] 0 (by simp;omega) (by simp) (by simp)
 have h4:([x].any fun x=> !dW x)=false:=P5 (by simp;omega)
 simp only[oa,QE,QZ,Nat.zero_add,h2,h3,h4];simp[eD]
theorem Js{t:al}(h:gA t){rec:al->Option Int}(hr:∀x,0<=x->x<10->rec ⟨1,[x],[]⟩=some 0):oa rec t=some 0:=by
 have hil:t.aN.length<=1:=by rcases h.inner with e|⟨x,_,_,e⟩<;>rw[e]<;>simp
 have hlen:=h.len;have h2:aA .i64 t.bn.length t.aN.length=t.bn.length+t.aN.length:=bM (by omega) (by omega)
 have h3:(oL 0 t.bn).2.1=0:=Cj _ 0 h.nodes h.nodup (by simp)
 have h4:=P5 h.nodes;have h5:=h.th;unfold oa;rw[h2,Qs (by omega),h4,h3]
 simp only[Qq,Qu,Qt];rcases h.inner with e|⟨x,hx0,hx1,e⟩
 ·rw[e];rfl
 ·rw[e,eD,hr x hx0 hx1];rfl
theorem Ig(t:al):∃n,SizeOf.sizeOf t=n+1:=by
 have:1<=SizeOf.sizeOf t:=by
  cases t;simp only[al.mk.sizeOf_spec];omega
 exact⟨SizeOf.sizeOf t - 1,by omega⟩
theorem T5(n:Nat)(th:Int)(l:List Int):lA (n+1) (⟨th,l,[]⟩,())=some 1:=by
 show ix _ _=_;rw[LM (by simp)]
 rfl
theorem size_leaf(n:Nat)(th:Int)(l:List Int):mo (n+1) (⟨th,l,[]⟩,())=some (aA .i64 l.length (0:Nat)):=by
 show jc _ _=_;rw[Rk (by simp)]
 rfl
theorem J5{t:al}(h:gA t):∃d,jF t=some d/\d<=2:=by
 obtain⟨n,hn⟩:=Ig t;have hil:t.aN.length<=1:=by rcases h.inner with e|⟨x,_,_,e⟩<;>rw[e]<;>simp
 unfold jF;rw[hn];show∃d,ix (lA (n+1)) t=some d/\d<=2;rw[LM (by omega)]
 rcases h.inner with e|⟨x,_,_,e⟩
 ·rw[e];exact⟨1,rfl,by omega⟩
 ·rw[e,eD,T5 n 1 [x]];exact⟨2,rfl,by omega⟩
theorem LU{t:al}(h:gA t):∃d,j1 t=some d/\d<=200:=by
 obtain⟨n,hn⟩:=Ig t;have hil:t.aN.length<=1:=by rcases h.inner with e|⟨x,_,_,e⟩<;>rw[e]<;>simp
 have hlen:=h.len;unfold j1;rw[hn];show∃d,jc (mo (n+1)) t=some d/\d<=200;rw[Rk (by omega),bM (by omega) (by omega)]
 rcases h.inner with e|⟨x,_,_,e⟩
 ·rw[e];exact⟨_,rfl,by simp;omega⟩
 ·rw[e,eD,size_leaf n 1 [x]];have h1:aA .i64 (([x]:List Int).length:Nat) (0:Nat)=1:=rfl;rw[h1];refine⟨_,rfl,?_⟩;simp only[QE,QZ];rw[bM (by omega) (by omega)]
  omega
theorem nM{t:al}(h:gA t):dE t=some 0:=by
 obtain⟨d,h1,h2⟩:=J5 h;obtain⟨z,h3,h4⟩:=LU h;obtain⟨n,hn⟩:=Ig t;have hil:t.aN.length<=1:=by rcases h.inner with e|⟨x,_,_,e⟩<;>rw[e]<;>simp
 have hlen:=h.len
 have h5:lB t=some 0:=by
  unfold lB;rw[hn];show iw (ig (n+1)) t=some 0;rw[LL (by omega) (by omega)]
  refine Js h fun x hx0 hx1=> ?_
  show iw (ig n) ⟨1,[x],[]⟩=some 0;rw[LL (by simp) (by simp)]
  exact GC hx0 hx1
 have h6:¬4<d:=by omega
 have h7:¬200<z:=by omega
 simp[dE,h1,h3,h5,h6,h7]
theorem nv{t:al}(h:gA t):fm t=some 0:=by
 obtain⟨d,h1,h2⟩:=J5 h;obtain⟨z,h3,h4⟩:=LU h;obtain⟨n,hn⟩:=Ig t;have hil:t.aN.length<=1:=by rcases h.inner with e|⟨x,_,_,e⟩<;>rw[e]<;>simp
 have hlen:=h.len
 have h5:py t=some 0:=by
  unfold py;rw[hn];show lq (mR (n+1)) t=some 0;rw[LN (by omega) (by omega)]
  refine Js h fun x hx0 hx1=> ?_
  show lq (mR n) ⟨1,[x],[]⟩=some 0;rw[LN (by simp) (by simp)]
  exact GC hx0 hx1
 have h6:¬4<d:=by omega
 have h7:¬200<z:=by omega
 simp[fm,Mb,Ov,h1,h3,h5,h6,h7]
end Go.Proofs.YtkgenianmdfmdaaGreat
namespace Go.Proofs.YtkgenianmdfmdaaGreat
open Go.TQ
structure ly (s:dB):Prop where
 len:s.L.length<=800
 lo:0<=s.At
 hi:s.At<=800
theorem aaH(l:List Int):Yd (x0 l) fun s=>ly s:=by
 have h:dG (l.length:Int) 800=((min l.length 800:Nat):Int):=by unfold dG;split<;>omega
 have h2:cm 0 ((min l.length 800:Nat):Int) l.length=true:=by
  simp only[cm,Qm,Qi];omega
 unfold x0;rw[h,h2];refine Yd.some ⟨?_,by simp,by simp⟩
 simp only[QV,List.length_drop,List.length_take];omega
theorem X7(x n:Int)(hn:1<=n): -n<x.tmod n/\x.tmod n<n:=by
 have h2:=Int.emod_nonneg x (show n≠0 by omega)
 have h3:=Int.emod_lt_of_pos x (show 0<n by omega)
 rw[Int.tmod_eq_emod];split
 ·omega
 ·rw[Int.natAbs_of_nonneg (by omega)];omega
theorem pQ{s:dB}(h:ly s){n:Int}(hn:n<=1000000000):Yd (bY s n) fun p=>ly p.2/\0<=p.1/\(1<=n->p.1<n)/\(n<1->p.1=0):=by
 unfold bY;simp only[aW];refine Yd.cond (fun h1=> ?_) (fun h1=> ?_)
 ·exact Yd.some ⟨h,by simp,fun _=>by simp;omega,fun _=>rfl⟩
 ·simp only[Qj,Int.not_le]at h1;refine Yd.cond (fun h2=> ?_) (fun h2=> ?_)
  ·simp only[Qi]at h2;exact Yd.some ⟨h,by simp,fun _=>by simp;omega,fun _=>rfl⟩
  ·simp only[Qj,Int.not_lt]at h2;obtain⟨hl,hlo,hhi⟩:=h;have e1:aA .i64 s.At 1=s.At+1:=bM (by omega) (by omega)
   have e2:de .i64 (s.At+1) 1=s.At:=by rw[pV (by omega) (by omega)];omega
   rw[e1,e2];have hlt:s.At.toNat<s.L.length:=by omega
   rw[Ph _ hlo,Qv hlt,Qa,Qs (by omega),Qs (by omega)]
   have hb:=X7 s.L[s.At.toNat] n h2;have e3:Th .i64 s.L[s.At.toNat] n=s.L[s.At.toNat].tmod n:=rfl;rw[e3];generalize s.L[s.At.toNat].tmod n=y at hb;have e4:aA .i64 y n=y+n:=bM (by omega) (by omega)
   rw[e4];have h5:Th .i64 (y+n) n=(y+n) % n:=Int.tmod_eq_emod_of_nonneg (by omega)
   rw[h5];exact Yd.some ⟨⟨hl,by simp;omega,by simp;omega⟩,Int.emod_nonneg _ (by omega),fun _=>Int.emod_lt_of_pos _ (by omega),fun _=>by omega⟩
theorem nL{s:dB}(h:ly s){a b:Int}(h1:0<=a)(h2:a<=b+1)(h3:b<=1000000):Yd (cx s a b) fun p=>ly p.2/\a<=p.1/\(a<=b->p.1<=b)/\(b<a->p.1=a):=by
 unfold cx;have e1:de .i64 b a=b - a:=pV (by omega) (by omega)
 have e2:aA .i64 (b - a) 1=b - a+1:=bM (by omega) (by omega)
 rw[e1,e2];refine(pQ h (by omega)).bind fun p ⟨h4,h5,h6,h7⟩=> ?_
 have e3:aA .i64 a p.1=a+p.1:=by
  by_cases hq:b - a+1<1
  ·rw[h7 hq];exact bM (by omega) (by omega)
  ·have:=h6 (by omega);exact bM (by omega) (by omega)
 rw[e3];refine Yd.some ⟨h4,by simp;omega,fun hab=> ?_,fun hab=> ?_⟩
 ·have:=h6 (by omega)
  show a+p.1<=b;omega
 ·have:=h7 (by omega)
  show a+p.1=a;omega
theorem Zy{s:dB}(h:ly s){l:List ByteArray}(h1:1<=l.length)(h2:l.length<=1000):Yd (qg s l) fun p=>ly p.2/\p.1∈l:=by
 unfold qg;refine(pQ h (by omega)).bind fun p ⟨h4,h5,h6,_⟩=> ?_
 have:=h6 (by omega)
 have hlt:p.1.toNat<l.length:=by omega
 rw[Ph _ h5,Qv hlt];exact Yd.some ⟨h4,Q0 hlt⟩
def Ko(v:ByteArray):Prop:=v∈[(ByteArray.mk #[97]),(ByteArray.mk #[98]),(ByteArray.mk #[99]),(ByteArray.mk #[97,97])]
theorem Ko.size{v:ByteArray}(h:Ko v):1<=v.size/\v.size<=2:=by
 simp only[Ko,QA,QR,or_false]at h;rcases h with rfl|rfl|rfl|rfl<;>exact⟨by decide,by decide⟩
theorem H8{s:dB}(h:ly s):Yd (kf s) fun p=>ly p.2/\Ko p.1:=by
 unfold kf;exact(Zy h (by simp) (by simp)).bind fun p hp=>Yd.some hp
theorem VP{s:dB}(h:ly s):Yd (oz s) fun p=>ly p.2/\1<=p.1.aj/\p.1.aj<=6/\Ko p.1.Value:=by
 unfold oz;refine(nL h (by omega) (by omega) (by omega)).bind fun p ⟨h1,h2,h3,_⟩=> ?_
 refine(H8 h1).bind fun q ⟨h4,h5⟩=> ?_
 exact Yd.some ⟨h4,h2,h3 (by omega),h5⟩
theorem H9{s:dB}(h:ly s){n:Nat}(hn1:1<=n)(hn:n<=10):Yd (kg s n) fun p=>ly p.2/\gA p.1/\(∀x∈p.1.bn,x<n)/\p.1.bn≠[]:=by
 unfold kg;simp only[aW]
 let I (i:Nat) (s:dB) (t:al) (ns:List Int) (is:List al):Prop:=ly s/\t.aP=0/\(∀x∈ns,0<=x/\x<i)/\ns.Nodup/\ns.length<=i/\is=[]
 suffices key:∀(k i:Nat) (s:dB) (t:al) (ns:List Int) (is:List al),i+k=n->I i s t ns is->Yd (aE _ ((i:Int),s,t,ns,is,())) _ from key n 0 s _ _ _ (by omega) ⟨h,rfl,by simp,by simp,by simp,rfl⟩
 intro k
 induction k with
 |zero=>
  intro i s t ns is hi ⟨h1,h2,h3,h4,h5,h6⟩;obtain rfl:i=n:=by omega
  subst h6;have hd:decide ((i:Int)<(i:Int))=false:=Qh (Int.lt_irrefl _);refine Yd.loop ?_;simp only[hd,Ql];refine Yd.inr ?_
  have fin:∀(s:dB) (ns:List Int) (is:List al) (th:Int),ly s->(∀x∈ns,0<=x/\x<i)->ns.Nodup->ns.length<=10->ns≠[]->(is=[]\/∃x,0<=x/\x<10/\is=[⟨1,[x],[]⟩])->1<=th->th<=ns.length+is.length->
    ly s/\gA ⟨th,ns,is⟩/\(∀x∈ns,x<(i:Int))/\ns≠[]:=by
   intro s ns is th a1 a2 a3 a4 a5 a6 a7 a8;exact⟨a1,⟨fun x hx=>by have:=a2 x hx;exact⟨this.1,by omega⟩,a3,a4,a6,a7,a8⟩,fun x hx=>(a2 x hx).2,a5⟩
  have tail:∀(s:dB) (ns:List Int) (is:List al),ly s->(∀x∈ns,0<=x/\x<i)->ns.Nodup->ns.length<=10->ns≠[]->(is=[]\/∃x,0<=x/\x<10/\is=[⟨1,[x],[]⟩])->
    Yd (Option.bind (cx s (OE .i64 (aA .i64 (aA .i64 ((List.length ns:Nat):Int) ((List.length is:Nat):Int)) (1:Int)) (2:Int)) (aA .i64 ((List.length ns:Nat):Int) ((List.length is:Nat):Int))) fun p9=>
     Option.bind (bY p9.2 (6:Int)) fun p12=>
     bif (decide (p12.1=(5:Int)))then some ((al.mk (1:Int) ns is),p12.2)else some ((al.mk p9.1 ns is),p12.2)) fun p=>ly p.2/\gA p.1/\(∀x∈p.1.bn,x<(i:Int))/\p.1.bn≠[]:=by
   intro s ns is a1 a2 a3 a4 a5 a6;have hp:1<=ns.length:=by cases ns with|nil=>exact absurd rfl a5|cons x l=>simp
   have hil:is.length<=1:=by rcases a6 with e|⟨x,_,_,e⟩<;>rw[e]<;>simp
   have e1:aA .i64 ((List.length ns:Nat):Int) ((List.length is:Nat):Int)=ns.length+is.length:=bM (by omega) (by omega)
   have e2:aA .i64 ((ns.length:Int)+is.length) 1=ns.length+is.length+1:=bM (by omega) (by omega)
   have e3:OE .i64 ((ns.length:Int)+is.length+1) 2=(ns.length+is.length+1) / 2:=by
    show IntKind.i64.wrap (Int.tdiv _ _)=_;rw[Int.tdiv_eq_ediv_of_nonneg (by omega)]
    exact wrap64 (by omega) (by omega)
   rw[e1,e2,e3];refine(nL a1 (by omega) (by omega) (by omega)).bind fun p ⟨b1,b2,b3,_⟩=> ?_
   refine(pQ b1 (by omega)).bind fun q ⟨c1,_⟩=> ?_
   have b4:=b3 (by omega)
   refine Yd.cond (fun _=>Yd.some (fin q.2 ns is 1 c1 a2 a3 a4 a5 a6 (by omega) (by omega))) (fun _=>Yd.some (fin q.2 ns is p.1 c1 a2 a3 a4 a5 a6 (by omega) (by omega)))
  have mid:∀(s:dB) (ns:List Int),ly s->(∀x∈ns,0<=x/\x<i)->ns.Nodup->ns.length<=10->ns≠[]->
    Yd (Option.bind (bY s (4:Int)) fun p13=>
     bif (decide (p13.1=(3:Int)))then
     Option.bind (bY p13.2 (i:Int)) fun p14=>
     bif bx 56 (List.length ([]:List al)+List.length [(al.mk (1:Int) [p14.1] ([]:List al))])then
     (Option.bind (cx p14.2 (OE .i64 (aA .i64 (aA .i64 ((List.length ns:Nat):Int) ((List.length (([]:List al)++[(al.mk (1:Int) [p14.1] ([]:List al))]):Nat):Int)) (1:Int)) (2:Int)) (aA .i64 ((List.length ns:Nat):Int) ((List.length (([]:List al)++[(al.mk (1:Int) [p14.1] ([]:List al))]):Nat):Int))) fun p9=>
     Option.bind (bY p9.2 (6:Int)) fun p12=>
     bif (decide (p12.1=(5:Int)))then some ((al.mk (1:Int) ns (([]:List al)++[(al.mk (1:Int) [p14.1] ([]:List al))])),p12.2)else some ((al.mk p9.1 ns (([]:List al)++[(al.mk (1:Int) [p14.1] ([]:List al))])),p12.2))
     else none
     else
     (Option.bind (cx p13.2 (OE .i64 (aA .i64 (aA .i64 ((List.length ns:Nat):Int) ((List.length ([]:List al):Nat):Int)) (1:Int)) (2:Int)) (aA .i64 ((List.length ns:Nat):Int) ((List.length ([]:List al):Nat):Int))) fun p9=>
     Option.bind (bY p9.2 (6:Int)) fun p12=>
     bif (decide (p12.1=(5:Int)))then some ((al.mk (1:Int) ns []),p12.2)else some ((al.mk p9.1 ns []),p12.2))) fun p=>ly p.2/\gA p.1/\(∀x∈p.1.bn,x<(i:Int))/\p.1.bn≠[]:=by
   intro s ns a1 a2 a3 a4 a5;refine(pQ a1 (by omega)).bind fun p ⟨b1,b2,b3,_⟩=> ?_
   refine Yd.cond (fun _=> ?_) (fun _=> ?_)
   ·refine(pQ b1 (by omega)).bind fun q ⟨c1,c2,c3,_⟩=> ?_
    have c4:=c3 (by omega)
    rw[bZ (by simp)]
    exact tail q.2 ns _ c1 a2 a3 a4 a5 (.inr ⟨q.1,c2,by omega,rfl⟩)
   ·exact tail p.2 ns [] b1 a2 a3 a4 a5 (.inl rfl)
  refine Yd.cond (fun hz=> ?_) (fun hz=> ?_)
  ·refine(pQ h1 (by omega)).bind fun p ⟨b1,b2,b3,_⟩=> ?_
   have b4:=b3 (by omega)
   exact mid p.2 [p.1] b1 (by simp;omega) (by simp) (by simp) (by simp)
  ·have hne:ns≠[]:=by
    intro e;subst e;simp at hz
   exact mid s ns h1 h3 h4 (by omega) hne
 |succ k ih=>
  intro i s t ns is hi ⟨h1,h2,h3,h4,h5,h6⟩;have hd:decide ((i:Int)<(n:Int))=true:=Qg (by omega)
  have hw:aA .i64 (i:Int) 1=((i+1:Nat):Int):=bM (by omega) (by omega)
  refine Yd.loop ?_;simp only[hd,Qk,hw];refine(pQ h1 (by omega)).bind fun p ⟨b1,b2,b3,_⟩=> ?_
  refine Yd.cond (fun _=> ?_) (fun _=> ?_)
  ·rw[bZ (by simp;omega)]
   refine Yd.some (ih (i+1) p.2 _ _ _ (by omega) ⟨b1,h2,?_,?_,by simp;omega,h6⟩)
   ·intro x hx;rcases Qz.1 hx with hx|hx
    ·have:=h3 x hx;omega
    ·simp at hx;omega
   ·refine List.nodup_append.2 ⟨h4,by simp,?_⟩
    intro x hx y hy;simp at hy;have:=h3 x hx;omega
  ·refine Yd.some (ih (i+1) p.2 _ _ _ (by omega) ⟨b1,h2,?_,h4,by omega,h6⟩)
   intro x hx;have:=h3 x hx;omega
end Go.Proofs.YtkgenianmdfmdaaGreat
namespace Go.Proofs.YtkgenianmdfmdaaGreat
open Go.TQ
def at_(e:ai)(n:Int):ae:=⟨n,e.ab.Value⟩
def yc(e:ai):Bool:=aC e.aw||(!aC e.ao&&bd e.aw e.ao&& !bC e.aw e.ao)
def fL(e:ai):Bool:=
 finite e.ab&&(aC e.ao||cn e.ao)&&(aC e.aw||cn e.aw)&&yc e&&decide (0<=e.aI)&&decide (e.aI<=e.aQ)&&decide (e.aQ<=e.ab.aj)
  &&(decide (e.aQ=0)||du e.ao e.aw (at_ e e.aQ))&&(decide (e.aI=0)||(!dJ e.ao (at_ e e.aI)&& !dJ e.aw (at_ e e.aI)))
def pk(e:ai):Bool:=decide (1<=e.aI)&&decide (e.aI<=e.aQ)&&decide (e.aQ<=1000)
def qP(e:ai):Bool:=finite e.ab&&cn e.ao&&bC e.ao e.ab&&aC e.aw&&pk e&&decide (e.aQ<=e.ao.aj)
def wG(e:ai):Bool:=cn e.ab&&aC e.ao&&aC e.aw&&pk e
def sR(e:ai):Bool:=decide (0<=e.ar)&&decide (e.ar<10)&&decide (1<=e.bm)&&decide (e.bm<=1000000)&&decide (1<=e.aG)&&decide (e.aG<=1000000)
def fo(tv:Int)(e:ai):Bool:=
 sR e&&decide (tv=0)&&(if e.br=1 then fL e else if e.br=2 then qP e else if e.br=3 then wG e else false)
theorem dlt(a b:Int):decide (a<b)= !decide (b<=a):=by by_cases h:a<b<;>simp[h]<;>omega
theorem NG(e:ai):lP e=some (fL e):=by
 unfold lP fL yc at_
 simp only[cy,iv,eJ,BK,zz,xC,pU,oE,Qa,jw,aW,dlt,BD];cases finite e.ab<;>cases (aC e.ao||cn e.ao)<;>cases (aC e.aw||cn e.aw)<;>simp
 by_cases h:e.aQ=0<;>simp[h,Bool.and_assoc]
theorem vr{e:ai}{tv:Int}(hT:dE e.aa=some tv):cW e=some (fo tv e):=by
 unfold cW fo sR;simp[NG,hT,dlt,qP,wG,pk]
 grind
theorem o0{e:ai}{tv:Int}(hT:fm e.aa=some tv):cu e=some (fo tv e):=by
 unfold cu fo sR;simp[hT,dlt,qP,wG,pk,fL,finite,yc,at_]
 have h9:decide (e.ar<=9)= !decide (10<=e.ar):=by by_cases h:e.ar<=9<;>simp[h]<;>omega
 rw[h9];generalize (decide (0<=e.ar)&& !decide (10<=e.ar)&&decide (1<=e.bm)&&decide (e.bm<=1000000)&&decide (1<=e.aG)&&decide (e.aG<=1000000)&&decide (tv=0))=hd
 by_cases k1:e.br=1
 ·simp only[k1,decide_true,Qk,Qt]
  by_cases hl:0<=e.aI
  ·by_cases hh:e.aI<=e.aQ
   ·have:decide (e.aQ<=0)=decide (e.aQ=0):=by rw[decide_eq_decide];omega
    rw[this]
    grind
   ·simp[hh]
  ·simp[hl]
 ·by_cases k2:e.br=2
  ·simp only[k2,decide_true,Qk,Qt]
   grind
  ·simp only[k1,k2,decide_false,Ql,Qu]
   grind
def Fu(e:ai)(v:ByteArray)(lo hi:Int):Bool:=decide (1<=lo)&&decide (lo<=hi)&&decide (e.ab.Value=v)&&decide (e.aI<=lo)
def pf(e:ai)(v:ByteArray)(lo hi:Int):Bool:=Fu e v lo hi&&(!decide (e.br=1)||(!decide (e.aI=0)&&decide (hi<=e.aQ)))
def eI(e:ai)(v:ByteArray)(lo hi:Int):Bool:=Fu e v lo hi&&(decide (e.br=3)||(decide (e.br=2)&&decide (hi<=e.aQ)))
def mU(e:ai)(b:ae):Bool:= !aC b&&(if e.br=1 then gY e.ab b else bC e.ab b)
def cF(e:ai)(b:ae):Bool:= !aC b&&(if e.br=1 then du e.ao e.aw b else if e.br=2 then gY e.ao b else bC e.ab b)
def dX(e:ai):Int:=if e.br=3 then 1000000 else e.ab.aj
@[simp] theorem AQ (r:bs) (v:ByteArray) (lo hi:Int):gG r v lo hi=some (pf r.av v lo hi):=by
 simp[gG,iQ,pf,Fu]
@[simp] theorem q7 (r:bs) (v:ByteArray) (lo hi:Int):fZ r v lo hi=some (eI r.av v lo hi):=by
 simp[fZ,iQ,eI,Fu]
@[simp] theorem zA (r:bs) (b:ae):gC r b=some (mU r.av b):=by
 simp only[gC,mU];cases hz:aC b<;>by_cases h:r.av.br=1<;>simp[h,hz]
@[simp] theorem ql (r:bs) (b:ae):fT r b=some (cF r.av b):=by
 simp only[fT,cF];cases hz:aC b<;>by_cases h:r.av.br=1<;>by_cases h2:r.av.br=2<;>simp[h,h2,hz]
@[simp] theorem Xs (r:bs):jQ r=some (dX r.av):=by
 simp[jQ,dX,BE,yR]
section
variable {e : ai} {tv : Int} (hT : dE e.aa = some tv)
 include hT
theorem Rh:iH e=some (if fo tv e then dX e else 0):=by
 simp only[iH,al.eta,ai.eta,vr hT,Qa];cases fo tv e<;>simp
end
def sA(n:Nat):List Int:=(List.range n).map fun i:Nat=>(i:Int)
theorem N1(n:Nat):sA (n+1)=sA n++[(n:Int)]:=by simp[sA,List.range_succ]
@[simp] theorem aaT (n:Nat):(sA n).length=n:=by simp[sA]
theorem ZA(n:Nat)(hn:n<=1000)(k:Int):s7 n k=some ⟨k,sA n,[]⟩:=by
 unfold s7
 suffices key:∀(m i:Nat) (t:al),i+m=n->t.aP=k->t.aN=[]->aE (fun(v1:Int×al×(List Int)×Unit)=>
   bif (decide (v1.1<(n:Int)))then
   bif bx 8 (List.length v1.2.2.1+List.length [v1.1])then
   some (Sum.inl ((aA .i64 v1.1 (1:Int)),(al.mk v1.2.1.aP ([]:List Int) v1.2.1.aN),(v1.2.2.1++[v1.1]),()))
   else none
   else
   Option.map Sum.inr (some (al.mk v1.2.1.aP v1.2.2.1 v1.2.1.aN))) ((i:Int),t,sA i,())=some ⟨k,sA n,[]⟩from key n 0 _ (by omega) rfl rfl
 intro m
 induction m with
 |zero=>
  intro i t hi h1 h2;obtain rfl:i=n:=by omega
  refine bS ?_;have hd:decide ((i:Int)<(i:Int))=false:=Qh (Int.lt_irrefl _);simp only[hd,Ql,h1,h2,Qe]
 |succ m ih=>
  intro i t hi h1 h2;have hd:decide ((i:Int)<(n:Int))=true:=Qg (by omega)
  have hw:aA .i64 (i:Int) 1=((i+1:Nat):Int):=bM (by omega) (by omega)
  rw[bl (s':=(((i+1:Nat):Int),⟨t.aP,[],t.aN⟩,sA (i+1),()))]
  ·exact ih (i+1) _ (by omega) h1 h2
  ·simp only[hd,hw,Qk];rw[bZ (by simp;omega)]
   simp[N1]
theorem zX(n:Nat)(hn:n<=10)(k:Int)(h1:1<=k)(h2:k<=n):gA ⟨k,sA n,[]⟩:=by
 refine⟨fun x hx=> ?_,?_,by simpa using hn,.inl rfl,h1,by simpa using h2⟩
 ·simp only[sA,QP,List.mem_range]at hx;obtain⟨i,hi,rfl⟩:=hx;omega
 ·show(sA n).Nodup;exact List.Pairwise.map _ (fun a b h e=>h (by omega)) List.nodup_range
structure Kw (ax bz n:Int) (e:ai):Prop where
 ax:e.ar=ax
 bz:e.bm=bz
 seq:1<=e.aG/\e.aG<=9
 aO:gA e.aa
 nodes:∀x∈e.aa.bn,x<n
 ne:e.aa.bn≠[]
 val:Ko e.ab.Value
 valid:fo 0 e=true
theorem Du{b:ae}(h1:1<=b.aj)(h2:b.aj<=1000)(h3:Ko b.Value):cn b=true:=by
 have:=h3.size;have h4:b.Value.size<=200:=by omega
 simp[cn,h1,h2,h4,this.1]
theorem GX{s:dB}(h:ly s){ax bz:Int}(hn0:0<=ax)(hn1:ax<10)(hs0:1<=bz)(hs1:bz<=1000000){n:Nat}(hn2:1<=n)(hn:n<=10):
  Yd (jU s ax bz n) fun p=>ly p.2/\Kw ax bz n p.1:=by
 unfold jU;refine(nL h (by omega) (by omega) (by omega)).bind fun p1 ⟨a1,a2,a3,_⟩=> ?_
 have a4:=a3 (by omega)
 refine(H9 a1 hn2 hn).bind fun p2 ⟨b1,b2,b3,b4⟩=> ?_
 refine(H8 b1).bind fun p3 ⟨c1,c2⟩=> ?_
 have c3:=c2.size;have hv:∀k:Int,1<=k->k<=1000->cn ⟨k,p3.1⟩=true:=fun k h1 h2=>Du h1 h2 c2
 simp only[al.eta,ai.eta]
 have hd:∀e:ai,e.ar=ax->e.bm=bz->e.aG=p1.1->sR e=true:=by
  intro e h1 h2 h3;simp only[sR,h1,h2,h3,Qm,Qi];omega
 refine Yd.join (fun v=>ly v.1/\Kw ax bz n v.2.1) (fun v hv=>Yd.some hv) fun j5 hj5=> ?_
 refine(pQ c1 (by omega)).bind fun p6 ⟨d1,_⟩=> ?_
 refine Yd.join (fun v=>ly v.1/\v.2.1=ai.mk ax bz p1.1 p2.1 0 ⟨0,eZ⟩ ⟨0,eZ⟩ ⟨0,eZ⟩ 0 0) (fun v ⟨hv1,hv2⟩=> ?_) fun j8 hj8=> ?_
 ·
  refine Yd.join (fun v=>ly v.1/\Kw ax bz n v.2.1) (fun v hv=>hj5 _ hv) fun j10 hj10=> ?_
  refine(nL hv1 (by omega) (by omega) (by omega)).bind fun p11 ⟨e1,e2,e3,_⟩=> ?_
  have e4:=e3 (by omega)
  simp only[hv2];refine Yd.join (fun v=>ly v.1/\v.2.1.ar=ax/\v.2.1.bm=bz/\v.2.1.aG=p1.1/\v.2.1.aa=p2.1/\v.2.1.br=1/\v.2.1.ab=⟨p11.1,p3.1⟩/\(aC v.2.1.ao=true\/cn v.2.1.ao=true)) (fun v ⟨f0,f1,f2,f3,f4,f5,f6,f7⟩=> ?_) fun j13 hj13=> ?_
  ·rw[f6];have g1:aA .i64 p11.1 1=p11.1+1:=bM (by omega) (by omega)
   simp only[g1];refine(pQ f0 (by omega)).bind fun p14 ⟨k1,k2,k3,_⟩=> ?_
   have k4:=k3 (by omega)
   have g2:aA .i64 p14.1 1=p14.1+1:=bM (by omega) (by omega)
   simp only[g2];refine(pQ k1 (by omega)).bind fun p15 ⟨l1,l2,l3,_⟩=> ?_
   have hTr:∀t,t=p2.1->fm t=some 0:=fun t ht=>by rw[ht];exact nv b2
   have done:∀e:ai,e.ar=ax->e.bm=bz->e.aG=p1.1->e.aa=p2.1->e.ab=⟨p11.1,p3.1⟩->fo 0 e=true->Kw ax bz n e:=by
    intro e h1 h2 h3 h4 h5 h6;exact⟨h1,h2,by rw[h3];exact⟨a2,a4⟩,by rw[h4];exact b2,by rw[h4];exact b3,by rw[h4];exact b4,by rw[h5];exact c2,h6⟩
   refine Yd.join (fun w=>w.1.ar=ax/\w.1.bm=bz/\w.1.aG=p1.1/\w.1.aa=p2.1/\w.1.br=1/\w.1.ab=⟨p11.1,p3.1⟩/\(aC w.1.ao=true\/cn w.1.ao=true)/\(fo 0 w.1=true\/w.1.aI=0)) (fun w ⟨m1,m2,m3,m4,m5,m6,m7,m8⟩=> ?_) fun j17 hj17=> ?_
   ·refine Yd.join (fun w=>w.1.ar=ax/\w.1.bm=bz/\w.1.aG=p1.1/\w.1.aa=p2.1/\w.1.br=1/\w.1.ab=⟨p11.1,p3.1⟩/\(aC w.1.ao=true\/cn w.1.ao=true)/\(fo 0 w.1=true\/w.1.aI=0/\w.1.aQ=0)) (fun w ⟨o1,o2,o3,o4,o5,o6,o7,o8⟩=> ?_) fun j19 hj19=> ?_
    ·rw[o0 (hTr _ o4)];simp only[Qa,BD];refine Yd.cond (fun hx=>hj10 _ ⟨l1,done _ o1 o2 o3 o4 o6 hx⟩) (fun hx=>hj10 _ ⟨l1,done _ o1 o2 o3 o4 o6 ?_⟩)
     rcases o8 with o8|⟨o8,o9⟩
     ·rw[o8]at hx;cases hx
     ·have q1:finite w.1.ab=true:=by rw[o6];simp[finite,hv p11.1 e2 (by omega)];omega
      have q2:aC (ae.mk 0 (ByteArray.mk #[]))=true:=by decide+kernel
      have q3:(aC w.1.ao||cn w.1.ao)=true:=by simpa using o7
      have q4:=hd w.1 o1 o2 o3;have q5:0<=w.1.ab.aj:=by rw[o6];show 0<=p11.1;omega
      simp only[fo,sR,fL,yc,o5,o8,o9,q1,q2,q3,Qt]at q4 ⊢;simp[q4,q5]
    ·rw[o0 (hTr _ m4)];simp only[Qa,BD];refine Yd.cond (fun hx=>hj19 _ ⟨m1,m2,m3,m4,m5,m6,m7,.inl hx⟩) (fun hx=>hj19 _ ⟨m1,m2,m3,m4,m5,m6,m7,.inr ⟨?_,rfl⟩⟩)
     rcases m8 with m8|m8
     ·rw[m8]at hx;cases hx
     ·exact m8
   ·rw[o0 (e:=ai.mk v.2.1.ar v.2.1.bm v.2.1.aG v.2.1.aa v.2.1.br ⟨p11.1,p3.1⟩ v.2.1.ao v.2.1.aw p15.1 p14.1) (tv:=0) (hTr _ f4)];simp only[Qa,BD];refine Yd.cond (fun hx=>hj17 _ ⟨f1,f2,f3,f4,f5,rfl,f7,.inl hx⟩) (fun hx=>hj17 _ ⟨f1,f2,f3,f4,f5,rfl,f7,.inr rfl⟩)
  ·refine(pQ e1 (by omega)).bind fun p23 ⟨k1,_⟩=> ?_
   refine Yd.cond (fun _=> ?_) (fun _=> ?_)
   ·refine(VP k1).bind fun p24 ⟨l1,l2,l3,l4⟩=> ?_
    refine(pQ l1 (by omega)).bind fun p25 ⟨m1,_⟩=> ?_
    have hvl:=Du (b:=p24.1) l2 (by omega) l4
    refine Yd.cond (fun _=> ?_) (fun _=> ?_)
    ·refine(VP m1).bind fun p26 ⟨o1,_⟩=> ?_
     exact hj13 _ ⟨o1,rfl,rfl,rfl,rfl,rfl,rfl,.inr hvl⟩
    ·exact hj13 _ ⟨m1,rfl,rfl,rfl,rfl,rfl,rfl,.inr hvl⟩
   ·have z0:aC (ae.mk 0 eZ)=true:=by decide+kernel
    exact hj13 _ ⟨k1,rfl,rfl,rfl,rfl,rfl,rfl,.inl z0⟩
 ·have z0:aC (ae.mk 0 (ByteArray.mk #[]))=true:=by decide+kernel
  refine Yd.cond (fun _=> ?_) (fun _=> ?_)
  ·refine(nL d1 (by omega) (by omega) (by omega)).bind fun p27 ⟨e1,e2,e3,_⟩=> ?_
   refine(nL e1 (by omega) (by omega) (by omega)).bind fun p28 ⟨f1,f2,f3,_⟩=> ?_
   refine(pQ f1 (by omega)).bind fun p29 ⟨k1,k2,k3,_⟩=> ?_
   refine(pQ k1 (by omega)).bind fun p30 ⟨l1,l2,l3,_⟩=> ?_
   have e4:=e3 (by omega)
   have f4:=f3 (by omega)
   have k4:=k3 (by omega)
   have l4:=l3 (by omega)
   have g1:aA .i64 p28.1 p29.1=p28.1+p29.1:=bM (by omega) (by omega)
   have g2:aA .i64 (p28.1+p29.1) p30.1=p28.1+p29.1+p30.1:=bM (by omega) (by omega)
   simp only[g1,g2];refine hj5 _ ⟨l1,⟨rfl,rfl,⟨a2,a4⟩,b2,b3,b4,c2,?_⟩⟩;have q4:=hd ⟨ax,bz,p1.1,p2.1,2,⟨p27.1,p3.1⟩,⟨p28.1+p29.1+p30.1,p3.1⟩,⟨0,ByteArray.mk #[]⟩,p28.1,p28.1+p29.1⟩ rfl rfl rfl;have q5:=hv p27.1 e2 (by omega)
   have q6:=hv (p28.1+p29.1+p30.1) (by omega) (by omega)
   have r1:p27.1<=1000:=by omega
   have r2:p28.1<=p28.1+p29.1:=by omega
   have r3:p28.1+p29.1<=1000:=by omega
   have r4:p28.1+p29.1<=p28.1+p29.1+p30.1:=by omega
   simp[fo,q4,qP,finite,q5,q6,bC,z0,pk,r1,f2,r3,r4];omega
  ·refine Yd.cond (fun _=> ?_) (fun _=> ?_)
   ·refine(pQ d1 (by omega)).bind fun p31 ⟨e1,_⟩=> ?_
    refine Yd.cond (fun _=> ?_) (fun _=>hj8 _ ⟨e1,rfl⟩)
    refine(nL e1 (by omega) (by omega) (by omega)).bind fun p32 ⟨f1,f2,f3,_⟩=> ?_
    refine(nL f1 (by omega) (by omega) (by omega)).bind fun p33 ⟨k1,k2,k3,_⟩=> ?_
    refine(pQ k1 (by omega)).bind fun p34 ⟨l1,l2,l3,_⟩=> ?_
    have f4:=f3 (by omega)
    have k4:=k3 (by omega)
    have l4:=l3 (by omega)
    have g1:aA .i64 p33.1 p34.1=p33.1+p34.1:=bM (by omega) (by omega)
    simp only[g1];refine hj5 _ ⟨l1,⟨rfl,rfl,⟨a2,a4⟩,b2,b3,b4,c2,?_⟩⟩;have q4:=hd ⟨ax,bz,p1.1,p2.1,3,⟨p32.1,p3.1⟩,⟨0,ByteArray.mk #[]⟩,⟨0,ByteArray.mk #[]⟩,p33.1,p33.1+p34.1⟩ rfl rfl rfl;have q5:=hv p32.1 f2 (by omega)
    have r3:p33.1+p34.1<=1000:=by omega
    simp[fo,q4,wG,q5,z0,pk,k2,r3];omega
   ·exact hj8 _ ⟨d1,rfl⟩
end Go.Proofs.YtkgenianmdfmdaaGreat
namespace Go.Proofs.YtkgenianmdfmdaaGreat
open Go.TQ
inductive dK:al->Prop where
 |mk (t:al) (h1:t.bn.length<=1000000) (h2:t.aN.length<=1000000) (h3:∀u∈t.aN,dK u):dK t
theorem dK.nodes{t:al}:dK t->t.bn.length<=1000000| .mk _ h _ _=>h
theorem dK.len{t:al}:dK t->t.aN.length<=1000000| .mk _ _ h _=>h
theorem dK.inner{t:al}:dK t->∀u∈t.aN,dK u| .mk _ _ _ h=>h
theorem tN{t u:al}(h:u∈t.aN):SizeOf.sizeOf u<SizeOf.sizeOf t:=by
 have h1:=List.sizeOf_lt_of_mem h
 cases t with
 |mk th ns is=>
  simp only[al.mk.sizeOf_spec]at h1 ⊢;omega
theorem gA.sm{t:al}(h:gA t):dK t:=by
 have:=h.len;refine .mk t (by omega) ?_ fun u hu=> ?_
 ·rcases h.inner with e|⟨x,_,_,e⟩<;>rw[e]<;>simp
 ·rcases h.inner with e|⟨x,_,_,e⟩
  ·rw[e]at hu;cases hu
  ·rw[e]at hu;simp only[List.mem_singleton]at hu;subst hu;exact .mk _ (by simp) (by simp) (by simp)
@[simp] theorem Xa (l:List Int) (h:l.length<=1000000):kr l=some l:=by
 unfold kr;rw[bZ (by simp;omega)]
 cases l with
 |nil=>simp
 |cons x l=>simp
theorem Xq{n:Nat}:∀{t:al},SizeOf.sizeOf t<n->dK t->rP n (t,())=some t:=by
 induction n with
 |zero=>intro t h;omega
 |succ n ih=>
  intro t hs hm;show rU (rP n) t=some t;unfold rU;have hl:=hm.len;rw[Xa _ hm.nodes,Qa]
  suffices key:∀(k i:Nat) (t':al),i+k=t.aN.length->t'.aP=t.aP->t'.bn=t.bn->aE (fun(v2:Int×al×(List al)×Unit)=>
    bif (decide (v2.1<((List.length t.aN:Nat):Int)))then
    Option.bind (idx t.aN v2.1) fun x3=>
    Option.bind (rP n ((al.mk x3.aP x3.bn x3.aN),())) fun r4=>
    bif bx 56 (List.length v2.2.2.1+List.length [(al.mk r4.aP r4.bn r4.aN)])then
    some (Sum.inl ((aA .i64 v2.1 (1:Int)),(al.mk v2.2.1.aP v2.2.1.bn ([]:List al)),(v2.2.2.1++[(al.mk r4.aP r4.bn r4.aN)]),()))
    else none
    else
    Option.map Sum.inr (some (al.mk v2.2.1.aP v2.2.1.bn v2.2.2.1))) ((i:Int),t',t.aN.take i,())=some t by
   have:=key t.aN.length 0 ⟨t.aP,t.bn,[]⟩ (by omega) rfl rfl
   simpa using this
  intro k
  induction k with
  |zero=>
   intro i t' hi h1 h2;refine bS ?_;have hd:decide ((i:Int)<((t.aN.length:Nat):Int))=false:=Qh (by omega)
   simp only[hd,Ql,Qe,h1,h2];rw[List.take_of_length_le (by omega),al.eta]
  |succ k ihk=>
   intro i t' hi h1 h2;have hlt:i<t.aN.length:=by omega
   have hd:decide ((i:Int)<((t.aN.length:Nat):Int))=true:=Qg (by omega)
   have hx:idx t.aN (i:Int)=some t.aN[i]:=by rw[bB];exact Qv hlt
   have hw:aA .i64 (i:Int) 1=((i+1:Nat):Int):=bM (by omega) (by omega)
   have hmem:t.aN[i]∈t.aN:=Q0 hlt;have hr:=ih (t:=t.aN[i]) (by have:=tN hmem;omega) (hm.inner _ hmem)
   rw[bl (s':=(((i+1:Nat):Int),⟨t'.aP,t'.bn,[]⟩,t.aN.take (i+1),()))]
   ·exact ihk (i+1) _ (by omega) h1 h2
   ·simp only[hd,Qk,hx,hw,Qa,al.eta,hr];rw[bZ (by simp;omega),List.take_succ_eq_append_getElem hlt]
    rfl
@[simp] theorem ux {t:al} (h:dK t):kj t=some t:=Xq (by omega) h
theorem wF{α σ ρ:Type}{g:α->σ->Option (σ⊕ρ)}{fin:σ->Option ρ}(hf:∀s,∃r,fin s=some r):∀(l:List α),(∀x∈l,∀s,∃y,g x s=some y)->∀s,∃r,eD g fin l s=some r
 |[],_,s=>hf s
 |x::l,h,s=>by
  obtain⟨y,hy⟩:=h x (by simp) s
  rw[eD,hy]
  cases y with
  |inr r=>exact⟨r,rfl⟩
  |inl s'=>exact wF hf l (fun x hx=>h x (by simp[hx])) s'
theorem GH{α σ ρ:Type}{g g':α->σ->Option (σ⊕ρ)}{fin:σ->Option ρ}:∀(l:List α),(∀x∈l,∀s,g x s=g' x s)->∀s,eD g fin l s=eD g' fin l s
 |[],_,s=>rfl
 |x::l,h,s=>by
  rw[eD,eD,h x (by simp) s]
  cases g' x s with
  |none=>rfl
  |some y=>
   cases y with
   |inr r=>rfl
   |inl s'=>exact GH l (fun x hx=>h x (by simp[hx])) s'
theorem RM{n:Nat}:∀{t:al},SizeOf.sizeOf t<n->dK t->∃d,lA n (t,())=some d:=by
 induction n with
 |zero=>intro t h;omega
 |succ n ih=>
  intro t hs hm;show∃d,ix (lA n) t=some d;have hl:=hm.len;rw[LM (by omega)]
  refine wF (fun s=>⟨_,rfl⟩) _ (fun u hu s=> ?_) _
  obtain⟨d,hd⟩:=ih (t:=u) (by have:=tN hu;omega) (hm.inner u hu)
  exact⟨_,by rw[hd];rfl⟩
theorem Tb{n:Nat}:∀{t:al},SizeOf.sizeOf t<n->dK t->∃d,mo n (t,())=some d:=by
 induction n with
 |zero=>intro t h;omega
 |succ n ih=>
  intro t hs hm;show∃d,jc (mo n) t=some d;have hl:=hm.len;rw[Rk (by omega)]
  refine wF (fun s=>⟨_,rfl⟩) _ (fun u hu s=> ?_) _
  obtain⟨d,hd⟩:=ih (t:=u) (by have:=tN hu;omega) (hm.inner u hu)
  exact⟨_,by rw[hd];rfl⟩
theorem OX{rec:al->Option Int}{t:al}(h:∀u∈t.aN,∃r,rec u=some r):∃r,oa rec t=some r:=by
 unfold oa;split
 ·exact⟨_,rfl⟩
 ·split
  ·exact⟨_,rfl⟩
  ·split
   ·refine wF (fun s=>⟨_,rfl⟩) _ (fun u hu s=> ?_) _
    obtain⟨r,hr⟩:=h u hu;exact⟨_,by rw[hr];rfl⟩
   ·exact⟨_,rfl⟩
theorem OY{rec rec':al->Option Int}{t:al}(h:∀u∈t.aN,rec u=rec' u):oa rec t=oa rec' t:=by
 unfold oa;rw[GH _ fun u hu s=>by rw[h u hu]]
theorem RG{n:Nat}:∀{t:al},SizeOf.sizeOf t<n->dK t->∃d,ig n (t,())=some d/\mR n (t,())=some d:=by
 induction n with
 |zero=>intro t h;omega
 |succ n ih=>
  intro t hs hm;show∃d,iw (ig n) t=some d/\lq (mR n) t=some d;have hl:=hm.len;have hn:=hm.nodes;rw[LL (by omega) (by omega),LN (by omega) (by omega)]
  have hih:∀u∈t.aN,∃r,ig n (u,())=some r/\mR n (u,())=some r:=fun u hu=>ih (t:=u) (by have:=tN hu;omega) (hm.inner u hu)
  obtain⟨r,hr⟩:=OX (rec:=fun u=>ig n (u,())) (t:=t) fun u hu=>by obtain⟨r,h1,_⟩:=hih u hu;exact⟨r,h1⟩
  refine⟨r,hr,?_⟩;rw[<-hr];refine OY fun u hu=> ?_
  obtain⟨r,h1,h2⟩:=hih u hu;rw[h1,h2]
theorem Ib{t:al}(h:dK t):∃v,dE t=some v/\fm t=some v:=by
 obtain⟨d,hd⟩:∃d,jF t=some d:=RM (by omega) h
 obtain⟨z,hz⟩:∃z,j1 t=some z:=Tb (by omega) h
 obtain⟨l,hl1,hl2⟩:∃l,lB t=some l/\py t=some l:=RG (by omega) h
 simp[dE,fm,Mb,Ov,hd,hz,hl1,hl2]
 def Dw(t:al):Int:=(dE t).getD 1
theorem RX{t:al}(h:dK t):dE t=some (Dw t):=by
 obtain⟨v,h1,_⟩:=Ib h;rw[Dw,h1];rfl
theorem V0{t:al}(h:dK t):fm t=some (Dw t):=by
 obtain⟨v,h1,h2⟩:=Ib h;rw[Dw,h1,h2];rfl
theorem Dv{t:al}(h:gA t):Dw t=0:=by rw[Dw,nM h];rfl
 def aJ(e:ai):Bool:=fo (Dw e.aa) e
theorem nJ{e:ai}(h:dK e.aa):cW e=some (aJ e):=vr (RX h)
theorem iy{e:ai}(h:dK e.aa):cu e=some (aJ e):=o0 (V0 h)
def jL(s:Nat)(x:Int):Bool:=dW x&&s.testBit x.toNat
theorem oQ{s:Nat}(h:s<1024)(x:Int):wa s x=jL s x:=by
 have h1:decide (0<=(s:Int))=true:=Qg (by omega)
 have h2:decide ((s:Int)<1024)=true:=Qg (by omega)
 simp only[wa,jL,h1,h2,Bool.true_and,QV]
mutual
def js(s:Nat):al->Bool
 |⟨th,ns,is⟩=>decide (th<=((ns.countP (jL s)+tw s is:Nat):Int))
def tw(s:Nat):List al->Nat
 |[]=>0
 |t::l=>(if js s t then 1 else 0)+tw s l
end
theorem Fe(s:Nat)(t:al):js s t=decide (t.aP<=((t.bn.countP (jL s)+tw s t.aN:Nat):Int)):=by
 cases t;rw[js]
theorem CL(s:Nat)(hs:s<1024)(fin:Int->Option Bool):∀(l:List Int) (n:Nat),n+l.length<=9000000->
  eD (fun x (m:Int)=>some (.inl (if wa s x then aA .i64 m 1 else m))) fin l n=fin ((n+l.countP (jL s):Nat):Int)
 |[],n,_=>by simp[eD]
 |x::l,n,h=>by
  simp at h;rw[eD,oQ hs,List.countP_cons]
  cases hx:jL s x with
  |false=>
   simp only[Qq,Qu,Nat.add_zero];exact CL s hs fin l n (by omega)
  |true=>
   simp only[Qt];rw[bM (by omega) (by omega)]
   rw[show(n:Int)+1=((n+1:Nat):Int)by omega,CL s hs fin l (n+1) (by omega)]
   congr 2;omega
theorem G3(s:Nat)(rec:al->Option Bool)(fin:Int->Option Bool):∀(l:List al) (n:Nat),n+l.length<=9000000->(∀u∈l,rec u=some (js s u))->
  eD (fun u (m:Int)=>(rec u).map fun r=> .inl (if r then aA .i64 m 1 else m)) fin l n=fin ((n+tw s l:Nat):Int)
 |[],n,_,_=>by simp[eD,tw]
 |u::l,n,h,hr=>by
  simp at h;rw[eD,hr u (by simp),tw]
  cases hx:js s u with
  |false=>
   simp only[Qe,Qq,Qu,Nat.zero_add];exact G3 s rec fin l n (by omega) fun u hu=>hr u (by simp[hu])
  |true=>
   simp only[Qe,Qt];rw[bM (by omega) (by omega)]
   rw[show(n:Int)+1=((n+1:Nat):Int)by omega,G3 s rec fin l (n+1) (by omega) fun u hu=>hr u (by simp[hu])]
   congr 2;omega
theorem abP{rec:(al×Int×Unit)->Option Bool}{t:al}{s:Nat}(hs:s<1024)(hm:dK t)(hr:∀u∈t.aN,rec (u,(s:Int),())=some (js s u)):fC rec t s=some (js s t):=by
 unfold fC;have hn:=hm.nodes;have hl:=hm.len;have hv:et (s:Int)=some true:=by rw[FD];simp;omega
 rw[hv];simp only[Qa,Qo,Ql,aW];rw[ga t.bn (by omega) (fun i (m:Int)=>(m,i,())) (fun x (m:Int)=>some (.inl (if wa s x then aA .i64 m 1 else m))) (fun m=>eD (fun u (m:Int)=>(rec (u,(s:Int),())).map fun r=> .inl (if r then aA .i64 m 1 else m)) (fun m=>some (decide (t.aP<=m))) t.aN m) (fun i x m hd hx hw=> ?_) (fun m hd=> ?_) 0]
 ·rw[show(0:Int)=((0:Nat):Int)from rfl,CL s hs _ t.bn 0 (by omega)]
  rw[G3 s (fun u=>rec (u,(s:Int),())) _ t.aN _ (by have:=List.countP_le_length (p:=jL s) (l:=t.bn);omega) hr,Fe]
  simp
 ·simp only[hd,hx,hw,Qk,Qa,kh];cases wa s x<;>rfl
 ·simp only[hd,Ql];rw[ga t.aN (by omega) (fun i (m:Int)=>(m,i,())) (fun u (m:Int)=>(rec (u,(s:Int),())).map fun r=> .inl (if r then aA .i64 m 1 else m)) (fun m=>some (decide (t.aP<=m))) (fun i x m hd hx hw=> ?_) (fun m hd=> ?_) m]
  ·simp only[hd,hx,hw,Qk,Qa,al.eta]
   cases rec (x,(s:Int),())with
   |none=>rfl
   |some r=>cases r<;>rfl
  ·simp only[hd,Ql]
theorem abM{s:Nat}(hs:s<1024){n:Nat}:∀{t:al},SizeOf.sizeOf t<n->dK t->kT n (t,(s:Int),())=some (js s t):=by
 induction n with
 |zero=>intro t h;omega
 |succ n ih=>
  intro t hz hm;show fC (kT n) t s=some (js s t);exact abP hs hm fun u hu=>ih (t:=u) (by have:=tN hu;omega) (hm.inner u hu)
theorem y9{s:Nat}(hs:s<1024){t:al}(hm:dK t):gF t s=some (js s t):=abM hs (by omega) hm
theorem To(t:al)(s:Int):ij t s=gF t s:=by
 have hB:∀(rec:(al×Int×Unit)->Option Bool) (t:al) (s:Int),nZ rec t s=fC rec t s:=by
  intro rec t s;unfold nZ fC
  have hv:er s=et s:=by
   rw[FD];unfold er;simp;congr 1;rw[decide_eq_decide];omega
  simp only[hv,rR,kh]
 unfold ij gF xy kT;congr 1;congr 1
 funext rec a
 exact hB rec a.1 a.2.1
theorem C1{s:Nat}(hs:s<1024){t:al}(hm:dK t):ij t s=some (js s t):=by rw[To];exact y9 hs hm
theorem MF{s s':Nat}(h:∀k,s.testBit k=true->s'.testBit k=true)(x:Int)(hx:jL s x=true):jL s' x=true:=by
 simp only[jL,Qm]at hx ⊢;exact⟨hx.1,h _ hx.2⟩
mutual
theorem LY{s s':Nat}(h:∀k,s.testBit k=true->s'.testBit k=true):∀(t:al),js s t=true->js s' t=true
 |⟨th,ns,is⟩,ht=>by
  rw[js,Qi]at ht ⊢;have h1:=LZ h is;have h2:ns.countP (jL s)<=ns.countP (jL s'):=List.countP_mono_left fun x _ hx=>MF h x hx
  omega
theorem LZ{s s':Nat}(h:∀k,s.testBit k=true->s'.testBit k=true):∀(l:List al),tw s l<=tw s' l
 |[]=>by simp[tw]
 |t::l=>by
  have h1:=LZ h l;have h2:=LY h t;rw[tw,tw]
  cases hs:js s t with
  |false=>simp;omega
  |true=>rw[h2 hs];simp;omega
end
end Go.Proofs.YtkgenianmdfmdaaGreat
namespace Go.Proofs.YtkgenianmdfmdaaGreat
open Go.TQ
theorem Yc(s:Int):er s=some (decide (0<=s)&&decide (s<1024)):=by
 unfold er;simp;congr 1;rw[decide_eq_decide];omega
theorem xD{s:Nat}(h:s<1024):et (s:Int)=some true:=by rw[FD];simp;omega
theorem sH{s:Nat}(h:s<1024):er (s:Int)=some true:=by rw[Yc];simp;omega
theorem GQ(a b:Nat)(ha:a<2 ^ 62)(hb:b<2 ^ 62):∃c:Nat,wm .i64 (a:Int) (b:Int)=(c:Int)/\c<=a/\∀k,c.testBit k=(a.testBit k&& !b.testBit k):=by
 refine⟨((BitVec.ofInt 64 (a:Int)&&& ~~~ BitVec.ofInt 64 (b:Int)).toNat),?_,?_,fun k=> ?_⟩
 ·have hle:(BitVec.ofInt 64 (a:Int)&&& ~~~ BitVec.ofInt 64 (b:Int)).toNat<=a:=by
   rw[BitVec.toNat_and,qB a ha];exact Nat.and_le_left
  show IntKind.i64.wrap (((BitVec.ofInt 64 (a:Int)&&& ~~~ BitVec.ofInt 64 (b:Int)).toNat:Nat):Int)=_;exact BN _ (by omega)
 ·rw[BitVec.toNat_and,qB a ha];exact Nat.and_le_left
 ·have h1:∀i (x:Nat),x<2 ^ 62->(BitVec.ofInt 64 (x:Int)).getLsbD i=x.testBit i:=by
   intro i x hx;rw[<-BitVec.testBit_toNat,qB x hx]
  rw[BitVec.testBit_toNat,BitVec.getLsbD_and,BitVec.getLsbD_not,h1 k a ha,h1 k b hb]
  by_cases hk:k<64
  ·simp[hk]
  ·have:a.testBit k=false:=Nat.testBit_lt_two_pow (QJ ha (Nat.pow_le_pow_right (by omega) (by omega)))
   simp[this]
theorem yh{a b:Nat}(h:∀k,a.testBit k=b.testBit k):a=b:=Nat.eq_of_testBit_eq h
theorem Kc{s k:Nat}(hs:s<1024)(hk:s.testBit k=true):k<10:=by
 rcases Nat.lt_or_ge k 10 with h|h
 ·exact h
 ·have:s.testBit k=false:=Nat.testBit_lt_two_pow (QJ hs (show 2 ^ 10<=2 ^ k from Nat.pow_le_pow_right (by omega) h))
  rw[this]at hk;cases hk
theorem Bi{s:Nat}(h:∀k,s.testBit k=true->k<10):s<1024:=by
 rcases Nat.lt_or_ge s 1024 with h1|h1
 ·exact h1
 ·obtain⟨k,hk1,hk2⟩:=Nat.exists_ge_and_testBit_of_ge_two_pow (n:=10) h1;have:=h k hk2;omega
theorem qJ(s k:Nat):jL s (k:Int)=(decide (k<10)&&s.testBit k):=by
 have h1:decide ((k:Int)<10)=decide (k<10):=by rw[decide_eq_decide];omega
 have h2:decide (0<=(k:Int))=true:=Qg (by omega)
 simp only[jL,dW,h1,h2,Bool.true_and,QV]
def CI(i:Nat)(s:Nat):List bg->Nat
 |[]=>s
 |m::l=>CI (i+1) (if m.dm&&decide (i<10)then s|||2 ^ i else s) l
def iz(l:List bg):Nat:=CI 0 0 l
theorem MQ:∀(l:List bg) (i s k:Nat),(CI i s l).testBit k=(s.testBit k||(decide (i<=k)&&decide (k<10)&&((l[k - i]?).any (·.dm))))
 |[],i,s,k=>by simp[CI]
 |m::l,i,s,k=>by
  rw[CI,MQ l (i+1)]
  by_cases hk:k=i
  ·subst hk;have h1:¬(k+1<=k):=by omega
   cases hm:m.dm<;>by_cases hi:k<10<;>simp[hm,hi,h1,Nat.testBit_or]
  ·have h2:i<=k↔i+1<=k:=by omega
   have h3:∀b:Bool,(if(b&&decide (i<10))=true then s|||2 ^ i else s).testBit k=s.testBit k:=by
    intro b;split
    ·rw[Nat.testBit_or,Nat.testBit_two_pow];have:¬i=k:=fun e=>hk e.symm
     simp[this]
    ·rfl
   rw[h3]
   by_cases hik:i+1<=k
   ·have h4:(m::l)[k - i]?=l[k - (i+1)]?:=by
     rw[show k - i=(k - (i+1))+1 by omega,List.getElem?_cons_succ]
    rw[h4];have:i<=k:=by omega
    simp[this,hik]
   ·have:¬i<=k:=by omega
    simp[this,hik]
theorem EK(l:List bg)(k:Nat):(iz l).testBit k=(decide (k<10)&&((l[k]?).any (·.dm))):=by
 rw[iz,MQ];simp
theorem yY(l:List bg):iz l<1024:=Bi fun k hk=>by
 rw[EK]at hk;simp at hk;exact hk.1
theorem MP(step:(Int×Int×Unit)->Option ((Int×Int×Unit)⊕Int))(l:List bg)
  (h1:∀(i:Nat) (m:bg) (s:Nat),l[i]?=some m->s<1024->step ((s:Int),(i:Int),())=some (.inl (((if m.dm&&decide (i<10)then s|||2 ^ i else s:Nat):Int),((i+1:Nat):Int),())))
  (h2:∀s:Int,step (s,(l.length:Int),())=some (.inr s)):aE step (0,0,())=some ((iz l:Nat):Int):=by
 suffices key:∀(k i s:Nat),i+k=l.length->s<1024->aE step ((s:Int),(i:Int),())=some ((CI i s (l.drop i):Nat):Int)by
  have:=key l.length 0 0 (by omega) (by omega)
  simpa[iz]using this
 intro k
 induction k with
 |zero=>
  intro i s hi hs;obtain rfl:i=l.length:=by omega
  rw[bS (h2 s),List.drop_length];rfl
 |succ k ih=>
  intro i s hi hs;have hlt:i<l.length:=by omega
  rw[QM hlt,CI,bl (h1 i l[i] s (Qv hlt) hs)];refine ih (i+1) _ (by omega) ?_
  split
  ·rename_i hc;simp only[Qm,Qi]at hc;have:=I9 (x:=(i:Int)) hs (by omega)
   simpa using this
  ·exact hs
theorem GY{c:bp}(h:c.aU.length<=1000000):gN c=some ((iz c.aU:Nat):Int):=by
 unfold gN;refine MP _ _ (fun i m s hm hs=> ?_) (fun s=> ?_)
 ·have hlt:i<c.aU.length:=(Qw.1 hm).1;have hd:decide ((i:Int)<((c.aU.length:Nat):Int))=true:=Qg (by omega)
  have hw:aA .i64 (i:Int) 1=((i+1:Nat):Int):=bM (by omega) (by omega)
  have hx:idx c.aU (i:Int)=some m:=by rw[bB];exact hm
  have h0:¬(i:Int)<0:=by omega
  simp only[hd,hx,hw,Qk,Qa,aW,h0,Qu]
  cases m.dm with
  |false=>simp
  |true=>
   by_cases h10:i<10
   ·have:(i:Int)<10:=by omega
    have ho:=ye (x:=(i:Int)) hs (by omega) (by omega)
    simp only[QV]at ho;simp[this,h10,ho]
   ·have:¬(i:Int)<10:=by omega
    simp[this,h10]
 ·have hd:decide (((c.aU.length:Nat):Int)<((c.aU.length:Nat):Int))=false:=Qh (Int.lt_irrefl _);simp only[hd,Ql,Qe]
theorem yD{c:bp}(h:c.aU.length<=1000000):kc c=some ((iz c.aU:Nat):Int):=by
 unfold kc;refine MP _ _ (fun i m s hm hs=> ?_) (fun s=> ?_)
 ·have hlt:i<c.aU.length:=(Qw.1 hm).1;have hd:decide ((i:Int)<((c.aU.length:Nat):Int))=true:=Qg (by omega)
  have hw:aA .i64 (i:Int) 1=((i+1:Nat):Int):=bM (by omega) (by omega)
  have hx:idx c.aU (i:Int)=some m:=by rw[bB];exact hm
  have h0:¬(i:Int)<0:=by omega
  simp only[hd,hx,hw,Qk,Qa,aW,h0,Qu]
  by_cases h10:i<10
  ·have:(i:Int)<10:=by omega
   have ho:=ye (x:=(i:Int)) hs (by omega) (by omega)
   simp only[QV]at ho;cases m.dm<;>simp[this,h10,ho]
  ·have:¬(i:Int)<10:=by omega
   cases m.dm<;>simp[this,h10]
 ·have hd:decide (((c.aU.length:Nat):Int)<((c.aU.length:Nat):Int))=false:=Qh (Int.lt_irrefl _);simp only[hd,Ql,Qe]
structure z8 (c:bp):Prop where
 len:c.aU.length<=1000000
 aO:∀m∈c.aU,dK m.aa
def jV(l:List bg)(k:Nat):al:=((l[k]?).map (·.aa)).getD ⟨0,[],[]⟩
def lx(l:List bg)(k:Nat):Bool:=(iz l).testBit k
theorem vb{l:List bg}{k:Nat}(h:lx l k=true):k<10/\∃m,l[k]?=some m/\m.dm=true:=by
 rw[lx,EK]at h;simp only[Qm,Qi,Option.any_eq_true]at h;obtain⟨h1,m,h2,h3⟩:=h;exact⟨h1,m,h2,h3⟩
theorem pB{l:List bg}{k:Nat}{m:bg}(h:l[k]?=some m):jV l k=m.aa:=by rw[jV,h];rfl
def vO(s v:Nat):Nat:=(1023^^^s)|||2 ^ v
def rM(l:List bg)(v s:Nat):Bool:=lx l v&& !js (vO s v) (jV l v)
theorem Xx(k:Nat):(1023:Nat).testBit k=decide (k<10):=by
 rw[show(1023:Nat)=2 ^ 10 - 1 from rfl,Nat.testBit_two_pow_sub_one]
theorem xN{s:Nat}(hs:s<1024)(v k:Nat):(vO s v).testBit k=(decide (k<10)&& !s.testBit k||decide (v=k)):=by
 rw[vO,Nat.testBit_or,Nat.testBit_xor,Xx,Nat.testBit_two_pow]
 by_cases hk:k<10
 ·simp[hk]
 ·have:s.testBit k=false:=by
   cases h:s.testBit k with
   |false=>rfl
   |true=>exact absurd (Kc hs h) hk
  simp[hk,this]
theorem Mw{s v:Nat}(hs:s<1024)(hv:v<10):vO s v<1024:=Bi fun k hk=>by
 rw[xN hs]at hk;simp at hk;omega
theorem RB{s v:Nat}(hs:s<1024)(hv:v<10):um .i64 (wm .i64 1023 (s:Int)) (iI .i64 1 (v:Int))=((vO s v:Nat):Int):=by
 obtain⟨c,h1,h2,h3⟩:=GQ 1023 s (by omega) (by omega)
 have h1':wm .i64 1023 (s:Int)=(c:Int):=h1;rw[h1',tu v (by omega),Bg c (2 ^ v) (by omega) (Nat.pow_lt_pow_right (by omega) (by omega))]
 congr 1;refine yh fun k=> ?_
 rw[xN hs,Nat.testBit_or,h3,Xx,Nat.testBit_two_pow]
theorem TB{s v:Nat}(hs:s<1024)(hv:v<10):um .i64 (de .i64 1023 (s:Int)) (iI .i64 1 (v:Int))=((vO s v:Nat):Int):=by
 have h1:de .i64 1023 (s:Int)=((1023 - s:Nat):Int):=by rw[pV (by omega) (by omega)];omega
 rw[h1,tu v (by omega),Bg _ (2 ^ v) (by omega) (Nat.pow_lt_pow_right (by omega) (by omega))]
 congr 1;refine yh fun k=> ?_
 rw[xN hs,Nat.testBit_or,Nat.testBit_two_pow]
 have h2:(1023 - s).testBit k=(decide (k<10)&& !s.testBit k):=by
  have:=Nat.testBit_two_pow_sub_succ (x:=s) (n:=10) (by omega) k
  rw[show 2 ^ 10 - (s+1)=1023 - s by omega]at this
  exact this
 rw[h2]
theorem M3{c:bp}(hc:z8 c){v s:Nat}(hs:s<1024):lH c v s=some (rM c.aU v s):=by
 unfold lH rM;rw[xD hs,GY hc.len];simp only[Qa,Qo,Ql,kh,oQ (yY _),qJ]
 cases hd:lx c.aU v with
 |false=>
  have:(decide (v<10)&&(iz c.aU).testBit v)=false:=by
   rw[show(iz c.aU).testBit v=lx c.aU v from rfl,hd];simp
  simp[this]
 |true=>
  obtain⟨h10,m,hm,hdm⟩:=vb hd
  have:(decide (v<10)&&(iz c.aU).testBit v)=true:=by
   rw[show(iz c.aU).testBit v=lx c.aU v from rfl,hd];simp[h10]
  rw[bB,hm,RB hs h10];have h0:¬(v:Int)<0:=by omega
  have hmem:m∈c.aU:=List.mem_of_getElem? hm;simp only[this,Qo,Ql,Qa,h0,Qu,al.eta,y9 (Mw hs h10) (hc.aO m hmem),pB hm,Bool.true_and]
theorem I3{c:bp}(hc:z8 c){v s:Nat}(hs:s<1024):lY c v s=some (rM c.aU v s):=by
 unfold lY rM;rw[sH hs,yD hc.len];simp only[Qa,Qo,Ql,rR,oQ (yY _),qJ]
 cases hd:lx c.aU v with
 |false=>
  have:(decide (v<10)&&(iz c.aU).testBit v)=false:=by
   rw[show(iz c.aU).testBit v=lx c.aU v from rfl,hd];simp
  simp[this]
 |true=>
  obtain⟨h10,m,hm,hdm⟩:=vb hd
  have:(decide (v<10)&&(iz c.aU).testBit v)=true:=by
   rw[show(iz c.aU).testBit v=lx c.aU v from rfl,hd];simp[h10]
  rw[bB,hm,TB hs h10];have h0:¬(v:Int)<0:=by omega
  have hmem:m∈c.aU:=List.mem_of_getElem? hm;simp only[this,Qo,Ql,Qa,h0,Qu,al.eta,C1 (Mw hs h10) (hc.aO m hmem),pB hm,Bool.true_and]
end Go.Proofs.YtkgenianmdfmdaaGreat
namespace Go.Proofs.YtkgenianmdfmdaaGreat
open Go.TQ
def pn(s:Nat):List Int:=(sA 10).filter (jL s)
theorem YG{n:Nat}{x:Int}:x∈sA n↔∃k:Nat,k<n/\x=k:=by
 simp only[sA,QP,List.mem_range];exact⟨fun⟨k,h1,h2⟩=>⟨k,h1,h2.symm⟩,fun⟨k,h1,h2⟩=>⟨k,h1,h2.symm⟩⟩
theorem xQ{s:Nat}{x:Int}:x∈pn s↔∃k:Nat,k<10/\x=k/\s.testBit k=true:=by
 rw[pn,List.mem_filter,YG];constructor
 ·rintro⟨⟨k,h1,rfl⟩,h2⟩;rw[qJ]at h2;simp at h2;exact⟨k,h1,rfl,h2.2⟩
 ·rintro⟨k,h1,rfl,h2⟩;exact⟨⟨k,h1,rfl⟩,by rw[qJ];simp[h1,h2]⟩
theorem Jk(step:(Int×List Int×Unit)->Option ((Int×List Int×Unit)⊕List Int))(s:Nat)
  (h1:∀(i:Nat) (acc:List Int),i<10->acc.length<=i->step ((i:Int),acc,())=some (.inl (((i+1:Nat):Int),(if jL s i then acc++[(i:Int)]else acc),())))
  (h2:∀acc,step (((10:Nat):Int),acc,())=some (.inr acc)):aE step (0,[],())=some (pn s):=by
 suffices key:∀(k i:Nat) (acc:List Int),i+k=10->acc=(sA i).filter (jL s)->aE step ((i:Int),acc,())=some (pn s)from key 10 0 [] rfl rfl
 intro k
 induction k with
 |zero=>
  intro i acc hi ha;obtain rfl:i=10:=by omega
  rw[bS (h2 acc),ha];rfl
 |succ k ih=>
  intro i acc hi ha;have hlen:acc.length<=i:=by rw[ha];exact QK (List.length_filter_le _ _) (by simp)
  rw[bl (h1 i acc (by omega) hlen)]
  refine ih (i+1) _ (by omega) ?_
  rw[N1,List.filter_append,<-ha];cases hh:jL s i<;>simp[hh]
theorem Xm{s:Nat}(hs:s<1024):qh (s:Int)=some (pn s):=by
 unfold qh;refine Jk _ s (fun i acc hi hl=> ?_) (fun acc=> ?_)
 ·have hd:decide ((i:Int)<10)=true:=Qg (by omega)
  have hw:aA .i64 (i:Int) 1=((i+1:Nat):Int):=bM (by omega) (by omega)
  simp only[hd,hw,Qk,aW,kh,oQ hs,Qa];rw[bZ (by simp;omega)]
  cases jL s i<;>simp
 ·rfl
theorem UJ{s:Nat}(hs:s<1024):pz (s:Int)=some (pn s):=by
 unfold pz;refine Jk _ s (fun i acc hi hl=> ?_) (fun acc=> ?_)
 ·have hd:decide ((i:Int)<10)=true:=Qg (by omega)
  have hw:aA .i64 (i:Int) 1=((i+1:Nat):Int):=bM (by omega) (by omega)
  simp only[hd,hw,Qk,aW,rR,oQ hs,Qa];rw[bZ (by simp;omega)]
  cases jL s i<;>simp
 ·rfl
def BJ(l:List bg)(s r:Nat):Prop:=∀k,r.testBit k=true->s.testBit k=true/\lx l k=true/\js r (jV l k)=true
structure wq (l:List bg) (s q:Nat):Prop where
 inside:BJ l s q
 max:∀r,BJ l s r->∀k,r.testBit k=true->q.testBit k=true
theorem wq.unique{l:List bg}{s q q':Nat}(h:wq l s q)(h':wq l s q'):q=q':=by
 refine yh fun k=> ?_
 rw[QW];exact⟨h'.max q h.inside k,h.max q' h'.inside k⟩
theorem wq.lt{l:List bg}{s q:Nat}(h:wq l s q):q<1024:=Bi fun k hk=>(vb (h.inside k hk).2.1).1
def nD(l:List bg)(s:Nat):Option Int:=(pn s).find? fun x=> !js s (jV l x.toNat)
theorem C0{l:List bg}{s:Nat}{x:Int}(h:nD l s=some x):∃k:Nat,x=k/\k<10/\s.testBit k=true/\js s (jV l k)=false:=by
 have h1:=List.mem_of_find?_eq_some h;have h2:=List.find?_some h;obtain⟨k,hk,rfl,hb⟩:=xQ.1 h1;simp at h2;exact⟨k,rfl,hk,hb,h2⟩
theorem M4{l:List bg}{s:Nat}(hs:s<1024)(h:nD l s=none):∀k,s.testBit k=true->js s (jV l k)=true:=by
 intro k hk;have:=List.find?_eq_none.1 h (k:Int) (xQ.2 ⟨k,Kc hs hk,rfl,hk⟩);simpa using this
theorem X9:∀s,s<1024->∀k,k<10->s.testBit k=true->s - 2 ^ k=s^^^2 ^ k:=by decide+kernel
theorem Fc{s k:Nat}(hs:s<1024)(hk:s.testBit k=true):2 ^ k<=s/\∀j,(s - 2 ^ k).testBit j=(s.testBit j&& !decide (k=j)):=by
 have hle:2 ^ k<=s:=Nat.ge_two_pow_of_testBit hk;refine⟨hle,?_⟩;have hx:s - 2 ^ k=s^^^2 ^ k:=X9 s hs k (Kc hs hk) hk;intro j;rw[hx,Nat.testBit_xor,Nat.testBit_two_pow]
 by_cases hj:k=j
 ·subst hj;simp[hk]
 ·simp[hj]
structure oF (l:List bg) (s0 s:Nat):Prop where
 lt:s<1024
 sub:∀k,s.testBit k=true->s0.testBit k=true/\lx l k=true
 max:∀r,BJ l s0 r->∀k,r.testBit k=true->s.testBit k=true
theorem oF.first(l:List bg){s:Nat}(hs:s<1024):oF l s (s&&&iz l):=by
 refine⟨Nat.lt_of_le_of_lt Nat.and_le_left hs,fun k hk=> ?_,fun r hr k hk=> ?_⟩
 ·rw[Nat.testBit_and,Qm]at hk;exact hk
 ·rw[Nat.testBit_and,Qm];exact⟨(hr k hk).1,(hr k hk).2.1⟩
theorem oF.next{l:List bg}{s0 s k:Nat}(h:oF l s0 s)(hk:s.testBit k=true)(hu:js s (jV l k)=false):oF l s0 (s - 2 ^ k):=by
 obtain⟨h1,h2⟩:=Fc h.lt hk;refine⟨Nat.lt_of_le_of_lt (Nat.sub_le _ _) h.lt,fun j hj=> ?_,fun r hr j hj=> ?_⟩
 ·rw[h2]at hj;simp at hj;exact h.sub j hj.1
 ·rw[h2,h.max r hr j hj]
  have:k≠j:=by
   intro e;subst e;have:=LY (fun i hi=>h.max r hr i hi) _ (hr k hj).2.2
   rw[hu]at this;cases this
  simp[this]
theorem oF.done{l:List bg}{s0 s:Nat}(h:oF l s0 s)(hn:nD l s=none):wq l s0 s:=
 ⟨fun k hk=>⟨(h.sub k hk).1,(h.sub k hk).2,M4 h.lt hn k hk⟩,h.max⟩
theorem MJ{l:List Int}{ρ:Type}{f:Int->Bool}{hit:Int->ρ}{fin:Unit->Option ρ}{g:Int->Unit->Option (Unit⊕ρ)}(hg:∀x∈l,∀s,g x s=some (if f x then .inr (hit x)else .inl ())):
  eD g fin l ()=match l.find? f with|some x=>some (hit x)|none=>fin ():=by
 induction l with
 |nil=>rfl
 |cons x l ih=>
  rw[eD,hg x (by simp),List.find?_cons]
  cases hx:f x with
  |true=>simp
  |false=>
   simp only[Qq,Qu];exact ih fun y hy=>hg y (by simp[hy])
theorem Jl(s:Nat):(pn s).length<=10:=QK (List.length_filter_le _ _) (by simp)
theorem S8{c:bp}(hc:z8 c){s:Nat}(hs:s<1024)(hsub:∀k,s.testBit k=true->lx c.aU k=true):
  lF c s=some (match nD c.aU s with|some x=>(x,true,())|none=>(0,false,())):=by
 unfold lF;rw[Xm hs,Qa];have hlen:=Jl s;rw[ga (pn s) (by omega) (fun i (_:Unit)=>(i,())) (fun x (_:Unit)=>(lG c x s).map fun r=>if r then .inl ()else .inr (x,true,())) (fun _=>some (0,false,())) (fun i x u hd hx hw=> ?_) (fun u hd=> ?_) ()]
 ·rw[MJ (f:=fun x=> !js s (jV c.aU x.toNat)) (hit:=fun x=>(x,true,()))]
  ·unfold nD;cases (pn s).find? _<;>rfl
  ·intro x hx u;obtain⟨k,hk,rfl,hb⟩:=xQ.1 hx;obtain⟨_,m,hm,_⟩:=vb (hsub k hb);unfold lG;rw[bB,hm];simp only[Qa,al.eta,y9 hs (hc.aO m (List.mem_of_getElem? hm)),Qe,QV,pB hm];cases js s m.aa<;>rfl
 ·simp only[hd,hx,hw,Qk,Qa]
  cases lG c x s with
  |none=>rfl
  |some r=>cases r<;>rfl
 ·simp only[hd,Ql]
theorem Ui{s k:Nat}(hs:s<1024)(hk:s.testBit k=true):wm .i64 (s:Int) (iI .i64 1 (k:Int))=((s - 2 ^ k:Nat):Int):=by
 have h10:=Kc hs hk;obtain⟨c,h1,_,h3⟩:=GQ s (2 ^ k) (by omega) (Nat.pow_lt_pow_right (by omega) (by omega))
 rw[tu k (by omega),h1]
 congr 1;refine yh fun j=> ?_
 rw[h3,(Fc hs hk).2,Nat.testBit_two_pow]
theorem GV{c:bp}(hc:z8 c){s:Nat}(hs:s<1024):Yd (jh c s) fun q=>∃n:Nat,q=n/\wq c.aU s n:=by
 unfold jh pT;rw[xD hs,GY hc.len];simp only[Qa,Qo,Ql];have hdl:=yY c.aU;rw[y5 s (iz c.aU) (by omega) (by omega)]
 suffices key:∀(n t:Nat) (out:List Int),t<n->oF c.aU s t->out.length+t<=1024->Yd (aE (fun(v3:Int×(List Int)×Unit)=>
   Option.bind (lF c v3.1) fun r4=>
   bif (!r4.2.1)then
   Option.map Sum.inr (some (v3.1,v3.2.1,()))
   else
   bif bx 8 (List.length v3.2.1+List.length [r4.1])then
   if r4.1<0 then none else
   some (Sum.inl ((wm .i64 v3.1 (iI .i64 (1:Int) r4.1)),(v3.2.1++[r4.1]),()))
   else none) ((t:Int),out,())) fun p=>∃n:Nat,p.1=n/\wq c.aU s n by
  have hfirst:=oF.first c.aU hs
  have hb:=hfirst.lt;refine(key 1024 (s&&&iz c.aU) [] hb hfirst (by simp;omega)).bind fun p hp=>Yd.some hp
 intro n
 induction n with
 |zero=>intro t out h;omega
 |succ n ih=>
  intro t out ht hinv hout;refine Yd.loop ?_;rw[S8 hc hinv.lt fun k hk=>(hinv.sub k hk).2]
  simp only[Qa]
  cases hu:nD c.aU t with
  |none=>exact Yd.some ⟨t,rfl,hinv.done hu⟩
  |some x=>
   obtain⟨k,rfl,hk10,hkb,hks⟩:=C0 hu;have h0:¬(k:Int)<0:=by omega
   have hlb:=(Fc hinv.lt hkb).1;have hp:0<2 ^ k:=Nat.pow_pos (by omega)
   simp only[Qo,Ql];rw[bZ (by simp;omega),Qs h0,Ui hinv.lt hkb]
   exact Yd.some (ih (t - 2 ^ k) _ (by omega) (hinv.next hkb hks) (by simp;omega))
theorem Vd{c:bp}(hc:z8 c){s:Nat}(hs:s<1024):∃q,wq c.aU s q:=by
 obtain⟨_,_,n,_,h⟩:=GV hc hs;exact⟨n,h⟩
open Classical in
 def gq(l:List bg)(s:Nat):Nat:=if h:∃q,wq l s q then Classical.choose h else 0
theorem zU{c:bp}(hc:z8 c){s:Nat}(hs:s<1024):wq c.aU s (gq c.aU s):=by
 have h:=Vd hc hs;rw[gq,dif_pos h];exact Classical.choose_spec h
theorem GW{c:bp}(hc:z8 c){s:Nat}(hs:s<1024):jh c s=some ((gq c.aU s:Nat):Int):=by
 obtain⟨q,h1,n,rfl,h2⟩:=GV hc hs;rw[h1,h2.unique (zU hc hs)]
def sB(s:Nat):List Int->Nat
 |[]=>s
 |x::l=>sB (s - 2 ^ x.toNat) l
theorem Ii(s:Nat):∀(l:List Int) (x:Int),sB s (l++[x])=sB s l - 2 ^ x.toNat
 |[],x=>rfl
 |y::l,x=>by rw[List.cons_append,sB,Ii _ l x,sB]
def FE(s:Nat):List Int->Prop
 |[]=>True
 |x::l=>(∃k:Nat,x=k/\k<10/\2 ^ k<=s)/\FE (s - 2 ^ x.toNat) l
theorem M1{s:Nat}:∀{l:List Int} {k:Nat},FE s l->k<10->2 ^ k<=sB s l->FE s (l++[(k:Int)])
 |[],k,_,h1,h2=>⟨⟨k,rfl,h1,h2⟩,trivial⟩
 |_::_,_,h,h1,h2=>⟨h.1,M1 h.2 h1 h2⟩
theorem N7{t k:Nat}(hk:k<10)(h:2 ^ k<=t)(ht:t<1024):de .i64 (t:Int) (iI .i64 1 (k:Int))=((t - 2 ^ k:Nat):Int):=by
 rw[tu k (by omega)]
 generalize 2 ^ k=z at*;rw[pV (by omega) (by omega)]
 omega
theorem ZC{c:bp}(hc:z8 c){s:Nat}(hs:s<1024):Yd (mE c s) fun out=>FE (s&&&iz c.aU) out/\wq c.aU s (sB (s&&&iz c.aU) out)/\out.length<=1024:=by
 unfold mE;rw[sH hs,yD hc.len];simp only[Qa,Qo,Ql];have hdl:=yY c.aU;rw[y5 s (iz c.aU) (by omega) (by omega)]
 generalize hs0:s&&&iz c.aU=s0
 suffices key:∀(n t:Nat) (b:Bool) (out:List Int),t<n->oF c.aU s t->(b=false->nD c.aU t=none)->out.length+t<=1024->FE s0 out->sB s0 out=t->
   Yd (aE (fun(v3:Int×Bool×(List Int)×Unit)=>
    bif v3.2.1 then
    Option.bind (pz v3.1) fun r4=>
    aE (fun(v5:Int×Bool×Int×(List Int)×Unit)=>
    bif (decide (v5.2.2.1<((List.length r4:Nat):Int)))then
    Option.bind (idx r4 v5.2.2.1) fun x6=>
    Option.bind (idx c.aU x6) fun x7=>
    Option.bind (ij (al.mk x7.aa.aP x7.aa.bn x7.aa.aN) v5.1) fun r8=>
    bif (!r8)then
    if x6<0 then none else
    bif bx 8 (List.length v5.2.2.2.1+List.length [x6])then
    Option.map Sum.inr (some (Sum.inl ((de .i64 v5.1 (iI .i64 (1:Int) x6)),true,(v5.2.2.2.1++[x6]),())))
    else none
    else
    some (Sum.inl (v5.1,v5.2.1,(aA .i64 v5.2.2.1 (1:Int)),v5.2.2.2.1,()))
    else
    Option.map Sum.inr (some (Sum.inl (v5.1,v5.2.1,v5.2.2.2.1,())))) (v3.1,false,(0:Int),v3.2.2.1,())
    else
    Option.map Sum.inr (some v3.2.2.1)) ((t:Int),b,out,())) fun out=>FE s0 out/\wq c.aU s (sB s0 out)/\out.length<=1024 by
  have hfirst:=oF.first c.aU hs
  rw[hs0]at hfirst;have hb:=hfirst.lt;exact key 1024 s0 true [] hb hfirst (fun h=>by cases h) (by simp;omega) trivial rfl
 intro n
 induction n with
 |zero=>intro t b out h;omega
 |succ n ih=>
  intro t b out ht hinv hb hout hso hsub;refine Yd.loop ?_
  cases b with
  |false=>
   simp only[Ql];refine Yd.inr (Yd.some ⟨hso,?_,by omega⟩)
   rw[hsub];exact hinv.done (hb rfl)
  |true=>
   simp only[Qk];rw[UJ hinv.lt,Qa];have hlen:=Jl t;rw[ga (pn t) (by omega) (fun i (_:Unit)=>((t:Int),false,i,out,())) (fun x (_:Unit)=>some (if !js t (jV c.aU x.toNat)then .inr (Sum.inl ((de .i64 (t:Int) (iI .i64 (1:Int) x)),true,(out++[x]),()))else .inl ())) (fun _=>some (Sum.inl ((t:Int),false,out,()))) (fun i x u hd hx hw=> ?_) (fun u hd=> ?_) ()]
   ·rw[MJ (f:=fun x=> !js t (jV c.aU x.toNat)) (hit:=fun x=>Sum.inl ((de .i64 (t:Int) (iI .i64 (1:Int) x)),true,(out++[x]),())) (fun x hx u=>rfl)]
    cases hu:nD c.aU t with
    |none=>
     rw[nD]at hu;rw[hu];refine Yd.some ?_;refine Yd.loop ?_;simp only[Ql];refine Yd.inr (Yd.some ⟨hso,?_,by omega⟩)
     rw[hsub];exact hinv.done hu
    |some x=>
     obtain⟨k,rfl,hk10,hkb,hks⟩:=C0 hu;rw[nD]at hu;rw[hu];have hlb:=(Fc hinv.lt hkb).1;have hp:0<2 ^ k:=Nat.pow_pos (by omega)
     simp only;rw[N7 hk10 hlb hinv.lt];refine Yd.some (ih (t - 2 ^ k) true _ (by omega) (hinv.next hkb hks) (fun h=>by cases h) (by simp;omega) (M1 hso hk10 (by rw[hsub];exact hlb)) (by rw[Ii,hsub];rfl))
   ·have hmem:x∈pn t:=by
     rw[bB]at hx;exact List.mem_of_getElem? hx
    obtain⟨k,hk10,rfl,hkb⟩:=xQ.1 hmem;obtain⟨_,m,hm,_⟩:=vb (hinv.sub k hkb).2;have h0:¬(k:Int)<0:=by omega
    simp only[hd,hx,hw,Qk,Qa,bB c.aU,hm,al.eta,C1 hinv.lt (hc.aO m (List.mem_of_getElem? hm)),h0,Qu,QV,pB hm];rw[bZ (by simp;omega)]
    cases js t m.aa<;>rfl
   ·simp only[hd,Ql]
theorem Eb{c:bp}(hc:z8 c){s:Nat}(hs:s<1024):my c s=some ((gq c.aU s:Nat):Int):=by
 unfold my;rw[sH hs,yD hc.len];simp only[Qa,Qo,Ql];have hdl:=yY c.aU;rw[y5 s (iz c.aU) (by omega) (by omega)]
 obtain⟨out,h1,h2,h3,h4⟩:=ZC hc hs;rw[h1,Qa];rw[ga out (by omega) (fun i (t:Int)=>(t,i,())) (fun x (t:Int)=>if x<0 then none else some (.inl (de .i64 t (iI .i64 1 x)))) (fun t=>some t) (fun i x u hd hx hw=> ?_) (fun u hd=> ?_) _]
 ·rw[<-h3.unique (zU hc hs)];have hlt:s&&&iz c.aU<1024:=Nat.lt_of_le_of_lt Nat.and_le_left hs;generalize s&&&iz c.aU=t at h2 hlt;clear h1 h3 h4
  induction out generalizing t with
  |nil=>rfl
  |cons x l ih=>
   obtain⟨⟨k,rfl,hk,hle⟩,h2⟩:=h2;have h0:¬(k:Int)<0:=by omega
   rw[eD,Qs h0,N7 hk hle hlt,sB];simp only[QV]at h2 ⊢;exact ih _ h2 (Nat.lt_of_le_of_lt (Nat.sub_le _ _) hlt)
 ·simp only[hd,hx,hw,Qk,Qa];split<;>rfl
 ·simp only[hd,Ql]
end Go.Proofs.YtkgenianmdfmdaaGreat
namespace Go.Proofs.YtkgenianmdfmdaaGreat
open Go.TQ
structure oq (l:List ai):Prop where
 len:l.length<=100000
 aO:∀e∈l,dK e.aa
theorem iN{e:ai}(h:aJ e=true):0<=e.ar/\e.ar<10:=by
 simp only[aJ,fo,sR,Qm,Qi]at h;exact⟨h.1.1.1.1.1.1.1,h.1.1.1.1.1.1.2⟩
def ft:bg:=⟨false,⟨0,[],[]⟩⟩
 def c6(ms:List bg)(e:ai):List bg:=
 if aJ e&& !((ms[e.ar.toNat]?).any (·.dm))then ms.set e.ar.toNat ⟨true,e.aa⟩else ms
 def fh(ax:Nat)(t:al)(l:List ai):List bg:=l.foldl c6 ((List.replicate 10 ft).set ax ⟨true,t⟩)
theorem uF(ms:List bg)(e:ai):(c6 ms e).length=ms.length:=by
 unfold c6;split
 ·rw[QY]
 ·rfl
theorem AS:∀(l:List ai) (ms:List bg),(l.foldl c6 ms).length=ms.length
 |[],_=>rfl
 |e::l,ms=>by rw[QU,AS l,uF]
theorem Dt(ax:Nat)(t:al)(l:List ai):(fh ax t l).length=10:=by
 rw[fh,AS,QY,List.length_replicate]
theorem NP{ms:List bg}(hl:ms.length=10){n:Int}(h0:0<=n)(h1:n<10):∃m,ms[n.toNat]?=some m/\idx ms n=some m:=by
 have:n.toNat<ms.length:=by omega
 exact⟨ms[n.toNat],Qv this,by rw[Ph _ h0];exact Qv this⟩
theorem SQ{ax:Nat}(hn:ax<10){t:al}(ht:dK t){l:List ai}(hl:oq l):oy ax t l=some ⟨fh ax t l⟩:=by
 unfold oy
 have h1:(decide ((10:Int)=10)&&decide ((0:Int)<=10)&&bx 64 (Int.toNat 10))=true:=by
  rw[bZ (by decide)];rfl
 have h2:¬(ax:Int)<0:=by omega
 have h3:¬(10:Int)<=ax:=by omega
 rw[h1];simp only[Qk,h2,h3,decide_false,Ql,Qa,al.eta,ux ht,aW];obtain⟨m,hm1,hm2⟩:=NP (ms:=List.replicate 10 ft) (by simp) (n:=(ax:Int)) (by omega) (by omega)
 have e10:List.replicate (Int.toNat 10) (bg.mk false (al.mk 0 [] []))=List.replicate 10 ft:=rfl;rw[e10,hm2,hm1,Qa,Qa];have hlen:=hl.len
 suffices key:∀(k i:Nat) (ms:List bg) (c:bp),i+k=l.length->ms.length=10->aE _ ((i:Int),c,ms,())=some (bp.mk ((l.drop i).foldl c6 ms))by
  have:=key l.length 0 ((List.replicate 10 ft).set ax ⟨true,t⟩) ⟨[]⟩ (by omega) (by simp)
  simpa[fh]using this
 intro k
 induction k with
 |zero=>
  intro i ms c hi hms;obtain rfl:i=l.length:=by omega
  refine bS ?_;have hd:decide (((l.length:Nat):Int)<((l.length:Nat):Int))=false:=Qh (Int.lt_irrefl _);simp only[hd,Ql,List.drop_length,List.foldl_nil]
 |succ k ih=>
  intro i ms c hi hms;have hlt:i<l.length:=by omega
  have hd:decide ((i:Int)<((l.length:Nat):Int))=true:=Qg (by omega)
  have hw:aA .i64 (i:Int) 1=((i+1:Nat):Int):=bM (by omega) (by omega)
  have hx:idx l (i:Int)=some l[i]:=by rw[bB];exact Qv hlt
  have hsm:=hl.aO _ (Q0 hlt);rw[QM hlt,QU];refine Eq.trans (bl (s':=(((i+1:Nat):Int),⟨[]⟩,c6 ms l[i],())) ?_) (ih (i+1) _ _ (by omega) (by rw[uF];exact hms))
  simp only[hd,hx,hw,Qk,Qa,nJ hsm];unfold c6
  cases hv:aJ l[i]with
  |false=>simp
  |true=>
   obtain⟨h4,h5⟩:=iN hv;obtain⟨m,hm1,hm2⟩:=NP hms h4 h5;simp only[Qk,hm1,hm2,Qa,ux hsm,Option.any_some,Bool.true_and];cases m.dm<;>simp
theorem yC{ax:Nat}(hn:ax<10){t:al}{l:List ai}(hl:oq l):jA ax t l=some ⟨fh ax t l⟩:=by
 unfold jA
 have h1:(decide ((10:Int)=10)&&decide ((0:Int)<=10)&&bx 64 (Int.toNat 10))=true:=by
  rw[bZ (by decide)];rfl
 have h2:¬(ax:Int)<0:=by omega
 have h3:¬(9:Int)<ax:=by omega
 rw[h1];simp only[Qk,h2,h3,decide_false,Ql,Qa,al.eta,aW];obtain⟨m,hm1,hm2⟩:=NP (ms:=List.replicate 10 ft) (by simp) (n:=(ax:Int)) (by omega) (by omega)
 have e10:List.replicate (Int.toNat 10) (bg.mk false (al.mk 0 [] []))=List.replicate 10 ft:=rfl;rw[e10,hm2,hm1,Qa,Qa];have hlen:=hl.len
 suffices key:∀(k i:Nat) (ms:List bg) (c:bp),i+k=l.length->ms.length=10->aE _ ((i:Int),c,ms,())=some (bp.mk ((l.drop i).foldl c6 ms))by
  have:=key l.length 0 ((List.replicate 10 ft).set ax ⟨true,t⟩) ⟨[]⟩ (by omega) (by simp)
  simpa[fh]using this
 intro k
 induction k with
 |zero=>
  intro i ms c hi hms;obtain rfl:i=l.length:=by omega
  refine bS ?_;have hd:decide (((l.length:Nat):Int)<((l.length:Nat):Int))=false:=Qh (Int.lt_irrefl _);simp only[hd,Ql,List.drop_length,List.foldl_nil]
 |succ k ih=>
  intro i ms c hi hms;have hlt:i<l.length:=by omega
  have hd:decide ((i:Int)<((l.length:Nat):Int))=true:=Qg (by omega)
  have hw:aA .i64 (i:Int) 1=((i+1:Nat):Int):=bM (by omega) (by omega)
  have hx:idx l (i:Int)=some l[i]:=by rw[bB];exact Qv hlt
  have hsm:=hl.aO _ (Q0 hlt);rw[QM hlt,QU];refine Eq.trans (bl (s':=(((i+1:Nat):Int),⟨[]⟩,c6 ms l[i],())) ?_) (ih (i+1) _ _ (by omega) (by rw[uF];exact hms))
  simp only[hd,hx,hw,Qk,Qa,iy hsm];unfold c6
  cases hv:aJ l[i]with
  |false=>simp
  |true=>
   obtain⟨h4,h5⟩:=iN hv;obtain⟨m,hm1,hm2⟩:=NP hms h4 h5;simp only[Qk,hm1,hm2,Qa,Option.any_some,Bool.true_and];cases m.dm<;>simp
theorem k9{ax:Nat}{t:al}(ht:dK t){l:List ai}(hl:oq l):z8 ⟨fh ax t l⟩:=by
 refine⟨by rw[Dt];omega,?_⟩
 have key:∀(l:List ai) (ms:List bg),(∀e∈l,dK e.aa)->(∀m∈ms,dK m.aa)->∀m∈l.foldl c6 ms,dK m.aa:=by
  intro l
  induction l with
  |nil=>intro ms _ h;exact h
  |cons e l ih=>
   intro ms he h;rw[QU];refine ih _ (fun e' h'=>he e' (by simp[h'])) fun m hm=> ?_
   unfold c6 at hm;split at hm
   ·rcases List.mem_or_eq_of_mem_set hm with hm|rfl
    ·exact h m hm
    ·exact he e (by simp)
   ·exact h m hm
 refine key l _ hl.aO fun m hm=> ?_
 rcases List.mem_or_eq_of_mem_set hm with hm|rfl
 ·rw[List.eq_of_mem_replicate hm];exact .mk _ (by simp[ft]) (by simp[ft]) (by simp[ft])
 ·exact ht
 def bJ(l:List ai):List ai:=l.filter aJ
theorem VO{l:List ai}(hl:oq l):nA l=some ((bJ l).map bs.mk):=by
 unfold nA;have hlen:=hl.len;simp only[aW]
 suffices key:∀(k i:Nat) (acc:List bs),i+k=l.length->acc=(bJ (l.take i)).map bs.mk->aE _ ((i:Int),acc,())=some ((bJ l).map bs.mk)from key l.length 0 [] (by omega) rfl
 intro k
 induction k with
 |zero=>
  intro i acc hi ha;obtain rfl:i=l.length:=by omega
  refine bS ?_;have hd:decide (((l.length:Nat):Int)<((l.length:Nat):Int))=false:=Qh (Int.lt_irrefl _);simp only[hd,Ql,Qe,ha,List.take_length]
 |succ k ih=>
  intro i acc hi ha;have hlt:i<l.length:=by omega
  have hd:decide ((i:Int)<((l.length:Nat):Int))=true:=Qg (by omega)
  have hw:aA .i64 (i:Int) 1=((i+1:Nat):Int):=bM (by omega) (by omega)
  have hx:idx l (i:Int)=some l[i]:=by rw[bB];exact Qv hlt
  have hsm:=hl.aO _ (Q0 hlt)
  have hal:acc.length<=i:=by
   rw[ha,QC];exact QK (List.length_filter_le _ _) (by rw[List.length_take];omega)
  refine Eq.trans (bl (s':=(((i+1:Nat):Int),(if aJ l[i]then acc++[bs.mk l[i]]else acc),())) ?_) (ih (i+1) _ (by omega) ?_)
  ·simp only[hd,hx,hw,Qk,Qa,al.eta,ai.eta,nJ hsm];rw[bZ (by simp;omega)]
   cases aJ l[i]<;>simp
  ·rw[List.take_succ_eq_append_getElem hlt,bJ,List.filter_append,ha];cases hv:aJ l[i]<;>simp[bJ,hv]
def c9(p:ai->Bool):List ai->Nat
 |[]=>0
 |e::l=>(if p e then 2 ^ e.ar.toNat else 0)|||c9 p l
theorem tr(p:ai->Bool)(k:Nat):∀(l:List ai),(c9 p l).testBit k=l.any fun e=>p e&&decide (e.ar.toNat=k)
 |[]=>by simp[c9]
 |e::l=>by
  rw[c9,Nat.testBit_or,tr p k l,List.any_cons];cases p e<;>simp[Nat.testBit_two_pow]
def uz(l:List ai):Prop:=∀e∈l,0<=e.ar/\e.ar<10
theorem ky(l:List ai):uz (bJ l):=fun _ he=>iN (List.mem_filter.1 he).2
theorem xJ(l:List ai):(bJ l).length<=l.length:=List.length_filter_le _ _
theorem kM{p:ai->Bool}{l:List ai}(h:uz l):c9 p l<1024:=Bi fun k hk=>by
 rw[tr,List.any_eq_true]at hk;obtain⟨e,he,h1⟩:=hk;simp only[Qm,Qi]at h1;have:=h e he;omega
theorem BO(p:ai->Bool)(l:List ai)(hin:uz l)(step:(Int×Int×Unit)->Option ((Int×Int×Unit)⊕Int))
  (h1:∀(i:Nat) (e:ai) (s:Int),l[i]?=some e->step (s,(i:Int),())=if p e then(if e.ar<0 then none else some (.inl (um .i64 s (iI .i64 1 e.ar),((i+1:Nat):Int),())))else some (.inl (s,((i+1:Nat):Int),())))
  (h2:∀s:Int,step (s,(l.length:Int),())=some (.inr s)):aE step (0,0,())=some ((c9 p l:Nat):Int):=by
 suffices key:∀(k i s:Nat),i+k=l.length->s<1024->aE step ((s:Int),(i:Int),())=some ((s|||c9 p (l.drop i):Nat):Int)by
  have:=key l.length 0 0 (by omega) (by omega)
  simpa using this
 intro k
 induction k with
 |zero=>
  intro i s hi hs;obtain rfl:i=l.length:=by omega
  rw[bS (h2 s),List.drop_length,c9];simp
 |succ k ih=>
  intro i s hi hs;have hlt:i<l.length:=by omega
  have hm:=hin l[i] (Q0 hlt);rw[QM hlt,c9];have hst:=h1 i l[i] s (Qv hlt)
  cases hp:p l[i]with
  |false=>
   rw[hp]at hst;rw[bl hst,ih (i+1) s (by omega) hs]
   simp
  |true=>
   rw[hp,Qr rfl,Qs (by omega),ye hs hm.1 hm.2]at hst
   rw[bl hst,ih (i+1) _ (by omega) (I9 hs hm.2)]
   simp[Nat.or_assoc]
theorem GR{v:bp}{ax:Int}{l:List ai}(hl:l.length<=1000000)(hin:uz l)(b:ae):hZ ⟨ax,v,l.map bs.mk⟩ b=some ((c9 (cF · b) l:Nat):Int):=by
 unfold hZ;refine BO (cF · b) l hin _ (fun i e s he=> ?_) (fun s=> ?_)
 ·have hlt:i<l.length:=(Qw.1 he).1;have hd:decide ((i:Int)<(((l.map bs.mk).length:Nat):Int))=true:=Qg (by rw[QC];omega)
  have hw:aA .i64 (i:Int) 1=((i+1:Nat):Int):=bM (by omega) (by omega)
  have hx:idx (l.map bs.mk) (i:Int)=some ⟨e⟩:=by rw[bB,QT,he];rfl
  simp only[hd,hx,hw,Qk,Qa,al.eta,ai.eta,jT,ql,aW];cases cF e b<;>simp
 ·have hd:decide (((l.length:Nat):Int)<(((l.map bs.mk).length:Nat):Int))=false:=Qh (by rw[QC];exact Int.lt_irrefl _)
  simp only[hd,Ql,Qe]
theorem Ul{v:bp}{ax:Int}{l:List ai}(hl:l.length<=1000000)(hin:uz l)(b:ae):fH ⟨ax,v,l.map bs.mk⟩ b b=some ((c9 (fun e=>mU e b||cF e b) l:Nat):Int):=by
 unfold fH;refine BO (fun e=>mU e b||cF e b) l hin _ (fun i e s he=> ?_) (fun s=> ?_)
 ·have hlt:i<l.length:=(Qw.1 he).1;have hd:decide ((i:Int)<(((l.map bs.mk).length:Nat):Int))=true:=Qg (by rw[QC];omega)
  have hw:aA .i64 (i:Int) 1=((i+1:Nat):Int):=bM (by omega) (by omega)
  have hx:idx (l.map bs.mk) (i:Int)=some ⟨e⟩:=by rw[bB,QT,he];rfl
  simp only[hd,hx,hw,Qk,Qa,al.eta,ai.eta,im,jT,nO,ql,zA,aW,jw,Bool.cond_true_left];cases (mU e b||cF e b)<;>simp
 ·have hd:decide (((l.length:Nat):Int)<(((l.map bs.mk).length:Nat):Int))=false:=Qh (by rw[QC];exact Int.lt_irrefl _)
  simp only[hd,Ql,Qe]
 def nk(ms:List bg)(v votes accepts:Nat):Bool:=rM ms v accepts||(gq ms (votes|||accepts)).testBit v
theorem C6{c:bp}(hc:z8 c){v votes accepts:Nat}(hv:v<10)(h1:votes<1024)(h2:accepts<1024):iG c v votes accepts=some (nk c.aU v votes accepts):=by
 unfold iG nk;have h3:votes|||accepts<1024:=Nat.or_lt_two_pow (n:=10) h1 h2
 rw[xD h1,xD h2,M3 hc h2,Bg votes accepts (by omega) (by omega),GW hc h3]
 simp[oQ (zU hc h3).lt,qJ,hv]
theorem Bv{c:bp}(hc:z8 c){v accepts:Nat}(hv:v<10)(h2:accepts<1024):gX c v accepts=some ((gq c.aU accepts).testBit v):=by
 unfold gX;rw[GW hc h2];simp[oQ (zU hc h2).lt,qJ,hv]
 def jo(ax:Nat)(t:al)(l:List ai)(b:ae):Bool:=
 nk (fh ax t l) ax (c9 (fun e=>mU e b||cF e b) (bJ l)) (c9 (cF · b) (bJ l))
 def iL(ax:Nat)(t:al)(l:List ai)(b:ae):Bool:=
 (gq (fh ax t l) (c9 (cF · b) (bJ l))).testBit ax
theorem LH{ax:Nat}(hn:ax<10){t:al}(ht:dK t){l:List ai}(hl:oq l):eM ax t l=some ⟨ax,⟨fh ax t l⟩,(bJ l).map bs.mk⟩:=by
 unfold eM;simp only[al.eta,SQ hn ht hl,VO hl,Qa]
end Go.Proofs.YtkgenianmdfmdaaGreat
namespace Go.Proofs.YtkgenianmdfmdaaGreat
open Go.TQ
theorem Xi{α:Type}{l l':List α}(h:l.Perm l')(p:α->Bool):l.any p=l'.any p:=by
 rw[QW,List.any_eq_true,List.any_eq_true];exact⟨fun⟨x,h1,h2⟩=>⟨x,h.mem_iff.1 h1,h2⟩,fun⟨x,h1,h2⟩=>⟨x,h.mem_iff.2 h1,h2⟩⟩
theorem Us{l l':List ai}(h:l.Perm l')(p:ai->Bool):c9 p l=c9 p l':=yh fun k=>by rw[tr,tr,Xi h]
theorem Rv{l l':List ai}(h:l.Perm l'):(bJ l).Perm (bJ l'):=h.filter _
def wL(l:List ai):Prop:=∀a∈l,∀b∈l,a.ar=b.ar->a=b
theorem wL.perm{l l':List ai}(h:wL l)(hp:l.Perm l'):wL l':=fun a ha b hb=>h a (hp.mem_iff.2 ha) b (hp.mem_iff.2 hb)
 def mf(l:List ai)(k:Nat):Option ai:=l.find? fun e=>aJ e&&decide (e.ar.toNat=k)
theorem Ao{l:List ai}{k:Nat}{e:ai}(h:mf l k=some e):e∈l/\aJ e=true/\e.ar=k:=by
 unfold mf at h;have h1:=List.mem_of_find?_eq_some h;have h2:=List.find?_some h;simp only[Qm,Qi]at h2;have:=iN h2.1;exact⟨h1,h2.1,by omega⟩
theorem Ji{l:List ai}(ha:wL l){k:Nat}{e:ai}(h1:e∈l)(h2:aJ e=true)(h3:e.ar=k):mf l k=some e:=by
 cases h:mf l k with
 |none=>
  unfold mf at h;rw[List.find?_eq_none]at h;have:=h e h1;simp[h2,h3]at this
 |some e'=>
  obtain⟨g1,g2,g3⟩:=Ao h;rw[ha e' g1 e h1 (by omega)]
theorem RC{l l':List ai}(ha:wL l)(h:l.Perm l')(k:Nat):mf l k=mf l' k:=by
 cases h1:mf l k with
 |some e=>
  obtain⟨g1,g2,g3⟩:=Ao h1;exact(Ji (ha.perm h) (h.mem_iff.1 g1) g2 g3).symm
 |none=>
  cases h2:mf l' k with
  |none=>rfl
  |some e=>
   obtain⟨g1,g2,g3⟩:=Ao h2;rw[Ji ha (h.mem_iff.2 g1) g2 g3]at h1;cases h1
theorem LP:∀(l:List ai) (ms:List bg),ms.length=10->(∀m∈ms,m.dm=false->m=ft)->∀k,k<10->(l.foldl c6 ms)[k]?=some (match ms[k]? with
  |some m=>if m.dm then m else(match mf l k with
   |some e=>⟨true,e.aa⟩
   |none=>ft)
  |none=>ft)
 |[],ms,hl,hn,k,hk=>by
  have hk':k<ms.length:=by omega
  rw[List.foldl_nil,Qv hk']
  cases hd:ms[k].dm with
  |true=>simp[hd]
  |false=>
   have:=hn _ (Q0 hk') hd;simp[hd,mf,this]
 |e::l,ms,hl,hn,k,hk=>by
  have hk':k<ms.length:=by omega
  rw[QU];have hlen:(c6 ms e).length=10:=by rw[uF];exact hl
  have hn':∀m∈c6 ms e,m.dm=false->m=ft:=by
   unfold c6;split
   ·intro m hm hd;rcases List.mem_or_eq_of_mem_set hm with hm|rfl
    ·exact hn m hm hd
    ·cases hd
   ·exact hn
  rw[LP l (c6 ms e) hlen hn' k hk];congr 1
  have hof:mf (e::l) k=if(aJ e&&decide (e.ar.toNat=k))=true then some e else mf l k:=by
   unfold mf;rw[List.find?_cons];cases aJ e&&decide (e.ar.toNat=k)<;>rfl
  rw[hof];unfold c6
  by_cases hv:aJ e=true
  ·have hnode:=iN hv;have hi:e.ar.toNat<ms.length:=by omega
   rw[hv,Bool.true_and,Bool.true_and]
   by_cases hke:e.ar.toNat=k
   ·subst hke;rw[Qv hi]
    cases hd:ms[e.ar.toNat].dm with
    |true=>simp[hd,Qv hi]
    |false=>simp[hd,hi]
   ·have hne:decide (e.ar.toNat=k)=false:=Qh hke
    have hset:∀c:Bool,(if c=true then ms.set e.ar.toNat ⟨true,e.aa⟩else ms)[k]?=ms[k]?:=fun c=>by
     cases c
     ·rfl
     ·rw[Qr rfl,List.getElem?_set_ne hke]
    rw[hne,hset];simp
  ·have hv':aJ e=false:=by simpa using hv
   simp[hv']
theorem Ds{ax:Nat}(hn:ax<10)(t:al)(l:List ai){k:Nat}(hk:k<10):(fh ax t l)[k]?=some (if k=ax then⟨true,t⟩else match mf l k with
  |some e=>⟨true,e.aa⟩
  |none=>ft):=by
 rw[fh,LP l _ (by simp) (fun m hm hd=> ?_) k hk]
 ·by_cases h:k=ax
  ·subst h;simp[hn]
  ·rw[List.getElem?_set_ne (fun e=>h e.symm),List.getElem?_replicate,Qr hk]
   simp[h,ft]
 ·rcases List.mem_or_eq_of_mem_set hm with hm|rfl
  ·exact(List.mem_replicate.1 hm).2
  ·cases hd
theorem S7{ax:Nat}(hn:ax<10)(t:al){l l':List ai}(ha:wL l)(h:l.Perm l'):fh ax t l=fh ax t l':=by
 refine List.ext_getElem? fun k=> ?_
 by_cases hk:k<10
 ·rw[Ds hn t l hk,Ds hn t l' hk,RC ha h]
 ·rw[List.getElem?_eq_none (by rw[Dt];omega),List.getElem?_eq_none (by rw[Dt];omega)]
end Go.Proofs.YtkgenianmdfmdaaGreat
namespace Go.Proofs.YtkgenianmdfmdaaGreat
open Go.TQ
theorem VF{τ ρ:Type}(n:Nat)(mk:Int->τ){step:τ->Option (τ⊕ρ)}{fin:Option ρ}(h1:∀i:Nat,i<n->step (mk (i:Int))=some (.inl (mk ((i+1:Nat):Int))))(h2:step (mk (n:Int))=Option.map Sum.inr fin):aE step (mk 0)=fin:=by
 suffices key:∀(k i:Nat),i+k=n->aE step (mk (i:Int))=fin from key n 0 (by omega)
 intro k
 induction k with
 |zero=>
  intro i hi;obtain rfl:i=n:=by omega
  rw[ic,h2];cases fin<;>rfl
 |succ k ih=>exact fun i hi=>(bl (h1 i (by omega))).trans (ih (i+1) (by omega))
theorem Ma{ρ:Type}(n:Nat)(hn:n<=1000000){fin:Option ρ}{step:Int×Unit->Option ((Int×Unit)⊕ρ)}
  (h1:∀i:Nat,i<n->decide ((i:Int)<((n:Nat):Int))=true->aA .i64 (i:Int) 1=((i+1:Nat):Int)->step ((i:Int),())=some (.inl (((i+1:Nat):Int),())))
  (h2:decide (((n:Nat):Int)<((n:Nat):Int))=false->step ((n:Int),())=Option.map Sum.inr fin):aE step (0,())=fin:=
 VF n (fun i=>(i,())) (fun i hi=>h1 i hi (Qg (by omega)) (bM (by omega) (by omega))) (h2 (Qh (Int.lt_irrefl _)))
end Go.Proofs.YtkgenianmdfmdaaGreat
namespace Go.Proofs.YtkgenianmdfmdaaGreat
open Go.TQ
def CF:List UInt8->Nat
 |[]=>0
 |a::l=>a.toNat*256 ^ l.length+CF l
theorem Fw:∀l:List UInt8,CF l<256 ^ l.length
 |[]=>by simp[CF]
 |a::l=>by
  have h1:=Fw l;have h2:a.toNat<256:=a.toNat_lt;rw[CF,QE,Nat.pow_succ];have h3:(a.toNat+1)*256 ^ l.length<=256*256 ^ l.length:=Nat.mul_le_mul_right _ h2;rw[Nat.add_mul,Nat.one_mul,Nat.mul_comm 256]at h3;omega
theorem VB:∀{x y:List UInt8},x.length=y.length->Op.bytesLess x y=true->CF x<CF y
 |[],[],_,h=>by simp[Op.bytesLess]at h
 |[],_::_,hl,_=>by simp at hl
 |_::_,[],hl,_=>by simp at hl
 |a::x,b::y,hl,h=>by
  simp only[QE,Nat.add_right_cancel_iff]at hl;simp only[Op.bytesLess,Qn,Qi,Qm,beq_iff_eq]at h;rw[CF,CF,hl];rcases h with h|⟨rfl,h⟩
  ·have h1:=Fw x;rw[hl]at h1;have h2:a.toNat<b.toNat:=UInt8.lt_iff_toNat_lt.1 h;have h3:(a.toNat+1)*256 ^ y.length<=b.toNat*256 ^ y.length:=Nat.mul_le_mul_right _ h2;rw[Nat.add_mul,Nat.one_mul]at h3;omega
  ·have:=VB hl h;omega
def WV:Nat:=256 ^ 201
def Ly(v:ByteArray):Nat:=v.size*256 ^ 200+CF v.toList
theorem toList_len(v:ByteArray):v.toList.length=v.size:=by
 rw[Lib.toList_data];cases v;simp[ByteArray.size]
theorem UM{a b:Nat}(h:a<=b):(256:Nat) ^ a<=256 ^ b:=Nat.pow_le_pow_right (by omega) h
theorem Sx{v:ByteArray}(h:v.size<=200):Ly v<WV:=by
 have h1:=Fw v.toList;rw[toList_len]at h1;have h2:=UM h;have h3:v.size*256 ^ 200<=200*256 ^ 200:=Nat.mul_le_mul_right _ h;have h4:WV=256*256 ^ 200:=by rw[WV,Nat.pow_succ,Nat.mul_comm]
 unfold Ly;rw[h4];generalize (256:Nat) ^ 200=Z at*;omega
theorem U4{a b:ByteArray}(hb:b.size<=200)(h:ji a b=true):Ly a<Ly b:=by
 unfold ji at h;unfold Ly
 by_cases hs:a.size=b.size
 ·rw[Qr hs]at h;have:=VB (x:=a.toList) (y:=b.toList) (by rw[toList_len,toList_len,hs]) h
  rw[hs];omega
 ·rw[Qs hs,Qi]at h;have h1:=Fw a.toList;rw[toList_len]at h1;have h2:=UM (show a.size<=200 by omega)
  have h3:(a.size+1)*256 ^ 200<=b.size*256 ^ 200:=Nat.mul_le_mul_right _ h;rw[Nat.add_mul,Nat.one_mul]at h3;generalize (256:Nat) ^ 200=Z at*;omega
def Sm(b:ae):Prop:=0<=b.aj/\b.aj<=1000/\b.Value.size<=200
def lK(b:ae):Nat:=b.aj.toNat*WV+Ly b.Value
def WB:Nat:=1001*WV
theorem mP{b:ae}(h:Sm b):lK b<WB:=by
 obtain⟨h1,h2,h3⟩:=h;have h4:=Sx h3;unfold lK WB;have h5:b.aj.toNat*WV<=1000*WV:=Nat.mul_le_mul_right _ (by omega)
 generalize WV=Z at*;omega
theorem qD{a b:ae}(ha:Sm a)(hb:Sm b)(h:bd a b=true):lK a<lK b:=by
 unfold bd at h;unfold lK
 by_cases hc:a.aj=b.aj
 ·rw[Qr hc]at h;have:=U4 hb.2.2 h;rw[hc];omega
 ·rw[Qs hc,Qi]at h;have h1:=Sx ha.2.2;have h2:=ha.1;have h3:(a.aj.toNat+1)*WV<=b.aj.toNat*WV:=Nat.mul_le_mul_right _ (by omega)
  rw[Nat.add_mul,Nat.one_mul]at h3;generalize WV=Z at*;omega
theorem Yd.down{σ ρ:Type}{step:σ->Option (σ⊕ρ)}{p:ρ->Prop}(inv:σ->Prop)(μ:σ->Nat)(h:∀s,inv s->Yd (step s) fun y=>match y with| .inl s'=>inv s'/\μ s'<μ s| .inr r=>p r){s:σ}(hs:inv s):Yd (aE step s) p:=by
 suffices key:∀(n:Nat) (s:σ),μ s<n->inv s->Yd (aE step s) p from key _ s (Nat.lt_succ_self _) hs
 intro n
 induction n with
 |zero=>intro s h0;omega
 |succ n ih=>
  intro s hn hi;refine Yd.loop ((h s hi).mono fun y hy=> ?_)
  cases y with
  |inl s'=>exact ih s' (by have:=hy.2;omega) hy.1
  |inr r=>exact hy
end Go.Proofs.YtkgenianmdfmdaaGreat
namespace Go.Proofs.YtkgenianmdfmdaaGreat
open Go.TQ
def bL:ae:=⟨0,eZ⟩
def ep(m:af):Int:=if(!aC m.au&&bC m.au m.ab)=true then m.au.aj else 0
def bU(m:af):ai:=
 if m.aH=1 then⟨m.ar,m.bm,m.aG,m.aa,m.aH,m.ab,m.ao,m.aw,m.aI,ep m⟩
 else if m.aH=2 then⟨m.ar,m.bm,m.aG,m.aa,m.aH,m.ab,m.ao,bL,m.aI,m.aQ⟩
 else⟨m.ar,m.bm,m.aG,m.aa,m.aH,m.ab,bL,bL,m.aI,m.aQ⟩
theorem qN(m:af):(bU m).ar=m.ar:=by unfold bU;split<;>(try split)<;>rfl
theorem wZ(m:af):(bU m).bm=m.bm:=by unfold bU;split<;>(try split)<;>rfl
theorem Pv(m:af):(bU m).aG=m.aG:=by unfold bU;split<;>(try split)<;>rfl
theorem oR(m:af):(bU m).aa=m.aa:=by unfold bU;split<;>(try split)<;>rfl
theorem Vl(m:af):(bU m).br=m.aH:=by unfold bU;split<;>(try split)<;>rfl
theorem xW(m:af):gL m=some (bU m):=by
 unfold gL bU ep;simp only[aW,al.eta,dj,fu,Qa]
 by_cases h1:m.aH=1
 ·rw[Qg h1,Qr h1];cases aC m.au<;>cases bC m.au m.ab<;>rfl
 ·rw[Qh h1,Qs h1]
  by_cases h2:m.aH=2
  ·rw[Qg h2,Qr h2];rfl
  ·rw[Qh h2,Qs h2];rfl
def gH(m:af):ai:={bU m with aG:=bq (bU m).aG 1}
def vd(e:ai):List ai->List ai
 |[]=>[e]
 |x::l=>if e.ar<x.ar then e::x::l else x::vd e l
theorem zT(e:ai):∀l,(vd e l).Perm (l++[e])
 |[]=> .refl _
 |x::l=>by
  unfold vd;split
  ·exact(List.perm_append_singleton e (x::l)).symm
  ·exact(zT e l).cons x
def aR(m:af):List ai:=if aC m.ab=true then m.az else vd (gH m) m.az
theorem Kk{m:af}(h:m.az.length<=1000):jq m=some (aR m):=by
 unfold jq aR;simp only[af.eta,al.eta,ai.eta,dj,xW,Qa]
 cases aC m.ab with
 |true=>rfl
 |false=>
  simp only[Ql,Qq,Qu];have hown:ai.mk (bU m).ar (bU m).bm (bq (bU m).aG 1) (bU m).aa (bU m).br (bU m).ab (bU m).ao (bU m).aw (bU m).aI (bU m).aQ=gH m:=rfl;have hnode:(bU m).ar=(gH m).ar:=rfl;rw[hown,hnode];generalize gH m=e
  suffices key:∀(k i:Nat) (b:Bool) (o:List ai),i+k=m.az.length->o.length<=i+(bif b then 1 else 0)->aE _ (b,(i:Int),o,())=some (o++if b=true then m.az.drop i else vd e (m.az.drop i))from(key m.az.length 0 false [] (by omega) (by simp)).trans (by simp)
  intro k
  induction k with
  |zero=>
   intro i b o hi ho;obtain rfl:i=m.az.length:=by omega
   have hd:decide (((m.az.length:Nat):Int)<((m.az.length:Nat):Int))=false:=Qh (Int.lt_irrefl _);refine bS ?_;rw[List.drop_length];simp only[hd,Ql,aW]
   cases b with
   |true=>simp
   |false=>
    simp only[Ql]at ho;rw[bZ (by simp;omega)]
    simp[vd]
  |succ k ih=>
   intro i b o hi ho;have hlt:i<m.az.length:=by omega
   have hd:decide ((i:Int)<((m.az.length:Nat):Int))=true:=Qg (by omega)
   have hw:aA .i64 (i:Int) 1=((i+1:Nat):Int):=bM (by omega) (by omega)
   have hx:idx m.az (i:Int)=some m.az[i]:=by rw[bB];exact Qv hlt
   rw[QM hlt]
   cases b with
   |true=>
    simp only[Qk]at ho;have:=ih (i+1) true (o++[m.az[i]]) (by omega) (by simp;omega)
    simp only[Qt]at this ⊢;rw[show o++m.az[i]::m.az.drop (i+1)=(o++[m.az[i]])++m.az.drop (i+1)by simp]
    refine Eq.trans (bl ?_) this;simp only[hd,hx,hw,Qk,aW,Qa,Qo,Ql,al.eta,ai.eta];rw[bZ (by simp;omega),Qk]
   |false=>
    simp only[Ql]at ho
    by_cases hn:e.ar<m.az[i].ar
    ·have:=ih (i+1) true (o++[e]++[m.az[i]]) (by omega) (by simp;omega)
     simp only[Qt,Qq,Qu]at this ⊢;rw[vd,Qr hn,show o++e::m.az[i]::m.az.drop (i+1)=(o++[e]++[m.az[i]])++m.az.drop (i+1)by simp]
     refine Eq.trans (bl ?_) this;simp only[hd,hx,hw,Qk,aW,Qa,Qp,Qg hn,al.eta,ai.eta];rw[bZ (by simp;omega),Qk,bZ (by simp;omega),Qk]
    ·have:=ih (i+1) false (o++[m.az[i]]) (by omega) (by simp;omega)
     simp only[Qq,Qu]at this ⊢;rw[vd,Qs hn,show o++m.az[i]::vd e (m.az.drop (i+1))=(o++[m.az[i]])++vd e (m.az.drop (i+1))by simp]
     refine Eq.trans (bl ?_) this;simp only[hd,hx,hw,Qk,aW,Qa,Qp,Qh hn,Ql,al.eta,ai.eta];rw[bZ (by simp;omega),Qk]
def wx(a b:ae):Bool:=decide (a.aj=b.aj)&&decide (a.Value=b.Value)
theorem qo{a b:ae}:wx a b=true↔a=b:=by
 cases a;cases b;simp[wx]
def lJ(a b:af):Bool:=decide (a.aH=b.aH)&&wx a.ab b.ab&&wx a.ao b.ao&&wx a.aw b.aw&&wx a.au b.au&&decide (a.aI=b.aI)&&decide (a.aQ=b.aQ)
theorem W0(a b:Bool):(bif a then b else false)=(a&&b):=by cases a<;>rfl
theorem ZP(a b:af):kH a b=some (lJ a b):=by
 unfold kH lJ wx;simp only[wY,Qa,jw,W0]
end Go.Proofs.YtkgenianmdfmdaaGreat
namespace Go.Proofs.YtkgenianmdfmdaaGreat
open Go.TQ
def s8(v:ByteArray)(n:Int)(x:ae):Int:=
 if(cn x&&dJ x ⟨n,v⟩)=true then(if dJ x ⟨x.aj,v⟩=true then x.aj+1 else x.aj)else n
def jm(v:ByteArray)(n:Int)(p q:ae):Int:=s8 v (s8 v (bq n 1) p) q
theorem OV(v:ByteArray)(n:Int)(p q:ae):ox v n p q=some (jm v n p q):=by
 unfold ox jm;generalize bq n 1=k
 have hst:∀(i:Nat) (x:ae) (k:Int),i<2->[p,q][i]?=some x->
   (fun(v1:Int×Int×Unit)=>
    bif (decide (v1.2.1<(2:Int)))then
    bj (fun(v2:Int×Unit)=>some (Sum.inl (v2.1,(aA .i64 v1.2.1 (1:Int)),v2.2))) fun j3=>
    Option.bind (idx [p,q] v1.2.1) fun x4=>
    Option.bind (iV x4) fun r5=>
    Option.bind (bif r5 then Option.bind (fA x4 (ae.mk v1.1 v)) fun r6=>some r6 else some false) fun b7=>
    bif b7 then Option.bind (fA x4 (ae.mk x4.aj v)) fun r8=>
     bif r8 then j3 ((aA .i64 x4.aj (1:Int)),())else j3 (x4.aj,())
    else j3 (v1.1,())
    else(Option.map Sum.inr (some v1.1):Option ((Int×Int×Unit)⊕Int))) (k,(i:Int),())=some (Sum.inl (s8 v k x,((i+1:Nat):Int),())):=by
  intro i x k hi hx;have hd:decide ((i:Int)<2)=true:=Qg (by omega)
  have hw:aA .i64 (i:Int) 1=((i+1:Nat):Int):=bM (by omega) (by omega)
  have hx':idx [p,q] (i:Int)=some x:=by rw[bB];exact hx
  simp only[hd,hw,hx',Qk,aW,Qa,zf,xB];unfold s8
  cases hv:cn x with
  |false=>simp
  |true=>
   have hc:aA .i64 x.aj 1=x.aj+1:=by
    have:1<=x.aj/\x.aj<=1000000:=by
     simp only[cn,Qm,Qn,Qi]at hv;omega
    exact bM (by omega) (by omega)
   cases h1:dJ x ⟨k,v⟩with
   |false=>simp
   |true=>cases h2:dJ x ⟨x.aj,v⟩<;>simp[hc]
 refine(bl (hst 0 p k (by omega) rfl)).trans ((bl (hst 1 q _ (by omega) rfl)).trans (bS ?_))
 rfl
theorem WK(b:ae):ot b=some (if 1000<b.aj then⟨1000,b.Value⟩else b):=by
 unfold ot
 by_cases h:1000<b.aj
 ·simp[h]
 ·simp[h]
end Go.Proofs.YtkgenianmdfmdaaGreat
namespace Go.Proofs.YtkgenianmdfmdaaGreat
open Go.TQ
theorem TI{lo k:Int}{v:ByteArray}{p:ae}(h:lo<=k)(hl:bd ⟨k,v⟩ p=true):bd ⟨lo,v⟩ p=true:=by
 unfold bd at hl ⊢;simp only at hl ⊢
 by_cases h1:lo=k
 ·rw[h1];exact hl
 ·have h2:lo<p.aj:=by
   split at hl
   ·omega
   ·simp only[Qi]at hl;omega
  rw[Qs (by omega)]
  simpa using h2
theorem RR{lo k:Int}{v:ByteArray}{p:ae}(h:lo<=k)(ha:dJ p ⟨lo,v⟩=false):dJ p ⟨k,v⟩=false:=by
 cases hk:dJ p ⟨k,v⟩with
 |false=>rfl
 |true=>
  simp only[dJ,Qm,bC]at hk;simp only[dJ,bC,hk.1.1,hk.1.2,TI h hk.2]at ha;cases ha
theorem jv(p b:ae):gY p b=true↔aC p=false/\p.Value=b.Value/\b.aj<=p.aj:=by
 simp[gY,bC,and_assoc]
theorem Jq{b:ae}(h:1<=b.aj):aC b=false:=by
 have:¬b.aj=0:=by omega
 simp[aC,this]
end Go.Proofs.YtkgenianmdfmdaaGreat
namespace Go.Proofs.YtkgenianmdfmdaaGreat
open Go.TQ
theorem abA{n:Nat}(h:n<1000000):Fz .u64 (n:Int)=n:=by
 unfold Fz IntKind.wrap;simp[IntKind.signed,IntKind.bits];omega
def vE(b p:ae)(j:Nat)(t:al):ai:=⟨j,1,1,t,1,b,p,⟨0,ByteArray.mk #[]⟩,0,0⟩
structure Re (b:ae):Prop where
 lo:1<=b.aj
 hi:b.aj<=6
 val:Ko b.Value
theorem Re.valid{b:ae}(h:Re b):cn b=true:=Du h.lo (by have:=h.hi;omega) h.val
theorem Re.nz{b:ae}(h:Re b):aC b=false:=Jq h.lo
theorem I0{l:List ai}(h:∀e∈l,aJ e=true):bJ l=l:=List.filter_eq_self.2 h
end Go.Proofs.YtkgenianmdfmdaaGreat
namespace Go.Proofs.YtkgenianmdfmdaaGreat
open Go.TQ
theorem yo:∀(l:List ai) (ms:List bg) (k:Nat) (m:bg),ms[k]?=some m->
  (l.foldl c6 ms)[k]?=some (if m.dm then m else match(bJ l).find? (fun e=>decide (e.ar.toNat=k))with|some e=>⟨true,e.aa⟩|none=>m)
 |[],ms,k,m,h=>by simp[bJ,h]
 |e::l,ms,k,m,h=>by
  rw[QU]
  by_cases hv:aJ e=true
  ·have hr:bJ (e::l)=e::bJ l:=by simp[bJ,hv]
   rw[hr,List.find?_cons]
   by_cases hk:e.ar.toNat=k
   ·have hstep:(c6 ms e)[k]?=some (if m.dm then m else⟨true,e.aa⟩):=by
     unfold c6;rw[hv,hk,h]
     cases hm:m.dm with
     |true=>simp[hm,h]
     |false=>
      have hlt:k<ms.length:=(Qw.1 h).1;simp[hm,hlt]
    rw[yo l _ k _ hstep]
    cases hm:m.dm with
    |true=>simp[hm]
    |false=>simp[hk]
   ·have hstep:(c6 ms e)[k]?=some m:=by
     unfold c6;split
     ·rw[List.getElem?_set_ne hk];exact h
     ·exact h
    rw[yo l _ k m hstep];simp[hk]
  ·have hv':aJ e=false:=by simpa using hv
   have hr:bJ (e::l)=bJ l:=by simp[bJ,hv']
   have hstep:c6 ms e=ms:=by simp[c6,hv']
   rw[hr,hstep];exact yo l ms k m h
theorem Uw{ax:Nat}{t:al}{l:List ai}{k:Nat}(hk:k<10)(hn:ax<10):
  (fh ax t l)[k]?=some (if k=ax then⟨true,t⟩else match(bJ l).find? (fun e=>decide (e.ar.toNat=k))with|some e=>⟨true,e.aa⟩|none=>ft):=by
 unfold fh
 by_cases h:k=ax
 ·subst h;rw[yo l _ k ⟨true,t⟩ (by simp[hk])]
  simp
 ·rw[yo l _ k ft (by
   rw[List.getElem?_set_ne (fun e=>h e.symm),List.getElem?_replicate,Qr hk])]
  simp[h,ft]
theorem MB{l:List bg}{k:Nat}{m:bg}(hk:k<10)(h:l[k]?=some m)(hd:m.dm=true):lx l k=true:=by
 rw[lx,EK,h];simp[hk,hd]
theorem Uv{ax:Nat}(hn:ax<10){t:al}{l:List ai}(T:Nat->al)(ht:T ax=t)(hT:∀e∈bJ l,e.aa=T e.ar.toNat){k:Nat}(hk:k<10)(hs:k=ax\/∃e∈bJ l,e.ar.toNat=k):
  lx (fh ax t l) k=true/\jV (fh ax t l) k=T k:=by
 have hg:=Uw (t:=t) (l:=l) hk hn
 by_cases h:k=ax
 ·rw[Qr h]at hg;exact⟨MB hk hg rfl,by rw[pB hg,h,ht]⟩
 ·rw[Qs h]at hg;obtain⟨e,he,hek⟩:=hs.resolve_left h
  cases hf:(bJ l).find? (fun e=>decide (e.ar.toNat=k))with
  |none=>
   have:=List.find?_eq_none.1 hf e he;simp[hek]at this
  |some e'=>
   rw[hf]at hg;have h1:=List.mem_of_find?_eq_some hf;have h2:=List.find?_some hf;simp only[Qi]at h2;exact⟨MB hk hg rfl,by rw[pB hg,<-h2];exact hT e' h1⟩
def BL(b p:ae)(ts:List al)(q n:Nat)(l:List ai):Prop:=
 l.length<=n/\(∀e∈l,∃i t,i<n/\q.testBit i=true/\ts[i]?=some t/\e=vE b p i t)/\∀i t,i<n->q.testBit i=true->ts[i]?=some t->vE b p i t∈l
theorem BL.nil(b p:ae)(ts:List al)(q:Nat):BL b p ts q 0 []:=⟨by simp,by simp,fun i t h=>by omega⟩
theorem BL.take{b p:ae}{ts:List al}{q n:Nat}{l:List ai}(h:BL b p ts q n l)(hq:q.testBit n=true){t:al}(ht:ts[n]?=some t):BL b p ts q (n+1) (l++[vE b p n t]):=by
 obtain⟨h1,h2,h3⟩:=h;refine⟨by simp;omega,fun e he=> ?_,fun i t' hi hb ht'=> ?_⟩
 ·rcases Qz.1 he with he|he
  ·obtain⟨i,t,a,b,c⟩:=h2 e he;exact⟨i,t,by omega,b,c⟩
  ·simp only[List.mem_singleton]at he;exact⟨n,t,by omega,hq,ht,he⟩
 ·rcases Nat.lt_or_ge i n with h|h
  ·exact Qz.2 (.inl (h3 i t' h hb ht'))
  ·obtain rfl:i=n:=by omega
   rw[ht]at ht';injection ht' with ht'
   subst ht';exact Qz.2 (.inr (by simp))
section
variable {b p : ae} (hb : Re b) (hp : aC p = true \/ cn p = true) {ts : List al} (hts : ∀ t ∈ ts, gA t) {q : Nat} {l : List ai} (hlen : ts.length <= 5) (hc : BL b p ts q ts.length l)
 include hb hp hts hlen hc
end
end Go.Proofs.YtkgenianmdfmdaaGreat
namespace Go.Proofs.YtkgenianmdfmdaaGreat
open Go.TQ
section
variable {α : Type}
structure SWO (lt:α->α->Bool):Prop where
 asymm:∀x y,lt x y=true->lt y x=false
 trans:∀x y z,lt y x=false->lt z y=false->lt z x=false
end
end Go.Proofs.YtkgenianmdfmdaaGreat
namespace Go.Proofs.YtkgenianmdfmdaaGreat
open Go.TQ
section
variable {α : Type}
 def PH(eq ne:α->α->Bool)(z:α)(K:Int)(n:Nat)(v6:Int×Int×(List α)×Unit):Option ((Int×Int×(List α)×Unit)⊕((Int×(List α)×Unit)⊕List α)):=
 bif (decide (v6.2.1<((List.length ((v6.2.2.1.drop (Int.toNat K)).take (Int.toNat (n:Int) - Int.toNat K)):Nat):Int)))then
 bj (fun(v7:Int×(List α)×Unit)=>
 some (Sum.inl (v7.1,(aA .i64 v6.2.1 (1:Int)),v7.2.1,()))) fun j8=>
 Option.bind (idx ((v6.2.2.1.drop (Int.toNat K)).take (Int.toNat (n:Int) - Int.toNat K)) v6.2.1) fun x9=>
 Option.bind (v6.2.2.1[((Int.toNat K)+Int.toNat v6.2.1)]?) fun x10=>
 Option.bind (idx ((v6.2.2.1.drop (Int.toNat K)).take (Int.toNat (n:Int) - Int.toNat K)) (de .i64 v6.2.1 (1:Int))) fun x11=>
 Option.bind (v6.2.2.1[((Int.toNat K)+Int.toNat (de .i64 v6.2.1 (1:Int)))]?) fun x12=>
 bif (ne x10 x12)then
 Option.bind (idx ((v6.2.2.1.drop (Int.toNat K)).take (Int.toNat (n:Int) - Int.toNat K)) v6.2.1) fun x13=>
 Option.bind (v6.2.2.1[((Int.toNat K)+Int.toNat v6.2.1)]?) fun x14=>
 Option.bind (idx v6.2.2.1 v6.1) fun x15=>
 Option.bind (v6.2.2.1[(Int.toNat v6.1)]?) fun x16=>
 j8 ((aA .i64 v6.1 (1:Int)),(v6.2.2.1.set (Int.toNat v6.1) x14),())
 else
 j8 (v6.1,v6.2.2.1,())
 else
 Option.map Sum.inr (bif cm v6.1 ((List.length v6.2.2.1):Int) (List.length v6.2.2.1)then
 bif cm (0:Int) v6.1 (List.length (v6.2.2.1.take (Int.toNat v6.1)++List.replicate (Int.toNat ((List.length v6.2.2.1):Int) - Int.toNat v6.1) z++v6.2.2.1.drop ((Int.toNat v6.1)+(Int.toNat ((List.length v6.2.2.1):Int) - Int.toNat v6.1))))then
 Option.map Sum.inr (some ((v6.2.2.1.take (Int.toNat v6.1)++List.replicate (Int.toNat ((List.length v6.2.2.1):Int) - Int.toNat v6.1) z++v6.2.2.1.drop ((Int.toNat v6.1)+(Int.toNat ((List.length v6.2.2.1):Int) - Int.toNat v6.1))).take (Int.toNat v6.1 - Int.toNat (0:Int))))
 else none
 else none)
 def J6(eq ne:α->α->Bool)(z:α)(v1:Int×(List α)×Unit):Option ((Int×(List α)×Unit)⊕List α):=
 bif (decide (v1.1<((List.length v1.2.1:Nat):Int)))then
 Option.bind (idx v1.2.1 v1.1) fun x2=>
 Option.bind (v1.2.1[(Int.toNat v1.1)]?) fun x3=>
 Option.bind (idx v1.2.1 (de .i64 v1.1 (1:Int))) fun x4=>
 Option.bind (v1.2.1[(Int.toNat (de .i64 v1.1 (1:Int)))]?) fun x5=>
 bif (eq x3 x5)then
 bif cm v1.1 ((List.length v1.2.1):Int) (List.length v1.2.1)then
 aE (PH eq ne z v1.1 (List.length v1.2.1)) (v1.1,(1:Int),v1.2.1,())
 else none
 else
 some (Sum.inl ((aA .i64 v1.1 (1:Int)),v1.2.1,()))
 else
 Option.map Sum.inr (some v1.2.1)
 def HT(eq ne:α->α->Bool)(z:α)(s:List α):Option (List α):=
 bif (decide (((List.length s:Nat):Int)<(2:Int)))then
 some s
 else
 aE (J6 eq ne z) ((1:Int),s,())
theorem NZ(d:List α){K n m:Nat}(hm:m<n - K):idx ((d.drop K).take (n - K)) (m:Int)=d[K+m]?:=by
 rw[bB,List.getElem?_take,Qr hm,List.getElem?_drop]
variable [DecidableEq α]
def oo(acc:List α)(x:α):List α:=if acc.getLast?=some x then acc else acc++[x]
def dd(l:List α):List α:=l.foldl oo []
theorem SF(l:List α)(x:α):dd (l++[x])=oo (dd l) x:=by simp[dd,List.foldl_append]
theorem Zh(l:List α):(dd l).getLast?=l.getLast?:=by
 suffices h:∀r:List α,(dd r.reverse).getLast?=r.reverse.getLast? by
  have:=h l.reverse
  rwa [List.reverse_reverse]at this
 intro r
 induction r with
 |nil=>rfl
 |cons x r ih=>
  rw[List.reverse_cons,SF,oo];split
  ·rename_i h;rw[h];simp
  ·simp
theorem SE{s:List α}{k:Nat}{x:α}(h:s[k]?=some x):dd (s.take (k+1))=oo (dd (s.take k)) x:=by
 obtain⟨hl,hx⟩:=Qw.1 h;rw[List.take_succ_eq_append_getElem hl,hx,SF]
theorem MA{s:List α}{k:Nat}{x:α}(h:s[k]?=some x):(dd (s.take (k+1))).getLast?=some x:=by
 obtain⟨hl,hx⟩:=Qw.1 h;rw[Zh,List.take_succ_eq_append_getElem hl,hx];simp
variable {eq ne : α -> α -> Bool} {z : α}
theorem H3(hne:∀x y,ne x y= !decide (x=y)){s:List α}{K:Nat}(hn:s.length<1000000000):∀(r i k2:Nat) (d:List α),k2+r=s.length - K->1<=k2->i<=K+k2 - 1->d.length=s.length->d.take i=dd (s.take (K+k2))->(∀j,K+k2 - 1<=j->d[j]?=s[j]?)->
  aE (PH eq ne z (K:Int) s.length) ((i:Int),(k2:Int),d,())=some (.inr (dd s))
 |0,i,k2,d,hr,h1,hi,hd,ht,hs=>by
  have hKn:K+k2=s.length:=by omega
  refine bS ?_;have e1:(((d.drop K).take (s.length - K)).length)=s.length - K:=by simp;omega
  have e2:decide ((k2:Int)<((s.length - K:Nat):Int))=false:=Qh (by omega)
  have e3:∀n,cm (i:Int) (d.length:Int) n=decide (d.length<=n):=by
   intro n;have:i<=d.length:=by omega
   simp only[cm];have h1:decide ((0:Int)<=(i:Int))=true:=Qg (by omega)
   have h2:decide ((i:Int)<=(d.length:Int))=true:=Qg (by omega)
   rw[h1,h2,Bool.and_self,Bool.true_and,decide_eq_decide];omega
  have e4:(d.take i++List.replicate (d.length - i) z++d.drop (i+(d.length - i))).length=d.length:=by simp;omega
  have e5:cm (0:Int) (i:Int) d.length=true:=by
   simp only[cm,Qm,Qi];omega
  have e6:(d.take i++List.replicate (d.length - i) z++d.drop (i+(d.length - i))).take (i - 0)=dd s:=by
   rw[Nat.sub_zero,QL,List.take_append_of_le_length (by simp;omega),List.take_take,Nat.min_self,ht,hKn,List.take_length]
  simp only[PH,QV,e1,e2,Ql,e3,QI,decide_true,Qk,e4,e5,Int.toNat_zero,e6,Qe]
 |r+1,i,k2,d,hr,h1,hi,hd,ht,hs=>by
  have hKn:K+k2<s.length:=by omega
  obtain⟨x,hx⟩:∃x,s[K+k2]?=some x:=⟨_,Qv hKn⟩;obtain⟨y,hy⟩:∃y,s[K+(k2 - 1)]?=some y:=⟨_,Qv (by omega)⟩
  have e1:(((d.drop K).take (s.length - K)).length)=s.length - K:=by simp;omega
  have e2:decide ((k2:Int)<((s.length - K:Nat):Int))=true:=Qg (by omega)
  have e3:de .i64 (k2:Int) 1=((k2 - 1:Nat):Int):=by rw[pV (by omega) (by omega)];omega
  have e4:aA .i64 (k2:Int) 1=((k2+1:Nat):Int):=bM (by omega) (by omega)
  have e5:aA .i64 (i:Int) 1=((i+1:Nat):Int):=bM (by omega) (by omega)
  have hdx:d[K+k2]?=some x:=by rw[hs _ (by omega),hx]
  have hdy:d[K+(k2 - 1)]?=some y:=by rw[hs _ (by omega),hy]
  have hv1:=NZ d (K:=K) (n:=s.length) (m:=k2) (by omega)
  have hv2:=NZ d (K:=K) (n:=s.length) (m:=k2 - 1) (by omega)
  obtain⟨w,hw⟩:∃w,d[i]?=some w:=⟨_,Qv (by omega)⟩
  have hstep:=SE hx
  have hlast:(dd (s.take (K+k2))).getLast?=some y:=by
   have:=MA hy
   rwa [show K+(k2 - 1)+1=K+k2 by omega]at this
  rw[oo,hlast]at hstep;have hil:i<d.length:=by omega
  by_cases hxy:x=y
  ·refine Eq.trans (bl (s':=((i:Int),((k2+1:Nat):Int),d,())) ?_) (H3 hne hn r i (k2+1) d (by omega) (by omega) (by omega) hd ?_ fun j hj=>hs j (by omega))
   ·simp only[PH,QV,e1,e2,Qk,aW,hv1,hdx,Qa,e3,hv2,hdy,hne,hxy,decide_true,Qo,Ql,e4]
   ·rw[show K+(k2+1)=K+k2+1 by omega,hstep,Qr (by rw[hxy]),ht]
  ·refine Eq.trans (bl (s':=(((i+1:Nat):Int),((k2+1:Nat):Int),d.set i x,())) ?_) (H3 hne hn r (i+1) (k2+1) (d.set i x) (by omega) (by omega) (by omega) (by rw[QY];exact hd) ?_ fun j hj=> ?_)
   ·simp only[PH,QV,e1,e2,Qk,aW,hv1,hdx,Qa,e3,hv2,hdy,hne,hxy,decide_false,Qp,e4,e5,bB,hw]
   ·rw[show K+(k2+1)=K+k2+1 by omega,hstep,Qs (fun e=>hxy (by injection e with e;exact e.symm)),<-ht,List.take_succ_eq_append_getElem (by rw[QY];exact hil)]
    congr 1
    ·rw[List.take_set_of_le (QI _)]
    ·simp
   ·rw[List.getElem?_set,Qs (by omega)]
    exact hs j (by omega)
theorem PG(heq:∀x y,eq x y=decide (x=y))(hne:∀x y,ne x y= !decide (x=y)){s:List α}(hn:s.length<1000000000):∀(r k:Nat),k+r=s.length->1<=k->dd (s.take k)=s.take k->aE (J6 eq ne z) ((k:Int),s,())=some (dd s)
 |0,k,hr,h1,h=>by
  refine bS ?_;have hk:k=s.length:=by omega
  have e2:decide ((k:Int)<((s.length:Nat):Int))=false:=Qh (by omega)
  rw[hk,List.take_length]at h;simp only[J6,e2,Ql,Qe,h]
 |r+1,k,hr,h1,h=>by
  have hk:k<s.length:=by omega
  obtain⟨x,hx⟩:∃x,s[k]?=some x:=⟨_,Qv hk⟩;obtain⟨y,hy⟩:∃y,s[k - 1]?=some y:=⟨_,Qv (by omega)⟩
  have e2:decide ((k:Int)<((s.length:Nat):Int))=true:=Qg (by omega)
  have e3:de .i64 (k:Int) 1=((k - 1:Nat):Int):=by rw[pV (by omega) (by omega)];omega
  have e4:aA .i64 (k:Int) 1=((k+1:Nat):Int):=bM (by omega) (by omega)
  have hstep:=SE hx
  have hlast:(dd (s.take k)).getLast?=some y:=by
   have:=MA hy
   rwa [show k - 1+1=k by omega]at this
  rw[oo,hlast]at hstep
  by_cases hxy:x=y
  ·rw[Qr (by rw[hxy])]at hstep
   have e5:cm (k:Int) (s.length:Int) s.length=true:=by
    simp only[cm,Qm,Qi];omega
   have hin:=H3 (eq:=eq) (z:=z) (K:=k) hne hn (s.length - k - 1) k 1 s (by omega) (by omega) (by omega) rfl (by rw[hstep,h]) (fun _ _=>rfl)
   refine bS ?_;simp only[J6,e2,Qk,bB,QV,hx,hy,e3,Qa,heq,hxy,decide_true,e5];exact hin
  ·rw[Qs (fun e=>hxy (by injection e with e;exact e.symm))]at hstep
   refine Eq.trans (bl (s':=(((k+1:Nat):Int),s,())) ?_) (PG heq hne hn r (k+1) (by omega) (by omega) ?_)
   ·simp only[J6,e2,Qk,bB,QV,hx,hy,e3,Qa,heq,hxy,decide_false,Ql,e4]
   ·obtain⟨hl,hx'⟩:=Qw.1 hx;rw[hstep,h,List.take_succ_eq_append_getElem hl,hx']
theorem CN(heq:∀x y,eq x y=decide (x=y))(hne:∀x y,ne x y= !decide (x=y))(s:List α)(hn:s.length<1000000000):HT eq ne z s=some (dd s):=by
 unfold HT
 by_cases h:s.length<2
 ·have e:decide (((s.length:Nat):Int)<2)=true:=Qg (by omega)
  rw[e,Qk]
  match s,h with
  |[],_=>rfl
  |[x],_=>rfl
 ·have e:decide (((s.length:Nat):Int)<2)=false:=Qh (by omega)
  rw[e,Ql];refine PG heq hne hn (s.length - 1) 1 (by omega) (by omega) ?_
  cases s with
  |nil=>rfl
  |cons x l=>rfl
theorem T6(acc:List α)(x:α):∀y,y∈oo acc x↔y∈acc\/y=x:=by
 intro y;unfold oo;split
 ·rename_i h;have:=List.mem_of_getLast? h;exact⟨.inl,fun h'=>h'.elim id fun e=>e▸this⟩
 ·simp
theorem Ej:∀(l acc:List α) (y:α),y∈l.foldl oo acc↔y∈acc\/y∈l
 |[],acc,y=>by simp
 |x::l,acc,y=>by
  rw[QU,Ej l,T6];simp[or_assoc]
theorem Z6(l:List α)(y:α):y∈dd l↔y∈l:=by rw[dd,Ej];simp
theorem PE(l:List α):(dd l).length<=l.length:=by
 suffices h:∀(l acc:List α),(l.foldl oo acc).length<=acc.length+l.length by simpa[dd]using h l []
 intro l
 induction l with
 |nil=>intro acc;simp
 |cons x l ih=>
  intro acc;rw[QU];refine QK (ih _) ?_;unfold oo;split<;>simp<;>omega
theorem Vo{lt:α->α->Bool}(ho:SWO lt)(hto:∀x y,lt x y=false->lt y x=false->x=y){l:List α}(hl:l.Pairwise (fun a b=>lt b a=false)):(dd l).Pairwise (fun a b=>lt a b=true):=by
 suffices h:∀(l acc:List α),(acc++l).Pairwise (fun a b=>lt b a=false)->acc.Pairwise (fun a b=>lt a b=true)->(l.foldl oo acc).Pairwise (fun a b=>lt a b=true)from h l [] (by simpa using hl) .nil
 intro l
 induction l with
 |nil=>intro acc _ h;exact h
 |cons x l ih=>
  intro acc h1 h2;rw[QU];unfold oo;split
  ·rename_i hlast;refine ih acc ?_ h2;rw[List.pairwise_append]at h1 ⊢;exact⟨h1.1,(Q4.1 h1.2.1).2,fun a ha b hb=>h1.2.2 a ha b (by simp[hb])⟩
  ·rename_i hlast;refine ih _ (by simpa using h1) ?_
   rw[List.pairwise_append]at h1 ⊢;refine⟨h2,by simp,fun a ha b hb=> ?_⟩
   rw[List.mem_singleton.1 hb];have hax:lt x a=false:=h1.2.2 a ha x (by simp)
   cases hc:lt a x with
   |true=>rfl
   |false=>
    exfalso;have e:=hto a x hc hax;subst e
    obtain⟨y,hy⟩:∃y,acc.getLast?=some y:=by
     cases hg:acc.getLast? with
     |none=>rw[List.getLast?_eq_none_iff.1 hg]at ha;cases ha
     |some y=>exact⟨y,rfl⟩
    obtain⟨pre,rfl⟩:∃pre,acc=pre++[y]:=by
     have:=List.getLast?_eq_some_iff.1 hy;exact this
    rcases Qz.1 ha with ha|ha
    ·rw[List.pairwise_append]at h2;have h3:=h2.2.2 a ha y (by simp)
     have h4:=h1.2.2 y (by simp) a (by simp)
     rw[h3]at h4;cases h4
    ·rw[List.mem_singleton.1 ha]at hlast;exact hlast hy
end
end Go.Proofs.YtkgenianmdfmdaaGreat
namespace Go.Proofs.YtkgenianmdfmdaaGreat
open Go.TQ
theorem WZ(s:List Int):mq s=HT (fun x y=>decide (x=y)) (fun x y=> !decide (x=y)) 0 s:=rfl
 def gm(v:ByteArray)(e:ai):Bool:=aJ e&&decide (e.ab.Value=v)&& !decide (e.aI=0)
 def ends(v:ByteArray)(l:List ai):List Int:=l.flatMap fun e=>if gm v e then[e.aI,e.aQ]else[]
theorem vS{v:ByteArray}{l:List ai}{x:Int}:x∈ends v l↔∃e∈l,gm v e=true/\(x=e.aI\/x=e.aQ):=by
 simp only[ends,QQ];constructor
 ·rintro⟨e,he,hx⟩;split at hx
  ·rename_i h;exact⟨e,he,h,by simpa using hx⟩
  ·cases hx
 ·rintro⟨e,he,h,hx⟩;exact⟨e,he,by rw[Qr h];simpa using hx⟩
end Go.Proofs.YtkgenianmdfmdaaGreat
namespace Go.Proofs.YtkgenianmdfmdaaGreat
open Go.TQ
theorem EZ{v:bp}{ax:Int}{l:List ai}(hl:l.length<=1000000)(hin:uz l)(val:ByteArray)(lo hi:Int):hY ⟨ax,v,l.map bs.mk⟩ val lo hi=some ((c9 (eI · val lo hi) l:Nat):Int):=by
 unfold hY;refine BO (eI · val lo hi) l hin _ (fun i e s he=> ?_) (fun s=> ?_)
 ·have hlt:i<l.length:=(Qw.1 he).1;have hd:decide ((i:Int)<(((l.map bs.mk).length:Nat):Int))=true:=Qg (by rw[QC];omega)
  have hw:aA .i64 (i:Int) 1=((i+1:Nat):Int):=bM (by omega) (by omega)
  have hx:idx (l.map bs.mk) (i:Int)=some ⟨e⟩:=by rw[bB,QT,he];rfl
  simp only[hd,hx,hw,Qk,Qa,al.eta,ai.eta,kJ,q7,aW];cases eI e val lo hi<;>simp
 ·have hd:decide (((l.length:Nat):Int)<(((l.map bs.mk).length:Nat):Int))=false:=Qh (by rw[QC];exact Int.lt_irrefl _)
  simp only[hd,Ql,Qe]
theorem RT{v:bp}{ax:Int}{l:List ai}(hl:l.length<=1000000)(hin:uz l)(val:ByteArray)(lo hi:Int):fG ⟨ax,v,l.map bs.mk⟩ val lo hi val lo hi=some ((c9 (fun e=>pf e val lo hi||eI e val lo hi) l:Nat):Int):=by
 unfold fG;refine BO (fun e=>pf e val lo hi||eI e val lo hi) l hin _ (fun i e s he=> ?_) (fun s=> ?_)
 ·have hlt:i<l.length:=(Qw.1 he).1;have hd:decide ((i:Int)<(((l.map bs.mk).length:Nat):Int))=true:=Qg (by rw[QC];omega)
  have hw:aA .i64 (i:Int) 1=((i+1:Nat):Int):=bM (by omega) (by omega)
  have hx:idx (l.map bs.mk) (i:Int)=some ⟨e⟩:=by rw[bB,QT,he];rfl
  simp only[hd,hx,hw,Qk,Qa,al.eta,ai.eta,il,kJ,tY,q7,AQ,aW,jw,Bool.cond_true_left];cases (pf e val lo hi||eI e val lo hi)<;>simp
 ·have hd:decide (((l.length:Nat):Int)<(((l.map bs.mk).length:Nat):Int))=false:=Qh (by rw[QC];exact Int.lt_irrefl _)
  simp only[hd,Ql,Qe]
 def DD(ax:Nat)(t:al)(l:List ai):fF:=⟨ax,⟨fh ax t l⟩,(bJ l).map bs.mk⟩
 def jI(ax:Nat)(t:al)(l:List ai)(val:ByteArray)(lo hi:Int):Bool:=
 nk (fh ax t l) ax (c9 (fun e=>pf e val lo hi||eI e val lo hi) (bJ l)) (c9 (eI · val lo hi) (bJ l))
 def oV(ax:Nat)(t:al)(l:List ai)(val:ByteArray)(lo hi:Int):Bool:=
 (gq (fh ax t l) (c9 (eI · val lo hi) (bJ l))).testBit ax
section
variable {ax : Nat} (hn : ax < 10) {t : al} (ht : dK t) {l : List ai} (hl : oq l)
 include hn ht hl
theorem Ox(val:ByteArray)(lo hi:Int):gg (DD ax t l) val lo hi=some (jI ax t l val lo hi):=by
 have hlen:=hl.len;have hrl:=xJ l;have hin:=ky l
 simp only[DD,gg,mz,iZ,Qa,RT (by omega:(bJ l).length<=1000000) hin,EZ (by omega:(bJ l).length<=1000000) hin,
  C6 (k9 ht hl) hn (kM hin) (kM hin),jI]
theorem X8(val:ByteArray)(lo hi:Int):lp (DD ax t l) val lo hi=some (oV ax t l val lo hi):=by
 have hlen:=hl.len;have hrl:=xJ l;have hin:=ky l;simp only[DD,lp,mz,ke,Qa,EZ (by omega:(bJ l).length<=1000000) hin,Bv (k9 ht hl) hn (kM hin),oV]
theorem look_eq:eM ax t l=some (DD ax t l):=LH hn ht hl
end
def cg(q:Int->Bool):List Int->Int->Int
 |[],lo=>lo
 |e::l,lo=>if lo<=e then cg q l lo else if q e then cg q l e else lo
theorem yl{p:Int->Option Bool}{q:Int->Bool}(h:∀e,p e=some (q e)):∀(l:List Int) (lo:Int),kQ (fun(m5:Nat) (e6:Int) (v4:Int×Unit)=>
  bif (decide (v4.1<=e6))then some (Sum.inl (v4.1,()))else
  Option.bind (p e6) fun r7=>bif (!r7)then Option.map Sum.inr (some v4.1)else some (Sum.inl (e6,()))) (fun v8=>some v8.1) l (lo,())=some (cg q l lo)
 |[],lo=>rfl
 |e::l,lo=>by
  rw[kQ,cg]
  by_cases hle:lo<=e
  ·rw[Qr hle];simp only[hle,decide_true,Qk];exact yl h l lo
  ·rw[Qs hle];simp only[hle,decide_false,Ql,h,Qa]
   cases hq:q e with
   |true=>
    simp only[Qo,Ql,Qt];have:=yl h l e;simp only[h,Qa]at this;exact this
   |false=>rfl
def flat(n:Nat)(k:Int):al:=⟨k,sA n,[]⟩
theorem G4(s n:Nat)(k:Int):js s (flat n k)=decide (k<=(((sA n).countP (jL s):Nat):Int)):=by
 rw[Fe];simp[flat,tw]
theorem T8{s s':Nat}(h:∀k,s.testBit k=true->s'.testBit k=true)(l:List Int):l.countP (jL s)<=l.countP (jL s'):=List.countP_mono_left fun x _ hx=>MF h x hx
structure CX (n:Nat) (k:Int) (l:List ai):Prop where
 n10:n<=10
 k1:1<=k
 kn:k<=n
 valid:∀e∈l,aJ e=true
 aO:∀e∈l,e.aa=flat n k
 few:l.length<=1000
 all:∀i,i<n->∃e∈l,e.ar.toNat=i
theorem CX.fQ{n:Nat}{k:Int}{l:List ai}(h:CX n k l):gA (flat n k):=zX n h.n10 k h.k1 h.kn
theorem CX.sm{n:Nat}{k:Int}{l:List ai}(h:CX n k l):oq l:=⟨by have:=h.few;omega,fun e he=>by rw[h.aO e he];exact h.fQ.sm⟩
theorem CX.bJ{n:Nat}{k:Int}{l:List ai}(h:CX n k l):Go.Proofs.YtkgenianmdfmdaaGreat.bJ l=l:=I0 h.valid
def cE(n:Nat)(k:Int)(c:Int)(v:ByteArray)(lo hi:Nat->Int)(i:Nat):ai:=⟨i,1,1,flat n k,2,⟨c,v⟩,⟨c,v⟩,⟨0,ByteArray.mk #[]⟩,lo i,hi i⟩
end Go.Proofs.YtkgenianmdfmdaaGreat
namespace Go.Proofs.YtkgenianmdfmdaaGreat
open Go.TQ
def sS(b:List Int)(sure:Int->Int->Bool):Int×Int×Bool×Unit:=
 match b.reverse.find? (fun e=>sure e e)with
 |some e=>(cg (fun x=>sure x e) b.reverse e,e,true,())
 |none=>(0,0,false,())
theorem Su{p:Int->Option Bool}{q:Int->Bool}{d:Int->Option Int}{f:Int->Int}(hp:∀e,p e=some (q e))(hd:∀e,d e=some (f e)):∀r:List Int,kQ (fun(m5:Nat) (e6:Int) (v4:Int×Int×Bool×Unit)=>
  Option.bind (p e6) fun r7=>bif r7 then Option.bind (d e6) fun r8=>Option.map Sum.inr (some (r8,e6,true,()))else some (Sum.inl (v4.1,v4.2.1,v4.2.2.1,()))) (fun(v9:Int×Int×Bool×Unit)=>some ((0:Int),(0:Int),false,())) r ((0:Int),(0:Int),false,())=
  some (match r.find? q with|some e=>(f e,e,true,())|none=>(0,0,false,()))
 |[]=>rfl
 |e::r=>by
  have ih:=Su hp hd r;rw[kQ,List.find?_cons];simp only[hp,hd,Qa,Qe]at ih ⊢
  cases q e with
  |true=>rfl
  |false=>simp only[Ql];exact ih
section
variable {ax : Nat} (hn : ax < 10) {t : al} (ht : dK t) {l : List ai} (hl : oq l)
 include hn ht hl
end
section
variable {n : Nat} {k c : Int} {v : ByteArray} {lo hi : Nat -> Int} (h : CX n k ((List.range n).map (cE n k c v lo hi))) {i : Nat} (hi' : i < n)
 include h hi'
end
end Go.Proofs.YtkgenianmdfmdaaGreat
namespace Go.Proofs.YtkgenianmdfmdaaGreat
open Go.TQ
section
variable {α : Type}
structure sX (lt:α->α->Bool):Prop where
 irrefl:∀x,lt x x=false
 trans:∀x y z,lt x y=true->lt y z=true->lt x z=true
 total:∀x y,lt x y=false->lt y x=false->x=y
variable {lt : α -> α -> Bool}
theorem sX.asymm(h:sX lt){x y:α}(hxy:lt x y=true):lt y x=false:=by
 cases hc:lt y x with
 |false=>rfl
 |true=>have:=h.trans x y x hxy hc;rw[h.irrefl]at this;cases this
theorem sX.ntrans(h:sX lt){x y z:α}(h1:lt x y=false)(h2:lt y z=false):lt x z=false:=by
 cases hc:lt x z with
 |false=>rfl
 |true=>
  cases hyx:lt y x with
  |false=>rw[h.total x y h1 hyx,h2]at hc;cases hc
  |true=>have:=h.trans y x z hyx hc;rw[h2]at this;cases this
theorem sX.kit(h:sX lt):Go.Sort.SWO lt:=⟨h.irrefl,h.trans,fun _ _ _=>h.ntrans⟩
theorem sX.own(h:sX lt):SWO lt:=⟨fun _ _=>h.asymm,fun _ _ _ h1 h2=>h.ntrans h2 h1⟩
theorem sX.flip(h:sX lt):sX fun a b=>lt b a:=⟨h.irrefl,fun x y z h1 h2=>h.trans z y x h2 h1,fun x y h1 h2=>h.total x y h2 h1⟩
theorem sX.unique(h:sX lt):∀{a b:List α},a.Pairwise (fun x y=>lt x y=true)->b.Pairwise (fun x y=>lt x y=true)->(∀x,x∈a↔x∈b)->a=b
 |[],[],_,_,_=>rfl
 |[],y::b,_,_,h'=>by have:=(h' y).2 (by simp);cases this
 |x::a,[],_,_,h'=>by have:=(h' x).1 (by simp);cases this
 |x::a,y::b,ha,hb,h'=>by
  rw[Q4]at ha hb
  have hxy:x=y:=by
   have h1:=(h' x).1 (by simp)
   have h2:=(h' y).2 (by simp)
   rcases QA.1 h1 with h1|h1
   ·exact h1
   ·rcases QA.1 h2 with h2|h2
    ·exact h2.symm
    ·have q1:=ha.1 y h2;have q2:=hb.1 x h1;rw[h.asymm q1]at q2;cases q2
  subst hxy;congr 1;refine h.unique ha.2 hb.2 fun z=>⟨fun hz=> ?_,fun hz=> ?_⟩
  ·rcases QA.1 ((h' z).1 (by simp[hz]))with e|e
   ·subst e;have:=ha.1 z hz;rw[h.irrefl]at this;cases this
   ·exact e
  ·rcases QA.1 ((h' z).2 (by simp[hz]))with e|e
   ·subst e;have:=hb.1 z hz;rw[h.irrefl]at this;cases this
   ·exact e
theorem sX.V3[DecidableEq α](h:sX lt){cmp:α->α->Option Int}{c:α->α->Int}(hc:∀x y,cmp x y=some (c x y))(hlt:∀x y,decide (c x y<0)=lt x y)(s:List α)(hs:s.length<1000000000):
  ∃t,yq cmp s=some ((),t)/\t.length=s.length/\(dd t).Pairwise (fun x y=>lt x y=true)/\∀x,x∈dd t↔x∈s:=by
 have hcf:ES cmp=c:=funext fun x=>funext fun y=>by unfold ES;rw[hc];rfl
 have hl:Go.Proofs.ltOf (ES cmp)=lt:=by
  rw[hcf];exact funext fun x=>funext fun y=>hlt x y
 have hok:XZ cmp:=⟨fun x y=>by rw[hcf];exact hc x y,by rw[hl];exact h.kit,fun x y h1 h2=>by rw[hl]at h1 h2;exact h.total x y h1 h2⟩
 refine⟨s.mergeSort fun x y=> !lt y x,?_,List.length_mergeSort s,Vo h.own h.total ?_,fun x=>by rw[Z6,List.mem_mergeSort]⟩
 ·unfold yq;rw[Qr ⟨hok,by omega⟩,hl]
 ·refine(List.pairwise_mergeSort (le:=fun x y=> !lt y x) (fun a b c h1 h2=> ?_) (fun a b=> ?_) s).imp fun{a b} hab=>by simpa using hab
  ·simp only[Bool.not_eq_true']at h1 h2 ⊢;exact h.ntrans h2 h1
  ·cases hab:lt a b with
   |false=>simp
   |true=>rw[h.asymm hab];rfl
end
theorem ya:sX fun a b:Int=>decide (a<b):=
 ⟨fun x=>Qh (Int.lt_irrefl x),fun x y z h1 h2=>by simp only[Qi]at*;omega,fun x y h1 h2=>by simp only[Qj]at*;omega⟩
theorem PW:∀{x y z:List UInt8},Op.bytesLess x y=true->Op.bytesLess y z=true->Op.bytesLess x z=true
 |[],[],_,h,_=>by simp[Op.bytesLess]at h
 |_::_,[],_,h,_=>by simp[Op.bytesLess]at h
 |[],_::_,[],_,h=>by simp[Op.bytesLess]at h
 |[],_::_,_::_,_,_=>rfl
 |_::_,_::_,[],_,h=>by simp[Op.bytesLess]at h
 |a::x,b::y,c::z,h,h'=>by
  simp only[Op.bytesLess,Qn,Qi,Qm,beq_iff_eq]at h h' ⊢;rcases h with h|⟨rfl,h⟩
  ·rcases h' with h'|⟨rfl,h'⟩
   ·exact .inl (UInt8.lt_trans h h')
   ·exact .inl h
  ·rcases h' with h'|⟨rfl,h'⟩
   ·exact .inl h'
   ·exact .inr ⟨rfl,PW h h'⟩
theorem Ro{a b c:ByteArray}(h:jM a b=true)(h':jM b c=true):jM a c=true:=PW h h'
theorem Rp{a b:ByteArray}(h:a≠b):jM a b=true\/jM b a=true:=
 PX fun e=>h (by
  rw[Lib.toList_data,Lib.toList_data]at e;cases a;cases b;rename_i x y;cases x;cases y
  simp_all)
theorem wu:sX ji:=by
 refine⟨fun x=>by rw[ji,Qr rfl,Ob],fun x y z h1 h2=> ?_,fun x y h1 h2=> ?_⟩
 ·unfold ji at*
  by_cases e1:x.size=y.size
  ·rw[Qr e1]at h1
   by_cases e2:y.size=z.size
   ·rw[Qr e2]at h2;rw[Qr (e1.trans e2)];exact Ro h1 h2
   ·rw[Qs e2]at h2;rw[Qs (by omega),e1]
    exact h2
  ·rw[Qs e1,Qi]at h1
   by_cases e2:y.size=z.size
   ·rw[Qs (by omega),<-e2]
    exact Qg h1
   ·rw[Qs e2,Qi]at h2;rw[Qs (by omega)]
    exact Qg (by omega)
 ·unfold ji at*
  by_cases e1:x.size=y.size
  ·rw[Qr e1]at h1;rw[Qr e1.symm]at h2;refine Classical.byContradiction fun hne=> ?_
   rcases Rp hne with h|h
   ·rw[h]at h1;cases h1
   ·rw[h]at h2;cases h2
  ·rw[Qs e1,Qj]at h1;rw[Qs (fun e=>e1 e.symm),Qj]at h2
   omega
theorem wv:sX bd:=by
 refine⟨fun x=>by rw[bd,Qr rfl,wu.irrefl],fun x y z h1 h2=> ?_,fun x y h1 h2=> ?_⟩
 ·unfold bd at*
  by_cases e1:x.aj=y.aj
  ·rw[Qr e1]at h1
   by_cases e2:y.aj=z.aj
   ·rw[Qr e2]at h2;rw[Qr (e1.trans e2)];exact wu.trans _ _ _ h1 h2
   ·rw[Qs e2]at h2;rw[Qs (by omega),e1]
    exact h2
  ·rw[Qs e1,Qi]at h1
   by_cases e2:y.aj=z.aj
   ·rw[Qs (by omega),<-e2]
    exact Qg h1
   ·rw[Qs e2,Qi]at h2;rw[Qs (by omega)]
    exact Qg (by omega)
 ·unfold bd at*
  by_cases e1:x.aj=y.aj
  ·rw[Qr e1]at h1;rw[Qr e1.symm]at h2;have:=wu.total _ _ h1 h2;cases x;cases y
   simp_all
  ·rw[Qs e1,Qj]at h1;rw[Qs (fun e=>e1 e.symm),Qj]at h2
   omega
end Go.Proofs.YtkgenianmdfmdaaGreat
namespace Go.Proofs.YtkgenianmdfmdaaGreat
open Go.TQ
structure Kv (n:Nat) (l:List ai):Prop where
 of:∀e∈l,∃i:Nat,i<n/\Kw i 1 n e
 asc:l.Pairwise fun a b=>a.ar<b.ar
 len:l.length<=n
theorem Kv.valid{n:Nat}{l:List ai}(h:Kv n l):∀e∈l,aJ e=true:=fun e he=>by
 obtain⟨i,_,hi⟩:=h.of e he;rw[aJ,Dv hi.aO];exact hi.valid
theorem Kv.sm{n:Nat}{l:List ai}(h:Kv n l)(hn:n<=1000):oq l:=⟨by have:=h.len;omega,fun e he=>by
 obtain⟨i,_,hi⟩:=h.of e he
 exact hi.aO.sm⟩
theorem BJ.mono{l:List bg}{s s' r:Nat}(h:∀k,s.testBit k=true->s'.testBit k=true)(hi:BJ l s r):BJ l s' r:=fun k hk=>⟨h k (hi k hk).1,(hi k hk).2⟩
section
variable {ax : Nat} {t : al} (ht : dK t) {l : List ai} (hl : oq l) {v : ByteArray} {lo hi k : Int} (h1 : lo <= k) (h2 : k <= hi)
 include ht hl h1 h2
end
end Go.Proofs.YtkgenianmdfmdaaGreat
namespace Go.Proofs.YtkgenianmdfmdaaGreat
open Go.TQ
section
variable {α : Type}
 def pH(p:α->Option Bool)(a0:List α)(v1:Int×Unit):Option ((Int×Unit)⊕Int):=
 bif (decide (v1.1<((List.length a0:Nat):Int)))then
  Option.bind (idx a0 v1.1) fun x2=>Option.bind (p x2) fun r3=>bif r3 then Option.map Sum.inr (some v1.1)else some (Sum.inl ((aA .i64 v1.1 (1:Int)),()))
 else Option.map Sum.inr (some (-1:Int))
 def Ve(p:α->Option Bool)(a0:List α):Option Int:=aE (pH p a0) ((0:Int),())
 def Bx(p:α->Option Bool)(z:α)(v2:Int×Int×(List α)×Unit):Option ((Int×Int×(List α)×Unit)⊕List α):=
 bif (decide (v2.2.1<((List.length v2.2.2.1:Nat):Int)))then
  bj (fun(v3:Int×(List α)×Unit)=>some (Sum.inl (v3.1,(aA .i64 v2.2.1 (1:Int)),v3.2.1,()))) fun j4=>
  Option.bind (idx v2.2.2.1 v2.2.1) fun x5=>Option.bind (v2.2.2.1[(Int.toNat v2.2.1)]?) fun x6=>Option.bind (p x6) fun r7=>
  bif (!r7)then
   Option.bind (idx v2.2.2.1 v2.1) fun x8=>Option.bind (v2.2.2.1[(Int.toNat v2.1)]?) fun x9=>j4 ((aA .i64 v2.1 (1:Int)),(v2.2.2.1.set (Int.toNat v2.1) x6),())
  else j4 (v2.1,v2.2.2.1,())
 else
  Option.map Sum.inr (bif cm v2.1 ((List.length v2.2.2.1):Int) (List.length v2.2.2.1)then
   bif cm (0:Int) v2.1 (List.length (v2.2.2.1.take (Int.toNat v2.1)++List.replicate (Int.toNat ((List.length v2.2.2.1):Int) - Int.toNat v2.1) z++v2.2.2.1.drop ((Int.toNat v2.1)+(Int.toNat ((List.length v2.2.2.1):Int) - Int.toNat v2.1))))then
    some ((v2.2.2.1.take (Int.toNat v2.1)++List.replicate (Int.toNat ((List.length v2.2.2.1):Int) - Int.toNat v2.1) z++v2.2.2.1.drop ((Int.toNat v2.1)+(Int.toNat ((List.length v2.2.2.1):Int) - Int.toNat v2.1))).take (Int.toNat v2.1 - Int.toNat (0:Int)))
   else none
  else none)
 def Sp(p:α->Option Bool)(z:α)(s:List α):Option (List α):=
 Option.bind (Ve p s) fun r1=>bif (decide (r1=(-1:Int)))then some s else aE (Bx p z) (r1,(aA .i64 r1 (1:Int)),s,())
theorem AG{q:α->Bool}{s:List α}{j:Nat}{x:α}(h:s[j]?=some x):(s.take (j+1)).filter q=(s.take j).filter q++if q x then[x]else[]:=by
 obtain⟨hl,hx⟩:=Qw.1 h;rw[List.take_succ_eq_append_getElem hl,List.filter_append,hx];congr 1;cases hq:q x<;>simp[hq]
variable {p : α -> Option Bool} {q : α -> Bool} (hp : ∀ x, p x = some (q x)) {z : α}
 include hp
theorem Pj{s:List α}(hs:s.length<1000000000):∀(k i:Nat),i+k=s.length->(s.take i).filter (fun x=> !q x)=s.take i->
  (∃m:Nat,∃x,aE (pH p s) ((i:Int),())=some (m:Int)/\(s.take m).filter (fun x=> !q x)=s.take m/\s[m]?=some x/\q x=true)\/(aE (pH p s) ((i:Int),())=some (-1)/\s.filter (fun x=> !q x)=s)
 |0,i,hi,hf=>by
  have hd:decide ((i:Int)<((s.length:Nat):Int))=false:=Qh (by omega)
  refine .inr ⟨bS ?_,?_⟩
  ·simp only[pH,hd,Ql,Qe]
  ·rwa [show i=s.length by omega,List.take_length]at hf
 |k+1,i,hi,hf=>by
  have hd:decide ((i:Int)<((s.length:Nat):Int))=true:=Qg (by omega)
  have hw:aA .i64 (i:Int) 1=((i+1:Nat):Int):=bM (by omega) (by omega)
  obtain⟨x,hx⟩:∃x,s[i]?=some x:=⟨_,Qv (by omega)⟩
  cases hq:q x with
  |true=>
   refine .inl ⟨i,x,bS ?_,hf,hx,hq⟩;simp only[pH,hd,Qk,bB,hx,Qa,hp,hq,Qe]
  |false=>
   have hstep:aE (pH p s) ((i:Int),())=aE (pH p s) (((i+1:Nat):Int),()):=bl (by simp only[pH,hd,Qk,bB,hx,Qa,hp,hq,Ql,hw])
   rw[hstep];refine Pj hs k (i+1) (by omega) ?_
   rw[AG hx,hf,hq];obtain⟨hl,hx'⟩:=Qw.1 hx;rw[List.take_succ_eq_append_getElem hl,hx'];rfl
theorem HX{s:List α}(hs:s.length<1000000000):∀(r i j:Nat) (d:List α),j+r=s.length->i<j->d.length=s.length->d.take i=(s.take j).filter (fun x=> !q x)->(∀m,j<=m->d[m]?=s[m]?)->
  aE (Bx p z) ((i:Int),(j:Int),d,())=some (s.filter fun x=> !q x)
 |0,i,j,d,hr,hij,hd,ht,hm=>by
  have e2:decide ((j:Int)<((d.length:Nat):Int))=false:=Qh (by omega)
  refine bS ?_
  have e3:∀n,cm (i:Int) (d.length:Int) n=decide (d.length<=n):=by
   intro n;simp only[cm];have h1:decide ((0:Int)<=(i:Int))=true:=Qg (by omega)
   have h2:decide ((i:Int)<=(d.length:Int))=true:=Qg (by omega)
   rw[h1,h2,Bool.and_self,Bool.true_and,decide_eq_decide];omega
  have e4:(d.take i++List.replicate (d.length - i) z++d.drop (i+(d.length - i))).length=d.length:=by simp;omega
  have e5:cm (0:Int) (i:Int) d.length=true:=by
   simp only[cm,Qm,Qi];omega
  have e6:(d.take i++List.replicate (d.length - i) z++d.drop (i+(d.length - i))).take (i - 0)=s.filter fun x=> !q x:=by
   rw[Nat.sub_zero,QL,List.take_append_of_le_length (by simp;omega),List.take_take,Nat.min_self,ht,show j=s.length by omega,List.take_length]
  simp only[Bx,e2,Ql,QV,e3,QI,decide_true,Qk,e4,e5,Int.toNat_zero,e6,Qe]
 |r+1,i,j,d,hr,hij,hd,ht,hm=>by
  have e2:decide ((j:Int)<((d.length:Nat):Int))=true:=Qg (by omega)
  have ej:aA .i64 (j:Int) 1=((j+1:Nat):Int):=bM (by omega) (by omega)
  have ei:aA .i64 (i:Int) 1=((i+1:Nat):Int):=bM (by omega) (by omega)
  obtain⟨x,hx⟩:∃x,s[j]?=some x:=⟨_,Qv (by omega)⟩
  obtain⟨y,hy⟩:∃y,d[i]?=some y:=⟨_,Qv (by omega)⟩
  have hdx:d[j]?=some x:=by rw[hm j (QI _),hx]
  have hstep:=AG (q:=fun x=> !q x) hx
  cases hq:q x with
  |true=>
   rw[hq]at hstep;refine(bl (s':=((i:Int),((j+1:Nat):Int),d,())) ?_).trans (HX hs r i (j+1) d (by omega) (by omega) hd (by rw[hstep,ht];simp) fun m h=>hm m (by omega))
   simp only[Bx,e2,Qk,aW,bB,QV,hdx,Qa,hp,hq,Qo,Ql,ej]
  |false=>
   rw[hq]at hstep;refine(bl (s':=(((i+1:Nat):Int),((j+1:Nat):Int),d.set i x,())) ?_).trans (HX hs r (i+1) (j+1) (d.set i x) (by omega) (by omega) (by rw[QY];exact hd) ?_ fun m h=> ?_)
   ·simp only[Bx,e2,Qk,aW,bB,QV,hdx,hy,Qa,hp,hq,Qp,ej,ei]
   ·rw[hstep,<-ht,List.take_succ_eq_append_getElem (by rw[QY];omega),List.take_set_of_le (QI _)]
    simp
   ·rw[List.getElem?_set,Qs (by omega)]
    exact hm m (by omega)
theorem TP(s:List α)(hs:s.length<1000000000):Sp p z s=some (s.filter fun x=> !q x):=by
 rw[Sp,Ve];rcases Pj hp hs s.length 0 (by omega) (by simp)with⟨m,x,h1,h2,h3,h4⟩|⟨h1,h2⟩
 ·have hm:m<s.length:=(Qw.1 h3).1;have h1':aE (pH p s) ((0:Int),())=some (m:Int):=h1;have e:decide ((m:Int)= -1)=false:=Qh (by omega)
  rw[h1',Qa,e,Ql,show aA .i64 (m:Int) 1=((m+1:Nat):Int)from bM (by omega) (by omega)]
  refine HX hp hs (s.length - (m+1)) m (m+1) s (by omega) (by omega) rfl ?_ fun _ _=>rfl
  rw[AG h3,h2,h4];simp
 ·have h1':aE (pH p s) ((0:Int),())=some (-1):=h1;rw[h1',Qa,h2];rfl
end
theorem CO{α β ρ:Type}(l:List α)(hl:l.length<=1000000)(f:α->List β)(hf:∀x∈l,(f x).length<=3){step:Int×List β×Unit->Option ((Int×List β×Unit)⊕ρ)}{fin:List β->Option ρ}
  (h1:∀(i:Nat) (x:α) (acc:List β),x∈l->decide ((i:Int)<((l.length:Nat):Int))=true->idx l (i:Int)=some x->aA .i64 (i:Int) 1=((i+1:Nat):Int)->(∀bytes n:Nat,bytes<=40->n<=3->acc.length<=3000000->bx bytes (acc.length+n)=true)->acc.length<=3000000->step ((i:Int),acc,())=some (.inl (((i+1:Nat):Int),acc++f x,())))
  (h2:∀acc,decide (((l.length:Nat):Int)<((l.length:Nat):Int))=false->step (((l.length:Nat):Int),acc,())=Option.map Sum.inr (fin acc)):aE step ((0:Int),([]:List β),())=fin (l.flatMap f):=by
 suffices key:∀(k i:Nat) (acc:List β),i+k=l.length->acc=(l.take i).flatMap f->acc.length<=3*i->aE step ((i:Int),acc,())=fin (l.flatMap f)from key l.length 0 [] (by omega) (by simp) (by simp)
 intro k
 induction k with
 |zero=>
  intro i acc hi ha hal;obtain rfl:i=l.length:=by omega
  rw[List.take_length]at ha;rw[ic,h2 acc (Qh (Int.lt_irrefl _)),ha];cases fin (l.flatMap f)<;>rfl
 |succ k ih=>
  intro i acc hi ha hal;have hlt:i<l.length:=by omega
  have hx:l[i]?=some l[i]:=Qv hlt;have:=hf _ (Q0 hlt);refine(bl (h1 i l[i] acc (Q0 hlt) (Qg (by omega)) (by rw[bB];exact hx) (bM (by omega) (by omega)) (fun bytes n hb hn ha=> ?_) (by omega))).trans (ih (i+1) _ (by omega) ?_ (by rw[QB];omega))
  ·simp only[bx,Qm,Qi];exact⟨QK (Nat.mul_le_mul (show acc.length+n<=3000003 by omega) hb) (show 3000003*40<=140737488355328 by decide),QK (show acc.length+n<=3000003 by omega) (by simp[maxLen])⟩
  ·rw[List.take_succ_eq_append_getElem hlt,List.flatMap_append,ha];simp
instance:Inhabited ae:=⟨⟨0,ByteArray.mk #[]⟩⟩
instance:DecidableEq ae:=fun a b=>decidable_of_iff (a.aj=b.aj/\a.Value=b.Value) (by cases a;cases b;simp)
theorem X6(s:List ae)(hs:s.length<1000000000):∃b,dY s=some b/\b.Pairwise (fun x y=>bd y x=true)/\b.length<=s.length/\∀x,x∈b↔x∈s:=by
 obtain⟨t,h1,h2,h3,h4⟩:=wv.flip.V3 (cmp:=k7) (c:=fun x y=>PN y x) (fun x y=>by simp[k7]) (fun x y=>PM y x) s hs
 have hc:=CN (eq:=fun x y:ae=>jH false x.aj y.aj x.Value y.Value) (ne:=fun x y=>jH true x.aj y.aj x.Value y.Value) (z:=ae.mk 0 (ByteArray.mk #[])) (fun x y=>by
  rw[wY,QW];cases x;cases y;simp) (fun x y=>by
  rw[WM];congr 1;rw[QW];cases x;cases y
  simp) t (by omega)
 refine⟨dd t,?_,h3,by have:=PE t;omega,h4⟩
 have h1':eV s=some ((),t):=h1;have hc':gr t=some (dd t):=hc;simp only[dY,h1',hc',Qa]
theorem X4(s:List ByteArray)(hs:s.length<1000000000):∃b,eR s=some b/\b.Pairwise (fun x y=>ji x y=true)/\b.length<=s.length/\∀x,x∈b↔x∈s:=by
 obtain⟨t,h1,h2,h3,h4⟩:=wu.V3 (cmp:=fP) (c:=LB) (fun x y=>xn x y) PK s hs
 have hc:=CN (eq:=fun x y:ByteArray=>decide (x=y)) (ne:=fun x y=> !decide (x=y)) (z:=ByteArray.mk #[]) (fun _ _=>rfl) (fun _ _=>rfl) t (by omega)
 refine⟨dd t,?_,h3,by have:=PE t;omega,h4⟩
 have h1':gK s=some ((),t):=h1;have hc':jz t=some (dd t):=hc;simp only[eR,h1',hc',Qa]
theorem W9(a b:Int):decide (xl a b<0)=decide (a<b):=by rw[decide_eq_decide];exact H4 a b
theorem X5(s:List Int)(hs:s.length<1000000000):∃b,fN s=some b/\b.Pairwise (·<·)/\b.length<=s.length/\∀x,x∈b↔x∈s:=by
 obtain⟨t,h1,h2,h3,h4⟩:=ya.V3 (cmp:=iu) (c:=xl) (fun x y=>CY x y) W9 s hs
 have hc:=CN (eq:=fun x y:Int=>decide (x=y)) (ne:=fun x y=> !decide (x=y)) (z:=0) (fun _ _=>rfl) (fun _ _=>rfl) t (by omega)
 refine⟨dd t,?_,h3.imp fun h=>of_decide_eq_true h,by have:=PE t;omega,h4⟩
 have h1':jy s=some ((),t):=h1;simp only[fN,h1',Qa,WZ,hc]
 def said(e:ai):List ae:=if aJ e then(if e.br=1 then[e.ab,e.ao,e.aw]else if e.br=2 then[e.ao,at_ e 1000000]else[at_ e 1000000])else[]
theorem BW(e:ai):(said e).length<=3:=by
 unfold said;split
 ·split
  ·simp
  ·split<;>simp
 ·simp
theorem qL{α β:Type}(f:α->List β)(hf:∀x,(f x).length<=3):∀l:List α,(l.flatMap f).length<=3*l.length
 |[]=>by simp
 |x::l=>by
  have:=qL f hf l;have:=hf x;rw[List.flatMap_cons,QB,QE];omega
section
variable {l : List ai} (hl : ∀ e ∈ l, dK e.aa) (hlen : l.length <= 1000)
 include hl hlen
theorem Uq:∃b,gu l=some b/\b.Pairwise (fun x y=>bd y x=true)/\b.length<=3000/\∀x,x∈b↔∃e∈l,x∈said e/\aC x=false:=by
 have hd:=TP (p:=bh) (q:=aC) cy (z:=ae.mk 0 (ByteArray.mk #[])) (l.flatMap said) (by have:=qL said BW l;omega)
 obtain⟨b,h1,h2,hbl,h3⟩:=X6 ((l.flatMap said).filter fun x=> !aC x) (by have:=qL said BW l;have:=List.length_filter_le (fun x=> !aC x) (l.flatMap said);omega)
 refine⟨b,?_,h2,by have:=qL said BW l;have:=List.length_filter_le (fun x=> !aC x) (l.flatMap said);omega,fun x=> ?_⟩
 ·unfold gu;refine(CO l (by omega) said (fun e _=>BW e) (fin:=fun acc=>Option.bind (dz acc) fun r8=>Option.bind (dY r8) fun r9=>some r9) (fun i e acc he hd hx hw hok hal=> ?_) (fun acc hd=> ?_)).trans ?_
  ·have o1:=hok 24 3 (by omega) (by omega) hal
   have o2:=hok 24 2 (by omega) (by omega) hal
   have o3:=hok 24 1 (by omega) (by omega) hal
   simp only[hd,hx,hw,Qk,aW,Qa,al.eta,ai.eta,nJ (hl e he),xC,QE,QZ,o1,o2,o3,Nat.zero_add,Nat.reduceAdd];unfold said at_
   cases aJ e<;>by_cases k1:e.br=1<;>by_cases k2:e.br=2<;>simp[k1,k2]
  ·simp only[hd,Ql]
  ·have hd':dz (l.flatMap said)=_:=hd;simp only[hd',h1,Qa]
 ·rw[h3,List.mem_filter,QQ];constructor
  ·rintro⟨⟨e,he,hx⟩,hz⟩;exact⟨e,he,hx,by simpa using hz⟩
  ·rintro⟨e,he,hx,hz⟩;exact⟨⟨e,he,hx⟩,by simpa using hz⟩
theorem VL:∃b,jg l=some b/\b.Pairwise (fun x y=>ji x y=true)/\b.length<=3000/\∀x,x∈b↔∃e∈l,aJ e=true/\x=e.ab.Value:=by
 have hf:∀e:ai,(if aJ e then[e.ab.Value]else[]).length<=3:=fun e=>by split<;>simp
 obtain⟨b,h1,h2,hbl,h3⟩:=X4 (l.flatMap fun e=>if aJ e then[e.ab.Value]else[]) (by have:=qL _ hf l;omega)
 refine⟨b,?_,h2,by have:=qL _ hf l;omega,fun x=> ?_⟩
 ·unfold jg;refine(CO l (by omega) (fun e=>if aJ e then[e.ab.Value]else[]) (fun e _=>hf e) (fin:=fun acc=>Option.bind (eR acc) fun r6=>some r6) (fun i e acc he hd hx hw hok hal=> ?_) (fun acc hd=> ?_)).trans ?_
  ·have o3:=hok 16 1 (by omega) (by omega) hal
   simp only[hd,hx,hw,Qk,aW,Qa,al.eta,ai.eta,nJ (hl e he),QE,QZ,o3,Nat.zero_add];cases aJ e<;>simp
  ·simp only[hd,Ql]
  ·simp only[h1,Qa]
 ·rw[h3,QQ];constructor
  ·rintro⟨e,he,hx⟩;split at hx
   ·rename_i hv;exact⟨e,he,hv,by simpa using hx⟩
   ·cases hx
  ·rintro⟨e,he,hv,hx⟩;exact⟨e,he,by rw[Qr hv];simpa using hx⟩
theorem Up(v:ByteArray):∃b,eU l v=some b/\b.Pairwise (·<·)/\b.length<=3000/\∀x,x∈b↔x∈ends v l:=by
 have hf:∀e:ai,(if gm v e then[e.aI,e.aQ]else[]).length<=3:=fun e=>by split<;>simp
 obtain⟨b,h1,h2,hbl,h3⟩:=X5 (ends v l) (by have:=qL _ hf l;unfold ends;omega)
 refine⟨b,?_,h2,by have:=qL _ hf l;unfold ends at hbl;omega,h3⟩
 unfold eU;refine(CO l (by omega) (fun e=>if gm v e then[e.aI,e.aQ]else[]) (fun e _=>hf e) (fin:=fun acc=>Option.bind (fN acc) fun r6=>some r6) (fun i e acc he hd hx hw hok hal=> ?_) (fun acc hd=> ?_)).trans ?_
 ·have o3:=hok 8 2 (by omega) (by omega) hal
  simp only[hd,hx,hw,Qk,aW,Qa,al.eta,ai.eta,nJ (hl e he),QE,QZ,o3,Nat.zero_add,Nat.reduceAdd];unfold gm;cases aJ e<;>cases decide (e.ab.Value=v)<;>cases decide (e.aI=0)<;>simp
 ·simp only[hd,Ql]
 ·exact(congrArg (fun o=>Option.bind o fun r6=>some r6) h1)
end
end Go.Proofs.YtkgenianmdfmdaaGreat
namespace Go.Proofs.YtkgenianmdfmdaaGreat
open Go.TQ
theorem YH{e:ai}(hv:aJ e=true):e.br=1/\0<=e.aI/\e.aI<=e.aQ\/e.br≠1/\1<=e.aI/\e.aI<=e.aQ:=by
 unfold aJ fo at hv;rw[Qm]at hv;have h:=hv.2
 by_cases k1:e.br=1
 ·rw[Qr k1]at h;simp only[fL,Qm,Qi]at h;omega
 ·rw[Qs k1]at h
  by_cases k2:e.br=2
  ·rw[Qr k2]at h;simp only[qP,pk,Qm,Qi]at h;omega
  ·rw[Qs k2]at h
   by_cases k3:e.br=3
   ·rw[Qr k3]at h;simp only[wG,pk,Qm,Qi]at h;omega
   ·rw[Qs k3]at h;cases h
end Go.Proofs.YtkgenianmdfmdaaGreat
namespace Go.Proofs.YtkgenianmdfmdaaGreat
open Go.TQ
def vA:ae:=⟨0,eZ⟩
theorem xV{α τ:Type}(l:List α)(hl:l.length<=1000000)(mk:Int->τ)(P:α->Bool)(z:α){step:τ->Option (τ⊕α)}
  (h1:∀(i:Nat) (x:α),decide ((i:Int)<((l.length:Nat):Int))=true->idx l (i:Int)=some x->aA .i64 (i:Int) 1=((i+1:Nat):Int)->step (mk (i:Int))=some (bif P x then .inr x else .inl (mk ((i+1:Nat):Int))))
  (h2:decide (((l.length:Nat):Int)<((l.length:Nat):Int))=false->step (mk ((l.length:Nat):Int))=some (.inr z)):aE step (mk 0)=some ((l.find? P).getD z):=by
 suffices key:∀(k i:Nat),i+k=l.length->aE step (mk (i:Int))=some (((l.drop i).find? P).getD z)from key l.length 0 (by omega)
 intro k
 induction k with
 |zero=>
  intro i hi;obtain rfl:i=l.length:=by omega
  rw[bS (h2 (Qh (Int.lt_irrefl _))),List.drop_length];rfl
 |succ k ih=>
  intro i hi;have hlt:i<l.length:=by omega
  have hs:=h1 i l[i] (Qg (by omega)) (by rw[bB];exact Qv hlt) (bM (by omega) (by omega))
  rw[QM hlt,List.find?_cons]
  cases hP:P l[i]with
  |true=>rw[hP]at hs;rw[bS hs];rfl
  |false=>rw[hP]at hs;rw[bl hs];exact ih (i+1) (by omega)
 def dQ(l:List ai):List ae:=(gu l).getD []
section
variable {l : List ai} (hl : ∀ e ∈ l, dK e.aa) (hlen : l.length <= 1000)
 include hl hlen
theorem kp:gu l=some (dQ l)/\(dQ l).Pairwise (fun x y=>bd y x=true)/\(dQ l).length<=3000/\∀x,x∈dQ l↔∃e∈l,x∈said e/\aC x=false:=by
 obtain⟨b,h1,h2,h3,h4⟩:=Uq hl hlen;have:dQ l=b:=by rw[dQ,h1];rfl
 rw[this];exact⟨h1,h2,h3,h4⟩
end
def oi(b:ae):ae:=if 1000<=b.aj then⟨1000000,b.Value⟩else b
theorem J2(b:ae):ik b=some (oi b):=by
 unfold ik oi;simp only[aW,BE,yR]
section
variable {ax : Nat} (hn : ax < 10) {t : al} (ht : dK t) {l : List ai} (hl : oq l)
 include hn ht hl
end
theorem OC{e:ai}(h:dK e.aa)(b:ae):ku e b=some (aJ e&&cF e b):=by
 simp only[ku,al.eta,ai.eta,iy h,Qa,dj,fu,pR]
 cases hv:aJ e with
 |false=>simp
 |true=>
  cases hz:aC b with
  |true=>simp[cF,hz]
  |false=>
   by_cases k1:e.br=1
   ·simp[cF,hz,k1]
   ·by_cases k3:e.br=3
    ·simp[cF,hz,k3]
    ·by_cases k2:e.br=2
     ·have hp:aC e.aw=true:=by
       unfold aJ fo at hv;rw[Qm,Qs k1,Qr k2]at hv;simp only[qP,Qm]at hv;exact hv.2.1.1.2
      simp[cF,hz,k2,du,gY,hp]
     ·unfold aJ fo at hv;rw[Qs k1,Qs k2,Qs k3]at hv;simp at hv
end Go.Proofs.YtkgenianmdfmdaaGreat
namespace Go.Proofs.YtkgenianmdfmdaaGreat
open Go.TQ
 def eY(l:List ai):List ByteArray:=(jg l).getD []
 def aY(l:List ai)(v:ByteArray):List Int:=(eU l v).getD []
section
variable {l : List ai} (hl : ∀ e ∈ l, dK e.aa) (hlen : l.length <= 1000)
 include hl hlen
theorem mV:jg l=some (eY l)/\(eY l).Pairwise (fun x y=>ji x y=true)/\(eY l).length<=3000/\∀x,x∈eY l↔∃e∈l,aJ e=true/\x=e.ab.Value:=by
 obtain⟨b,h1,h2,h3,h4⟩:=VL hl hlen;have:eY l=b:=by rw[eY,h1];rfl
 rw[this];exact⟨h1,h2,h3,h4⟩
theorem gz(v:ByteArray):eU l v=some (aY l v)/\(aY l v).Pairwise (·<·)/\(aY l v).length<=3000/\∀x,x∈aY l v↔x∈ends v l:=by
 obtain⟨b,h1,h2,h3,h4⟩:=Up hl hlen v;have:aY l v=b:=by rw[aY,h1];rfl
 rw[this];exact⟨h1,h2,h3,h4⟩
end
theorem z6{l:List ai}(hl:oq l)(hlen:l.length<=1000)(v:ByteArray):∀x∈aY l v,1<=x/\x<=1000:=by
 obtain⟨_,_,_,h⟩:=gz hl.aO hlen v;intro x hx;obtain⟨e,he,hb,hy⟩:=vS.1 ((h x).1 hx);simp only[gm,Qm,Bool.not_eq_true',Qj]at hb;have hv:=hb.1.1;have h0:=hb.2;unfold aJ fo at hv;rw[Qm]at hv;have hv:=hv.2
 by_cases k1:e.br=1
 ·rw[Qr k1]at hv;simp only[fL,finite,Qm,Qi]at hv;omega
 ·rw[Qs k1]at hv
  by_cases k2:e.br=2
  ·rw[Qr k2]at hv;simp only[qP,pk,Qm,Qi]at hv;omega
  ·rw[Qs k2]at hv
   by_cases k3:e.br=3
   ·rw[Qr k3]at hv;simp only[wG,pk,Qm,Qi]at hv;omega
   ·rw[Qs k3]at hv;cases hv
theorem JX{α A B ρ:Type}(l:List α)(hl:l.length<=1000000)(f:A×B->α->A×B){step:A×Int×B×Unit->Option ((A×Int×B×Unit)⊕ρ)}{fin:A×B->Option ρ}
  (h1:∀(i:Nat) (x:α) (a:A) (b:B),x∈l->decide ((i:Int)<((l.length:Nat):Int))=true->idx l (i:Int)=some x->aA .i64 (i:Int) 1=((i+1:Nat):Int)->step (a,(i:Int),b,())=some (.inl ((f (a,b) x).1,((i+1:Nat):Int),(f (a,b) x).2,())))
  (h2:∀a b,decide (((l.length:Nat):Int)<((l.length:Nat):Int))=false->step (a,((l.length:Nat):Int),b,())=Option.map Sum.inr (fin (a,b))) (a:A) (b:B):aE step (a,(0:Int),b,())=fin (l.foldl f (a,b)):=by
 suffices key:∀(k i:Nat) (a:A) (b:B),i+k=l.length->aE step (a,(i:Int),b,())=fin ((l.drop i).foldl f (a,b))from key l.length 0 a b (by omega)
 intro k
 induction k with
 |zero=>
  intro i a b hi;obtain rfl:i=l.length:=by omega
  rw[ic,h2 a b (Qh (Int.lt_irrefl _)),List.drop_length,List.foldl_nil];cases fin (a,b)<;>rfl
 |succ k ih=>
  intro i a b hi;have hlt:i<l.length:=by omega
  rw[bl (h1 i l[i] a b (Q0 hlt) (Qg (by omega)) (by rw[bB];exact Qv hlt) (bM (by omega) (by omega))),ih (i+1) _ _ (by omega),QM hlt,QU]
def kG(p q:ae)(v:ByteArray)(n:Int):Bool:=dJ p ⟨n,v⟩||dJ q ⟨n,v⟩
theorem Kt(v:ByteArray)(n:Int)(p q:ae):mA v n p q=some (kG p q v n):=by
 simp only[mA,pU,Qa,jw,Bool.cond_true_left,kG]
 def AI(b:List Int)(ready:Int->Int->Bool)(low bH:Int):Int×Int:=
 match b.reverse.find? (fun n=>decide (bH<n)&&ready n n)with
 |none=>(cg (fun x=>ready x bH) b.reverse low,bH)
 |some n=>
  let bottom:=cg (fun x=>ready x n) b.reverse n
  (cg (fun x=>ready x n) b.reverse (if bH<bottom - 1\/bottom<low then bottom else low),n)
 def yk(S:fF)(b:List Int)(v:ByteArray)(m8:Nat)(e9:Int)(v7:Int×Int×Unit):Option ((Int×Int×Unit)⊕(Int×Int×Unit)):=
 Option.bind (bif (decide (e9<=v7.2.1))then some true else Option.bind (gg S v e9 e9) fun r10=>some (!r10)) fun b11=>
 bif b11 then some (Sum.inl (v7.1,v7.2.1,()))else
 Option.bind (iS b e9 S v e9) fun r12=>
 bj (fun(v13:Int×Unit)=>Option.map Sum.inr (Option.bind (gi b v13.1 S v e9) fun r5=>some (r5,e9,()))) fun j14=>
 Option.bind (bif (decide (v7.2.1<(de .i64 r12 (1:Int))))then some true else some (decide (r12<v7.1))) fun b15=>
 bif b15 then j14 (r12,())else j14 (v7.1,())
 def Vj(S:fF)(b:List Int)(v:ByteArray)(v16:Int×Int×Unit):Option (Int×Int×Unit):=Option.bind (gi b v16.1 S v v16.2.1) fun r5=>some (r5,v16.2.1,())
section
variable {ax : Nat} (hn : ax < 10) {t : al} (ht : dK t) {l : List ai} (hl : oq l)
 include hn ht hl
end
end Go.Proofs.YtkgenianmdfmdaaGreat
namespace Go.Proofs.YtkgenianmdfmdaaGreat
open Go.TQ
section
variable {α : Type} [DecidableEq α] {lt : α -> α -> Bool}
def eu(lt:α->α->Bool)(x:α):List α->List α
 |[]=>[x]
 |y::l=>if lt y x then y::eu lt x l else if y=x then y::l else x::y::l
theorem HB(x:α):∀(l:List α) (z:α),z∈eu lt x l↔z=x\/z∈l
 |[],z=>by simp[eu]
 |y::l,z=>by
  rw[eu];split
  ·rw[QA,HB x l z,QA];constructor
   ·rintro(h|h|h)
    ·exact .inr (.inl h)
    ·exact .inl h
    ·exact .inr (.inr h)
   ·rintro(h|h|h)
    ·exact .inr (.inl h)
    ·exact .inl h
    ·exact .inr (.inr h)
  ·split
   ·rename_i h;rw[QA];constructor
    ·exact .inr
    ·rintro(h1|h1)
     ·exact .inl (h1.trans h.symm)
     ·exact h1
   ·rw[QA]
theorem sX.eu(h:sX lt)(x:α):∀{l:List α},l.Pairwise (fun a b=>lt a b=true)->(Go.Proofs.YtkgenianmdfmdaaGreat.eu lt x l).Pairwise (fun a b=>lt a b=true)
 |[],_=>by rw[Go.Proofs.YtkgenianmdfmdaaGreat.eu];exact List.pairwise_singleton _ _
 |y::l,hp=>by
  rw[Q4]at hp;rw[Go.Proofs.YtkgenianmdfmdaaGreat.eu];split
  ·rename_i hy;rw[Q4];refine⟨fun z hz=> ?_,h.eu x hp.2⟩
   rcases(HB x l z).1 hz with rfl|hz
   ·exact hy
   ·exact hp.1 z hz
  ·rename_i hy;split
   ·exact Q4.2 hp
   ·rename_i hne
    have hxy:lt x y=true:=by
     cases hc:lt x y with
     |true=>rfl
     |false=>exact absurd (h.total y x (by simpa using hy) hc) hne
    rw[Q4,Q4];refine⟨fun z hz=> ?_,hp⟩
    rcases QA.1 hz with rfl|hz
    ·exact hxy
    ·exact h.trans _ _ _ hxy (hp.1 z hz)
theorem vZ(x:α):∀l:List α,(eu lt x l).length<=l.length+1
 |[]=>by simp[eu]
 |y::l=>by
  have:=vZ x l;rw[eu];split
  ·simp;omega
  ·split<;>simp
theorem Sk(x:α):∀(l:List α) (i:Nat),(∀j,j<i->∃y,l[j]?=some y/\lt y x=true)->(∀y,l[i]?=some y->lt y x=false)->eu lt x l=if l[i]?=some x then l else l.take i++x::l.drop i
 |[],i,h1,h2=>by
  cases i with
  |zero=>simp[eu]
  |succ i=>obtain⟨y,hy,_⟩:=h1 0 (by omega);simp at hy
 |y::l,i,h1,h2=>by
  cases i with
  |zero=>
   have hy:=h2 y rfl;rw[eu,hy,Qs (by simp)]
   by_cases h:y=x
   ·simp[h]
   ·simp[h]
  |succ i=>
   obtain⟨y',hy',hlt⟩:=h1 0 (by omega)
   simp only[List.getElem?_cons_zero,Qf]at hy';subst hy'
   rw[eu,Qr hlt,Sk x l i (fun j hj=>by
    obtain⟨z,hz,h⟩:=h1 (j+1) (by omega)
    exact⟨z,by simpa using hz,h⟩) (fun z hz=>h2 z (by simpa using hz))]
   simp only[List.getElem?_cons_succ,List.take_succ_cons,List.drop_succ_cons];split<;>simp
theorem yS(h:sX lt):∀(xs l:List α),l.Pairwise (fun a b=>lt a b=true)->(xs.foldl (fun l x=>eu lt x l) l).Pairwise (fun a b=>lt a b=true)/\∀z,z∈xs.foldl (fun l x=>eu lt x l) l↔z∈xs\/z∈l
 |[],l,hp=>⟨hp,by simp⟩
 |x::xs,l,hp=>by
  obtain⟨h1,h2⟩:=yS h xs _ (h.eu x hp);rw[QU];refine⟨h1,fun z=> ?_⟩
  rw[h2,HB,QA];constructor
  ·rintro(a|a|a)
   ·exact .inl (.inr a)
   ·exact .inl (.inl a)
   ·exact .inr a
  ·rintro((a|a)|a)
   ·exact .inr (.inl a)
   ·exact .inl a
   ·exact .inr (.inr a)
end
theorem rj{α:Type}(l:List α)(i:Nat):(l.take (Int.toNat (i:Int))).drop (Int.toNat (0:Int))=l.take i:=by simp
theorem vJ{α:Type}(l:List α)(i:Nat):(l.take (Int.toNat ((l.length:Nat):Int))).drop (Int.toNat (i:Int))=l.drop i:=by simp
theorem AV{i n:Nat}(h:i<=n):cm (0:Int) (i:Int) n=true:=by
 simp only[cm,Qm,Qi];omega
theorem AW{i n:Nat}(h:i<=n):cm (i:Int) (n:Int) n=true:=by
 simp only[cm,Qm,Qi];omega
theorem gJ{bytes n:Nat}(h:bytes<=200)(hn:n<=1000000):bx bytes n=true:=
 bZ ⟨QK (Nat.mul_le_mul hn h) (by decide),hn⟩
theorem VU{α ρ:Type}(l:List α)(hl:l.length<=1000000)(P:α->Bool){step:Int×Unit->Option ((Int×Unit)⊕ρ)}{r:Nat->Option ρ}
  (h1:∀(i:Nat) (y:α),l[i]?=some y->decide ((i:Int)<((l.length:Nat):Int))=true->idx l (i:Int)=some y->P y=true->aA .i64 (i:Int) 1=((i+1:Nat):Int)->step ((i:Int),())=some (.inl (((i+1:Nat):Int),())))
  (h2:∀(i:Nat) (y:α),l[i]?=some y->decide ((i:Int)<((l.length:Nat):Int))=true->idx l (i:Int)=some y->P y=false->step ((i:Int),())=Option.map Sum.inr (r i))
  (h3:decide (((l.length:Nat):Int)<((l.length:Nat):Int))=false->step (((l.length:Nat):Int),())=Option.map Sum.inr (r l.length)):
  ∃i,i<=l.length/\(∀j,j<i->∃y,l[j]?=some y/\P y=true)/\(∀y,l[i]?=some y->P y=false)/\aE step ((0:Int),())=r i:=by
 suffices key:∀(k i:Nat),i+k=l.length->(∀j,j<i->∃y,l[j]?=some y/\P y=true)->∃m,m<=l.length/\(∀j,j<m->∃y,l[j]?=some y/\P y=true)/\(∀y,l[m]?=some y->P y=false)/\aE step ((i:Int),())=r m from key l.length 0 (by omega) (fun j hj=>absurd hj (Nat.not_lt_zero _))
 intro k
 induction k with
 |zero=>
  intro i hi hj;obtain rfl:i=l.length:=by omega
  refine⟨l.length,QI _,hj,fun y hy=>by simp at hy,?_⟩
  rw[ic,h3 (Qh (Int.lt_irrefl _))];cases r l.length<;>rfl
 |succ k ih=>
  intro i hi hj;have hx:l[i]?=some l[i]:=Qv (by omega)
  have hd:decide ((i:Int)<((l.length:Nat):Int))=true:=Qg (by omega)
  cases hP:P l[i]with
  |true=>
   rw[bl (h1 i _ hx hd (by rw[bB];exact hx) hP (bM (by omega) (by omega)))]
   refine ih (i+1) (by omega) fun j hj'=> ?_
   rcases Nat.lt_or_ge j i with h|h
   ·exact hj j h
   ·obtain rfl:j=i:=by omega
    exact⟨_,hx,hP⟩
  |false=>
   refine⟨i,by omega,hj,fun y hy=> ?_,?_⟩
   ·rw[hx]at hy;injection hy with hy
    rw[<-hy];exact hP
   ·rw[ic,h2 i _ hx hd (by rw[bB];exact hx) hP]
    cases r i<;>rfl
theorem Ez{α ρ:Type}[DecidableEq α]{lt:α->α->Bool}(l:List α)(hl:l.length<=1000000)(x:α){step:Int×Unit->Option ((Int×Unit)⊕ρ)}{k:List α->Option ρ}
  (h1:∀(i:Nat) (y:α),decide ((i:Int)<((l.length:Nat):Int))=true->idx l (i:Int)=some y->lt y x=true->aA .i64 (i:Int) 1=((i+1:Nat):Int)->step ((i:Int),())=some (.inl (((i+1:Nat):Int),())))
  (h2:∀(i:Nat) (y:α),i<l.length->decide ((i:Int)<((l.length:Nat):Int))=true->decide ((i:Int)=((l.length:Nat):Int))=false->idx l (i:Int)=some y->lt y x=false->step ((i:Int),())=Option.map Sum.inr (k (if y=x then l else l.take i++x::l.drop i)))
  (h3:decide (((l.length:Nat):Int)<((l.length:Nat):Int))=false->decide (((l.length:Nat):Int)=((l.length:Nat):Int))=true->step (((l.length:Nat):Int),())=Option.map Sum.inr (k (l++[x]))):aE step ((0:Int),())=k (eu lt x l):=by
 obtain⟨i,hi,g1,g2,g3⟩:=VU l hl (fun y=>lt y x) (step:=step) (r:=fun i=>k (if l[i]?=some x then l else l.take i++x::l.drop i)) (fun i y hy hd hx hP hw=>h1 i y hd hx hP hw) (fun i y hy hd hx hP=>by
   have hlt:=(Qw.1 hy).1;rw[h2 i y hlt hd (Qh (by omega)) hx hP,hy]
   by_cases hyx:y=x
   ·simp[hyx]
   ·have:¬(some y=some x):=fun h=>hyx (by injection h)
    rw[Qs hyx,Qs this]) (fun hd=>by
   rw[h3 hd (Qg rfl),Qs (by simp),List.take_length,List.drop_length])
 rw[g3,Sk x l i g1 g2]
theorem YN(l:List ae)(hl:l.length<=900000)(b:ae):qX l b=some (if aC b then l else eu (fun x y=>bd y x) b l):=by
 unfold qX;rw[dj,Qa]
 cases hz:aC b with
 |true=>rfl
 |false=>
  simp only[Ql,aW]
  have he:∀y:ae,(decide (y.aj=b.aj)&&decide (y.Value=b.Value))=decide (y=b):=fun y=>by
   rw[QW];cases y;cases b;simp
  refine Ez (lt:=fun x y=>bd y x) l (by omega) b (k:=fun t=>some t) (fun i y hd hx hlt hw=> ?_) (fun i y hi hd hde hx hlt=> ?_) (fun hd hde=> ?_)
  ·simp only[hd,hx,hw,Qk,Qa,iD,hlt]
  ·have e1:=rj l i;have e2:=vJ l i;simp only[hd,hx,Qk,Qa,iD,hlt,Ql,wY,e1,e2,AV (show i<=l.length by omega),AW (show i<=l.length by omega),he]
   rw[gJ (by omega) (by simp;omega),gJ (by omega) (by simp;omega),gJ (by omega) (by simp;omega)]
   by_cases hyb:y=b<;>simp[hyb]
  ·have e1:=rj l l.length;have e2:=vJ l l.length;simp only[hd,Ql,e1,e2,AV (QI l.length),AW (QI l.length),Qk];rw[gJ (by omega) (by simp;omega),gJ (by omega) (by simp;omega),gJ (by omega) (by simp;omega)]
   simp
theorem zW{α σ ρ:Type}(l:List α)(hl:l.length<=1000000)(f:σ->α->σ)(Inv:Nat->σ->Prop){step:σ×Int×Unit->Option ((σ×Int×Unit)⊕ρ)}{fin:σ->Option ρ}
  (hI:∀i s x,x∈l->Inv i s->Inv (i+1) (f s x))
  (h1:∀(i:Nat) (x:α) (s:σ),Inv i s->i<=l.length->x∈l->decide ((i:Int)<((l.length:Nat):Int))=true->idx l (i:Int)=some x->aA .i64 (i:Int) 1=((i+1:Nat):Int)->step (s,(i:Int),())=some (.inl (f s x,((i+1:Nat):Int),())))
  (h2:∀s,decide (((l.length:Nat):Int)<((l.length:Nat):Int))=false->step (s,((l.length:Nat):Int),())=Option.map Sum.inr (fin s)) (s:σ) (hs:Inv 0 s):aE step (s,(0:Int),())=fin (l.foldl f s):=by
 suffices key:∀(k i:Nat) (s:σ),i+k=l.length->Inv i s->aE step (s,(i:Int),())=fin ((l.drop i).foldl f s)from key l.length 0 s (by omega) hs
 intro k
 induction k with
 |zero=>
  intro i s hi hs;obtain rfl:i=l.length:=by omega
  rw[ic,h2 s (Qh (Int.lt_irrefl _)),List.drop_length,List.foldl_nil];cases fin s<;>rfl
 |succ k ih=>
  intro i s hi hs;have hlt:i<l.length:=by omega
  rw[bl (h1 i l[i] s hs (by omega) (Q0 hlt) (Qg (by omega)) (by rw[bB];exact Qv hlt) (bM (by omega) (by omega))),ih (i+1) _ (by omega) (hI i s _ (Q0 hlt) hs),QM hlt,QU]
 def pW(e:ai):List ae:=if aJ e then(if e.br=1 then[e.ab,e.ao,e.aw]else[e.ao,at_ e 1000000])else[]
theorem IW{e:ai}{x:ae}(hz:aC x=false):x∈pW e↔x∈said e:=by
 unfold pW said
 cases hv:aJ e with
 |false=>simp
 |true=>
  by_cases k1:e.br=1
  ·simp[k1]
  ·by_cases k2:e.br=2
   ·simp[k2]
   ·have hp:aC e.ao=true:=by
     unfold aJ fo at hv;rw[Qm,Qs k1,Qs k2]at hv;have h:=hv.2
     by_cases k3:e.br=3
     ·rw[Qr k3]at h;simp only[wG,Qm]at h;exact h.1.1.2
     ·rw[Qs k3]at h;cases h
    simp only[Qt,k1,k2,Qu,QA,QR,or_false];constructor
    ·rintro(h|h)
     ·rw[h,hp]at hz;cases hz
     ·exact h
    ·exact .inr
def rG(l:List ae)(b:ae):List ae:=if aC b then l else eu (fun x y=>bd y x) b l
theorem GF:∀(xs l:List ae),xs.foldl rG l=(xs.filter fun b=> !aC b).foldl (fun l x=>eu (fun x y=>bd y x) x l) l
 |[],l=>rfl
 |x::xs,l=>by
  rw[QU,GF xs,List.filter_cons];cases hz:aC x<;>simp[rG,hz]
theorem MC(l:List ae)(b:ae):(rG l b).length<=l.length+1:=by
 unfold rG;split
 ·omega
 ·exact vZ b l
section
variable {l : List ai} (hl : ∀ e ∈ l, dK e.aa) (hlen : l.length <= 1000)
 include hl hlen
theorem Gw:kW l=some (dQ l):=by
 have hfold:∀xs:List ae,xs.length<=3->∀s:List ae,(xs.foldl rG s).length<=s.length+xs.length:=by
  intro xs _
  induction xs with
  |nil=>intro s;simp
  |cons x xs ih=>
   intro s;have:=ih (by simp at*;omega) (rG s x)
   have:=MC s x;rw[QU,QE];omega
 have hr3:∀e,(pW e).length<=3:=fun e=>by
  unfold pW;split
  ·split<;>simp
  ·simp
 have hF:kW l=some (l.foldl (fun s e=>(pW e).foldl rG s) []):=by
  unfold kW;refine zW l (by omega) (fun s e=>(pW e).foldl rG s) (fun i s=>s.length<=3*i) (fin:=fun s=>some s) (fun i s x _ hs=> ?_) (fun i e s hs hi he hd hx hw=> ?_) (fun s hd=> ?_) [] (by simp)
  ·have:=hfold (pW x) (hr3 x) s;have:=hr3 x;show(List.foldl rG s (pW x)).length<=3*(i+1);omega
  ·simp only[hd,hx,hw,Qk,aW,Qa,al.eta,ai.eta,iy (hl e he)]
   have inner:∀L:List ae,L.length<=3->aE (fun(v8:(List ae)×Int×Unit)=>
     bif (decide (v8.2.1<((List.length L:Nat):Int)))then Option.bind (idx L v8.2.1) fun x9=>Option.bind (qX v8.1 x9) fun r10=>some (Sum.inl (r10,(aA .i64 v8.2.1 (1:Int)),()))
     else Option.map Sum.inr (some (Sum.inl (v8.1,((i+1:Nat):Int),()):((List ae)×Int×Unit)⊕(List ae)))) (s,(0:Int),())=some (Sum.inl (L.foldl rG s,((i+1:Nat):Int),())):=by
    intro L hL;refine zW L (by omega) rG (fun k t=>t.length<=s.length+k) (fin:=fun t=>some (Sum.inl (t,((i+1:Nat):Int),()))) (fun k t x _ ht=> ?_) (fun k x t ht hk hx' hd' hxx hw'=> ?_) (fun t hd'=> ?_) s (by simp)
    ·have:=MC t x;omega
    ·simp only[hd',hxx,hw',Qk,Qa,YN t (by omega)]
     rfl
    ·simp only[hd',Ql]
   cases hv:aJ e with
   |false=>simp[pW,hv]
   |true=>
    by_cases k1:e.br=1
    ·have i3:=inner [e.ab,e.ao,e.aw] (by simp)
     simp only[Qo,Ql,k1,decide_true,i3,pW,hv,Qt]
    ·have i2:=inner [e.ao,⟨1000000,e.ab.Value⟩] (by simp)
     simp only[Qo,Qp,Ql,Qk,k1,decide_false,i2,pW,hv,Qt,Qu,at_]
  ·simp only[hd,Ql]
 obtain⟨_,h2,_,h4⟩:=kp hl hlen;have hflat:l.foldl (fun s e=>(pW e).foldl rG s) []=(l.flatMap pW).foldl rG []:=by rw[List.foldl_flatMap]
 rw[hF,hflat,GF];obtain⟨h5,h6⟩:=yS wv.flip ((l.flatMap pW).filter fun b=> !aC b) [] .nil
 congr 1;refine wv.flip.unique h5 h2 fun x=> ?_
 rw[h6,h4];simp only[List.mem_filter,QQ,QR,or_false,Bool.not_eq_true'];constructor
 ·rintro⟨⟨e,he,hx⟩,hz⟩;exact⟨e,he,(IW hz).1 hx,hz⟩
 ·rintro⟨e,he,hx,hz⟩;exact⟨⟨e,he,(IW hz).2 hx⟩,hz⟩
end
section
variable {l : List ai} (hl : ∀ e ∈ l, dK e.aa) (hlen : l.length <= 1000)
 include hl hlen
theorem Tn:ow l=some (eY l):=by
 have hF:ow l=some (l.foldl (fun s e=>if aJ e then eu ji e.ab.Value s else s) []):=by
  unfold ow;refine zW l (by omega) (fun s e=>if aJ e then eu ji e.ab.Value s else s) (fun i s=>s.length<=i) (fin:=fun s=>some s) (fun i s x _ hs=> ?_) (fun i e s hs hi he hd hx hw=> ?_) (fun s hd=> ?_) [] (by simp)
  ·show(if aJ x then eu ji x.ab.Value s else s).length<=i+1
   have:=vZ (lt:=ji) x.ab.Value s;split<;>omega
  ·simp only[hd,hx,hw,Qk,aW,Qa,al.eta,ai.eta,iy (hl e he)]
   cases hv:aJ e with
   |false=>simp
   |true=>
    simp only[Qo,Ql,Qt];refine Ez (lt:=ji) s (by omega) e.ab.Value (k:=fun t=>some (Sum.inl (t,((i+1:Nat):Int),()))) (fun j y hd' hx' hlt hw'=> ?_) (fun j y hj hd' hde hx' hlt=> ?_) (fun hd' hde=> ?_)
    ·simp only[hd',hx',hw',Qk,Qa,vl,hlt]
    ·have e1:=rj s j;have e2:=vJ s j;simp only[hd',hx',hde,Qk,Ql,Qa,vl,hlt,e1,e2,AV (show j<=s.length by omega),AW (show j<=s.length by omega)]
     rw[gJ (by omega) (by simp;omega),gJ (by omega) (by simp;omega),gJ (by omega) (by simp;omega)]
     by_cases hyx:y=e.ab.Value<;>simp[hyx]
    ·have e1:=rj s s.length;have e2:=vJ s s.length;simp only[hd',hde,Qk,Ql,e1,e2,AV (QI s.length),AW (QI s.length)];rw[gJ (by omega) (by simp;omega),gJ (by omega) (by simp;omega),gJ (by omega) (by simp;omega)]
     simp
  ·simp only[hd,Ql]
 obtain⟨_,h2,_,h4⟩:=mV hl hlen
 have hflat:l.foldl (fun s e=>if aJ e then eu ji e.ab.Value s else s) []=(l.flatMap fun e=>if aJ e then[e.ab.Value]else[]).foldl (fun l x=>eu ji x l) []:=by
  rw[List.foldl_flatMap];congr 1
  funext s e
  split<;>rfl
 rw[hF,hflat];obtain⟨h5,h6⟩:=yS wu (l.flatMap fun e=>if aJ e then[e.ab.Value]else[]) [] .nil
 congr 1;refine wu.unique h5 h2 fun x=> ?_
 rw[h6,h4];simp only[QQ,QR,or_false];constructor
 ·rintro⟨e,he,hx⟩;split at hx
  ·rename_i hv;exact⟨e,he,hv,by simpa using hx⟩
  ·cases hx
 ·rintro⟨e,he,hv,hx⟩;exact⟨e,he,by rw[Qr hv];simpa using hx⟩
theorem uP(v:ByteArray):gW l v=some (aY l v):=by
 have hF:gW l v=some (l.foldl (fun s e=>if gm v e then eu (fun a b=>decide (a<b)) e.aQ (eu (fun a b=>decide (a<b)) e.aI s)else s) []):=by
  unfold gW;refine zW l (by omega) (fun s e=>if gm v e then eu (fun a b=>decide (a<b)) e.aQ (eu (fun a b=>decide (a<b)) e.aI s)else s) (fun i s=>s.length<=2*i) (fin:=fun s=>some s) (fun i s x _ hs=> ?_) (fun i e s hs hi he hd hx hw=> ?_) (fun s hd=> ?_) [] (by simp)
  ·show(if gm v x then eu (fun a b=>decide (a<b)) x.aQ (eu (fun a b=>decide (a<b)) x.aI s)else s).length<=2*(i+1)
   have h1:=vZ (lt:=fun a b:Int=>decide (a<b)) x.aI s
   have h2:=vZ (lt:=fun a b:Int=>decide (a<b)) x.aQ (eu (fun a b=>decide (a<b)) x.aI s)
   split<;>omega
  ·simp only[hd,hx,hw,Qk,aW,Qa,al.eta,ai.eta,iy (hl e he)]
   have inner:∀(t:List Int) (x:Int) (z:Int),t.length<=3000->aE (fun(v12:Int×Unit)=>
     Option.bind (bif (decide (v12.1<((List.length t:Nat):Int)))then Option.bind (idx t v12.1) fun x13=>some (decide (x13<x))else some false) fun b14=>
     bif b14 then some (Sum.inl ((aA .i64 v12.1 (1:Int)),()))else
     Option.map Sum.inr (Option.bind (bif (decide (v12.1=((List.length t:Nat):Int)))then some true else Option.bind (idx t v12.1) fun x15=>some (!decide (x15=x))) fun b16=>
     bif b16 then
     bif cm (0:Int) v12.1 (List.length t)then
     bif bx 8 (List.length ((t.take (Int.toNat v12.1)).drop (Int.toNat (0:Int))))then
     bif bx 8 (List.length ((t.take (Int.toNat v12.1)).drop (Int.toNat (0:Int)))+List.length [x])then
     bif cm v12.1 (t.length:Int) (List.length t)then
     bif bx 8 (List.length (((t.take (Int.toNat v12.1)).drop (Int.toNat (0:Int)))++[x])+List.length ((t.take (Int.toNat (t.length:Int))).drop (Int.toNat v12.1)))then
     some (Sum.inl (((((t.take (Int.toNat v12.1)).drop (Int.toNat (0:Int)))++[x])++((t.take (Int.toNat (t.length:Int))).drop (Int.toNat v12.1))),z,()):((List Int)×Int×Unit)⊕(((List Int)×Int×Unit)⊕(List Int)))
     else none else none else none else none else none
     else some (Sum.inl (t,z,())))) ((0:Int),())=some (Sum.inl (eu (fun a b=>decide (a<b)) x t,z,())):=by
    intro t x z ht;refine Ez (lt:=fun a b:Int=>decide (a<b)) t (by omega) x (k:=fun t=>some (Sum.inl (t,z,()))) (fun j y hd' hx' hlt hw'=> ?_) (fun j y hj hd' hde hx' hlt=> ?_) (fun hd' hde=> ?_)
    ·simp only[hd',hx',hw',Qk,Qa,hlt]
    ·have e1:=rj t j;have e2:=vJ t j;simp only[hd',hx',hde,Qk,Ql,Qa,hlt,e1,e2,AV (show j<=t.length by omega),AW (show j<=t.length by omega)]
     rw[gJ (by omega) (by simp;omega),gJ (by omega) (by simp;omega),gJ (by omega) (by simp;omega)]
     by_cases hyx:y=x<;>simp[hyx]
    ·have e1:=rj t t.length;have e2:=vJ t t.length;simp only[hd',hde,Qk,Ql,Qa,e1,e2,AV (QI t.length),AW (QI t.length)];rw[gJ (by omega) (by simp;omega),gJ (by omega) (by simp;omega),gJ (by omega) (by simp;omega)]
     simp
   have hw1:aA .i64 (0:Int) 1=1:=rfl;have hw2:aA .i64 (1:Int) 1=2:=rfl;have hd0:decide ((0:Int)<2)=true:=rfl;have hd1:decide ((1:Int)<2)=true:=rfl;have hd2:decide ((2:Int)<2)=false:=rfl;have hx0:idx [e.aI,e.aQ] 0=some e.aI:=rfl;have hx1:idx [e.aI,e.aQ] 1=some e.aQ:=rfl;have hl1:=vZ (lt:=fun a b:Int=>decide (a<b)) e.aI s
   unfold gm
   cases hv:aJ e with
   |false=>simp
   |true=>
    by_cases hvv:e.ab.Value=v
    ·by_cases hlo:e.aI=0
     ·simp[hvv,hlo]
     ·simp only[Qo,Ql,hvv,decide_true,hlo,decide_false,Bool.and_self,Qp,Qa,Qt];refine(bl (s':=(eu (fun a b=>decide (a<b)) e.aI s,(1:Int),())) ?_).trans ((bl (s':=(eu (fun a b=>decide (a<b)) e.aQ (eu (fun a b=>decide (a<b)) e.aI s),(2:Int),())) ?_).trans (bS ?_))
      ·simp only[hd0,hx0,hw1,Qk,Qa];exact inner s e.aI 1 (by omega)
      ·simp only[hd1,hx1,hw2,Qk,Qa];exact inner _ e.aQ 2 (by omega)
      ·simp only[hd2,Ql,Qe]
    ·simp[hvv]
  ·simp only[hd,Ql]
 obtain⟨_,h2,_,h4⟩:=gz hl hlen v
 have hflat:l.foldl (fun s e=>if gm v e then eu (fun a b=>decide (a<b)) e.aQ (eu (fun a b=>decide (a<b)) e.aI s)else s) []=(ends v l).foldl (fun l x=>eu (fun a b=>decide (a<b)) x l) []:=by
  rw[ends,List.foldl_flatMap];congr 1
  funext s e
  split<;>rfl
 rw[hF,hflat];obtain⟨h5,h6⟩:=yS ya (ends v l) [] .nil;congr 1;refine ya.unique h5 (h2.imp fun h=>Qg h) fun x=> ?_
 rw[h6,h4];simp
end
end Go.Proofs.YtkgenianmdfmdaaGreat
namespace Go.Proofs.YtkgenianmdfmdaaGreat
open Go.TQ
theorem kinds{e:ai}(hv:aJ e=true):e.br=1\/e.br=2\/e.br=3:=by
 unfold aJ fo at hv;rw[Qm]at hv;have h:=hv.2
 by_cases k1:e.br=1
 ·exact .inl k1
 ·by_cases k2:e.br=2
  ·exact .inr (.inl k2)
  ·by_cases k3:e.br=3
   ·exact .inr (.inr k3)
   ·rw[Qs k1,Qs k2,Qs k3]at h;cases h
theorem Tl{e:ai}(h:dK e.aa)(b:ae):lN e b=some (aJ e&&mU e b):=by
 simp only[lN,al.eta,ai.eta,iy h,Qa,dj,fu,xA]
 cases hv:aJ e with
 |false=>simp
 |true=>
  cases hz:aC b with
  |true=>simp[mU,hz]
  |false=>by_cases k1:e.br=1<;>simp[mU,hz,k1]
theorem OD{e:ai}(h:dK e.aa)(v:ByteArray)(lo hi:Int):kX e v lo hi=some (aJ e&&eI e v lo hi):=by
 simp only[kX,al.eta,ai.eta,iy h,Qa,jw,eI,Fu]
 cases hv:aJ e with
 |false=>simp
 |true=>
  have hk:=kinds hv
  by_cases a1:lo<1<;>by_cases a2:hi<lo<;>by_cases a3:e.ab.Value=v<;>by_cases a4:lo<e.aI<;>by_cases k1:e.br=1<;>by_cases k3:e.br=3<;>simp_all<;>grind
theorem Tm{e:ai}(h:dK e.aa)(v:ByteArray)(lo hi:Int):mD e v lo hi=some (aJ e&&pf e v lo hi):=by
 simp only[mD,al.eta,ai.eta,iy h,Qa,jw,pf,Fu]
 cases hv:aJ e with
 |false=>simp
 |true=>
  have hl:=YH hv
  by_cases a1:lo<1<;>by_cases a2:hi<lo<;>by_cases a3:e.ab.Value=v<;>by_cases a4:lo<e.aI<;>by_cases k1:e.br=1<;>by_cases a5:e.aI=0<;>simp_all<;>grind
theorem sz(p:ai->Bool):∀l:List ai,c9 (fun e=>aJ e&&p e) l=c9 p (bJ l)
 |[]=>rfl
 |e::l=>by
  have ih:=sz p l;rw[c9,ih];cases hv:aJ e<;>simp[bJ,hv,c9]
theorem y8(l:List ai)(hlen:l.length<=1000)(p:ai->Bool)(hp:∀e∈l,p e=true->0<=e.ar/\e.ar<10):gd l (l.map p)=some ((c9 p l:Nat):Int):=by
 unfold gd
 suffices key:∀(k i s:Nat),i+k=l.length->s<1024->aE _ ((s:Int),(i:Int),())=some ((s|||c9 p (l.drop i):Nat):Int)by
  have:=key l.length 0 0 (by omega) (by omega)
  rw[Nat.zero_or,List.drop_zero]at this;exact this
 intro k
 induction k with
 |zero=>
  intro i s hi hs;obtain rfl:i=l.length:=by omega
  have hd:decide (((l.length:Nat):Int)<((l.length:Nat):Int))=false:=Qh (Int.lt_irrefl _);rw[bS (r:=(s:Int)) (by simp only[hd,Ql,Qe]),List.drop_length,c9]
  simp
 |succ k ih=>
  intro i s hi hs;have hlt:i<l.length:=by omega
  have hd:decide ((i:Int)<((l.length:Nat):Int))=true:=Qg (by omega)
  have hd2:decide ((i:Int)<(((l.map p).length:Nat):Int))=true:=Qg (by rw[QC];omega)
  have hw:aA .i64 (i:Int) 1=((i+1:Nat):Int):=bM (by omega) (by omega)
  have hx:idx l (i:Int)=some l[i]:=by rw[bB];exact Qv hlt
  have hx2:idx (l.map p) (i:Int)=some (p l[i]):=by rw[bB,QT,Qv hlt];rfl
  rw[QM hlt,c9]
  cases hpe:p l[i]with
  |false=>
   rw[bl (s':=((s:Int),((i+1:Nat):Int),())) (by simp only[hd,hd2,hx,hx2,hw,hpe,Qk,Ql,aW,Qa]),ih (i+1) s (by omega) hs]
   simp
  |true=>
   obtain⟨h0,h1⟩:=hp _ (Q0 hlt) hpe
   have hc:Fz .u64 l[i].ar=l[i].ar:=by
    obtain⟨n,hn⟩:∃n:Nat,l[i].ar=n:=⟨l[i].ar.toNat,by omega⟩
    rw[hn];exact abA (by omega)
   have hn0:¬l[i].ar<0:=by omega
   have d1:decide ((0:Int)<=l[i].ar)=true:=Qg h0;have d2:decide (l[i].ar<=(9:Int))=true:=Qg (by omega)
   rw[bl (s':=(((s|||2 ^ l[i].ar.toNat:Nat):Int),((i+1:Nat):Int),())) (by
    simp only[hd,hd2,hx,hx2,hw,hpe,Qk,aW,Qa,d1,d2,hc,hn0,Qu]
    rw[ye hs h0 h1]),ih (i+1) _ (by omega) (I9 hs h1)]
   simp[Nat.or_assoc]
theorem N5{ρ:Type}(l:List ai)(hl:l.length<=1000)(p q:ai->Bool){step:Int×List Bool×List Bool×Unit->Option ((Int×List Bool×List Bool×Unit)⊕ρ)}{fin:List Bool->List Bool->Option ρ}
  (h1:∀(i:Nat) (e:ai) (vs as_:List Bool),e∈l->decide ((i:Int)<((l.length:Nat):Int))=true->idx l (i:Int)=some e->aA .i64 (i:Int) 1=((i+1:Nat):Int)->(∀x:Bool,bx 1 (vs.length+[x].length)=true)->(∀x:Bool,bx 1 (as_.length+[x].length)=true)->step ((i:Int),vs,as_,())=some (.inl (((i+1:Nat):Int),vs++[p e],as_++[q e],())))
  (h2:∀vs as_,decide (((l.length:Nat):Int)<((l.length:Nat):Int))=false->step (((l.length:Nat):Int),vs,as_,())=Option.map Sum.inr (fin vs as_)):aE step ((0:Int),[],[],())=fin (l.map p) (l.map q):=by
 suffices key:∀(k i:Nat),i+k=l.length->aE step ((i:Int),(l.take i).map p,(l.take i).map q,())=fin (l.map p) (l.map q)from key l.length 0 (by omega)
 intro k
 induction k with
 |zero=>
  intro i hi;obtain rfl:i=l.length:=by omega
  rw[ic,h2 _ _ (Qh (Int.lt_irrefl _)),List.take_length];cases fin (l.map p) (l.map q)<;>rfl
 |succ k ih=>
  intro i hi;have hlt:i<l.length:=by omega
  rw[bl (h1 i l[i] _ _ (Q0 hlt) (Qg (by omega)) (by rw[bB];exact Qv hlt) (bM (by omega) (by omega)) (fun x=>gJ (by omega) (by simp;omega)) (fun x=>gJ (by omega) (by simp;omega))),<-ih (i+1) (by omega),List.take_succ_eq_append_getElem hlt,List.map_append,List.map_append]
  rfl
theorem BP{p:ai->Bool}{l:List ai}:∀e∈l,(aJ e&&p e)=true->0<=e.ar/\e.ar<10:=fun e _ h=>by
 rw[Qm]at h;exact iN h.1
section
variable {l : List ai} (hl : ∀ e ∈ l, dK e.aa) (hlen : l.length <= 1000)
 include hl hlen
theorem LW(b:ae):qW l b=some (((c9 (fun e=>mU e b||cF e b) (bJ l):Nat):Int),((c9 (cF · b) (bJ l):Nat):Int),()):=by
 unfold qW;refine(N5 l hlen (fun e=>aJ e&&(mU e b||cF e b)) (fun e=>aJ e&&cF e b) (fin:=fun vs as_=>Option.bind (gd l vs) fun r6=>Option.bind (gd l as_) fun r7=>some (r6,r7,())) (fun i e vs as_ he hd hx hw o1 o2=> ?_) (fun vs as_ hd=> ?_)).trans ?_
 ·simp only[hd,hx,hw,Qk,Qa,al.eta,ai.eta,OC (hl e he),Tl (hl e he),jw,o1,o2];cases aJ e<;>cases mU e b<;>cases cF e b<;>rfl
 ·simp only[hd,Ql]
 ·rw[y8 l hlen _ BP,y8 l hlen _ BP,Qa,Qa,sz,sz]
theorem LV(v:ByteArray)(lo hi:Int):qT l v lo hi=some (((c9 (fun e=>pf e v lo hi||eI e v lo hi) (bJ l):Nat):Int),((c9 (eI · v lo hi) (bJ l):Nat):Int),()):=by
 unfold qT;refine(N5 l hlen (fun e=>aJ e&&(pf e v lo hi||eI e v lo hi)) (fun e=>aJ e&&eI e v lo hi) (fin:=fun vs as_=>Option.bind (gd l vs) fun r6=>Option.bind (gd l as_) fun r7=>some (r6,r7,())) (fun i e vs as_ he hd hx hw o1 o2=> ?_) (fun vs as_ hd=> ?_)).trans ?_
 ·simp only[hd,hx,hw,Qk,Qa,al.eta,ai.eta,OD (hl e he),Tm (hl e he),jw,o1,o2];cases aJ e<;>cases pf e v lo hi<;>cases eI e v lo hi<;>rfl
 ·simp only[hd,Ql]
 ·rw[y8 l hlen _ BP,y8 l hlen _ BP,Qa,Qa,sz,sz]
end
theorem Bb{c:bp}(hc:z8 c){v a b:Nat}(hv:v<10)(h1:a<1024)(h2:b<1024):nu c v a b=some (nk c.aU v a b):=by
 unfold nu nk;have h3:a|||b<1024:=Nat.or_lt_two_pow (n:=10) h1 h2
 rw[sH h1,sH h2,I3 hc h2,Bg a b (by omega) (by omega),Eb hc h3]
 simp[oQ (zU hc h3).lt,qJ,hv]
theorem zH{c:bp}(hc:z8 c){v b:Nat}(hv:v<10)(h2:b<1024):mw c v b=some ((gq c.aU b).testBit v):=by
 unfold mw;rw[Eb hc h2];simp[oQ (zU hc h2).lt,qJ,hv]
end Go.Proofs.YtkgenianmdfmdaaGreat
namespace Go.Proofs.YtkgenianmdfmdaaGreat
open Go.TQ
theorem Iq{c:bp}{ax:Int}{l:List ai}(hlen:l.length<=100000)(b:ae):fS ⟨ax,c,(bJ l).map bs.mk⟩ b=iG c ax ((c9 (fun e=>mU e b||cF e b) (bJ l):Nat):Int) ((c9 (cF · b) (bJ l):Nat):Int):=by
 have hrl:=xJ l;have hin:=ky l;simp only[fS,lD,ja,Qa,Option.bind_fun_some,Ul (by omega:(bJ l).length<=1000000) hin,GR (by omega:(bJ l).length<=1000000) hin]
theorem G2{c:bp}{ax:Int}{l:List ai}(hlen:l.length<=100000)(b:ae):eo ⟨ax,c,(bJ l).map bs.mk⟩ b=gX c ax ((c9 (cF · b) (bJ l):Nat):Int):=by
 have hrl:=xJ l;have hin:=ky l;simp only[eo,Qa,Option.bind_fun_some,GR (by omega:(bJ l).length<=1000000) hin]
theorem UI(b:ae):lX b=some (oi b):=J2 b
def tb(x:ae->Bool)(p q:ae)(v:ByteArray)(b:ae):Bool:=(decide (v=eZ)||decide (b.Value=v))&& !du (oi p) (oi q) b&&x b
def td(y:ae->Bool)(a b:ae):Bool:=bd a b&&decide (b.aj<=1000)&&y b
section
variable {ax : Int} {t : al} {l : List ai} (hl : oq l) (hlen : l.length <= 1000) {c : bp} {x y : ae -> Bool}
 include hl hlen
theorem YE(hL:eM ax t l=some ⟨ax,c,(bJ l).map bs.mk⟩)(hx:∀b,fS ⟨ax,c,(bJ l).map bs.mk⟩ b=some (x b))(p q:ae)(v:ByteArray):lZ ax t l p q v=some (((dQ l).find? (tb x p q v)).getD vA):=by
 obtain⟨h1,_,h3,_⟩:=kp hl.aO hlen;unfold lZ;simp only[al.eta,hL,h1,Qa];refine xV (dQ l) (by omega) (fun i=>(i,ae.mk (0:Int) (ByteArray.mk #[]),())) (tb x p q v) vA (fun i b hd hx' hw=> ?_) (fun hd=> ?_)
 ·simp only[hd,hx',hw,Qk,aW,Qa,J2,oE,hx];unfold tb eZ;cases decide (v=ByteArray.mk #[])<;>cases decide (b.Value=v)<;>cases du (oi p) (oi q) b<;>cases x b<;>simp
 ·simp only[hd,Ql,Qe];rfl
theorem V7(hx:∀b,nq ax t l b=some (x b))(p q:ae)(v:ByteArray):ou ax t l p q v=some (((dQ l).find? (tb x p q v)).getD vA):=by
 obtain⟨h1,_,h3,_⟩:=kp hl.aO hlen;unfold ou;simp only[al.eta,Gw hl.aO hlen,Qa];refine xV (dQ l) (by omega) (fun i=>(i,ae.mk (0:Int) (ByteArray.mk #[]),())) (tb x p q v) vA (fun i b hd hx' hw=> ?_) (fun hd=> ?_)
 ·simp only[hd,hx',hw,Qk,aW,Qa,UI,pR,hx];unfold tb eZ;cases decide (v=ByteArray.mk #[])<;>cases decide (b.Value=v)<;>cases du (oi p) (oi q) b<;>cases x b<;>simp
 ·simp only[hd,Ql,Qe];rfl
theorem YQ(hL:eM ax t l=some ⟨ax,c,(bJ l).map bs.mk⟩)(hy:∀b,eo ⟨ax,c,(bJ l).map bs.mk⟩ b=some (y b))(a:ae):jG ax t l a=some (((dQ l).find? (td y a)).getD vA):=by
 obtain⟨h1,_,h3,_⟩:=kp hl.aO hlen;unfold jG;simp only[al.eta,hL,h1,Qa];refine xV (dQ l) (by omega) (fun i=>(i,ae.mk (0:Int) (ByteArray.mk #[]),())) (td y a) vA (fun i b hd hx' hw=> ?_) (fun hd=> ?_)
 ·simp only[hd,hx',hw,Qk,aW,Qa,iv,lD,hy];unfold td;cases bd a b<;>cases decide (b.aj<=1000)<;>cases y b<;>simp
 ·simp only[hd,Ql,Qe];rfl
theorem V8(hy:∀b,mr ax t l b=some (y b))(a:ae):kV ax t l a=some (((dQ l).find? (td y a)).getD vA):=by
 obtain⟨h1,_,h3,_⟩:=kp hl.aO hlen;unfold kV;simp only[al.eta,Gw hl.aO hlen,Qa];refine xV (dQ l) (by omega) (fun i=>(i,ae.mk (0:Int) (ByteArray.mk #[]),())) (td y a) vA (fun i b hd hx' hw=> ?_) (fun hd=> ?_)
 ·simp only[hd,hx',hw,Qk,Qa,iD,hy];unfold td;cases bd a b<;>cases decide (b.aj<=1000)<;>cases y b<;>simp
 ·simp only[hd,Ql,Qe];rfl
end
end Go.Proofs.YtkgenianmdfmdaaGreat
end
