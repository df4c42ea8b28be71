/-
  Texts made small by a program (see NOTES). Conditions: those that each theorem names.
-/
import Derived.Test.YtkgenianmdfmdaaGreatMachineFollowsMd
set_option linter.unusedVariables false
set_option linter.unusedSimpArgs false
set_option linter.unusedSectionVars false
set_option maxHeartbeats 2000000
noncomputable section
namespace Go.TQ
@[simp] theorem bD {σ ρ:Type} (j:σ->Option ρ) (f:(σ->Option ρ)->Option ρ):bO j f=f j:=rfl
@[simp] theorem ng {α:Type} (b:Bool) (x y:α):(bif b then some x else some y)=some (bif b then x else y):=by cases b<;>rfl
@[simp] theorem XX {α:Type} (b:Bool) (x:α):(bif b then x else x)=x:=by cases b<;>rfl
theorem HV{α:Type}(p:Prop)[Decidable p](x y:α):(bif decide p then x else y)=if p then x else y:=by
 by_cases h:p<;>simp[h]
theorem EE{α:Type}(p:Prop)[Decidable p](x y:α):(if p then some x else some y)=some (if p then x else y):=by split<;>rfl
@[simp] theorem UN {α:Type} (b:Bool) (x y:α):(bif !b then x else y)=bif b then y else x:=by cases b<;>rfl
@[simp] theorem IP (a b:Int) (s t:ByteArray):kV false a b s t=(decide (a=b)&&decide (s=t)):=by simp[kV]
@[simp] theorem R2 (a b:Int) (s t:ByteArray):kV true a b s t= !(decide (a=b)&&decide (s=t)):=by simp[kV]
def Yd{α:Type}(o:Option α)(p:α->Prop):Prop:=∃x,o=some x/\p x
theorem Yd.bind{α β:Type}{o:Option α}{p:α->Prop}{f:α->Option β}{q:β->Prop}(h:Yd o p)(k:∀x,p x->Yd (f x) q):Yd (o.bind f) q:=by
 obtain⟨x,rfl,hx⟩:=h;exact k x hx
theorem Yd.mono{α:Type}{o:Option α}{p q:α->Prop}(h:Yd o p)(k:∀x,p x->q x):Yd o q:=by
 obtain⟨x,h1,hx⟩:=h;exact⟨x,h1,k x hx⟩
theorem Yd.some{α:Type}{x:α}{p:α->Prop}(h:p x):Yd (Option.some x) p:=⟨x,rfl,h⟩
theorem Yd.of_eq{α:Type}{o:Option α}{x:α}{p:α->Prop}(h:o=Option.some x)(hp:p x):Yd o p:=⟨x,h,hp⟩
theorem Yd.cond{α:Type}{b:Bool}{x y:Option α}{p:α->Prop}(h1:b=true->Yd x p)(h2:b=false->Yd y p):Yd (bif b then x else y) p:=by
 cases b
 ·exact h2 rfl
 ·exact h1 rfl
theorem Yd.map{α β:Type}{o:Option α}{f:α->β}{p:β->Prop}(h:Yd o fun x=>p (f x)):Yd (o.map f) p:=by
 obtain⟨x,rfl,hx⟩:=h;exact⟨f x,rfl,hx⟩
theorem Yd.eq_true{o:Option Bool}(h:Yd o (·=true)):o=Option.some true:=by
 obtain⟨x,h1,rfl⟩:=h;exact h1
theorem wrap64{n:Int}(h1: -9223372036854775808<=n)(h2:n<=9223372036854775807):IntKind.i64.wrap n=n:=i64_in h1 h2
theorem cq{a b:Int}(h1: -9223372036854775808<=a+b)(h2:a+b<=9223372036854775807):aJ .i64 a b=a+b:=wrap64 h1 h2
theorem yY{a b:Int}(h1: -9223372036854775808<=a - b)(h2:a - b<=9223372036854775807):gf .i64 a b=a - b:=wrap64 h1 h2
theorem bN{α:Type}(l:List α)(i:Nat):idx l (i:Int)=l[i]?:=by simp[idx]
theorem KH{α:Type}(l:List α){n:Int}(h:0<=n):idx l n=l[n.toNat]?:=by simp[idx,h]
@[simp] theorem VG (n:Nat) (h:n<256):Oo .i64 (n:Int)=n:=wrap64 (by omega) (by omega)
@[simp] theorem eM {bytes n:Nat} (h:n*bytes<=140737488355328/\n<=1000000):b0 bytes n=true:=by
 simp only[b0,Qm,Qi];exact⟨h.1,QK h.2 (by simp[maxLen])⟩
theorem ot(a:Nat)(h:a<2 ^ 62):(BitVec.ofInt 64 (a:Int)).toNat=a:=by
 rw[BitVec.ofInt_natCast,BitVec.toNat_ofNat];exact Nat.mod_eq_of_lt (by omega)
theorem yU(n:Nat)(h:n<2 ^ 62):IntKind.i64.wrap (n:Int)=n:=wrap64 (by omega) (by omega)
theorem Lq(a b:Nat)(ha:a<2 ^ 62)(hb:b<2 ^ 62):E7 .i64 (a:Int) (b:Int)=((a&&&b:Nat):Int):=by
 show IntKind.i64.wrap (((BitVec.ofInt 64 (a:Int)&&&BitVec.ofInt 64 (b:Int)).toNat:Nat):Int)=_;rw[BitVec.toNat_and,ot a ha,ot b hb];exact yU _ (Nat.lt_of_le_of_lt Nat.and_le_left ha)
theorem Hv(a b:Nat)(ha:a<2 ^ 62)(hb:b<2 ^ 62):sg .i64 (a:Int) (b:Int)=((a|||b:Nat):Int):=by
 show IntKind.i64.wrap (((BitVec.ofInt 64 (a:Int)|||BitVec.ofInt 64 (b:Int)).toNat:Nat):Int)=_
 rw[BitVec.toNat_or,ot a ha,ot b hb];exact yU _ (Nat.or_lt_two_pow ha hb)
theorem UO(s k:Nat):s&&&2 ^ k=if s.testBit k then 2 ^ k else 0:=by
 refine Nat.eq_of_testBit_eq fun i=> ?_
 rw[Nat.testBit_and,Nat.testBit_two_pow]
 by_cases h:k=i
 ·subst h;cases hs:s.testBit k<;>simp
 ·cases hs:s.testBit k<;>simp[h]
theorem vA(k:Nat)(h:k<=60):jo .i64 1 (k:Int)=((2 ^ k:Nat):Int):=by
 show IntKind.i64.wrap (1*2 ^ min (k:Int).toNat 64)=_;rw[QV,show min k 64=k from Nat.min_eq_left (by omega),Int.one_mul]
 have:=yU (2 ^ k) (Nat.pow_lt_pow_right (by omega) (by omega))
 simpa using this
theorem bX{σ ρ:Type}{step:σ->Option (σ⊕ρ)}{s:σ}{r:ρ}(h:step s=some (.inr r)):aI step s=some r:=by rw[lS,h]
theorem bp{σ ρ:Type}{step:σ->Option (σ⊕ρ)}{s s':σ}(h:step s=some (.inl s')):aI step s=aI step s':=by rw[lS,h]
theorem F7{σ ρ:Type}{step:σ->Option (σ⊕ρ)}{s:σ}(h:step s=none):aI step s=none:=by rw[lS,h]
theorem Yd.loop{σ ρ:Type}{step:σ->Option (σ⊕ρ)}{s:σ}{p:ρ->Prop}(h:Yd (step s) fun y=>match y with| .inl s'=>Yd (aI step s') p| .inr r=>p r):Yd (aI step s) p:=by
 obtain⟨y,h1,h2⟩:=h
 cases y with
 |inl s'=>rw[bp h1];exact h2
 |inr r=>exact⟨r,bX h1,h2⟩
theorem Yd.inr{σ ρ:Type}{o:Option ρ}{p:σ⊕ρ->Prop}(h:Yd o fun r=>p (.inr r)):Yd (Option.map Sum.inr o) p:=h.map
def fP{α σ ρ:Type}(g:α->σ->Option (σ⊕ρ))(fin:σ->Option ρ):List α->σ->Option ρ
 |[],s=>fin s
 |x::l,s=>match g x s with
  |none=>none
  |some (.inr r)=>some r
  |some (.inl s')=>fP g fin l s'
theorem NU{α σ τ ρ:Type}(l:List α)(mk:Int->σ->τ){step:τ->Option (τ⊕ρ)}(g:α->σ->Option (σ⊕ρ))(fin:σ->Option ρ)
  (h1:∀(i:Nat) (x:α) (s:σ),i<l.length->l[i]?=some x->step (mk i s)=match g x s with|none=>none|some (.inr r)=>some (.inr r)|some (.inl s')=>some (.inl (mk (i+1:Nat) s')))
  (h2:∀s,step (mk l.length s)=(fin s).map Sum.inr) (s:σ):aI step (mk 0 s)=fP g fin l s:=by
 suffices h:∀(k:Nat) (i:Nat) (s:σ),i+k=l.length->aI step (mk i s)=fP g fin (l.drop i) s by
  have:=h l.length 0 s (by omega)
  simpa using this
 intro k
 induction k with
 |zero=>
  intro i s hi;obtain rfl:i=l.length:=by omega
  rw[List.drop_length,fP,lS,h2];cases fin s<;>rfl
 |succ k ih=>
  intro i s hi;have hlt:i<l.length:=by omega
  rw[QM hlt,fP,lS,h1 i l[i] s hlt (Qv hlt)]
  cases hg:g l[i] s with
  |none=>rfl
  |some y=>
   cases y with
   |inr r=>rfl
   |inl s'=>exact ih (i+1) s' (by omega)
theorem ji{α σ τ ρ:Type}(l:List α)(hl:l.length<=9223372036854775807)(mk:Int->σ->τ){step:τ->Option (τ⊕ρ)}(g:α->σ->Option (σ⊕ρ))(fin:σ->Option ρ)
  (h1:∀(i:Nat) (x:α) (s:σ),decide ((i:Int)<((l.length:Nat):Int))=true->idx l (i:Int)=some x->aJ .i64 (i:Int) 1=((i+1:Nat):Int)->step (mk i s)=match g x s with|none=>none|some (.inr r)=>some (.inr r)|some (.inl s')=>some (.inl (mk (i+1:Nat) s')))
  (h2:∀s,decide (((l.length:Nat):Int)<((l.length:Nat):Int))=false->step (mk l.length s)=(fin s).map Sum.inr) (s:σ):aI step (mk 0 s)=fP g fin l s:=
 NU l mk g fin (fun i x s hi hx=>h1 i x s (Qg (Int.ofNat_lt.2 hi)) (by rw[bN];exact hx) (cq (by omega) (by omega))) (fun s=>h2 s (Qh (Int.lt_irrefl _))) s
end Go.TQ
namespace Go.Proofs.YtkgenianmdfmdaaGreat
open Go.TQ
def fV:ByteArray:=⟨#[]⟩
def aF(b:af):Bool:=decide (b.aj=0)&&decide (b.Value=fV)
def mX(a b:ByteArray):Bool:=if a.size=b.size then iS a b else decide (a.size<b.size)
def bb(a b:af):Bool:=if a.aj=b.aj then mX a.Value b.Value else decide (a.aj<b.aj)
def bs(a b:af):Bool:=decide (a.Value=b.Value)
def ir(p b:af):Bool:= !aF p&&bs p b&&decide (b.aj<=p.aj)
def dG(p q b:af):Bool:=ir p b||ir q b||(!aF q&&bb b q)
def dZ(p b:af):Bool:= !aF p&& !bs p b&&bb b p
def ct(b:af):Bool:=(decide (1<=b.aj)&&decide (b.aj<=1000)||decide (b.aj=1000000))&&decide (1<=b.Value.size)&&decide (b.Value.size<=200)
theorem I2:∀x:List UInt8,Op.bytesLess x x=false
 |[]=>rfl
 |a::l=>by simp[Op.bytesLess,I2 l]
theorem Lm:∀{x y:List UInt8},x≠y->Op.bytesLess x y=true\/Op.bytesLess y x=true
 |[],[],h=>absurd rfl h
 |[],_::_,_=> .inl rfl
 |_::_,[],_=> .inr rfl
 |a::l,b::m,h=>by
  simp only[Op.bytesLess]
  by_cases hab:a=b
  ·subst hab;have:l≠m:=fun e=>h (by rw[e])
   simpa using Lm this
  ·rcases Nat.lt_or_gt_of_ne (fun e=>hab (UInt8.toNat_inj.1 e))with h1|h1
   ·have h2:a<b:=h1;simp[h2]
   ·have h2:b<a:=h1;simp[h2]
theorem JZ(a:ByteArray):iS a a=false:=I2 _
@[simp] theorem bW (b:af):aR b=some (aF b):=by unfold aR aF;rw[IP];rfl
@[simp] theorem dV (a b:af):bA a b=some (bs a b):=rfl
@[simp] theorem uk (b:af):eR b=some (ct b):=by
 have h1:decide ((1:Int)<=(b.Value.size:Nat))=decide (1<=b.Value.size):=by rw[decide_eq_decide];omega
 have h2:decide (((b.Value.size:Nat):Int)<=200)=decide (b.Value.size<=200):=by rw[decide_eq_decide];omega
 simp only[eR,ct,h1,h2,ng,Qa,Bool.cond_false_right,Bool.cond_true_left]
@[simp] theorem ON (a b:af):ik a b=some (ir a b):=by simp[ik,ir]
def ux(a b:Int):Int:=if a<b then -1 else if b<a then 1 else 0
def Lf(a b:ByteArray):Int:=if iS a b then -1 else if iS a b||decide (a=b)then 0 else 1
def SV:List Int->Int
 |[]=>0
 |x::l=>if x=0 then SV l else x
@[simp] theorem Ag (a b:Int):gF a b=some (ux a b):=by
 simp[gF,n3,ux,HV,EE]
@[simp] theorem LN (a b:ByteArray):kh a b=some (Lf a b):=by
 simp only[kh,lO,Lf];cases h1:iS a b<;>by_cases h2:a=b<;>simp[h2]
theorem G4(l:List Int)(hl:l.length<=1000000):mN l=some (SV l):=by
 unfold mN;rw[ji l (by omega) (fun i (_:Unit)=>(i,())) (fun x _=>some (if x=0 then .inl ()else .inr x)) (fun _=>some 0) (fun i x s hd hx hw=> ?_) (fun s hd=> ?_) ()]
 ·induction l with
  |nil=>rfl
  |cons x l ih=>
   rw[fP,SV]
   by_cases h:x=0
   ·simp only[h,Qt];exact ih (by simp at hl;omega)
   ·simp only[Qs h]
 ·by_cases h:x=0<;>simp only[hd,hx,hw,h,Qk,Qa]<;>simp
 ·simp only[hd,Ql]
@[simp] theorem Sz (a b:Int):mN [a,b]=some (if a=0 then b else a):=by
 rw[G4 _ (by simp)]
 simp only[SV]
 by_cases h:a=0<;>by_cases h':b=0<;>simp[h,h']
def HR(a b:ByteArray):Int:=if ux a.size b.size=0 then Lf a b else ux a.size b.size
def Lh(a b:af):Int:=if ux a.aj b.aj=0 then HR a.Value b.Value else ux a.aj b.aj
@[simp] theorem uy (a b:ByteArray):fe a b=some (HR a b):=by simp[fe,HR]
@[simp] theorem OJ (a b:af):j1 a b=some (Lh a b):=by simp[j1,Lh]
theorem xg(a b:Int):ux a b=0↔a=b:=by unfold ux;split<;>(try split)<;>omega
theorem EY(a b:Int):ux a b<0↔a<b:=by unfold ux;split<;>(try split)<;>omega
theorem Se(a b:ByteArray):Lf a b<0↔iS a b=true:=by
 unfold Lf;split
 ·rename_i h;simp[h]
 ·rename_i h;split<;>simp[h]
theorem Le(a b:ByteArray):decide (HR a b<0)=mX a b:=by
 unfold HR mX
 by_cases h:a.size=b.size
 ·rw[Qr ((xg _ _).2 (by rw[h])),Qr h]
  rw[QW,Qi,Se]
 ·rw[Qs (fun e=>h (by have:=(xg _ _).1 e;omega)),Qs h,decide_eq_decide,EY]
  omega
theorem Lg(a b:af):decide (Lh a b<0)=bb a b:=by
 unfold Lh bb
 by_cases h:a.aj=b.aj
 ·rw[Qr ((xg _ _).2 h),Qr h,Le]
 ·rw[Qs (fun e=>h ((xg _ _).1 e)),Qs h,decide_eq_decide,EY]
@[simp] theorem gG (a b:af):db a b=some (bb a b):=by simp[db,Lg]
@[simp] theorem mO (p q b:af):fc p q b=some (dG p q b):=by simp[fc,dG]
@[simp] theorem nQ (p b:af):de p b=some (dZ p b):=by simp[de,dZ]
def finite(b:af):Bool:=ct b&&decide (b.aj<=1000)
@[simp] theorem yS (b:af):jx b=some (finite b):=by simp[jx,finite]
@[simp] theorem wU (b:af):iL b=some (aF b||ct b):=by simp[iL]
@[simp] theorem uM (e:ai) (n:Int):kv e n=some ⟨n,e.aa.Value⟩:=rfl
end Go.Proofs.YtkgenianmdfmdaaGreat
namespace Go.Proofs.YtkgenianmdfmdaaGreat
open Go.TQ
theorem H4{rec:(aq×Unit)->Option Int}{t:aq}(hl:t.aS.length<=9223372036854775807):
  gI rec t=fP (fun u m=>(rec (u,())).map fun r=> .inl (bn m r)) (fun m=>some (aJ .i64 m 1)) t.aS 0:=by
 unfold gI;rw[ji t.aS hl (fun i (m:Int)=>(m,i,())) (fun u m=>(rec (u,())).map fun r=> .inl (bn m r)) (fun m=>some (aJ .i64 m 1)) (fun i x s hd hx hw=> ?_) (fun s hd=> ?_) 0]
 ·simp only[hd,hx,hw,Qk,Qa,aq.eta];cases rec (x,())<;>rfl
 ·simp only[hd,Ql]
theorem LM{rec:(aq×Unit)->Option Int}{t:aq}(hl:t.aS.length<=9223372036854775807):
  il rec t=fP (fun u m=>(rec (u,())).map fun r=> .inl (aJ .i64 m r)) (fun m=>some m) t.aS (aJ .i64 t.bu.length t.aS.length):=by
 unfold il;rw[ji t.aS hl (fun i (m:Int)=>(m,i,())) (fun u m=>(rec (u,())).map fun r=> .inl (aJ .i64 m r)) (fun m=>some m) (fun i x s hd hx hw=> ?_) (fun s hd=> ?_) (aJ .i64 t.bu.length t.aS.length)]
 ·simp only[hd,hx,hw,Qk,Qa,aq.eta];cases rec (x,())<;>rfl
 ·simp only[hd,Ql]
def eB(x:Int):Bool:=decide (0<=x)&&decide (x<10)
def wc(s x:Int):Bool:=decide (0<=s)&&decide (s<1024)&&eB x&&s.toNat.testBit x.toNat
theorem HW(s:Int):ec s=some (decide (0<=s)&&decide (s<1024)):=by
 have:jo .i64 1 10=1024:=vA 10 (by omega)
 simp[ec,sH,this]
theorem Lp{s x:Int}(h1:0<=s)(h2:s<1024)(h3:0<=x)(h4:x<10):(E7 .i64 s (jo .i64 1 x)=0)=(s.toNat.testBit x.toNat=false):=by
 obtain⟨n,rfl⟩:=Int.eq_ofNat_of_zero_le h1;obtain⟨j,rfl⟩:=Int.eq_ofNat_of_zero_le h3;have hj:2 ^ j<=2 ^ 10:=Nat.pow_le_pow_right (by omega) (by omega)
 rw[vA j (by omega),Lq n (2 ^ j) (by omega) (by omega),UO]
 simp only[QV];have hp:2 ^ j≠0:=Nat.pos_iff_ne_zero.1 (Nat.pow_pos (by omega))
 cases n.testBit j
 ·simp
 ·rw[Qr rfl];simp only[Bool.true_eq_false,eq_iff_iff,iff_false];omega
@[simp] theorem nm (s x:Int):gZ s x=some (wc s x):=by
 unfold gZ wc eB;rw[HW]
 by_cases h1:0<=s
 ·by_cases h2:s<1024
  ·by_cases h3:0<=x
   ·by_cases h4:x<10
    ·have h5:¬x<0:=by omega
     have:=Lp h1 h2 h3 h4;simp[h1,h2,h3,h4,h5,this]
    ·simp[h1,h2,h3,h4]
   ·simp[h1,h2,h3]
  ·simp[h1,h2]
 ·simp[h1]
theorem CA{s:Nat}{x:Int}(h1:s<1024)(h3:0<=x)(h4:x<10):sg .i64 (s:Int) (jo .i64 1 x)=((s|||2 ^ x.toNat:Nat):Int):=by
 obtain⟨j,rfl⟩:=Int.eq_ofNat_of_zero_le h3;have hj:2 ^ j<=2 ^ 9:=Nat.pow_le_pow_right (by omega) (by omega)
 rw[vA j (by omega)]
 exact Hv s (2 ^ j) (by omega) (by omega)
theorem Jz{s:Nat}{x:Int}(h1:s<1024)(h4:x<10):s|||2 ^ x.toNat<1024:=by
 have hj:2 ^ x.toNat<=2 ^ 9:=Nat.pow_le_pow_right (by omega) (by omega)
 exact Nat.or_lt_two_pow (n:=10) h1 (by omega)
def sj(s:Nat):List Int->Int×Int×Unit
 |[]=>(s,0,())
 |x::l=>if eB x then(if s.testBit x.toNat then(0,6,())else sj (s|||2 ^ x.toNat) l)else(0,5,())
theorem MD(g:Int->Int->Option (Int⊕(Int×Int×Unit)))
  (hg:∀x (s:Nat),s<1024->g x s=some (if eB x then(if s.testBit x.toNat then .inr (0,6,())else .inl ((s|||2 ^ x.toNat:Nat):Int))else .inr (0,5,()))):
  ∀(l:List Int) (s:Nat),s<1024->fP g (fun s=>some (s,0,())) l s=some (sj s l)
 |[],s,_=>rfl
 |x::l,s,hs=>by
  rw[fP,hg x s hs,sj]
  cases h1:eB x with
  |false=>simp
  |true=>
   cases h2:s.testBit x.toNat with
   |true=>simp
   |false=>
    simp only[Qt,Qq,Qu];have h3:x<10:=by simp[eB]at h1;omega
    exact MD g hg l _ (Jz hs h3)
theorem G3(l:List Int)(hl:l.length<=9223372036854775807):sI l=some (sj 0 l):=by
 unfold sI;rw[ji l hl (fun i (s:Int)=>(s,i,())) (fun x s=>if eB x then(if wc s x then some (.inr (0,6,()))else some (.inl (sg .i64 s (jo .i64 1 x))))else some (.inr (0,5,()))) (fun s=>some (s,0,())) (fun i x s hd hx hw=> ?_) (fun s hd=> ?_) 0]
 ·refine MD _ (fun x s hs=> ?_) l 0 (by omega)
  cases h1:eB x with
  |false=>simp
  |true=>
   have h3:0<=x/\x<10:=by simp[eB]at h1;omega
   have h2:wc s x=s.testBit x.toNat:=by simp[wc,h1];omega
   rw[h2,CA hs h3.1 h3.2];cases s.testBit x.toNat<;>simp
 ·simp only[hd,hx,hw,Qk,Qa,nm]
  by_cases h0:x<0
  ·have:¬0<=x:=by omega
   simp[h0,eB,this]
  ·have h0':0<=x:=by omega
   by_cases h10:10<=x
   ·have:¬x<10:=by omega
    simp[h0,h10,eB,this,h0']
   ·have h10':x<10:=by omega
    cases h:wc s x<;>simp[h0,h10,eB,h0',h10']
 ·simp only[hd,Ql]
@[simp] theorem qn (x:Int):iZ x=some (!eB x):=by simp[iZ,qW,eB]
theorem Dp(l:List Int)(hl:l.length<=9223372036854775807):eG l=some (l.any fun x=> !eB x):=by
 have key:∀(i:Nat) (k:Nat),i+k=l.length->Yd (aI (fun(v1:Int×Unit)=>bif (decide (v1.1<((List.length l:Nat):Int)))then Option.bind (idx l v1.1) fun x2=>Option.bind (iZ x2) fun r3=>bif r3 then Option.map Sum.inr (some v1.1)else some (Sum.inl ((aJ .i64 v1.1 (1:Int)),()))else Option.map Sum.inr (some (-1:Int))) ((i:Int),())) fun r=>decide (0<=r)=(l.drop i).any fun x=> !eB x:=by
  intro i k
  induction k generalizing i with
  |zero=>
   intro hi;refine⟨-1,bX ?_,?_⟩
   ·have:¬((i:Int)<(l.length:Int)):=by omega
    simp[this]
   ·rw[List.drop_eq_nil_of_le (by omega)];rfl
  |succ k ih=>
   intro hi;have hlt:i<l.length:=by omega
   have hd:decide ((i:Int)<((l.length:Nat):Int))=true:=Qg (Int.ofNat_lt.2 hlt);have hx:idx l (i:Int)=some l[i]:=by rw[bN];exact Qv hlt
   have hw:aJ .i64 (i:Int) 1=((i+1:Nat):Int):=cq (by omega) (by omega)
   rw[QM hlt,List.any_cons]
   cases h:eB l[i]with
   |true=>
    rw[bp (s':=(((i+1:Nat):Int),())) (by simp only[hd,hx,hw,Qk,Qa,qn,h];rfl)]
    exact(ih (i+1) (by omega)).mono fun r hr=>by simpa using hr
   |false=>
    refine⟨i,bX (by simp only[hd,hx,Qk,Qa,qn,h];rfl),?_⟩
    simp
 obtain⟨r,h1,h2⟩:=key 0 l.length (by omega)
 unfold eG iA;simp only[Int.natCast_zero]at h1;rw[h1];simpa using h2
def tT(rec:aq->Option Int)(t:aq):Option Int:=
 if t.aY<1\/aJ .i64 t.bu.length t.aS.length<t.aY then some 4
 else if(t.bu.any fun x=> !eB x)then some 5
 else if(sj 0 t.bu).2.1=0 then fP (fun u (_:Unit)=>(rec u).map fun r=>if r=0 then .inl ()else .inr r) (fun _=>some 0) t.aS ()
 else some (sj 0 t.bu).2.1
theorem H3{rec:(aq×Unit)->Option Int}{t:aq}(hn:t.bu.length<=9223372036854775807)(hl:t.aS.length<=9223372036854775807):gH rec t=tT (fun u=>rec (u,())) t:=by
 unfold gH tT;rw[Dp _ hn,G3 _ hn];rw[ji t.aS hl (fun i (_:Unit)=>(i,())) (fun u (_:Unit)=>(rec (u,())).map fun r=>if r=0 then .inl ()else .inr r) (fun _=>some 0) (fun i x s hd hx hw=> ?_) (fun s hd=> ?_) ()]
 ·by_cases h1:t.aY<1
  ·simp[h1]
  ·by_cases h2:aJ .i64 t.bu.length t.aS.length<t.aY
   ·simp[h1,h2]
   ·simp only[h1,h2,decide_false,Ql,Qa,or_self,Qu]
    cases (t.bu.any fun x=> !eB x)with
    |true=>simp
    |false=>
     by_cases h3:(sj 0 t.bu).2.1=0<;>simp[h3]
 ·simp only[hd,hx,hw,Qk,Qa,aq.eta]
  cases rec (x,())with
  |none=>rfl
  |some r=>by_cases h:r=0<;>simp[h]
 ·simp only[hd,Ql]
structure iV (t:aq):Prop where
 nodes:∀x∈t.bu,0<=x/\x<10
 nodup:t.bu.Nodup
 len:t.bu.length<=10
 inner:t.aS=[]\/∃x,0<=x/\x<10/\t.aS=[⟨1,[x],[]⟩]
 th:1<=t.aY/\t.aY<=t.bu.length+t.aS.length
theorem zq:∀(l:List Int) (s:Nat),(∀x∈l,0<=x/\x<10)->l.Nodup->(∀x∈l,s.testBit x.toNat=false)->(sj s l).2.1=0
 |[],s,_,_,_=>rfl
 |x::l,s,h1,h2,h3=>by
  rw[List.nodup_cons]at h2;have hx:=h1 x (by simp)
  have:eB x=true:=by simp[eB];omega
  rw[sj,this,h3 x (by simp)]
  simp only[Qt,Qq,Qu];refine zq l _ (fun y hy=>h1 y (by simp[hy])) h2.2 fun y hy=> ?_
  have hy1:=h1 y (by simp[hy])
  rw[Nat.testBit_or,h3 y (by simp[hy]),Nat.testBit_two_pow]
  have:x.toNat≠y.toNat:=fun e=>by
   have:x=y:=by omega
   subst this;exact h2.1 hy
  simp[this]
theorem Lo{l:List Int}(h:∀x∈l,0<=x/\x<10):(l.any fun x=> !eB x)=false:=by
 rw[List.any_eq_false];intro x hx;have:=h x hx;simp[eB];omega
theorem Me{rec:aq->Option Int}{x:Int}(h0:0<=x)(h1:x<10):tT rec ⟨1,[x],[]⟩=some 0:=by
 have h2:aJ .i64 (1:Nat) (0:Nat)=1:=rfl;have h3:(sj 0 [x]).2.1=0:=zq [x] 0 (by simp;omega) (by simp) (by simp)
 have h4:([x].any fun x=> !eB x)=false:=Lo (by simp;omega)
 simp only[tT,QE,QZ,Nat.zero_add,h2,h3,h4];simp[fP]
theorem NV{t:aq}(h:iV t){rec:aq->Option Int}(hr:∀x,0<=x->x<10->rec ⟨1,[x],[]⟩=some 0):tT rec t=some 0:=by
 have hil:t.aS.length<=1:=by rcases h.inner with e|⟨x,_,_,e⟩<;>rw[e]<;>simp
 have hlen:=h.len;have h2:aJ .i64 t.bu.length t.aS.length=t.bu.length+t.aS.length:=cq (by omega) (by omega)
 have h3:(sj 0 t.bu).2.1=0:=zq _ 0 h.nodes h.nodup (by simp)
 have h4:=Lo h.nodes;have h5:=h.th;unfold tT;rw[h2,Qs (by omega),h4,h3]
 simp only[Qq,Qu,Qt];rcases h.inner with e|⟨x,hx0,hx1,e⟩
 ·rw[e];rfl
 ·rw[e,fP,hr x hx0 hx1];rfl
theorem JW(t:aq):∃n,SizeOf.sizeOf t=n+1:=by
 have:1<=SizeOf.sizeOf t:=by
  cases t;simp only[aq.mk.sizeOf_spec];omega
 exact⟨SizeOf.sizeOf t - 1,by omega⟩
theorem Oi(n:Nat)(th:Int)(l:List Int):jU (n+1) (⟨th,l,[]⟩,())=some 1:=by
 show gI _ _=_;rw[H4 (by simp)]
 rfl
theorem size_leaf(n:Nat)(th:Int)(l:List Int):kK (n+1) (⟨th,l,[]⟩,())=some (aJ .i64 l.length (0:Nat)):=by
 show il _ _=_;rw[LM (by simp)]
 rfl
theorem Oj{t:aq}(h:iV t):∃d,jW t=some d/\d<=2:=by
 obtain⟨n,hn⟩:=JW t;have hil:t.aS.length<=1:=by rcases h.inner with e|⟨x,_,_,e⟩<;>rw[e]<;>simp
 unfold jW;rw[hn];show∃d,gI (jU (n+1)) t=some d/\d<=2;rw[H4 (by omega)]
 rcases h.inner with e|⟨x,_,_,e⟩
 ·rw[e];exact⟨1,rfl,by omega⟩
 ·rw[e,fP,Oi n 1 [x]];exact⟨2,rfl,by omega⟩
theorem O2{t:aq}(h:iV t):∃d,kL t=some d/\d<=200:=by
 obtain⟨n,hn⟩:=JW t;have hil:t.aS.length<=1:=by rcases h.inner with e|⟨x,_,_,e⟩<;>rw[e]<;>simp
 have hlen:=h.len;unfold kL;rw[hn];show∃d,il (kK (n+1)) t=some d/\d<=200;rw[LM (by omega),cq (by omega) (by omega)]
 rcases h.inner with e|⟨x,_,_,e⟩
 ·rw[e];exact⟨_,rfl,by simp;omega⟩
 ·rw[e,fP,size_leaf n 1 [x]];have h1:aJ .i64 (([x]:List Int).length:Nat) (0:Nat)=1:=rfl;rw[h1];refine⟨_,rfl,?_⟩;simp only[QE,QZ];rw[cq (by omega) (by omega)]
  omega
theorem lZ{t:aq}(h:iV t):dg t=some 0:=by
 obtain⟨d,h1,h2⟩:=Oj h;obtain⟨z,h3,h4⟩:=O2 h;obtain⟨n,hn⟩:=JW t;have hil:t.aS.length<=1:=by rcases h.inner with e|⟨x,_,_,e⟩<;>rw[e]<;>simp
 have hlen:=h.len
 have h5:jV t=some 0:=by
  unfold jV;rw[hn];show gH (iM (n+1)) t=some 0;rw[H3 (by omega) (by omega)]
  refine NV h fun x hx0 hx1=> ?_
  show gH (iM n) ⟨1,[x],[]⟩=some 0;rw[H3 (by simp) (by simp)]
  exact Me hx0 hx1
 have h6:¬4<d:=by omega
 have h7:¬200<z:=by omega
 simp[dg,h1,h3,h5,h6,h7]
end Go.Proofs.YtkgenianmdfmdaaGreat
namespace Go.Proofs.YtkgenianmdfmdaaGreat
open Go.TQ
structure DP (s:iR):Prop where
 len:s.L.length<=800
 lo:0<=s.At
 hi:s.At<=800
theorem VU(l:List Int):Yd (vg l) fun s=>DP s:=by
 have h:dD (l.length:Int) 800=((min l.length 800:Nat):Int):=by unfold dD;split<;>omega
 have h2:dK 0 ((min l.length 800:Nat):Int) l.length=true:=by
  simp only[dK,Qm,Qi];omega
 unfold vg;rw[h,h2];refine Yd.some ⟨?_,by simp,by simp⟩
 simp only[QV,List.length_drop,List.length_take];omega
theorem Tx(x n:Int)(hn:1<=n): -n<x.tmod n/\x.tmod n<n:=by
 have h2:=Int.emod_nonneg x (show n≠0 by omega)
 have h3:=Int.emod_lt_of_pos x (show 0<n by omega)
 rw[Int.tmod_eq_emod];split
 ·omega
 ·rw[Int.natAbs_of_nonneg (by omega)];omega
theorem OG{s:iR}(h:DP s){n:Int}(hn:n<=1000000000):Yd (kO s n) fun p=>DP p.2/\0<=p.1/\(1<=n->p.1<n)/\(n<1->p.1=0):=by
 unfold kO;simp only[bD];refine Yd.cond (fun h1=> ?_) (fun h1=> ?_)
 ·exact Yd.some ⟨h,by simp,fun _=>by simp;omega,fun _=>rfl⟩
 ·simp only[Qj,Int.not_le]at h1;refine Yd.cond (fun h2=> ?_) (fun h2=> ?_)
  ·simp only[Qi]at h2;exact Yd.some ⟨h,by simp,fun _=>by simp;omega,fun _=>rfl⟩
  ·simp only[Qj,Int.not_lt]at h2;obtain⟨hl,hlo,hhi⟩:=h;have e1:aJ .i64 s.At 1=s.At+1:=cq (by omega) (by omega)
   have e2:gf .i64 (s.At+1) 1=s.At:=by rw[yY (by omega) (by omega)];omega
   rw[e1,e2];have hlt:s.At.toNat<s.L.length:=by omega
   rw[KH _ hlo,Qv hlt,Qa,Qs (by omega),Qs (by omega)]
   have hb:=Tx s.L[s.At.toNat] n h2;have e3:Ny .i64 s.L[s.At.toNat] n=s.L[s.At.toNat].tmod n:=rfl;rw[e3];generalize s.L[s.At.toNat].tmod n=y at hb;have e4:aJ .i64 y n=y+n:=cq (by omega) (by omega)
   rw[e4];have h5:Ny .i64 (y+n) n=(y+n) % n:=Int.tmod_eq_emod_of_nonneg (by omega)
   rw[h5];exact Yd.some ⟨⟨hl,by simp;omega,by simp;omega⟩,Int.emod_nonneg _ (by omega),fun _=>Int.emod_lt_of_pos _ (by omega),fun _=>by omega⟩
theorem E8{s:iR}(h:DP s){a b:Int}(h1:0<=a)(h2:a<=b+1)(h3:b<=1000000):Yd (je s a b) fun p=>DP p.2/\a<=p.1/\(a<=b->p.1<=b)/\(b<a->p.1=a):=by
 unfold je;have e1:gf .i64 b a=b - a:=yY (by omega) (by omega)
 have e2:aJ .i64 (b - a) 1=b - a+1:=cq (by omega) (by omega)
 rw[e1,e2];refine(OG h (by omega)).bind fun p ⟨h4,h5,h6,h7⟩=> ?_
 have e3:aJ .i64 a p.1=a+p.1:=by
  by_cases hq:b - a+1<1
  ·rw[h7 hq];exact cq (by omega) (by omega)
  ·have:=h6 (by omega);exact cq (by omega) (by omega)
 rw[e3];refine Yd.some ⟨h4,by simp;omega,fun hab=> ?_,fun hab=> ?_⟩
 ·have:=h6 (by omega)
  show a+p.1<=b;omega
 ·have:=h7 (by omega)
  show a+p.1=a;omega
theorem UW{s:iR}(h:DP s){l:List ByteArray}(h1:1<=l.length)(h2:l.length<=1000):Yd (nX s l) fun p=>DP p.2/\p.1∈l:=by
 unfold nX;refine(OG h (by omega)).bind fun p ⟨h4,h5,h6,_⟩=> ?_
 have:=h6 (by omega)
 have hlt:p.1.toNat<l.length:=by omega
 rw[KH _ h5,Qv hlt];exact Yd.some ⟨h4,Q0 hlt⟩
def I7(v:ByteArray):Prop:=v∈[(ByteArray.mk #[97]),(ByteArray.mk #[98]),(ByteArray.mk #[99]),(ByteArray.mk #[97,97])]
theorem I7.size{v:ByteArray}(h:I7 v):1<=v.size/\v.size<=2:=by
 simp only[I7,QA,QR,or_false]at h;rcases h with rfl|rfl|rfl|rfl<;>exact⟨by decide,by decide⟩
theorem Lw{s:iR}(h:DP s):Yd (kN s) fun p=>DP p.2/\I7 p.1:=by
 unfold kN;exact(UW h (by simp) (by simp)).bind fun p hp=>Yd.some hp
end Go.Proofs.YtkgenianmdfmdaaGreat
namespace Go.Proofs.YtkgenianmdfmdaaGreat
open Go.TQ
def at_(e:ai)(n:Int):af:=⟨n,e.aa.Value⟩
def Cw(e:ai):Bool:=aF e.aw||(!aF e.al&&bb e.aw e.al&& !bs e.aw e.al)
def fp(e:ai):Bool:=
 finite e.aa&&(aF e.al||ct e.al)&&(aF e.aw||ct e.aw)&&Cw e&&decide (0<=e.aO)&&decide (e.aO<=e.aX)&&decide (e.aX<=e.aa.aj)
  &&(decide (e.aX=0)||dG e.al e.aw (at_ e e.aX))&&(decide (e.aO=0)||(!dZ e.al (at_ e e.aO)&& !dZ e.aw (at_ e e.aO)))
def tN(e:ai):Bool:=decide (1<=e.aO)&&decide (e.aO<=e.aX)&&decide (e.aX<=1000)
def wo(e:ai):Bool:=finite e.aa&&ct e.al&&bs e.al e.aa&&aF e.aw&&tN e&&decide (e.aX<=e.al.aj)
def zO(e:ai):Bool:=ct e.aa&&aF e.al&&aF e.aw&&tN e
def yC(e:ai):Bool:=decide (0<=e.au)&&decide (e.au<10)&&decide (1<=e.bw)&&decide (e.bw<=1000000)&&decide (1<=e.aL)&&decide (e.aL<=1000000)
def ln(tv:Int)(e:ai):Bool:=
 yC e&&decide (tv=0)&&(if e.bS=1 then fp e else if e.bS=2 then wo e else if e.bS=3 then zO e else false)
theorem Xt(a b:Int):decide (a<b)= !decide (b<=a):=by by_cases h:a<b<;>simp[h]<;>omega
theorem Jt(e:ai):kg e=some (fp e):=by
 unfold kg fp Cw at_
 simp only[bW,gG,dV,yS,wU,uM,nQ,mO,Qa,ng,bD,Xt,UN];cases finite e.aa<;>cases (aF e.al||ct e.al)<;>cases (aF e.aw||ct e.aw)<;>simp
 by_cases h:e.aX=0<;>simp[h,Bool.and_assoc]
theorem sK{e:ai}{tv:Int}(hT:dg e.ae=some tv):cv e=some (ln tv e):=by
 unfold cv ln yC;simp[Jt,hT,Xt,wo,zO,tN]
 grind
def xf(e:ai)(v:ByteArray)(lo hi:Int):Bool:=decide (1<=lo)&&decide (lo<=hi)&&decide (e.aa.Value=v)&&decide (e.aO<=lo)
def rN(e:ai)(v:ByteArray)(lo hi:Int):Bool:=xf e v lo hi&&(!decide (e.bS=1)||(!decide (e.aO=0)&&decide (hi<=e.aX)))
def dn(e:ai)(v:ByteArray)(lo hi:Int):Bool:=xf e v lo hi&&(decide (e.bS=3)||(decide (e.bS=2)&&decide (hi<=e.aX)))
def pY(e:ai)(b:af):Bool:= !aF b&&(if e.bS=1 then ir e.aa b else bs e.aa b)
def da(e:ai)(b:af):Bool:= !aF b&&(if e.bS=1 then dG e.al e.aw b else if e.bS=2 then ir e.al b else bs e.aa b)
def eY(e:ai):Int:=if e.bS=3 then 1000000 else e.aa.aj
@[simp] theorem xV (r:bc) (v:ByteArray) (lo hi:Int):fW r v lo hi=some (rN r.av v lo hi):=by
 simp[fW,gU,rN,xf]
@[simp] theorem oM (r:bc) (v:ByteArray) (lo hi:Int):fu r v lo hi=some (dn r.av v lo hi):=by
 simp[fu,gU,dn,xf]
@[simp] theorem wV (r:bc) (b:af):fR r b=some (pY r.av b):=by
 simp only[fR,pY];cases hz:aF b<;>by_cases h:r.av.bS=1<;>simp[h,hz]
@[simp] theorem n4 (r:bc) (b:af):fm r b=some (da r.av b):=by
 simp only[fm,da];cases hz:aF b<;>by_cases h:r.av.bS=1<;>by_cases h2:r.av.bS=2<;>simp[h,h2,hz]
@[simp] theorem SD (r:bc):iY r=some (eY r.av):=by
 simp[iY,eY,HV,EE]
section
variable {e : ai} {tv : Int} (hT : dg e.ae = some tv)
 include hT
theorem LI:gP e=some (if ln tv e then eY e else 0):=by
 simp only[gP,aq.eta,ai.eta,sK hT,Qa];cases ln tv e<;>simp
end
def kU(n:Nat):List Int:=(List.range n).map fun i:Nat=>(i:Int)
theorem DU(n:Nat):kU (n+1)=kU n++[(n:Int)]:=by simp[kU,List.range_succ]
@[simp] theorem Nl (n:Nat):(kU n).length=n:=by simp[kU]
theorem Ng(n:Nat)(hn:n<=1000)(k:Int):mf n k=some ⟨k,kU n,[]⟩:=by
 unfold mf
 suffices key:∀(m i:Nat) (t:aq),i+m=n->t.aY=k->t.aS=[]->aI (fun(v1:Int×aq×(List Int)×Unit)=>
   bif (decide (v1.1<(n:Int)))then
   bif b0 8 (List.length v1.2.2.1+List.length [v1.1])then
   some (Sum.inl ((aJ .i64 v1.1 (1:Int)),(aq.mk v1.2.1.aY ([]:List Int) v1.2.1.aS),(v1.2.2.1++[v1.1]),()))
   else none
   else
   Option.map Sum.inr (some (aq.mk v1.2.1.aY v1.2.2.1 v1.2.1.aS))) ((i:Int),t,kU i,())=some ⟨k,kU n,[]⟩from key n 0 _ (by omega) rfl rfl
 intro m
 induction m with
 |zero=>
  intro i t hi h1 h2;obtain rfl:i=n:=by omega
  refine bX ?_;have hd:decide ((i:Int)<(i:Int))=false:=Qh (Int.lt_irrefl _);simp only[hd,Ql,h1,h2,Qe]
 |succ m ih=>
  intro i t hi h1 h2;have hd:decide ((i:Int)<(n:Int))=true:=Qg (by omega)
  have hw:aJ .i64 (i:Int) 1=((i+1:Nat):Int):=cq (by omega) (by omega)
  rw[bp (s':=(((i+1:Nat):Int),⟨t.aY,[],t.aS⟩,kU (i+1),()))]
  ·exact ih (i+1) _ (by omega) h1 h2
  ·simp only[hd,hw,Qk];rw[eM (by simp;omega)]
   simp[DU]
theorem rB(n:Nat)(hn:n<=10)(k:Int)(h1:1<=k)(h2:k<=n):iV ⟨k,kU n,[]⟩:=by
 refine⟨fun x hx=> ?_,?_,by simpa using hn,.inl rfl,h1,by simpa using h2⟩
 ·simp only[kU,QP,List.mem_range]at hx;obtain⟨i,hi,rfl⟩:=hx;omega
 ·show(kU n).Nodup;exact List.Pairwise.map _ (fun a b h e=>h (by omega)) List.nodup_range
structure WW (az bL n:Int) (e:ai):Prop where
 az:e.au=az
 bL:e.bw=bL
 seq:1<=e.aL/\e.aL<=9
 aZ:iV e.ae
 nodes:∀x∈e.ae.bu,x<n
 ne:e.ae.bu≠[]
 val:I7 e.aa.Value
 valid:ln 0 e=true
theorem OT{b:af}(h1:1<=b.aj)(h2:b.aj<=1000)(h3:I7 b.Value):ct b=true:=by
 have:=h3.size;have h4:b.Value.size<=200:=by omega
 simp[ct,h1,h2,h4,this.1]
end Go.Proofs.YtkgenianmdfmdaaGreat
namespace Go.Proofs.YtkgenianmdfmdaaGreat
open Go.TQ
inductive eZ:aq->Prop where
 |mk (t:aq) (h1:t.bu.length<=1000000) (h2:t.aS.length<=1000000) (h3:∀u∈t.aS,eZ u):eZ t
theorem eZ.nodes{t:aq}:eZ t->t.bu.length<=1000000| .mk _ h _ _=>h
theorem eZ.len{t:aq}:eZ t->t.aS.length<=1000000| .mk _ _ h _=>h
theorem eZ.inner{t:aq}:eZ t->∀u∈t.aS,eZ u| .mk _ _ _ h=>h
theorem tf{t u:aq}(h:u∈t.aS):SizeOf.sizeOf u<SizeOf.sizeOf t:=by
 have h1:=List.sizeOf_lt_of_mem h
 cases t with
 |mk th ns is=>
  simp only[aq.mk.sizeOf_spec]at h1 ⊢;omega
theorem iV.sm{t:aq}(h:iV t):eZ t:=by
 have:=h.len;refine .mk t (by omega) ?_ fun u hu=> ?_
 ·rcases h.inner with e|⟨x,_,_,e⟩<;>rw[e]<;>simp
 ·rcases h.inner with e|⟨x,_,_,e⟩
  ·rw[e]at hu;cases hu
  ·rw[e]at hu;simp only[List.mem_singleton]at hu;subst hu;exact .mk _ (by simp) (by simp) (by simp)
@[simp] theorem Sg (l:List Int) (h:l.length<=1000000):jm l=some l:=by
 unfold jm;rw[eM (by simp;omega)]
 cases l with
 |nil=>simp
 |cons x l=>simp
theorem Sy{n:Nat}:∀{t:aq},SizeOf.sizeOf t<n->eZ t->pf n (t,())=some t:=by
 induction n with
 |zero=>intro t h;omega
 |succ n ih=>
  intro t hs hm;show pn (pf n) t=some t;unfold pn;have hl:=hm.len;rw[Sg _ hm.nodes,Qa]
  suffices key:∀(k i:Nat) (t':aq),i+k=t.aS.length->t'.aY=t.aY->t'.bu=t.bu->aI (fun(v2:Int×aq×(List aq)×Unit)=>
    bif (decide (v2.1<((List.length t.aS:Nat):Int)))then
    Option.bind (idx t.aS v2.1) fun x3=>
    Option.bind (pf n ((aq.mk x3.aY x3.bu x3.aS),())) fun r4=>
    bif b0 56 (List.length v2.2.2.1+List.length [(aq.mk r4.aY r4.bu r4.aS)])then
    some (Sum.inl ((aJ .i64 v2.1 (1:Int)),(aq.mk v2.2.1.aY v2.2.1.bu ([]:List aq)),(v2.2.2.1++[(aq.mk r4.aY r4.bu r4.aS)]),()))
    else none
    else
    Option.map Sum.inr (some (aq.mk v2.2.1.aY v2.2.1.bu v2.2.2.1))) ((i:Int),t',t.aS.take i,())=some t by
   have:=key t.aS.length 0 ⟨t.aY,t.bu,[]⟩ (by omega) rfl rfl
   simpa using this
  intro k
  induction k with
  |zero=>
   intro i t' hi h1 h2;refine bX ?_;have hd:decide ((i:Int)<((t.aS.length:Nat):Int))=false:=Qh (by omega)
   simp only[hd,Ql,Qe,h1,h2];rw[List.take_of_length_le (by omega),aq.eta]
  |succ k ihk=>
   intro i t' hi h1 h2;have hlt:i<t.aS.length:=by omega
   have hd:decide ((i:Int)<((t.aS.length:Nat):Int))=true:=Qg (by omega)
   have hx:idx t.aS (i:Int)=some t.aS[i]:=by rw[bN];exact Qv hlt
   have hw:aJ .i64 (i:Int) 1=((i+1:Nat):Int):=cq (by omega) (by omega)
   have hmem:t.aS[i]∈t.aS:=Q0 hlt;have hr:=ih (t:=t.aS[i]) (by have:=tf hmem;omega) (hm.inner _ hmem)
   rw[bp (s':=(((i+1:Nat):Int),⟨t'.aY,t'.bu,[]⟩,t.aS.take (i+1),()))]
   ·exact ihk (i+1) _ (by omega) h1 h2
   ·simp only[hd,Qk,hx,hw,Qa,aq.eta,hr];rw[eM (by simp;omega),List.take_succ_eq_append_getElem hlt]
    rfl
@[simp] theorem rE {t:aq} (h:eZ t):jg t=some t:=Sy (by omega) h
theorem tI{α σ ρ:Type}{g:α->σ->Option (σ⊕ρ)}{fin:σ->Option ρ}(hf:∀s,∃r,fin s=some r):∀(l:List α),(∀x∈l,∀s,∃y,g x s=some y)->∀s,∃r,fP g fin l s=some r
 |[],_,s=>hf s
 |x::l,h,s=>by
  obtain⟨y,hy⟩:=h x (by simp) s
  rw[fP,hy]
  cases y with
  |inr r=>exact⟨r,rfl⟩
  |inl s'=>exact tI hf l (fun x hx=>h x (by simp[hx])) s'
theorem Mh{n:Nat}:∀{t:aq},SizeOf.sizeOf t<n->eZ t->∃d,jU n (t,())=some d:=by
 induction n with
 |zero=>intro t h;omega
 |succ n ih=>
  intro t hs hm;show∃d,gI (jU n) t=some d;have hl:=hm.len;rw[H4 (by omega)]
  refine tI (fun s=>⟨_,rfl⟩) _ (fun u hu s=> ?_) _
  obtain⟨d,hd⟩:=ih (t:=u) (by have:=tf hu;omega) (hm.inner u hu)
  exact⟨_,by rw[hd];rfl⟩
theorem Nr{n:Nat}:∀{t:aq},SizeOf.sizeOf t<n->eZ t->∃d,kK n (t,())=some d:=by
 induction n with
 |zero=>intro t h;omega
 |succ n ih=>
  intro t hs hm;show∃d,il (kK n) t=some d;have hl:=hm.len;rw[LM (by omega)]
  refine tI (fun s=>⟨_,rfl⟩) _ (fun u hu s=> ?_) _
  obtain⟨d,hd⟩:=ih (t:=u) (by have:=tf hu;omega) (hm.inner u hu)
  exact⟨_,by rw[hd];rfl⟩
theorem KA{rec:aq->Option Int}{t:aq}(h:∀u∈t.aS,∃r,rec u=some r):∃r,tT rec t=some r:=by
 unfold tT;split
 ·exact⟨_,rfl⟩
 ·split
  ·exact⟨_,rfl⟩
  ·split
   ·refine tI (fun s=>⟨_,rfl⟩) _ (fun u hu s=> ?_) _
    obtain⟨r,hr⟩:=h u hu;exact⟨_,by rw[hr];rfl⟩
   ·exact⟨_,rfl⟩
theorem level_p{n:Nat}:∀{t:aq},SizeOf.sizeOf t<n->eZ t->∃d,iM n (t,())=some d:=by
 induction n with
 |zero=>intro t h;omega
 |succ n ih=>
  intro t hs hm;show∃d,gH (iM n) t=some d;have hl:=hm.len;have hn:=hm.nodes;rw[H3 (by omega) (by omega)]
  exact KA (rec:=fun u=>iM n (u,())) (t:=t) fun u hu=>ih (t:=u) (by have:=tf hu;omega) (hm.inner u hu)
theorem valid_p{t:aq}(h:eZ t):∃v,dg t=some v:=by
 obtain⟨d,hd⟩:∃d,jW t=some d:=Mh (by omega) h
 obtain⟨z,hz⟩:∃z,kL t=some z:=Nr (by omega) h
 obtain⟨l,hl1⟩:∃l,jV t=some l:=level_p (by omega) h
 simp[dg,hd,hz,hl1]
 def DW(t:aq):Int:=(dg t).getD 1
theorem Mo{t:aq}(h:eZ t):dg t=some (DW t):=by
 obtain⟨v,h1⟩:=valid_p h;rw[DW,h1];rfl
theorem AQ{t:aq}(h:iV t):DW t=0:=by rw[DW,lZ h];rfl
 def a8(e:ai):Bool:=ln (DW e.ae) e
theorem lX{e:ai}(h:eZ e.ae):cv e=some (a8 e):=sK (Mo h)
def fT(s:Nat)(x:Int):Bool:=eB x&&s.testBit x.toNat
theorem wb{s:Nat}(h:s<1024)(x:Int):wc s x=fT s x:=by
 have h1:decide (0<=(s:Int))=true:=Qg (by omega)
 have h2:decide ((s:Int)<1024)=true:=Qg (by omega)
 simp only[wc,fT,h1,h2,Bool.true_and,QV]
mutual
def jL(s:Nat):aq->Bool
 |⟨th,ns,is⟩=>decide (th<=((ns.countP (fT s)+qB s is:Nat):Int))
def qB(s:Nat):List aq->Nat
 |[]=>0
 |t::l=>(if jL s t then 1 else 0)+qB s l
end
theorem Cq(s:Nat)(t:aq):jL s t=decide (t.aY<=((t.bu.countP (fT s)+qB s t.aS:Nat):Int)):=by
 cases t;rw[jL]
theorem zX(s:Nat)(hs:s<1024)(fin:Int->Option Bool):∀(l:List Int) (n:Nat),n+l.length<=9000000->
  fP (fun x (m:Int)=>some (.inl (if wc s x then aJ .i64 m 1 else m))) fin l n=fin ((n+l.countP (fT s):Nat):Int)
 |[],n,_=>by simp[fP]
 |x::l,n,h=>by
  simp at h;rw[fP,wb hs,List.countP_cons]
  cases hx:fT s x with
  |false=>
   simp only[Qq,Qu,Nat.add_zero];exact zX s hs fin l n (by omega)
  |true=>
   simp only[Qt];rw[cq (by omega) (by omega)]
   rw[show(n:Int)+1=((n+1:Nat):Int)by omega,zX s hs fin l (n+1) (by omega)]
   congr 2;omega
theorem DZ(s:Nat)(rec:aq->Option Bool)(fin:Int->Option Bool):∀(l:List aq) (n:Nat),n+l.length<=9000000->(∀u∈l,rec u=some (jL s u))->
  fP (fun u (m:Int)=>(rec u).map fun r=> .inl (if r then aJ .i64 m 1 else m)) fin l n=fin ((n+qB s l:Nat):Int)
 |[],n,_,_=>by simp[fP,qB]
 |u::l,n,h,hr=>by
  simp at h;rw[fP,hr u (by simp),qB]
  cases hx:jL s u with
  |false=>
   simp only[Qe,Qq,Qu,Nat.zero_add];exact DZ s rec fin l n (by omega) fun u hu=>hr u (by simp[hu])
  |true=>
   simp only[Qe,Qt];rw[cq (by omega) (by omega)]
   rw[show(n:Int)+1=((n+1:Nat):Int)by omega,DZ s rec fin l (n+1) (by omega) fun u hu=>hr u (by simp[hu])]
   congr 2;omega
theorem WX{rec:(aq×Int×Unit)->Option Bool}{t:aq}{s:Nat}(hs:s<1024)(hm:eZ t)(hr:∀u∈t.aS,rec (u,(s:Int),())=some (jL s u)):iw rec t s=some (jL s t):=by
 unfold iw;have hn:=hm.nodes;have hl:=hm.len;have hv:ec (s:Int)=some true:=by rw[HW];simp;omega
 rw[hv];simp only[Qa,Qo,Ql,bD];rw[ji t.bu (by omega) (fun i (m:Int)=>(m,i,())) (fun x (m:Int)=>some (.inl (if wc s x then aJ .i64 m 1 else m))) (fun m=>fP (fun u (m:Int)=>(rec (u,(s:Int),())).map fun r=> .inl (if r then aJ .i64 m 1 else m)) (fun m=>some (decide (t.aY<=m))) t.aS m) (fun i x m hd hx hw=> ?_) (fun m hd=> ?_) 0]
 ·rw[show(0:Int)=((0:Nat):Int)from rfl,zX s hs _ t.bu 0 (by omega)]
  rw[DZ s (fun u=>rec (u,(s:Int),())) _ t.aS _ (by have:=List.countP_le_length (p:=fT s) (l:=t.bu);omega) hr,Cq]
  simp
 ·simp only[hd,hx,hw,Qk,Qa,nm];cases wc s x<;>rfl
 ·simp only[hd,Ql];rw[ji t.aS (by omega) (fun i (m:Int)=>(m,i,())) (fun u (m:Int)=>(rec (u,(s:Int),())).map fun r=> .inl (if r then aJ .i64 m 1 else m)) (fun m=>some (decide (t.aY<=m))) (fun i x m hd hx hw=> ?_) (fun m hd=> ?_) m]
  ·simp only[hd,hx,hw,Qk,Qa,aq.eta]
   cases rec (x,(s:Int),())with
   |none=>rfl
   |some r=>cases r<;>rfl
  ·simp only[hd,Ql]
theorem WR{s:Nat}(hs:s<1024){n:Nat}:∀{t:aq},SizeOf.sizeOf t<n->eZ t->mJ n (t,(s:Int),())=some (jL s t):=by
 induction n with
 |zero=>intro t h;omega
 |succ n ih=>
  intro t hz hm;show iw (mJ n) t s=some (jL s t);exact WX hs hm fun u hu=>ih (t:=u) (by have:=tf hu;omega) (hm.inner u hu)
theorem Cg{s:Nat}(hs:s<1024){t:aq}(hm:eZ t):jG t s=some (jL s t):=WR hs (by omega) hm
theorem IH{s s':Nat}(h:∀k,s.testBit k=true->s'.testBit k=true)(x:Int)(hx:fT s x=true):fT s' x=true:=by
 simp only[fT,Qm]at hx ⊢;exact⟨hx.1,h _ hx.2⟩
mutual
theorem H9{s s':Nat}(h:∀k,s.testBit k=true->s'.testBit k=true):∀(t:aq),jL s t=true->jL s' t=true
 |⟨th,ns,is⟩,ht=>by
  rw[jL,Qi]at ht ⊢;have h1:=Ia h is;have h2:ns.countP (fT s)<=ns.countP (fT s'):=List.countP_mono_left fun x _ hx=>IH h x hx
  omega
theorem Ia{s s':Nat}(h:∀k,s.testBit k=true->s'.testBit k=true):∀(l:List aq),qB s l<=qB s' l
 |[]=>by simp[qB]
 |t::l=>by
  have h1:=Ia h l;have h2:=H9 h t;rw[qB,qB]
  cases hs:jL s t with
  |false=>simp;omega
  |true=>rw[h2 hs];simp;omega
end
end Go.Proofs.YtkgenianmdfmdaaGreat
namespace Go.Proofs.YtkgenianmdfmdaaGreat
open Go.TQ
theorem uO{s:Nat}(h:s<1024):ec (s:Int)=some true:=by rw[HW];simp;omega
theorem DM(a b:Nat)(ha:a<2 ^ 62)(hb:b<2 ^ 62):∃c:Nat,tt .i64 (a:Int) (b:Int)=(c:Int)/\c<=a/\∀k,c.testBit k=(a.testBit k&& !b.testBit k):=by
 refine⟨((BitVec.ofInt 64 (a:Int)&&& ~~~ BitVec.ofInt 64 (b:Int)).toNat),?_,?_,fun k=> ?_⟩
 ·have hle:(BitVec.ofInt 64 (a:Int)&&& ~~~ BitVec.ofInt 64 (b:Int)).toNat<=a:=by
   rw[BitVec.toNat_and,ot a ha];exact Nat.and_le_left
  show IntKind.i64.wrap (((BitVec.ofInt 64 (a:Int)&&& ~~~ BitVec.ofInt 64 (b:Int)).toNat:Nat):Int)=_;exact yU _ (by omega)
 ·rw[BitVec.toNat_and,ot a ha];exact Nat.and_le_left
 ·have h1:∀i (x:Nat),x<2 ^ 62->(BitVec.ofInt 64 (x:Int)).getLsbD i=x.testBit i:=by
   intro i x hx;rw[<-BitVec.testBit_toNat,ot x hx]
  rw[BitVec.testBit_toNat,BitVec.getLsbD_and,BitVec.getLsbD_not,h1 k a ha,h1 k b hb]
  by_cases hk:k<64
  ·simp[hk]
  ·have:a.testBit k=false:=Nat.testBit_lt_two_pow (QJ ha (Nat.pow_le_pow_right (by omega) (by omega)))
   simp[this]
theorem yq{a b:Nat}(h:∀k,a.testBit k=b.testBit k):a=b:=Nat.eq_of_testBit_eq h
theorem GK{s k:Nat}(hs:s<1024)(hk:s.testBit k=true):k<10:=by
 rcases Nat.lt_or_ge k 10 with h|h
 ·exact h
 ·have:s.testBit k=false:=Nat.testBit_lt_two_pow (QJ hs (show 2 ^ 10<=2 ^ k from Nat.pow_le_pow_right (by omega) h))
  rw[this]at hk;cases hk
theorem yt{s:Nat}(h:∀k,s.testBit k=true->k<10):s<1024:=by
 rcases Nat.lt_or_ge s 1024 with h1|h1
 ·exact h1
 ·obtain⟨k,hk1,hk2⟩:=Nat.exists_ge_and_testBit_of_ge_two_pow (n:=10) h1;have:=h k hk2;omega
theorem we(s k:Nat):fT s (k:Int)=(decide (k<10)&&s.testBit k):=by
 have h1:decide ((k:Int)<10)=decide (k<10):=by rw[decide_eq_decide];omega
 have h2:decide (0<=(k:Int))=true:=Qg (by omega)
 simp only[fT,eB,h1,h2,Bool.true_and,QV]
def zU(i:Nat)(s:Nat):List aW->Nat
 |[]=>s
 |m::l=>zU (i+1) (if m.dp&&decide (i<10)then s|||2 ^ i else s) l
def nV(l:List aW):Nat:=zU 0 0 l
theorem IV:∀(l:List aW) (i s k:Nat),(zU i s l).testBit k=(s.testBit k||(decide (i<=k)&&decide (k<10)&&((l[k - i]?).any (·.dp))))
 |[],i,s,k=>by simp[zU]
 |m::l,i,s,k=>by
  rw[zU,IV l (i+1)]
  by_cases hk:k=i
  ·subst hk;have h1:¬(k+1<=k):=by omega
   cases hm:m.dp<;>by_cases hi:k<10<;>simp[hm,hi,h1,Nat.testBit_or]
  ·have h2:i<=k↔i+1<=k:=by omega
   have h3:∀b:Bool,(if(b&&decide (i<10))=true then s|||2 ^ i else s).testBit k=s.testBit k:=by
    intro b;split
    ·rw[Nat.testBit_or,Nat.testBit_two_pow];have:¬i=k:=fun e=>hk e.symm
     simp[this]
    ·rfl
   rw[h3]
   by_cases hik:i+1<=k
   ·have h4:(m::l)[k - i]?=l[k - (i+1)]?:=by
     rw[show k - i=(k - (i+1))+1 by omega,List.getElem?_cons_succ]
    rw[h4];have:i<=k:=by omega
    simp[this,hik]
   ·have:¬i<=k:=by omega
    simp[this,hik]
theorem B0(l:List aW)(k:Nat):(nV l).testBit k=(decide (k<10)&&((l[k]?).any (·.dp))):=by
 rw[nV,IV];simp
theorem K5(l:List aW):nV l<1024:=yt fun k hk=>by
 rw[B0]at hk;simp at hk;exact hk.1
theorem PM(step:(Int×Int×Unit)->Option ((Int×Int×Unit)⊕Int))(l:List aW)
  (h1:∀(i:Nat) (m:aW) (s:Nat),l[i]?=some m->s<1024->step ((s:Int),(i:Int),())=some (.inl (((if m.dp&&decide (i<10)then s|||2 ^ i else s:Nat):Int),((i+1:Nat):Int),())))
  (h2:∀s:Int,step (s,(l.length:Int),())=some (.inr s)):aI step (0,0,())=some ((nV l:Nat):Int):=by
 suffices key:∀(k i s:Nat),i+k=l.length->s<1024->aI step ((s:Int),(i:Int),())=some ((zU i s (l.drop i):Nat):Int)by
  have:=key l.length 0 0 (by omega) (by omega)
  simpa[nV]using this
 intro k
 induction k with
 |zero=>
  intro i s hi hs;obtain rfl:i=l.length:=by omega
  rw[bX (h2 s),List.drop_length];rfl
 |succ k ih=>
  intro i s hi hs;have hlt:i<l.length:=by omega
  rw[QM hlt,zU,bp (h1 i l[i] s (Qv hlt) hs)];refine ih (i+1) _ (by omega) ?_
  split
  ·rename_i hc;simp only[Qm,Qi]at hc;have:=Jz (x:=(i:Int)) hs (by omega)
   simpa using this
  ·exact hs
theorem DS{c:bh}(h:c.bF.length<=1000000):gb c=some ((nV c.bF:Nat):Int):=by
 unfold gb;refine PM _ _ (fun i m s hm hs=> ?_) (fun s=> ?_)
 ·have hlt:i<c.bF.length:=(Qw.1 hm).1;have hd:decide ((i:Int)<((c.bF.length:Nat):Int))=true:=Qg (by omega)
  have hw:aJ .i64 (i:Int) 1=((i+1:Nat):Int):=cq (by omega) (by omega)
  have hx:idx c.bF (i:Int)=some m:=by rw[bN];exact hm
  have h0:¬(i:Int)<0:=by omega
  simp only[hd,hx,hw,Qk,Qa,bD,h0,Qu]
  cases m.dp with
  |false=>simp
  |true=>
   by_cases h10:i<10
   ·have:(i:Int)<10:=by omega
    have ho:=CA (x:=(i:Int)) hs (by omega) (by omega)
    simp only[QV]at ho;simp[this,h10,ho]
   ·have:¬(i:Int)<10:=by omega
    simp[this,h10]
 ·have hd:decide (((c.bF.length:Nat):Int)<((c.bF.length:Nat):Int))=false:=Qh (Int.lt_irrefl _);simp only[hd,Ql,Qe]
structure GZ (c:bh):Prop where
 len:c.bF.length<=1000000
 aZ:∀m∈c.bF,eZ m.ae
def kl(l:List aW)(k:Nat):aq:=((l[k]?).map (·.ae)).getD ⟨0,[],[]⟩
def mE(l:List aW)(k:Nat):Bool:=(nV l).testBit k
theorem zM{l:List aW}{k:Nat}(h:mE l k=true):k<10/\∃m,l[k]?=some m/\m.dp=true:=by
 rw[mE,B0]at h;simp only[Qm,Qi,Option.any_eq_true]at h;obtain⟨h1,m,h2,h3⟩:=h;exact⟨h1,m,h2,h3⟩
theorem tx{l:List aW}{k:Nat}{m:aW}(h:l[k]?=some m):kl l k=m.ae:=by rw[kl,h];rfl
def rn(s v:Nat):Nat:=(1023^^^s)|||2 ^ v
def tr(l:List aW)(v s:Nat):Bool:=mE l v&& !jL (rn s v) (kl l v)
theorem SK(k:Nat):(1023:Nat).testBit k=decide (k<10):=by
 rw[show(1023:Nat)=2 ^ 10 - 1 from rfl,Nat.testBit_two_pow_sub_one]
theorem sf{s:Nat}(hs:s<1024)(v k:Nat):(rn s v).testBit k=(decide (k<10)&& !s.testBit k||decide (v=k)):=by
 rw[rn,Nat.testBit_or,Nat.testBit_xor,SK,Nat.testBit_two_pow]
 by_cases hk:k<10
 ·simp[hk]
 ·have:s.testBit k=false:=by
   cases h:s.testBit k with
   |false=>rfl
   |true=>exact absurd (GK hs h) hk
  simp[hk,this]
theorem Pg{s v:Nat}(hs:s<1024)(hv:v<10):rn s v<1024:=yt fun k hk=>by
 rw[sf hs]at hk;simp at hk;omega
theorem L8{s v:Nat}(hs:s<1024)(hv:v<10):sg .i64 (tt .i64 1023 (s:Int)) (jo .i64 1 (v:Int))=((rn s v:Nat):Int):=by
 obtain⟨c,h1,h2,h3⟩:=DM 1023 s (by omega) (by omega)
 have h1':tt .i64 1023 (s:Int)=(c:Int):=h1;rw[h1',vA v (by omega),Hv c (2 ^ v) (by omega) (Nat.pow_lt_pow_right (by omega) (by omega))]
 congr 1;refine yq fun k=> ?_
 rw[sf hs,Nat.testBit_or,h3,SK,Nat.testBit_two_pow]
theorem I8{c:bh}(hc:GZ c){v s:Nat}(hs:s<1024):j0 c v s=some (tr c.bF v s):=by
 unfold j0 tr;rw[uO hs,DS hc.len];simp only[Qa,Qo,Ql,nm,wb (K5 _),we]
 cases hd:mE c.bF v with
 |false=>
  have:(decide (v<10)&&(nV c.bF).testBit v)=false:=by
   rw[show(nV c.bF).testBit v=mE c.bF v from rfl,hd];simp
  simp[this]
 |true=>
  obtain⟨h10,m,hm,hdm⟩:=zM hd
  have:(decide (v<10)&&(nV c.bF).testBit v)=true:=by
   rw[show(nV c.bF).testBit v=mE c.bF v from rfl,hd];simp[h10]
  rw[bN,hm,L8 hs h10];have h0:¬(v:Int)<0:=by omega
  have hmem:m∈c.bF:=List.mem_of_getElem? hm;simp only[this,Qo,Ql,Qa,h0,Qu,aq.eta,Cg (Pg hs h10) (hc.aZ m hmem),tx hm,Bool.true_and]
end Go.Proofs.YtkgenianmdfmdaaGreat
namespace Go.Proofs.YtkgenianmdfmdaaGreat
open Go.TQ
def sn(s:Nat):List Int:=(kU 10).filter (fT s)
theorem CD{n:Nat}{x:Int}:x∈kU n↔∃k:Nat,k<n/\x=k:=by
 simp only[kU,QP,List.mem_range];exact⟨fun⟨k,h1,h2⟩=>⟨k,h1,h2.symm⟩,fun⟨k,h1,h2⟩=>⟨k,h1,h2.symm⟩⟩
theorem zx{s:Nat}{x:Int}:x∈sn s↔∃k:Nat,k<10/\x=k/\s.testBit k=true:=by
 rw[sn,List.mem_filter,CD];constructor
 ·rintro⟨⟨k,h1,rfl⟩,h2⟩;rw[we]at h2;simp at h2;exact⟨k,h1,rfl,h2.2⟩
 ·rintro⟨k,h1,rfl,h2⟩;exact⟨⟨k,h1,rfl⟩,by rw[we];simp[h1,h2]⟩
theorem NN(step:(Int×List Int×Unit)->Option ((Int×List Int×Unit)⊕List Int))(s:Nat)
  (h1:∀(i:Nat) (acc:List Int),i<10->acc.length<=i->step ((i:Int),acc,())=some (.inl (((i+1:Nat):Int),(if fT s i then acc++[(i:Int)]else acc),())))
  (h2:∀acc,step (((10:Nat):Int),acc,())=some (.inr acc)):aI step (0,[],())=some (sn s):=by
 suffices key:∀(k i:Nat) (acc:List Int),i+k=10->acc=(kU i).filter (fT s)->aI step ((i:Int),acc,())=some (sn s)from key 10 0 [] rfl rfl
 intro k
 induction k with
 |zero=>
  intro i acc hi ha;obtain rfl:i=10:=by omega
  rw[bX (h2 acc),ha];rfl
 |succ k ih=>
  intro i acc hi ha;have hlen:acc.length<=i:=by rw[ha];exact QK (List.length_filter_le _ _) (by simp)
  rw[bp (h1 i acc (by omega) hlen)]
  refine ih (i+1) _ (by omega) ?_
  rw[DU,List.filter_append,<-ha];cases hh:fT s i<;>simp[hh]
theorem Su{s:Nat}(hs:s<1024):nY (s:Int)=some (sn s):=by
 unfold nY;refine NN _ s (fun i acc hi hl=> ?_) (fun acc=> ?_)
 ·have hd:decide ((i:Int)<10)=true:=Qg (by omega)
  have hw:aJ .i64 (i:Int) 1=((i+1:Nat):Int):=cq (by omega) (by omega)
  simp only[hd,hw,Qk,bD,nm,wb hs,Qa];rw[eM (by simp;omega)]
  cases fT s i<;>simp
 ·rfl
def yQ(l:List aW)(s r:Nat):Prop:=∀k,r.testBit k=true->s.testBit k=true/\mE l k=true/\jL r (kl l k)=true
structure wA (l:List aW) (s q:Nat):Prop where
 inside:yQ l s q
 max:∀r,yQ l s r->∀k,r.testBit k=true->q.testBit k=true
theorem wA.unique{l:List aW}{s q q':Nat}(h:wA l s q)(h':wA l s q'):q=q':=by
 refine yq fun k=> ?_
 rw[QW];exact⟨h'.max q h.inside k,h.max q' h'.inside k⟩
theorem wA.lt{l:List aW}{s q:Nat}(h:wA l s q):q<1024:=yt fun k hk=>(zM (h.inside k hk).2.1).1
def sW(l:List aW)(s:Nat):Option Int:=(sn s).find? fun x=> !jL s (kl l x.toNat)
theorem I9{l:List aW}{s:Nat}{x:Int}(h:sW l s=some x):∃k:Nat,x=k/\k<10/\s.testBit k=true/\jL s (kl l k)=false:=by
 have h1:=List.mem_of_find?_eq_some h;have h2:=List.find?_some h;obtain⟨k,hk,rfl,hb⟩:=zx.1 h1;simp at h2;exact⟨k,rfl,hk,hb,h2⟩
theorem Ja{l:List aW}{s:Nat}(hs:s<1024)(h:sW l s=none):∀k,s.testBit k=true->jL s (kl l k)=true:=by
 intro k hk;have:=List.find?_eq_none.1 h (k:Int) (zx.2 ⟨k,GK hs hk,rfl,hk⟩);simpa using this
theorem TA:∀s,s<1024->∀k,k<10->s.testBit k=true->s - 2 ^ k=s^^^2 ^ k:=by decide+kernel
theorem Hb{s k:Nat}(hs:s<1024)(hk:s.testBit k=true):2 ^ k<=s/\∀j,(s - 2 ^ k).testBit j=(s.testBit j&& !decide (k=j)):=by
 have hle:2 ^ k<=s:=Nat.ge_two_pow_of_testBit hk;refine⟨hle,?_⟩;have hx:s - 2 ^ k=s^^^2 ^ k:=TA s hs k (GK hs hk) hk;intro j;rw[hx,Nat.testBit_xor,Nat.testBit_two_pow]
 by_cases hj:k=j
 ·subst hj;simp[hk]
 ·simp[hj]
structure pk (l:List aW) (s0 s:Nat):Prop where
 lt:s<1024
 sub:∀k,s.testBit k=true->s0.testBit k=true/\mE l k=true
 max:∀r,yQ l s0 r->∀k,r.testBit k=true->s.testBit k=true
theorem pk.first(l:List aW){s:Nat}(hs:s<1024):pk l s (s&&&nV l):=by
 refine⟨Nat.lt_of_le_of_lt Nat.and_le_left hs,fun k hk=> ?_,fun r hr k hk=> ?_⟩
 ·rw[Nat.testBit_and,Qm]at hk;exact hk
 ·rw[Nat.testBit_and,Qm];exact⟨(hr k hk).1,(hr k hk).2.1⟩
theorem pk.next{l:List aW}{s0 s k:Nat}(h:pk l s0 s)(hk:s.testBit k=true)(hu:jL s (kl l k)=false):pk l s0 (s - 2 ^ k):=by
 obtain⟨h1,h2⟩:=Hb h.lt hk;refine⟨Nat.lt_of_le_of_lt (Nat.sub_le _ _) h.lt,fun j hj=> ?_,fun r hr j hj=> ?_⟩
 ·rw[h2]at hj;simp at hj;exact h.sub j hj.1
 ·rw[h2,h.max r hr j hj]
  have:k≠j:=by
   intro e;subst e;have:=H9 (fun i hi=>h.max r hr i hi) _ (hr k hj).2.2
   rw[hu]at this;cases this
  simp[this]
theorem pk.done{l:List aW}{s0 s:Nat}(h:pk l s0 s)(hn:sW l s=none):wA l s0 s:=
 ⟨fun k hk=>⟨(h.sub k hk).1,(h.sub k hk).2,Ja h.lt hn k hk⟩,h.max⟩
theorem PH{l:List Int}{ρ:Type}{f:Int->Bool}{hit:Int->ρ}{fin:Unit->Option ρ}{g:Int->Unit->Option (Unit⊕ρ)}(hg:∀x∈l,∀s,g x s=some (if f x then .inr (hit x)else .inl ())):
  fP g fin l ()=match l.find? f with|some x=>some (hit x)|none=>fin ():=by
 induction l with
 |nil=>rfl
 |cons x l ih=>
  rw[fP,hg x (by simp),List.find?_cons]
  cases hx:f x with
  |true=>simp
  |false=>
   simp only[Qq,Qu];exact ih fun y hy=>hg y (by simp[hy])
theorem NO(s:Nat):(sn s).length<=10:=QK (List.length_filter_le _ _) (by simp)
theorem No{c:bh}(hc:GZ c){s:Nat}(hs:s<1024)(hsub:∀k,s.testBit k=true->mE c.bF k=true):
  jY c s=some (match sW c.bF s with|some x=>(x,true,())|none=>(0,false,())):=by
 unfold jY;rw[Su hs,Qa];have hlen:=NO s;rw[ji (sn s) (by omega) (fun i (_:Unit)=>(i,())) (fun x (_:Unit)=>(jZ c x s).map fun r=>if r then .inl ()else .inr (x,true,())) (fun _=>some (0,false,())) (fun i x u hd hx hw=> ?_) (fun u hd=> ?_) ()]
 ·rw[PH (f:=fun x=> !jL s (kl c.bF x.toNat)) (hit:=fun x=>(x,true,()))]
  ·unfold sW;cases (sn s).find? _<;>rfl
  ·intro x hx u;obtain⟨k,hk,rfl,hb⟩:=zx.1 hx;obtain⟨_,m,hm,_⟩:=zM (hsub k hb);unfold jZ;rw[bN,hm];simp only[Qa,aq.eta,Cg hs (hc.aZ m (List.mem_of_getElem? hm)),Qe,QV,tx hm];cases jL s m.ae<;>rfl
 ·simp only[hd,hx,hw,Qk,Qa]
  cases jZ c x s with
  |none=>rfl
  |some r=>cases r<;>rfl
 ·simp only[hd,Ql]
theorem OC{s k:Nat}(hs:s<1024)(hk:s.testBit k=true):tt .i64 (s:Int) (jo .i64 1 (k:Int))=((s - 2 ^ k:Nat):Int):=by
 have h10:=GK hs hk;obtain⟨c,h1,_,h3⟩:=DM s (2 ^ k) (by omega) (Nat.pow_lt_pow_right (by omega) (by omega))
 rw[vA k (by omega),h1]
 congr 1;refine yq fun j=> ?_
 rw[h3,(Hb hs hk).2,Nat.testBit_two_pow]
theorem DQ{c:bh}(hc:GZ c){s:Nat}(hs:s<1024):Yd (iv c s) fun q=>∃n:Nat,q=n/\wA c.bF s n:=by
 unfold iv nP;rw[uO hs,DS hc.len];simp only[Qa,Qo,Ql];have hdl:=K5 c.bF;rw[Lq s (nV c.bF) (by omega) (by omega)]
 suffices key:∀(n t:Nat) (out:List Int),t<n->pk c.bF s t->out.length+t<=1024->Yd (aI (fun(v3:Int×(List Int)×Unit)=>
   Option.bind (jY c v3.1) fun r4=>
   bif (!r4.2.1)then
   Option.map Sum.inr (some (v3.1,v3.2.1,()))
   else
   bif b0 8 (List.length v3.2.1+List.length [r4.1])then
   if r4.1<0 then none else
   some (Sum.inl ((tt .i64 v3.1 (jo .i64 (1:Int) r4.1)),(v3.2.1++[r4.1]),()))
   else none) ((t:Int),out,())) fun p=>∃n:Nat,p.1=n/\wA c.bF s n by
  have hfirst:=pk.first c.bF hs
  have hb:=hfirst.lt;refine(key 1024 (s&&&nV c.bF) [] hb hfirst (by simp;omega)).bind fun p hp=>Yd.some hp
 intro n
 induction n with
 |zero=>intro t out h;omega
 |succ n ih=>
  intro t out ht hinv hout;refine Yd.loop ?_;rw[No hc hinv.lt fun k hk=>(hinv.sub k hk).2]
  simp only[Qa]
  cases hu:sW c.bF t with
  |none=>exact Yd.some ⟨t,rfl,hinv.done hu⟩
  |some x=>
   obtain⟨k,rfl,hk10,hkb,hks⟩:=I9 hu;have h0:¬(k:Int)<0:=by omega
   have hlb:=(Hb hinv.lt hkb).1;have hp:0<2 ^ k:=Nat.pow_pos (by omega)
   simp only[Qo,Ql];rw[eM (by simp;omega),Qs h0,OC hinv.lt hkb]
   exact Yd.some (ih (t - 2 ^ k) _ (by omega) (hinv.next hkb hks) (by simp;omega))
theorem PC{c:bh}(hc:GZ c){s:Nat}(hs:s<1024):∃q,wA c.bF s q:=by
 obtain⟨_,_,n,_,h⟩:=DQ hc hs;exact⟨n,h⟩
open Classical in
 def gq(l:List aW)(s:Nat):Nat:=if h:∃q,wA l s q then Classical.choose h else 0
theorem Gu{c:bh}(hc:GZ c){s:Nat}(hs:s<1024):wA c.bF s (gq c.bF s):=by
 have h:=PC hc hs;rw[gq,dif_pos h];exact Classical.choose_spec h
theorem DR{c:bh}(hc:GZ c){s:Nat}(hs:s<1024):iv c s=some ((gq c.bF s:Nat):Int):=by
 obtain⟨q,h1,n,rfl,h2⟩:=DQ hc hs;rw[h1,h2.unique (Gu hc hs)]
end Go.Proofs.YtkgenianmdfmdaaGreat
namespace Go.Proofs.YtkgenianmdfmdaaGreat
open Go.TQ
structure nA (l:List ai):Prop where
 len:l.length<=100000
 aZ:∀e∈l,eZ e.ae
theorem js{e:ai}(h:a8 e=true):0<=e.au/\e.au<10:=by
 simp only[a8,ln,yC,Qm,Qi]at h;exact⟨h.1.1.1.1.1.1.1,h.1.1.1.1.1.1.2⟩
def fX:aW:=⟨false,⟨0,[],[]⟩⟩
 def c8(ms:List aW)(e:ai):List aW:=
 if a8 e&& !((ms[e.au.toNat]?).any (·.dp))then ms.set e.au.toNat ⟨true,e.ae⟩else ms
 def fg(az:Nat)(t:aq)(l:List ai):List aW:=l.foldl c8 ((List.replicate 10 fX).set az ⟨true,t⟩)
theorem vu(ms:List aW)(e:ai):(c8 ms e).length=ms.length:=by
 unfold c8;split
 ·rw[QY]
 ·rfl
theorem xW:∀(l:List ai) (ms:List aW),(l.foldl c8 ms).length=ms.length
 |[],_=>rfl
 |e::l,ms=>by rw[QU,xW l,vu]
theorem AP(az:Nat)(t:aq)(l:List ai):(fg az t l).length=10:=by
 rw[fg,xW,QY,List.length_replicate]
theorem Ta{ms:List aW}(hl:ms.length=10){n:Int}(h0:0<=n)(h1:n<10):∃m,ms[n.toNat]?=some m/\idx ms n=some m:=by
 have:n.toNat<ms.length:=by omega
 exact⟨ms[n.toNat],Qv this,by rw[KH _ h0];exact Qv this⟩
theorem M9{az:Nat}(hn:az<10){t:aq}(ht:eZ t){l:List ai}(hl:nA l):mK az t l=some ⟨fg az t l⟩:=by
 unfold mK
 have h1:(decide ((10:Int)=10)&&decide ((0:Int)<=10)&&b0 64 (Int.toNat 10))=true:=by
  rw[eM (by decide)];rfl
 have h2:¬(az:Int)<0:=by omega
 have h3:¬(10:Int)<=az:=by omega
 rw[h1];simp only[Qk,h2,h3,decide_false,Ql,Qa,aq.eta,rE ht,bD];obtain⟨m,hm1,hm2⟩:=Ta (ms:=List.replicate 10 fX) (by simp) (n:=(az:Int)) (by omega) (by omega)
 have e10:List.replicate (Int.toNat 10) (aW.mk false (aq.mk 0 [] []))=List.replicate 10 fX:=rfl;rw[e10,hm2,hm1,Qa,Qa];have hlen:=hl.len
 suffices key:∀(k i:Nat) (ms:List aW) (c:bh),i+k=l.length->ms.length=10->aI _ ((i:Int),c,ms,())=some (bh.mk ((l.drop i).foldl c8 ms))by
  have:=key l.length 0 ((List.replicate 10 fX).set az ⟨true,t⟩) ⟨[]⟩ (by omega) (by simp)
  simpa[fg]using this
 intro k
 induction k with
 |zero=>
  intro i ms c hi hms;obtain rfl:i=l.length:=by omega
  refine bX ?_;have hd:decide (((l.length:Nat):Int)<((l.length:Nat):Int))=false:=Qh (Int.lt_irrefl _);simp only[hd,Ql,List.drop_length,List.foldl_nil]
 |succ k ih=>
  intro i ms c hi hms;have hlt:i<l.length:=by omega
  have hd:decide ((i:Int)<((l.length:Nat):Int))=true:=Qg (by omega)
  have hw:aJ .i64 (i:Int) 1=((i+1:Nat):Int):=cq (by omega) (by omega)
  have hx:idx l (i:Int)=some l[i]:=by rw[bN];exact Qv hlt
  have hsm:=hl.aZ _ (Q0 hlt);rw[QM hlt,QU];refine Eq.trans (bp (s':=(((i+1:Nat):Int),⟨[]⟩,c8 ms l[i],())) ?_) (ih (i+1) _ _ (by omega) (by rw[vu];exact hms))
  simp only[hd,hx,hw,Qk,Qa,lX hsm];unfold c8
  cases hv:a8 l[i]with
  |false=>simp
  |true=>
   obtain⟨h4,h5⟩:=js hv;obtain⟨m,hm1,hm2⟩:=Ta hms h4 h5;simp only[Qk,hm1,hm2,Qa,rE hsm,Option.any_some,Bool.true_and];cases m.dp<;>simp
theorem qz{az:Nat}{t:aq}(ht:eZ t){l:List ai}(hl:nA l):GZ ⟨fg az t l⟩:=by
 refine⟨by rw[AP];omega,?_⟩
 have key:∀(l:List ai) (ms:List aW),(∀e∈l,eZ e.ae)->(∀m∈ms,eZ m.ae)->∀m∈l.foldl c8 ms,eZ m.ae:=by
  intro l
  induction l with
  |nil=>intro ms _ h;exact h
  |cons e l ih=>
   intro ms he h;rw[QU];refine ih _ (fun e' h'=>he e' (by simp[h'])) fun m hm=> ?_
   unfold c8 at hm;split at hm
   ·rcases List.mem_or_eq_of_mem_set hm with hm|rfl
    ·exact h m hm
    ·exact he e (by simp)
   ·exact h m hm
 refine key l _ hl.aZ fun m hm=> ?_
 rcases List.mem_or_eq_of_mem_set hm with hm|rfl
 ·rw[List.eq_of_mem_replicate hm];exact .mk _ (by simp[fX]) (by simp[fX]) (by simp[fX])
 ·exact ht
 def bH(l:List ai):List ai:=l.filter a8
theorem Rh{l:List ai}(hl:nA l):lM l=some ((bH l).map bc.mk):=by
 unfold lM;have hlen:=hl.len;simp only[bD]
 suffices key:∀(k i:Nat) (acc:List bc),i+k=l.length->acc=(bH (l.take i)).map bc.mk->aI _ ((i:Int),acc,())=some ((bH l).map bc.mk)from key l.length 0 [] (by omega) rfl
 intro k
 induction k with
 |zero=>
  intro i acc hi ha;obtain rfl:i=l.length:=by omega
  refine bX ?_;have hd:decide (((l.length:Nat):Int)<((l.length:Nat):Int))=false:=Qh (Int.lt_irrefl _);simp only[hd,Ql,Qe,ha,List.take_length]
 |succ k ih=>
  intro i acc hi ha;have hlt:i<l.length:=by omega
  have hd:decide ((i:Int)<((l.length:Nat):Int))=true:=Qg (by omega)
  have hw:aJ .i64 (i:Int) 1=((i+1:Nat):Int):=cq (by omega) (by omega)
  have hx:idx l (i:Int)=some l[i]:=by rw[bN];exact Qv hlt
  have hsm:=hl.aZ _ (Q0 hlt)
  have hal:acc.length<=i:=by
   rw[ha,QC];exact QK (List.length_filter_le _ _) (by rw[List.length_take];omega)
  refine Eq.trans (bp (s':=(((i+1:Nat):Int),(if a8 l[i]then acc++[bc.mk l[i]]else acc),())) ?_) (ih (i+1) _ (by omega) ?_)
  ·simp only[hd,hx,hw,Qk,Qa,aq.eta,ai.eta,lX hsm];rw[eM (by simp;omega)]
   cases a8 l[i]<;>simp
  ·rw[List.take_succ_eq_append_getElem hlt,bH,List.filter_append,ha];cases hv:a8 l[i]<;>simp[bH,hv]
def dh(p:ai->Bool):List ai->Nat
 |[]=>0
 |e::l=>(if p e then 2 ^ e.au.toNat else 0)|||dh p l
theorem lP(p:ai->Bool)(k:Nat):∀(l:List ai),(dh p l).testBit k=l.any fun e=>p e&&decide (e.au.toNat=k)
 |[]=>by simp[dh]
 |e::l=>by
  rw[dh,Nat.testBit_or,lP p k l,List.any_cons];cases p e<;>simp[Nat.testBit_two_pow]
def rG(l:List ai):Prop:=∀e∈l,0<=e.au/\e.au<10
theorem oe(l:List ai):rG (bH l):=fun _ he=>js (List.mem_filter.1 he).2
theorem uW(l:List ai):(bH l).length<=l.length:=List.length_filter_le _ _
theorem oP{p:ai->Bool}{l:List ai}(h:rG l):dh p l<1024:=yt fun k hk=>by
 rw[lP,List.any_eq_true]at hk;obtain⟨e,he,h1⟩:=hk;simp only[Qm,Qi]at h1;have:=h e he;omega
theorem yV(p:ai->Bool)(l:List ai)(hin:rG l)(step:(Int×Int×Unit)->Option ((Int×Int×Unit)⊕Int))
  (h1:∀(i:Nat) (e:ai) (s:Int),l[i]?=some e->step (s,(i:Int),())=if p e then(if e.au<0 then none else some (.inl (sg .i64 s (jo .i64 1 e.au),((i+1:Nat):Int),())))else some (.inl (s,((i+1:Nat):Int),())))
  (h2:∀s:Int,step (s,(l.length:Int),())=some (.inr s)):aI step (0,0,())=some ((dh p l:Nat):Int):=by
 suffices key:∀(k i s:Nat),i+k=l.length->s<1024->aI step ((s:Int),(i:Int),())=some ((s|||dh p (l.drop i):Nat):Int)by
  have:=key l.length 0 0 (by omega) (by omega)
  simpa using this
 intro k
 induction k with
 |zero=>
  intro i s hi hs;obtain rfl:i=l.length:=by omega
  rw[bX (h2 s),List.drop_length,dh];simp
 |succ k ih=>
  intro i s hi hs;have hlt:i<l.length:=by omega
  have hm:=hin l[i] (Q0 hlt);rw[QM hlt,dh];have hst:=h1 i l[i] s (Qv hlt)
  cases hp:p l[i]with
  |false=>
   rw[hp]at hst;rw[bp hst,ih (i+1) s (by omega) hs]
   simp
  |true=>
   rw[hp,Qr rfl,Qs (by omega),CA hs hm.1 hm.2]at hst
   rw[bp hst,ih (i+1) _ (by omega) (Jz hs hm.2)]
   simp[Nat.or_assoc]
theorem DN{v:bh}{az:Int}{l:List ai}(hl:l.length<=1000000)(hin:rG l)(b:af):gy ⟨az,v,l.map bc.mk⟩ b=some ((dh (da · b) l:Nat):Int):=by
 unfold gy;refine yV (da · b) l hin _ (fun i e s he=> ?_) (fun s=> ?_)
 ·have hlt:i<l.length:=(Qw.1 he).1;have hd:decide ((i:Int)<(((l.map bc.mk).length:Nat):Int))=true:=Qg (by rw[QC];omega)
  have hw:aJ .i64 (i:Int) 1=((i+1:Nat):Int):=cq (by omega) (by omega)
  have hx:idx (l.map bc.mk) (i:Int)=some ⟨e⟩:=by rw[bN,QT,he];rfl
  simp only[hd,hx,hw,Qk,Qa,aq.eta,ai.eta,ja,n4,bD];cases da e b<;>simp
 ·have hd:decide (((l.length:Nat):Int)<(((l.map bc.mk).length:Nat):Int))=false:=Qh (by rw[QC];exact Int.lt_irrefl _)
  simp only[hd,Ql,Qe]
theorem OF{v:bh}{az:Int}{l:List ai}(hl:l.length<=1000000)(hin:rG l)(b:af):eQ ⟨az,v,l.map bc.mk⟩ b b=some ((dh (fun e=>pY e b||da e b) l:Nat):Int):=by
 unfold eQ;refine yV (fun e=>pY e b||da e b) l hin _ (fun i e s he=> ?_) (fun s=> ?_)
 ·have hlt:i<l.length:=(Qw.1 he).1;have hd:decide ((i:Int)<(((l.map bc.mk).length:Nat):Int))=true:=Qg (by rw[QC];omega)
  have hw:aJ .i64 (i:Int) 1=((i+1:Nat):Int):=cq (by omega) (by omega)
  have hx:idx (l.map bc.mk) (i:Int)=some ⟨e⟩:=by rw[bN,QT,he];rfl
  simp only[hd,hx,hw,Qk,Qa,aq.eta,ai.eta,gC,ja,me,n4,wV,bD,ng,Bool.cond_true_left];cases (pY e b||da e b)<;>simp
 ·have hd:decide (((l.length:Nat):Int)<(((l.map bc.mk).length:Nat):Int))=false:=Qh (by rw[QC];exact Int.lt_irrefl _)
  simp only[hd,Ql,Qe]
 def o7(ms:List aW)(v votes accepts:Nat):Bool:=tr ms v accepts||(gq ms (votes|||accepts)).testBit v
theorem Al{c:bh}(hc:GZ c){v votes accepts:Nat}(hv:v<10)(h1:votes<1024)(h2:accepts<1024):gO c v votes accepts=some (o7 c.bF v votes accepts):=by
 unfold gO o7;have h3:votes|||accepts<1024:=Nat.or_lt_two_pow (n:=10) h1 h2
 rw[uO h1,uO h2,I8 hc h2,Hv votes accepts (by omega) (by omega),DR hc h3]
 simp[wb (Gu hc h3).lt,we,hv]
theorem yF{c:bh}(hc:GZ c){v accepts:Nat}(hv:v<10)(h2:accepts<1024):gp c v accepts=some ((gq c.bF accepts).testBit v):=by
 unfold gp;rw[DR hc h2];simp[wb (Gu hc h2).lt,we,hv]
 def iB(az:Nat)(t:aq)(l:List ai)(b:af):Bool:=
 o7 (fg az t l) az (dh (fun e=>pY e b||da e b) (bH l)) (dh (da · b) (bH l))
 def iE(az:Nat)(t:aq)(l:List ai)(b:af):Bool:=
 (gq (fg az t l) (dh (da · b) (bH l))).testBit az
theorem HZ{az:Nat}(hn:az<10){t:aq}(ht:eZ t){l:List ai}(hl:nA l):dX az t l=some ⟨az,⟨fg az t l⟩,(bH l).map bc.mk⟩:=by
 unfold dX;simp only[aq.eta,M9 hn ht hl,Rh hl,Qa]
end Go.Proofs.YtkgenianmdfmdaaGreat
namespace Go.Proofs.YtkgenianmdfmdaaGreat
open Go.TQ
theorem Sq{α:Type}{l l':List α}(h:l.Perm l')(p:α->Bool):l.any p=l'.any p:=by
 rw[QW,List.any_eq_true,List.any_eq_true];exact⟨fun⟨x,h1,h2⟩=>⟨x,h.mem_iff.1 h1,h2⟩,fun⟨x,h1,h2⟩=>⟨x,h.mem_iff.2 h1,h2⟩⟩
theorem OO{l l':List ai}(h:l.Perm l')(p:ai->Bool):dh p l=dh p l':=yq fun k=>by rw[lP,lP,Sq h]
theorem LX{l l':List ai}(h:l.Perm l'):(bH l).Perm (bH l'):=h.filter _
def tL(l:List ai):Prop:=∀a∈l,∀b∈l,a.au=b.au->a=b
theorem tL.perm{l l':List ai}(h:tL l)(hp:l.Perm l'):tL l':=fun a ha b hb=>h a (hp.mem_iff.2 ha) b (hp.mem_iff.2 hb)
 def kC(l:List ai)(k:Nat):Option ai:=l.find? fun e=>a8 e&&decide (e.au.toNat=k)
theorem xw{l:List ai}{k:Nat}{e:ai}(h:kC l k=some e):e∈l/\a8 e=true/\e.au=k:=by
 unfold kC at h;have h1:=List.mem_of_find?_eq_some h;have h2:=List.find?_some h;simp only[Qm,Qi]at h2;have:=js h2.1;exact⟨h1,h2.1,by omega⟩
theorem F1{l:List ai}(ha:tL l){k:Nat}{e:ai}(h1:e∈l)(h2:a8 e=true)(h3:e.au=k):kC l k=some e:=by
 cases h:kC l k with
 |none=>
  unfold kC at h;rw[List.find?_eq_none]at h;have:=h e h1;simp[h2,h3]at this
 |some e'=>
  obtain⟨g1,g2,g3⟩:=xw h;rw[ha e' g1 e h1 (by omega)]
theorem L9{l l':List ai}(ha:tL l)(h:l.Perm l')(k:Nat):kC l k=kC l' k:=by
 cases h1:kC l k with
 |some e=>
  obtain⟨g1,g2,g3⟩:=xw h1;exact(F1 (ha.perm h) (h.mem_iff.1 g1) g2 g3).symm
 |none=>
  cases h2:kC l' k with
  |none=>rfl
  |some e=>
   obtain⟨g1,g2,g3⟩:=xw h2;rw[F1 ha (h.mem_iff.2 g1) g2 g3]at h1;cases h1
theorem H6:∀(l:List ai) (ms:List aW),ms.length=10->(∀m∈ms,m.dp=false->m=fX)->∀k,k<10->(l.foldl c8 ms)[k]?=some (match ms[k]? with
  |some m=>if m.dp then m else(match kC l k with
   |some e=>⟨true,e.ae⟩
   |none=>fX)
  |none=>fX)
 |[],ms,hl,hn,k,hk=>by
  have hk':k<ms.length:=by omega
  rw[List.foldl_nil,Qv hk']
  cases hd:ms[k].dp with
  |true=>simp[hd]
  |false=>
   have:=hn _ (Q0 hk') hd;simp[hd,kC,this]
 |e::l,ms,hl,hn,k,hk=>by
  have hk':k<ms.length:=by omega
  rw[QU];have hlen:(c8 ms e).length=10:=by rw[vu];exact hl
  have hn':∀m∈c8 ms e,m.dp=false->m=fX:=by
   unfold c8;split
   ·intro m hm hd;rcases List.mem_or_eq_of_mem_set hm with hm|rfl
    ·exact hn m hm hd
    ·cases hd
   ·exact hn
  rw[H6 l (c8 ms e) hlen hn' k hk];congr 1
  have hof:kC (e::l) k=if(a8 e&&decide (e.au.toNat=k))=true then some e else kC l k:=by
   unfold kC;rw[List.find?_cons];cases a8 e&&decide (e.au.toNat=k)<;>rfl
  rw[hof];unfold c8
  by_cases hv:a8 e=true
  ·have hnode:=js hv;have hi:e.au.toNat<ms.length:=by omega
   rw[hv,Bool.true_and,Bool.true_and]
   by_cases hke:e.au.toNat=k
   ·subst hke;rw[Qv hi]
    cases hd:ms[e.au.toNat].dp with
    |true=>simp[hd,Qv hi]
    |false=>simp[hd,hi]
   ·have hne:decide (e.au.toNat=k)=false:=Qh hke
    have hset:∀c:Bool,(if c=true then ms.set e.au.toNat ⟨true,e.ae⟩else ms)[k]?=ms[k]?:=fun c=>by
     cases c
     ·rfl
     ·rw[Qr rfl,List.getElem?_set_ne hke]
    rw[hne,hset];simp
  ·have hv':a8 e=false:=by simpa using hv
   simp[hv']
theorem AO{az:Nat}(hn:az<10)(t:aq)(l:List ai){k:Nat}(hk:k<10):(fg az t l)[k]?=some (if k=az then⟨true,t⟩else match kC l k with
  |some e=>⟨true,e.ae⟩
  |none=>fX):=by
 rw[fg,H6 l _ (by simp) (fun m hm hd=> ?_) k hk]
 ·by_cases h:k=az
  ·subst h;simp[hn]
  ·rw[List.getElem?_set_ne (fun e=>h e.symm),List.getElem?_replicate,Qr hk]
   simp[h,fX]
 ·rcases List.mem_or_eq_of_mem_set hm with hm|rfl
  ·exact(List.mem_replicate.1 hm).2
  ·cases hd
theorem Nk{az:Nat}(hn:az<10)(t:aq){l l':List ai}(ha:tL l)(h:l.Perm l'):fg az t l=fg az t l':=by
 refine List.ext_getElem? fun k=> ?_
 by_cases hk:k<10
 ·rw[AO hn t l hk,AO hn t l' hk,L9 ha h]
 ·rw[List.getElem?_eq_none (by rw[AP];omega),List.getElem?_eq_none (by rw[AP];omega)]
end Go.Proofs.YtkgenianmdfmdaaGreat
namespace Go.Proofs.YtkgenianmdfmdaaGreat
open Go.TQ
theorem Q7{τ ρ:Type}(n:Nat)(mk:Int->τ){step:τ->Option (τ⊕ρ)}{fin:Option ρ}(h1:∀i:Nat,i<n->step (mk (i:Int))=some (.inl (mk ((i+1:Nat):Int))))(h2:step (mk (n:Int))=Option.map Sum.inr fin):aI step (mk 0)=fin:=by
 suffices key:∀(k i:Nat),i+k=n->aI step (mk (i:Int))=fin from key n 0 (by omega)
 intro k
 induction k with
 |zero=>
  intro i hi;obtain rfl:i=n:=by omega
  rw[lS,h2];cases fin<;>rfl
 |succ k ih=>exact fun i hi=>(bp (h1 i (by omega))).trans (ih (i+1) (by omega))
theorem Ig{ρ:Type}(n:Nat)(hn:n<=1000000){fin:Option ρ}{step:Int×Unit->Option ((Int×Unit)⊕ρ)}
  (h1:∀i:Nat,i<n->decide ((i:Int)<((n:Nat):Int))=true->aJ .i64 (i:Int) 1=((i+1:Nat):Int)->step ((i:Int),())=some (.inl (((i+1:Nat):Int),())))
  (h2:decide (((n:Nat):Int)<((n:Nat):Int))=false->step ((n:Int),())=Option.map Sum.inr fin):aI step (0,())=fin:=
 Q7 n (fun i=>(i,())) (fun i hi=>h1 i hi (Qg (by omega)) (cq (by omega) (by omega))) (h2 (Qh (Int.lt_irrefl _)))
end Go.Proofs.YtkgenianmdfmdaaGreat
namespace Go.Proofs.YtkgenianmdfmdaaGreat
open Go.TQ
def zR:List UInt8->Nat
 |[]=>0
 |a::l=>a.toNat*256 ^ l.length+zR l
theorem CJ:∀l:List UInt8,zR l<256 ^ l.length
 |[]=>by simp[zR]
 |a::l=>by
  have h1:=CJ l;have h2:a.toNat<256:=a.toNat_lt;rw[zR,QE,Nat.pow_succ];have h3:(a.toNat+1)*256 ^ l.length<=256*256 ^ l.length:=Nat.mul_le_mul_right _ h2;rw[Nat.add_mul,Nat.one_mul,Nat.mul_comm 256]at h3;omega
theorem P7:∀{x y:List UInt8},x.length=y.length->Op.bytesLess x y=true->zR x<zR y
 |[],[],_,h=>by simp[Op.bytesLess]at h
 |[],_::_,hl,_=>by simp at hl
 |_::_,[],hl,_=>by simp at hl
 |a::x,b::y,hl,h=>by
  simp only[QE,Nat.add_right_cancel_iff]at hl;simp only[Op.bytesLess,Qn,Qi,Qm,beq_iff_eq]at h;rw[zR,zR,hl];rcases h with h|⟨rfl,h⟩
  ·have h1:=CJ x;rw[hl]at h1;have h2:a.toNat<b.toNat:=UInt8.lt_iff_toNat_lt.1 h;have h3:(a.toNat+1)*256 ^ y.length<=b.toNat*256 ^ y.length:=Nat.mul_le_mul_right _ h2;rw[Nat.add_mul,Nat.one_mul]at h3;omega
  ·have:=P7 hl h;omega
def WV:Nat:=256 ^ 201
def HP(v:ByteArray):Nat:=v.size*256 ^ 200+zR v.toList
theorem toList_len(v:ByteArray):v.toList.length=v.size:=by
 rw[Lib.toList_data];cases v;simp[ByteArray.size]
theorem O8{a b:Nat}(h:a<=b):(256:Nat) ^ a<=256 ^ b:=Nat.pow_le_pow_right (by omega) h
theorem MU{v:ByteArray}(h:v.size<=200):HP v<WV:=by
 have h1:=CJ v.toList;rw[toList_len]at h1;have h2:=O8 h;have h3:v.size*256 ^ 200<=200*256 ^ 200:=Nat.mul_le_mul_right _ h;have h4:WV=256*256 ^ 200:=by rw[WV,Nat.pow_succ,Nat.mul_comm]
 unfold HP;rw[h4];generalize (256:Nat) ^ 200=Z at*;omega
theorem Pu{a b:ByteArray}(hb:b.size<=200)(h:mX a b=true):HP a<HP b:=by
 unfold mX at h;unfold HP
 by_cases hs:a.size=b.size
 ·rw[Qr hs]at h;have:=P7 (x:=a.toList) (y:=b.toList) (by rw[toList_len,toList_len,hs]) h
  rw[hs];omega
 ·rw[Qs hs,Qi]at h;have h1:=CJ a.toList;rw[toList_len]at h1;have h2:=O8 (show a.size<=200 by omega)
  have h3:(a.size+1)*256 ^ 200<=b.size*256 ^ 200:=Nat.mul_le_mul_right _ h;rw[Nat.add_mul,Nat.one_mul]at h3;generalize (256:Nat) ^ 200=Z at*;omega
def Sm(b:af):Prop:=0<=b.aj/\b.aj<=1000/\b.Value.size<=200
def kb(b:af):Nat:=b.aj.toNat*WV+HP b.Value
def WB:Nat:=1001*WV
theorem lg{b:af}(h:Sm b):kb b<WB:=by
 obtain⟨h1,h2,h3⟩:=h;have h4:=MU h3;unfold kb WB;have h5:b.aj.toNat*WV<=1000*WV:=Nat.mul_le_mul_right _ (by omega)
 generalize WV=Z at*;omega
theorem ox{a b:af}(ha:Sm a)(hb:Sm b)(h:bb a b=true):kb a<kb b:=by
 unfold bb at h;unfold kb
 by_cases hc:a.aj=b.aj
 ·rw[Qr hc]at h;have:=Pu hb.2.2 h;rw[hc];omega
 ·rw[Qs hc,Qi]at h;have h1:=MU ha.2.2;have h2:=ha.1;have h3:(a.aj.toNat+1)*WV<=b.aj.toNat*WV:=Nat.mul_le_mul_right _ (by omega)
  rw[Nat.add_mul,Nat.one_mul]at h3;generalize WV=Z at*;omega
theorem Yd.down{σ ρ:Type}{step:σ->Option (σ⊕ρ)}{p:ρ->Prop}(inv:σ->Prop)(μ:σ->Nat)(h:∀s,inv s->Yd (step s) fun y=>match y with| .inl s'=>inv s'/\μ s'<μ s| .inr r=>p r){s:σ}(hs:inv s):Yd (aI step s) p:=by
 suffices key:∀(n:Nat) (s:σ),μ s<n->inv s->Yd (aI step s) p from key _ s (Nat.lt_succ_self _) hs
 intro n
 induction n with
 |zero=>intro s h0;omega
 |succ n ih=>
  intro s hn hi;refine Yd.loop ((h s hi).mono fun y hy=> ?_)
  cases y with
  |inl s'=>exact ih s' (by have:=hy.2;omega) hy.1
  |inr r=>exact hy
end Go.Proofs.YtkgenianmdfmdaaGreat
namespace Go.Proofs.YtkgenianmdfmdaaGreat
open Go.TQ
def bm:af:=⟨0,fV⟩
def ez(m:ab):Int:=if(!aF m.ar&&bs m.ar m.aa)=true then m.ar.aj else 0
def cg(m:ab):ai:=
 if m.aB=1 then⟨m.au,m.bw,m.aL,m.ae,m.aB,m.aa,m.al,m.aw,m.aO,ez m⟩
 else if m.aB=2 then⟨m.au,m.bw,m.aL,m.ae,m.aB,m.aa,m.al,bm,m.aO,m.aX⟩
 else⟨m.au,m.bw,m.aL,m.ae,m.aB,m.aa,bm,bm,m.aO,m.aX⟩
theorem kj(m:ab):(cg m).au=m.au:=by unfold cg;split<;>(try split)<;>rfl
theorem ub(m:ab):(cg m).bw=m.bw:=by unfold cg;split<;>(try split)<;>rfl
theorem KX(m:ab):(cg m).aL=m.aL:=by unfold cg;split<;>(try split)<;>rfl
theorem sF(m:ab):(cg m).ae=m.ae:=by unfold cg;split<;>(try split)<;>rfl
theorem IQ(m:ab):(cg m).bS=m.aB:=by unfold cg;split<;>(try split)<;>rfl
def dR(m:ab):ai:={cg m with aL:=bn (cg m).aL 1}
def BS(e:ai):List ai->List ai
 |[]=>[e]
 |x::l=>if e.au<x.au then e::x::l else x::BS e l
theorem rA(e:ai):∀l,(BS e l).Perm (l++[e])
 |[]=> .refl _
 |x::l=>by
  unfold BS;split
  ·exact(List.perm_append_singleton e (x::l)).symm
  ·exact(rA e l).cons x
def aK(m:ab):List ai:=if aF m.aa=true then m.aC else BS (dR m) m.aC
def uP(a b:af):Bool:=decide (a.aj=b.aj)&&decide (a.Value=b.Value)
theorem oa{a b:af}:uP a b=true↔a=b:=by
 cases a;cases b;simp[uP]
def lq(a b:ab):Bool:=decide (a.aB=b.aB)&&uP a.aa b.aa&&uP a.al b.al&&uP a.aw b.aw&&uP a.ar b.ar&&decide (a.aO=b.aO)&&decide (a.aX=b.aX)
end Go.Proofs.YtkgenianmdfmdaaGreat
namespace Go.Proofs.YtkgenianmdfmdaaGreat
open Go.TQ
def tz(v:ByteArray)(n:Int)(x:af):Int:=
 if(ct x&&dZ x ⟨n,v⟩)=true then(if dZ x ⟨x.aj,v⟩=true then x.aj+1 else x.aj)else n
def ka(v:ByteArray)(n:Int)(p q:af):Int:=tz v (tz v (bn n 1) p) q
end Go.Proofs.YtkgenianmdfmdaaGreat
namespace Go.Proofs.YtkgenianmdfmdaaGreat
open Go.TQ
theorem NW{lo k:Int}{v:ByteArray}{p:af}(h:lo<=k)(hl:bb ⟨k,v⟩ p=true):bb ⟨lo,v⟩ p=true:=by
 unfold bb at hl ⊢;simp only at hl ⊢
 by_cases h1:lo=k
 ·rw[h1];exact hl
 ·have h2:lo<p.aj:=by
   split at hl
   ·omega
   ·simp only[Qi]at hl;omega
  rw[Qs (by omega)]
  simpa using h2
theorem Mj{lo k:Int}{v:ByteArray}{p:af}(h:lo<=k)(ha:dZ p ⟨lo,v⟩=false):dZ p ⟨k,v⟩=false:=by
 cases hk:dZ p ⟨k,v⟩with
 |false=>rfl
 |true=>
  simp only[dZ,Qm,bs]at hk;simp only[dZ,bs,hk.1.1,hk.1.2,NW h hk.2]at ha;cases ha
theorem iG(p b:af):ir p b=true↔aF p=false/\p.Value=b.Value/\b.aj<=p.aj:=by
 simp[ir,bs,and_assoc]
theorem F6{b:af}(h:1<=b.aj):aF b=false:=by
 have:¬b.aj=0:=by omega
 simp[aF,this]
end Go.Proofs.YtkgenianmdfmdaaGreat
namespace Go.Proofs.YtkgenianmdfmdaaGreat
open Go.TQ
def vE(b p:af)(j:Nat)(t:aq):ai:=⟨j,1,1,t,1,b,p,⟨0,ByteArray.mk #[]⟩,0,0⟩
structure LF (b:af):Prop where
 lo:1<=b.aj
 hi:b.aj<=6
 val:I7 b.Value
theorem LF.valid{b:af}(h:LF b):ct b=true:=OT h.lo (by have:=h.hi;omega) h.val
theorem LF.nz{b:af}(h:LF b):aF b=false:=F6 h.lo
theorem FJ{l:List ai}(h:∀e∈l,a8 e=true):bH l=l:=List.filter_eq_self.2 h
end Go.Proofs.YtkgenianmdfmdaaGreat
namespace Go.Proofs.YtkgenianmdfmdaaGreat
open Go.TQ
theorem vr:∀(l:List ai) (ms:List aW) (k:Nat) (m:aW),ms[k]?=some m->
  (l.foldl c8 ms)[k]?=some (if m.dp then m else match(bH l).find? (fun e=>decide (e.au.toNat=k))with|some e=>⟨true,e.ae⟩|none=>m)
 |[],ms,k,m,h=>by simp[bH,h]
 |e::l,ms,k,m,h=>by
  rw[QU]
  by_cases hv:a8 e=true
  ·have hr:bH (e::l)=e::bH l:=by simp[bH,hv]
   rw[hr,List.find?_cons]
   by_cases hk:e.au.toNat=k
   ·have hstep:(c8 ms e)[k]?=some (if m.dp then m else⟨true,e.ae⟩):=by
     unfold c8;rw[hv,hk,h]
     cases hm:m.dp with
     |true=>simp[hm,h]
     |false=>
      have hlt:k<ms.length:=(Qw.1 h).1;simp[hm,hlt]
    rw[vr l _ k _ hstep]
    cases hm:m.dp with
    |true=>simp[hm]
    |false=>simp[hk]
   ·have hstep:(c8 ms e)[k]?=some m:=by
     unfold c8;split
     ·rw[List.getElem?_set_ne hk];exact h
     ·exact h
    rw[vr l _ k m hstep];simp[hk]
  ·have hv':a8 e=false:=by simpa using hv
   have hr:bH (e::l)=bH l:=by simp[bH,hv']
   have hstep:c8 ms e=ms:=by simp[c8,hv']
   rw[hr,hstep];exact vr l ms k m h
theorem OS{az:Nat}{t:aq}{l:List ai}{k:Nat}(hk:k<10)(hn:az<10):
  (fg az t l)[k]?=some (if k=az then⟨true,t⟩else match(bH l).find? (fun e=>decide (e.au.toNat=k))with|some e=>⟨true,e.ae⟩|none=>fX):=by
 unfold fg
 by_cases h:k=az
 ·subst h;rw[vr l _ k ⟨true,t⟩ (by simp[hk])]
  simp
 ·rw[vr l _ k fX (by
   rw[List.getElem?_set_ne (fun e=>h e.symm),List.getElem?_replicate,Qr hk])]
  simp[h,fX]
theorem IE{l:List aW}{k:Nat}{m:aW}(hk:k<10)(h:l[k]?=some m)(hd:m.dp=true):mE l k=true:=by
 rw[mE,B0,h];simp[hk,hd]
theorem OR{az:Nat}(hn:az<10){t:aq}{l:List ai}(T:Nat->aq)(ht:T az=t)(hT:∀e∈bH l,e.ae=T e.au.toNat){k:Nat}(hk:k<10)(hs:k=az\/∃e∈bH l,e.au.toNat=k):
  mE (fg az t l) k=true/\kl (fg az t l) k=T k:=by
 have hg:=OS (t:=t) (l:=l) hk hn
 by_cases h:k=az
 ·rw[Qr h]at hg;exact⟨IE hk hg rfl,by rw[tx hg,h,ht]⟩
 ·rw[Qs h]at hg;obtain⟨e,he,hek⟩:=hs.resolve_left h
  cases hf:(bH l).find? (fun e=>decide (e.au.toNat=k))with
  |none=>
   have:=List.find?_eq_none.1 hf e he;simp[hek]at this
  |some e'=>
   rw[hf]at hg;have h1:=List.mem_of_find?_eq_some hf;have h2:=List.find?_some hf;simp only[Qi]at h2;exact⟨IE hk hg rfl,by rw[tx hg,<-h2];exact hT e' h1⟩
def yT(b p:af)(ts:List aq)(q n:Nat)(l:List ai):Prop:=
 l.length<=n/\(∀e∈l,∃i t,i<n/\q.testBit i=true/\ts[i]?=some t/\e=vE b p i t)/\∀i t,i<n->q.testBit i=true->ts[i]?=some t->vE b p i t∈l
theorem yT.nil(b p:af)(ts:List aq)(q:Nat):yT b p ts q 0 []:=⟨by simp,by simp,fun i t h=>by omega⟩
theorem yT.take{b p:af}{ts:List aq}{q n:Nat}{l:List ai}(h:yT b p ts q n l)(hq:q.testBit n=true){t:aq}(ht:ts[n]?=some t):yT b p ts q (n+1) (l++[vE b p n t]):=by
 obtain⟨h1,h2,h3⟩:=h;refine⟨by simp;omega,fun e he=> ?_,fun i t' hi hb ht'=> ?_⟩
 ·rcases Qz.1 he with he|he
  ·obtain⟨i,t,a,b,c⟩:=h2 e he;exact⟨i,t,by omega,b,c⟩
  ·simp only[List.mem_singleton]at he;exact⟨n,t,by omega,hq,ht,he⟩
 ·rcases Nat.lt_or_ge i n with h|h
  ·exact Qz.2 (.inl (h3 i t' h hb ht'))
  ·obtain rfl:i=n:=by omega
   rw[ht]at ht';injection ht' with ht'
   subst ht';exact Qz.2 (.inr (by simp))
section
variable {b p : af} (hb : LF b) (hp : aF p = true \/ ct p = true) {ts : List aq} (hts : ∀ t ∈ ts, iV t) {q : Nat} {l : List ai} (hlen : ts.length <= 5) (hc : yT b p ts q ts.length l)
 include hb hp hts hlen hc
end
end Go.Proofs.YtkgenianmdfmdaaGreat
namespace Go.Proofs.YtkgenianmdfmdaaGreat
open Go.TQ
section
variable {α : Type}
structure SWO (lt:α->α->Bool):Prop where
 asymm:∀x y,lt x y=true->lt y x=false
 trans:∀x y z,lt y x=false->lt z y=false->lt z x=false
end
end Go.Proofs.YtkgenianmdfmdaaGreat
namespace Go.Proofs.YtkgenianmdfmdaaGreat
open Go.TQ
section
variable {α : Type}
 def Lc(eq ne:α->α->Bool)(z:α)(K:Int)(n:Nat)(v6:Int×Int×(List α)×Unit):Option ((Int×Int×(List α)×Unit)⊕((Int×(List α)×Unit)⊕List α)):=
 bif (decide (v6.2.1<((List.length ((v6.2.2.1.drop (Int.toNat K)).take (Int.toNat (n:Int) - Int.toNat K)):Nat):Int)))then
 bO (fun(v7:Int×(List α)×Unit)=>
 some (Sum.inl (v7.1,(aJ .i64 v6.2.1 (1:Int)),v7.2.1,()))) fun j8=>
 Option.bind (idx ((v6.2.2.1.drop (Int.toNat K)).take (Int.toNat (n:Int) - Int.toNat K)) v6.2.1) fun x9=>
 Option.bind (v6.2.2.1[((Int.toNat K)+Int.toNat v6.2.1)]?) fun x10=>
 Option.bind (idx ((v6.2.2.1.drop (Int.toNat K)).take (Int.toNat (n:Int) - Int.toNat K)) (gf .i64 v6.2.1 (1:Int))) fun x11=>
 Option.bind (v6.2.2.1[((Int.toNat K)+Int.toNat (gf .i64 v6.2.1 (1:Int)))]?) fun x12=>
 bif (ne x10 x12)then
 Option.bind (idx ((v6.2.2.1.drop (Int.toNat K)).take (Int.toNat (n:Int) - Int.toNat K)) v6.2.1) fun x13=>
 Option.bind (v6.2.2.1[((Int.toNat K)+Int.toNat v6.2.1)]?) fun x14=>
 Option.bind (idx v6.2.2.1 v6.1) fun x15=>
 Option.bind (v6.2.2.1[(Int.toNat v6.1)]?) fun x16=>
 j8 ((aJ .i64 v6.1 (1:Int)),(v6.2.2.1.set (Int.toNat v6.1) x14),())
 else
 j8 (v6.1,v6.2.2.1,())
 else
 Option.map Sum.inr (bif dK v6.1 ((List.length v6.2.2.1):Int) (List.length v6.2.2.1)then
 bif dK (0:Int) v6.1 (List.length (v6.2.2.1.take (Int.toNat v6.1)++List.replicate (Int.toNat ((List.length v6.2.2.1):Int) - Int.toNat v6.1) z++v6.2.2.1.drop ((Int.toNat v6.1)+(Int.toNat ((List.length v6.2.2.1):Int) - Int.toNat v6.1))))then
 Option.map Sum.inr (some ((v6.2.2.1.take (Int.toNat v6.1)++List.replicate (Int.toNat ((List.length v6.2.2.1):Int) - Int.toNat v6.1) z++v6.2.2.1.drop ((Int.toNat v6.1)+(Int.toNat ((List.length v6.2.2.1):Int) - Int.toNat v6.1))).take (Int.toNat v6.1 - Int.toNat (0:Int))))
 else none
 else none)
 def GC(eq ne:α->α->Bool)(z:α)(v1:Int×(List α)×Unit):Option ((Int×(List α)×Unit)⊕List α):=
 bif (decide (v1.1<((List.length v1.2.1:Nat):Int)))then
 Option.bind (idx v1.2.1 v1.1) fun x2=>
 Option.bind (v1.2.1[(Int.toNat v1.1)]?) fun x3=>
 Option.bind (idx v1.2.1 (gf .i64 v1.1 (1:Int))) fun x4=>
 Option.bind (v1.2.1[(Int.toNat (gf .i64 v1.1 (1:Int)))]?) fun x5=>
 bif (eq x3 x5)then
 bif dK v1.1 ((List.length v1.2.1):Int) (List.length v1.2.1)then
 aI (Lc eq ne z v1.1 (List.length v1.2.1)) (v1.1,(1:Int),v1.2.1,())
 else none
 else
 some (Sum.inl ((aJ .i64 v1.1 (1:Int)),v1.2.1,()))
 else
 Option.map Sum.inr (some v1.2.1)
 def EM(eq ne:α->α->Bool)(z:α)(s:List α):Option (List α):=
 bif (decide (((List.length s:Nat):Int)<(2:Int)))then
 some s
 else
 aI (GC eq ne z) ((1:Int),s,())
theorem JN(d:List α){K n m:Nat}(hm:m<n - K):idx ((d.drop K).take (n - K)) (m:Int)=d[K+m]?:=by
 rw[bN,List.getElem?_take,Qr hm,List.getElem?_drop]
variable [DecidableEq α]
def mH(acc:List α)(x:α):List α:=if acc.getLast?=some x then acc else acc++[x]
def dd(l:List α):List α:=l.foldl mH []
theorem MZ(l:List α)(x:α):dd (l++[x])=mH (dd l) x:=by simp[dd,List.foldl_append]
theorem UC(l:List α):(dd l).getLast?=l.getLast?:=by
 suffices h:∀r:List α,(dd r.reverse).getLast?=r.reverse.getLast? by
  have:=h l.reverse
  rwa [List.reverse_reverse]at this
 intro r
 induction r with
 |nil=>rfl
 |cons x r ih=>
  rw[List.reverse_cons,MZ,mH];split
  ·rename_i h;rw[h];simp
  ·simp
theorem MY{s:List α}{k:Nat}{x:α}(h:s[k]?=some x):dd (s.take (k+1))=mH (dd (s.take k)) x:=by
 obtain⟨hl,hx⟩:=Qw.1 h;rw[List.take_succ_eq_append_getElem hl,hx,MZ]
theorem ID{s:List α}{k:Nat}{x:α}(h:s[k]?=some x):(dd (s.take (k+1))).getLast?=some x:=by
 obtain⟨hl,hx⟩:=Qw.1 h;rw[UC,List.take_succ_eq_append_getElem hl,hx];simp
variable {eq ne : α -> α -> Bool} {z : α}
theorem EX(hne:∀x y,ne x y= !decide (x=y)){s:List α}{K:Nat}(hn:s.length<1000000000):∀(r i k2:Nat) (d:List α),k2+r=s.length - K->1<=k2->i<=K+k2 - 1->d.length=s.length->d.take i=dd (s.take (K+k2))->(∀j,K+k2 - 1<=j->d[j]?=s[j]?)->
  aI (Lc eq ne z (K:Int) s.length) ((i:Int),(k2:Int),d,())=some (.inr (dd s))
 |0,i,k2,d,hr,h1,hi,hd,ht,hs=>by
  have hKn:K+k2=s.length:=by omega
  refine bX ?_;have e1:(((d.drop K).take (s.length - K)).length)=s.length - K:=by simp;omega
  have e2:decide ((k2:Int)<((s.length - K:Nat):Int))=false:=Qh (by omega)
  have e3:∀n,dK (i:Int) (d.length:Int) n=decide (d.length<=n):=by
   intro n;have:i<=d.length:=by omega
   simp only[dK];have h1:decide ((0:Int)<=(i:Int))=true:=Qg (by omega)
   have h2:decide ((i:Int)<=(d.length:Int))=true:=Qg (by omega)
   rw[h1,h2,Bool.and_self,Bool.true_and,decide_eq_decide];omega
  have e4:(d.take i++List.replicate (d.length - i) z++d.drop (i+(d.length - i))).length=d.length:=by simp;omega
  have e5:dK (0:Int) (i:Int) d.length=true:=by
   simp only[dK,Qm,Qi];omega
  have e6:(d.take i++List.replicate (d.length - i) z++d.drop (i+(d.length - i))).take (i - 0)=dd s:=by
   rw[Nat.sub_zero,QL,List.take_append_of_le_length (by simp;omega),List.take_take,Nat.min_self,ht,hKn,List.take_length]
  simp only[Lc,QV,e1,e2,Ql,e3,QI,decide_true,Qk,e4,e5,Int.toNat_zero,e6,Qe]
 |r+1,i,k2,d,hr,h1,hi,hd,ht,hs=>by
  have hKn:K+k2<s.length:=by omega
  obtain⟨x,hx⟩:∃x,s[K+k2]?=some x:=⟨_,Qv hKn⟩;obtain⟨y,hy⟩:∃y,s[K+(k2 - 1)]?=some y:=⟨_,Qv (by omega)⟩
  have e1:(((d.drop K).take (s.length - K)).length)=s.length - K:=by simp;omega
  have e2:decide ((k2:Int)<((s.length - K:Nat):Int))=true:=Qg (by omega)
  have e3:gf .i64 (k2:Int) 1=((k2 - 1:Nat):Int):=by rw[yY (by omega) (by omega)];omega
  have e4:aJ .i64 (k2:Int) 1=((k2+1:Nat):Int):=cq (by omega) (by omega)
  have e5:aJ .i64 (i:Int) 1=((i+1:Nat):Int):=cq (by omega) (by omega)
  have hdx:d[K+k2]?=some x:=by rw[hs _ (by omega),hx]
  have hdy:d[K+(k2 - 1)]?=some y:=by rw[hs _ (by omega),hy]
  have hv1:=JN d (K:=K) (n:=s.length) (m:=k2) (by omega)
  have hv2:=JN d (K:=K) (n:=s.length) (m:=k2 - 1) (by omega)
  obtain⟨w,hw⟩:∃w,d[i]?=some w:=⟨_,Qv (by omega)⟩
  have hstep:=MY hx
  have hlast:(dd (s.take (K+k2))).getLast?=some y:=by
   have:=ID hy
   rwa [show K+(k2 - 1)+1=K+k2 by omega]at this
  rw[mH,hlast]at hstep;have hil:i<d.length:=by omega
  by_cases hxy:x=y
  ·refine Eq.trans (bp (s':=((i:Int),((k2+1:Nat):Int),d,())) ?_) (EX hne hn r i (k2+1) d (by omega) (by omega) (by omega) hd ?_ fun j hj=>hs j (by omega))
   ·simp only[Lc,QV,e1,e2,Qk,bD,hv1,hdx,Qa,e3,hv2,hdy,hne,hxy,decide_true,Qo,Ql,e4]
   ·rw[show K+(k2+1)=K+k2+1 by omega,hstep,Qr (by rw[hxy]),ht]
  ·refine Eq.trans (bp (s':=(((i+1:Nat):Int),((k2+1:Nat):Int),d.set i x,())) ?_) (EX hne hn r (i+1) (k2+1) (d.set i x) (by omega) (by omega) (by omega) (by rw[QY];exact hd) ?_ fun j hj=> ?_)
   ·simp only[Lc,QV,e1,e2,Qk,bD,hv1,hdx,Qa,e3,hv2,hdy,hne,hxy,decide_false,Qp,e4,e5,bN,hw]
   ·rw[show K+(k2+1)=K+k2+1 by omega,hstep,Qs (fun e=>hxy (by injection e with e;exact e.symm)),<-ht,List.take_succ_eq_append_getElem (by rw[QY];exact hil)]
    congr 1
    ·rw[List.take_set_of_le (QI _)]
    ·simp
   ·rw[List.getElem?_set,Qs (by omega)]
    exact hs j (by omega)
theorem Lb(heq:∀x y,eq x y=decide (x=y))(hne:∀x y,ne x y= !decide (x=y)){s:List α}(hn:s.length<1000000000):∀(r k:Nat),k+r=s.length->1<=k->dd (s.take k)=s.take k->aI (GC eq ne z) ((k:Int),s,())=some (dd s)
 |0,k,hr,h1,h=>by
  refine bX ?_;have hk:k=s.length:=by omega
  have e2:decide ((k:Int)<((s.length:Nat):Int))=false:=Qh (by omega)
  rw[hk,List.take_length]at h;simp only[GC,e2,Ql,Qe,h]
 |r+1,k,hr,h1,h=>by
  have hk:k<s.length:=by omega
  obtain⟨x,hx⟩:∃x,s[k]?=some x:=⟨_,Qv hk⟩;obtain⟨y,hy⟩:∃y,s[k - 1]?=some y:=⟨_,Qv (by omega)⟩
  have e2:decide ((k:Int)<((s.length:Nat):Int))=true:=Qg (by omega)
  have e3:gf .i64 (k:Int) 1=((k - 1:Nat):Int):=by rw[yY (by omega) (by omega)];omega
  have e4:aJ .i64 (k:Int) 1=((k+1:Nat):Int):=cq (by omega) (by omega)
  have hstep:=MY hx
  have hlast:(dd (s.take k)).getLast?=some y:=by
   have:=ID hy
   rwa [show k - 1+1=k by omega]at this
  rw[mH,hlast]at hstep
  by_cases hxy:x=y
  ·rw[Qr (by rw[hxy])]at hstep
   have e5:dK (k:Int) (s.length:Int) s.length=true:=by
    simp only[dK,Qm,Qi];omega
   have hin:=EX (eq:=eq) (z:=z) (K:=k) hne hn (s.length - k - 1) k 1 s (by omega) (by omega) (by omega) rfl (by rw[hstep,h]) (fun _ _=>rfl)
   refine bX ?_;simp only[GC,e2,Qk,bN,QV,hx,hy,e3,Qa,heq,hxy,decide_true,e5];exact hin
  ·rw[Qs (fun e=>hxy (by injection e with e;exact e.symm))]at hstep
   refine Eq.trans (bp (s':=(((k+1:Nat):Int),s,())) ?_) (Lb heq hne hn r (k+1) (by omega) (by omega) ?_)
   ·simp only[GC,e2,Qk,bN,QV,hx,hy,e3,Qa,heq,hxy,decide_false,Ql,e4]
   ·obtain⟨hl,hx'⟩:=Qw.1 hx;rw[hstep,h,List.take_succ_eq_append_getElem hl,hx']
theorem zY(heq:∀x y,eq x y=decide (x=y))(hne:∀x y,ne x y= !decide (x=y))(s:List α)(hn:s.length<1000000000):EM eq ne z s=some (dd s):=by
 unfold EM
 by_cases h:s.length<2
 ·have e:decide (((s.length:Nat):Int)<2)=true:=Qg (by omega)
  rw[e,Qk]
  match s,h with
  |[],_=>rfl
  |[x],_=>rfl
 ·have e:decide (((s.length:Nat):Int)<2)=false:=Qh (by omega)
  rw[e,Ql];refine Lb heq hne hn (s.length - 1) 1 (by omega) (by omega) ?_
  cases s with
  |nil=>rfl
  |cons x l=>rfl
theorem Ol(acc:List α)(x:α):∀y,y∈mH acc x↔y∈acc\/y=x:=by
 intro y;unfold mH;split
 ·rename_i h;have:=List.mem_of_getLast? h;exact⟨.inl,fun h'=>h'.elim id fun e=>e▸this⟩
 ·simp
theorem BD:∀(l acc:List α) (y:α),y∈l.foldl mH acc↔y∈acc\/y∈l
 |[],acc,y=>by simp
 |x::l,acc,y=>by
  rw[QU,BD l,Ol];simp[or_assoc]
theorem Vl(l:List α)(y:α):y∈dd l↔y∈l:=by rw[dd,BD];simp
theorem K9(l:List α):(dd l).length<=l.length:=by
 suffices h:∀(l acc:List α),(l.foldl mH acc).length<=acc.length+l.length by simpa[dd]using h l []
 intro l
 induction l with
 |nil=>intro acc;simp
 |cons x l ih=>
  intro acc;rw[QU];refine QK (ih _) ?_;unfold mH;split<;>simp<;>omega
theorem PO{lt:α->α->Bool}(ho:SWO lt)(hto:∀x y,lt x y=false->lt y x=false->x=y){l:List α}(hl:l.Pairwise (fun a b=>lt b a=false)):(dd l).Pairwise (fun a b=>lt a b=true):=by
 suffices h:∀(l acc:List α),(acc++l).Pairwise (fun a b=>lt b a=false)->acc.Pairwise (fun a b=>lt a b=true)->(l.foldl mH acc).Pairwise (fun a b=>lt a b=true)from h l [] (by simpa using hl) .nil
 intro l
 induction l with
 |nil=>intro acc _ h;exact h
 |cons x l ih=>
  intro acc h1 h2;rw[QU];unfold mH;split
  ·rename_i hlast;refine ih acc ?_ h2;rw[List.pairwise_append]at h1 ⊢;exact⟨h1.1,(Q4.1 h1.2.1).2,fun a ha b hb=>h1.2.2 a ha b (by simp[hb])⟩
  ·rename_i hlast;refine ih _ (by simpa using h1) ?_
   rw[List.pairwise_append]at h1 ⊢;refine⟨h2,by simp,fun a ha b hb=> ?_⟩
   rw[List.mem_singleton.1 hb];have hax:lt x a=false:=h1.2.2 a ha x (by simp)
   cases hc:lt a x with
   |true=>rfl
   |false=>
    exfalso;have e:=hto a x hc hax;subst e
    obtain⟨y,hy⟩:∃y,acc.getLast?=some y:=by
     cases hg:acc.getLast? with
     |none=>rw[List.getLast?_eq_none_iff.1 hg]at ha;cases ha
     |some y=>exact⟨y,rfl⟩
    obtain⟨pre,rfl⟩:∃pre,acc=pre++[y]:=by
     have:=List.getLast?_eq_some_iff.1 hy;exact this
    rcases Qz.1 ha with ha|ha
    ·rw[List.pairwise_append]at h2;have h3:=h2.2.2 a ha y (by simp)
     have h4:=h1.2.2 y (by simp) a (by simp)
     rw[h3]at h4;cases h4
    ·rw[List.mem_singleton.1 ha]at hlast;exact hlast hy
end
end Go.Proofs.YtkgenianmdfmdaaGreat
namespace Go.Proofs.YtkgenianmdfmdaaGreat
open Go.TQ
theorem Sd(s:List Int):kM s=EM (fun x y=>decide (x=y)) (fun x y=> !decide (x=y)) 0 s:=rfl
 def fZ(v:ByteArray)(e:ai):Bool:=a8 e&&decide (e.aa.Value=v)&& !decide (e.aO=0)
 def ends(v:ByteArray)(l:List ai):List Int:=l.flatMap fun e=>if fZ v e then[e.aO,e.aX]else[]
theorem s9{v:ByteArray}{l:List ai}{x:Int}:x∈ends v l↔∃e∈l,fZ v e=true/\(x=e.aO\/x=e.aX):=by
 simp only[ends,QQ];constructor
 ·rintro⟨e,he,hx⟩;split at hx
  ·rename_i h;exact⟨e,he,h,by simpa using hx⟩
  ·cases hx
 ·rintro⟨e,he,h,hx⟩;exact⟨e,he,by rw[Qr h];simpa using hx⟩
end Go.Proofs.YtkgenianmdfmdaaGreat
namespace Go.Proofs.YtkgenianmdfmdaaGreat
open Go.TQ
theorem Ce{v:bh}{az:Int}{l:List ai}(hl:l.length<=1000000)(hin:rG l)(val:ByteArray)(lo hi:Int):gw ⟨az,v,l.map bc.mk⟩ val lo hi=some ((dh (dn · val lo hi) l:Nat):Int):=by
 unfold gw;refine yV (dn · val lo hi) l hin _ (fun i e s he=> ?_) (fun s=> ?_)
 ·have hlt:i<l.length:=(Qw.1 he).1;have hd:decide ((i:Int)<(((l.map bc.mk).length:Nat):Int))=true:=Qg (by rw[QC];omega)
  have hw:aJ .i64 (i:Int) 1=((i+1:Nat):Int):=cq (by omega) (by omega)
  have hx:idx (l.map bc.mk) (i:Int)=some ⟨e⟩:=by rw[bN,QT,he];rfl
  simp only[hd,hx,hw,Qk,Qa,aq.eta,ai.eta,jy,oM,bD];cases dn e val lo hi<;>simp
 ·have hd:decide (((l.length:Nat):Int)<(((l.map bc.mk).length:Nat):Int))=false:=Qh (by rw[QC];exact Int.lt_irrefl _)
  simp only[hd,Ql,Qe]
theorem Mk{v:bh}{az:Int}{l:List ai}(hl:l.length<=1000000)(hin:rG l)(val:ByteArray)(lo hi:Int):eO ⟨az,v,l.map bc.mk⟩ val lo hi val lo hi=some ((dh (fun e=>rN e val lo hi||dn e val lo hi) l:Nat):Int):=by
 unfold eO;refine yV (fun e=>rN e val lo hi||dn e val lo hi) l hin _ (fun i e s he=> ?_) (fun s=> ?_)
 ·have hlt:i<l.length:=(Qw.1 he).1;have hd:decide ((i:Int)<(((l.map bc.mk).length:Nat):Int))=true:=Qg (by rw[QC];omega)
  have hw:aJ .i64 (i:Int) 1=((i+1:Nat):Int):=cq (by omega) (by omega)
  have hx:idx (l.map bc.mk) (i:Int)=some ⟨e⟩:=by rw[bN,QT,he];rfl
  simp only[hd,hx,hw,Qk,Qa,aq.eta,ai.eta,gB,jy,qZ,oM,xV,bD,ng,Bool.cond_true_left];cases (rN e val lo hi||dn e val lo hi)<;>simp
 ·have hd:decide (((l.length:Nat):Int)<(((l.map bc.mk).length:Nat):Int))=false:=Qh (by rw[QC];exact Int.lt_irrefl _)
  simp only[hd,Ql,Qe]
 def AY(az:Nat)(t:aq)(l:List ai):eN:=⟨az,⟨fg az t l⟩,(bH l).map bc.mk⟩
 def oH(az:Nat)(t:aq)(l:List ai)(val:ByteArray)(lo hi:Int):Bool:=
 o7 (fg az t l) az (dh (fun e=>rN e val lo hi||dn e val lo hi) (bH l)) (dh (dn · val lo hi) (bH l))
 def qP(az:Nat)(t:aq)(l:List ai)(val:ByteArray)(lo hi:Int):Bool:=
 (gq (fg az t l) (dh (dn · val lo hi) (bH l))).testBit az
section
variable {az : Nat} (hn : az < 10) {t : aq} (ht : eZ t) {l : List ai} (hl : nA l)
 include hn ht hl
theorem Kf(val:ByteArray)(lo hi:Int):fD (AY az t l) val lo hi=some (oH az t l val lo hi):=by
 have hlen:=hl.len;have hrl:=uW l;have hin:=oe l
 simp only[AY,fD,kP,ic,Qa,Mk (by omega:(bH l).length<=1000000) hin,Ce (by omega:(bH l).length<=1000000) hin,
  Al (qz ht hl) hn (oP hin) (oP hin),oH]
theorem Tz(val:ByteArray)(lo hi:Int):jQ (AY az t l) val lo hi=some (qP az t l val lo hi):=by
 have hlen:=hl.len;have hrl:=uW l;have hin:=oe l;simp only[AY,jQ,kP,jd,Qa,Ce (by omega:(bH l).length<=1000000) hin,yF (qz ht hl) hn (oP hin),qP]
theorem look_eq:dX az t l=some (AY az t l):=HZ hn ht hl
end
def dU(q:Int->Bool):List Int->Int->Int
 |[],lo=>lo
 |e::l,lo=>if lo<=e then dU q l lo else if q e then dU q l e else lo
theorem vo{p:Int->Option Bool}{q:Int->Bool}(h:∀e,p e=some (q e)):∀(l:List Int) (lo:Int),jD (fun(m5:Nat) (e6:Int) (v4:Int×Unit)=>
  bif (decide (v4.1<=e6))then some (Sum.inl (v4.1,()))else
  Option.bind (p e6) fun r7=>bif (!r7)then Option.map Sum.inr (some v4.1)else some (Sum.inl (e6,()))) (fun v8=>some v8.1) l (lo,())=some (dU q l lo)
 |[],lo=>rfl
 |e::l,lo=>by
  rw[jD,dU]
  by_cases hle:lo<=e
  ·rw[Qr hle];simp only[hle,decide_true,Qk];exact vo h l lo
  ·rw[Qs hle];simp only[hle,decide_false,Ql,h,Qa]
   cases hq:q e with
   |true=>
    simp only[Qo,Ql,Qt];have:=vo h l e;simp only[h,Qa]at this;exact this
   |false=>rfl
def flat(n:Nat)(k:Int):aq:=⟨k,kU n,[]⟩
theorem D0(s n:Nat)(k:Int):jL s (flat n k)=decide (k<=(((kU n).countP (fT s):Nat):Int)):=by
 rw[Cq];simp[flat,qB]
theorem GD{s n:Nat}(hn:n<=10)(h:∀k,k<n->s.testBit k=true):(kU n).countP (fT s)=n:=by
 have:(kU n).countP (fT s)=(kU n).length:=by
  rw[List.countP_eq_length];intro x hx;obtain⟨k,hk,rfl⟩:=CD.1 hx;simp only[fT,eB,Qm,Qi,QV];exact⟨by omega,h k hk⟩
 rw[this,Nl]
theorem On{s s':Nat}(h:∀k,s.testBit k=true->s'.testBit k=true)(l:List Int):l.countP (fT s)<=l.countP (fT s'):=List.countP_mono_left fun x _ hx=>IH h x hx
structure Ae (n:Nat) (k:Int) (l:List ai):Prop where
 n10:n<=10
 k1:1<=k
 kn:k<=n
 valid:∀e∈l,a8 e=true
 aZ:∀e∈l,e.ae=flat n k
 X7:l.length<=1000
 all:∀i,i<n->∃e∈l,e.au.toNat=i
theorem Ae.fh{n:Nat}{k:Int}{l:List ai}(h:Ae n k l):iV (flat n k):=rB n h.n10 k h.k1 h.kn
theorem Ae.sm{n:Nat}{k:Int}{l:List ai}(h:Ae n k l):nA l:=⟨by have:=h.X7;omega,fun e he=>by rw[h.aZ e he];exact h.fh.sm⟩
theorem Ae.bH{n:Nat}{k:Int}{l:List ai}(h:Ae n k l):Go.Proofs.YtkgenianmdfmdaaGreat.bH l=l:=FJ h.valid
def cE(n:Nat)(k:Int)(c:Int)(v:ByteArray)(lo hi:Nat->Int)(i:Nat):ai:=⟨i,1,1,flat n k,2,⟨c,v⟩,⟨c,v⟩,⟨0,ByteArray.mk #[]⟩,lo i,hi i⟩
end Go.Proofs.YtkgenianmdfmdaaGreat
namespace Go.Proofs.YtkgenianmdfmdaaGreat
open Go.TQ
def sC(b:List Int)(sure:Int->Int->Bool):Int×Int×Bool×Unit:=
 match b.reverse.find? (fun e=>sure e e)with
 |some e=>(dU (fun x=>sure x e) b.reverse e,e,true,())
 |none=>(0,0,false,())
theorem MR{p:Int->Option Bool}{q:Int->Bool}{d:Int->Option Int}{f:Int->Int}(hp:∀e,p e=some (q e))(hd:∀e,d e=some (f e)):∀r:List Int,jD (fun(m5:Nat) (e6:Int) (v4:Int×Int×Bool×Unit)=>
  Option.bind (p e6) fun r7=>bif r7 then Option.bind (d e6) fun r8=>Option.map Sum.inr (some (r8,e6,true,()))else some (Sum.inl (v4.1,v4.2.1,v4.2.2.1,()))) (fun(v9:Int×Int×Bool×Unit)=>some ((0:Int),(0:Int),false,())) r ((0:Int),(0:Int),false,())=
  some (match r.find? q with|some e=>(f e,e,true,())|none=>(0,0,false,()))
 |[]=>rfl
 |e::r=>by
  have ih:=MR hp hd r;rw[jD,List.find?_cons];simp only[hp,hd,Qa,Qe]at ih ⊢
  cases q e with
  |true=>rfl
  |false=>simp only[Ql];exact ih
section
variable {az : Nat} (hn : az < 10) {t : aq} (ht : eZ t) {l : List ai} (hl : nA l)
 include hn ht hl
end
section
variable {n : Nat} {k c : Int} {v : ByteArray} {lo hi : Nat -> Int} (h : Ae n k ((List.range n).map (cE n k c v lo hi))) {i : Nat} (hi' : i < n)
 include h hi'
end
end Go.Proofs.YtkgenianmdfmdaaGreat
namespace Go.Proofs.YtkgenianmdfmdaaGreat
open Go.TQ
section
variable {α : Type}
structure qm (lt:α->α->Bool):Prop where
 irrefl:∀x,lt x x=false
 trans:∀x y z,lt x y=true->lt y z=true->lt x z=true
 total:∀x y,lt x y=false->lt y x=false->x=y
variable {lt : α -> α -> Bool}
theorem qm.asymm(h:qm lt){x y:α}(hxy:lt x y=true):lt y x=false:=by
 cases hc:lt y x with
 |false=>rfl
 |true=>have:=h.trans x y x hxy hc;rw[h.irrefl]at this;cases this
theorem qm.ntrans(h:qm lt){x y z:α}(h1:lt x y=false)(h2:lt y z=false):lt x z=false:=by
 cases hc:lt x z with
 |false=>rfl
 |true=>
  cases hyx:lt y x with
  |false=>rw[h.total x y h1 hyx,h2]at hc;cases hc
  |true=>have:=h.trans y x z hyx hc;rw[h2]at this;cases this
theorem qm.X6(h:qm lt):Go.Sort.SWO lt:=⟨h.irrefl,h.trans,fun _ _ _=>h.ntrans⟩
theorem qm.own(h:qm lt):SWO lt:=⟨fun _ _=>h.asymm,fun _ _ _ h1 h2=>h.ntrans h2 h1⟩
theorem qm.flip(h:qm lt):qm fun a b=>lt b a:=⟨h.irrefl,fun x y z h1 h2=>h.trans z y x h2 h1,fun x y h1 h2=>h.total x y h2 h1⟩
theorem qm.unique(h:qm lt):∀{a b:List α},a.Pairwise (fun x y=>lt x y=true)->b.Pairwise (fun x y=>lt x y=true)->(∀x,x∈a↔x∈b)->a=b
 |[],[],_,_,_=>rfl
 |[],y::b,_,_,h'=>by have:=(h' y).2 (by simp);cases this
 |x::a,[],_,_,h'=>by have:=(h' x).1 (by simp);cases this
 |x::a,y::b,ha,hb,h'=>by
  rw[Q4]at ha hb
  have hxy:x=y:=by
   have h1:=(h' x).1 (by simp)
   have h2:=(h' y).2 (by simp)
   rcases QA.1 h1 with h1|h1
   ·exact h1
   ·rcases QA.1 h2 with h2|h2
    ·exact h2.symm
    ·have q1:=ha.1 y h2;have q2:=hb.1 x h1;rw[h.asymm q1]at q2;cases q2
  subst hxy;congr 1;refine h.unique ha.2 hb.2 fun z=>⟨fun hz=> ?_,fun hz=> ?_⟩
  ·rcases QA.1 ((h' z).1 (by simp[hz]))with e|e
   ·subst e;have:=ha.1 z hz;rw[h.irrefl]at this;cases this
   ·exact e
  ·rcases QA.1 ((h' z).2 (by simp[hz]))with e|e
   ·subst e;have:=hb.1 z hz;rw[h.irrefl]at this;cases this
   ·exact e
theorem qm.Rt[DecidableEq α](h:qm lt){cmp:α->α->Option Int}{c:α->α->Int}(hc:∀x y,cmp x y=some (c x y))(hlt:∀x y,decide (c x y<0)=lt x y)(s:List α)(hs:s.length<1000000000):
  ∃t,vz cmp s=some ((),t)/\t.length=s.length/\(dd t).Pairwise (fun x y=>lt x y=true)/\∀x,x∈dd t↔x∈s:=by
 have hcf:B7 cmp=c:=funext fun x=>funext fun y=>by unfold B7;rw[hc];rfl
 have hl:Go.Proofs.ltOf (B7 cmp)=lt:=by
  rw[hcf];exact funext fun x=>funext fun y=>hlt x y
 have hok:Tn cmp:=⟨fun x y=>by rw[hcf];exact hc x y,by rw[hl];exact h.X6,fun x y h1 h2=>by rw[hl]at h1 h2;exact h.total x y h1 h2⟩
 refine⟨s.mergeSort fun x y=> !lt y x,?_,List.length_mergeSort s,PO h.own h.total ?_,fun x=>by rw[Vl,List.mem_mergeSort]⟩
 ·unfold vz;rw[Qr ⟨hok,by omega⟩,hl]
 ·refine(List.pairwise_mergeSort (le:=fun x y=> !lt y x) (fun a b c h1 h2=> ?_) (fun a b=> ?_) s).imp fun{a b} hab=>by simpa using hab
  ·simp only[Bool.not_eq_true']at h1 h2 ⊢;exact h.ntrans h2 h1
  ·cases hab:lt a b with
   |false=>simp
   |true=>rw[h.asymm hab];rfl
end
theorem Cp:qm fun a b:Int=>decide (a<b):=
 ⟨fun x=>Qh (Int.lt_irrefl x),fun x y z h1 h2=>by simp only[Qi]at*;omega,fun x y h1 h2=>by simp only[Qj]at*;omega⟩
theorem Ll:∀{x y z:List UInt8},Op.bytesLess x y=true->Op.bytesLess y z=true->Op.bytesLess x z=true
 |[],[],_,h,_=>by simp[Op.bytesLess]at h
 |_::_,[],_,h,_=>by simp[Op.bytesLess]at h
 |[],_::_,[],_,h=>by simp[Op.bytesLess]at h
 |[],_::_,_::_,_,_=>rfl
 |_::_,_::_,[],_,h=>by simp[Op.bytesLess]at h
 |a::x,b::y,c::z,h,h'=>by
  simp only[Op.bytesLess,Qn,Qi,Qm,beq_iff_eq]at h h' ⊢;rcases h with h|⟨rfl,h⟩
  ·rcases h' with h'|⟨rfl,h'⟩
   ·exact .inl (UInt8.lt_trans h h')
   ·exact .inl h
  ·rcases h' with h'|⟨rfl,h'⟩
   ·exact .inl h'
   ·exact .inr ⟨rfl,Ll h h'⟩
theorem LQ{a b c:ByteArray}(h:iS a b=true)(h':iS b c=true):iS a c=true:=Ll h h'
theorem LR{a b:ByteArray}(h:a≠b):iS a b=true\/iS b a=true:=
 Lm fun e=>h (by
  rw[Lib.toList_data,Lib.toList_data]at e;cases a;cases b;rename_i x y;cases x;cases y
  simp_all)
theorem wX:qm mX:=by
 refine⟨fun x=>by rw[mX,Qr rfl,JZ],fun x y z h1 h2=> ?_,fun x y h1 h2=> ?_⟩
 ·unfold mX at*
  by_cases e1:x.size=y.size
  ·rw[Qr e1]at h1
   by_cases e2:y.size=z.size
   ·rw[Qr e2]at h2;rw[Qr (e1.trans e2)];exact LQ h1 h2
   ·rw[Qs e2]at h2;rw[Qs (by omega),e1]
    exact h2
  ·rw[Qs e1,Qi]at h1
   by_cases e2:y.size=z.size
   ·rw[Qs (by omega),<-e2]
    exact Qg h1
   ·rw[Qs e2,Qi]at h2;rw[Qs (by omega)]
    exact Qg (by omega)
 ·unfold mX at*
  by_cases e1:x.size=y.size
  ·rw[Qr e1]at h1;rw[Qr e1.symm]at h2;refine Classical.byContradiction fun hne=> ?_
   rcases LR hne with h|h
   ·rw[h]at h1;cases h1
   ·rw[h]at h2;cases h2
  ·rw[Qs e1,Qj]at h1;rw[Qs (fun e=>e1 e.symm),Qj]at h2
   omega
theorem wY:qm bb:=by
 refine⟨fun x=>by rw[bb,Qr rfl,wX.irrefl],fun x y z h1 h2=> ?_,fun x y h1 h2=> ?_⟩
 ·unfold bb at*
  by_cases e1:x.aj=y.aj
  ·rw[Qr e1]at h1
   by_cases e2:y.aj=z.aj
   ·rw[Qr e2]at h2;rw[Qr (e1.trans e2)];exact wX.trans _ _ _ h1 h2
   ·rw[Qs e2]at h2;rw[Qs (by omega),e1]
    exact h2
  ·rw[Qs e1,Qi]at h1
   by_cases e2:y.aj=z.aj
   ·rw[Qs (by omega),<-e2]
    exact Qg h1
   ·rw[Qs e2,Qi]at h2;rw[Qs (by omega)]
    exact Qg (by omega)
 ·unfold bb at*
  by_cases e1:x.aj=y.aj
  ·rw[Qr e1]at h1;rw[Qr e1.symm]at h2;have:=wX.total _ _ h1 h2;cases x;cases y
   simp_all
  ·rw[Qs e1,Qj]at h1;rw[Qs (fun e=>e1 e.symm),Qj]at h2
   omega
end Go.Proofs.YtkgenianmdfmdaaGreat
namespace Go.Proofs.YtkgenianmdfmdaaGreat
open Go.TQ
structure G5 (n:Nat) (l:List ai):Prop where
 of:∀e∈l,∃i:Nat,i<n/\WW i 1 n e
 Yq:l.Pairwise fun a b=>a.au<b.au
 len:l.length<=n
theorem G5.valid{n:Nat}{l:List ai}(h:G5 n l):∀e∈l,a8 e=true:=fun e he=>by
 obtain⟨i,_,hi⟩:=h.of e he;rw[a8,AQ hi.aZ];exact hi.valid
theorem G5.sm{n:Nat}{l:List ai}(h:G5 n l)(hn:n<=1000):nA l:=⟨by have:=h.len;omega,fun e he=>by
 obtain⟨i,_,hi⟩:=h.of e he
 exact hi.aZ.sm⟩
theorem yQ.mono{l:List aW}{s s' r:Nat}(h:∀k,s.testBit k=true->s'.testBit k=true)(hi:yQ l s r):yQ l s' r:=fun k hk=>⟨h k (hi k hk).1,(hi k hk).2⟩
section
variable {az : Nat} {t : aq} (ht : eZ t) {l : List ai} (hl : nA l) {v : ByteArray} {lo hi k : Int} (h1 : lo <= k) (h2 : k <= hi)
 include ht hl h1 h2
end
end Go.Proofs.YtkgenianmdfmdaaGreat
namespace Go.Proofs.YtkgenianmdfmdaaGreat
open Go.TQ
section
variable {α : Type}
 def nG(p:α->Option Bool)(a0:List α)(v1:Int×Unit):Option ((Int×Unit)⊕Int):=
 bif (decide (v1.1<((List.length a0:Nat):Int)))then
  Option.bind (idx a0 v1.1) fun x2=>Option.bind (p x2) fun r3=>bif r3 then Option.map Sum.inr (some v1.1)else some (Sum.inl ((aJ .i64 v1.1 (1:Int)),()))
 else Option.map Sum.inr (some (-1:Int))
 def PD(p:α->Option Bool)(a0:List α):Option Int:=aI (nG p a0) ((0:Int),())
 def yH(p:α->Option Bool)(z:α)(v2:Int×Int×(List α)×Unit):Option ((Int×Int×(List α)×Unit)⊕List α):=
 bif (decide (v2.2.1<((List.length v2.2.2.1:Nat):Int)))then
  bO (fun(v3:Int×(List α)×Unit)=>some (Sum.inl (v3.1,(aJ .i64 v2.2.1 (1:Int)),v3.2.1,()))) fun j4=>
  Option.bind (idx v2.2.2.1 v2.2.1) fun x5=>Option.bind (v2.2.2.1[(Int.toNat v2.2.1)]?) fun x6=>Option.bind (p x6) fun r7=>
  bif (!r7)then
   Option.bind (idx v2.2.2.1 v2.1) fun x8=>Option.bind (v2.2.2.1[(Int.toNat v2.1)]?) fun x9=>j4 ((aJ .i64 v2.1 (1:Int)),(v2.2.2.1.set (Int.toNat v2.1) x6),())
  else j4 (v2.1,v2.2.2.1,())
 else
  Option.map Sum.inr (bif dK v2.1 ((List.length v2.2.2.1):Int) (List.length v2.2.2.1)then
   bif dK (0:Int) v2.1 (List.length (v2.2.2.1.take (Int.toNat v2.1)++List.replicate (Int.toNat ((List.length v2.2.2.1):Int) - Int.toNat v2.1) z++v2.2.2.1.drop ((Int.toNat v2.1)+(Int.toNat ((List.length v2.2.2.1):Int) - Int.toNat v2.1))))then
    some ((v2.2.2.1.take (Int.toNat v2.1)++List.replicate (Int.toNat ((List.length v2.2.2.1):Int) - Int.toNat v2.1) z++v2.2.2.1.drop ((Int.toNat v2.1)+(Int.toNat ((List.length v2.2.2.1):Int) - Int.toNat v2.1))).take (Int.toNat v2.1 - Int.toNat (0:Int)))
   else none
  else none)
 def MP(p:α->Option Bool)(z:α)(s:List α):Option (List α):=
 Option.bind (PD p s) fun r1=>bif (decide (r1=(-1:Int)))then some s else aI (yH p z) (r1,(aJ .i64 r1 (1:Int)),s,())
theorem xK{q:α->Bool}{s:List α}{j:Nat}{x:α}(h:s[j]?=some x):(s.take (j+1)).filter q=(s.take j).filter q++if q x then[x]else[]:=by
 obtain⟨hl,hx⟩:=Qw.1 h;rw[List.take_succ_eq_append_getElem hl,List.filter_append,hx];congr 1;cases hq:q x<;>simp[hq]
variable {p : α -> Option Bool} {q : α -> Bool} (hp : ∀ x, p x = some (q x)) {z : α}
 include hp
theorem KI{s:List α}(hs:s.length<1000000000):∀(k i:Nat),i+k=s.length->(s.take i).filter (fun x=> !q x)=s.take i->
  (∃m:Nat,∃x,aI (nG p s) ((i:Int),())=some (m:Int)/\(s.take m).filter (fun x=> !q x)=s.take m/\s[m]?=some x/\q x=true)\/(aI (nG p s) ((i:Int),())=some (-1)/\s.filter (fun x=> !q x)=s)
 |0,i,hi,hf=>by
  have hd:decide ((i:Int)<((s.length:Nat):Int))=false:=Qh (by omega)
  refine .inr ⟨bX ?_,?_⟩
  ·simp only[nG,hd,Ql,Qe]
  ·rwa [show i=s.length by omega,List.take_length]at hf
 |k+1,i,hi,hf=>by
  have hd:decide ((i:Int)<((s.length:Nat):Int))=true:=Qg (by omega)
  have hw:aJ .i64 (i:Int) 1=((i+1:Nat):Int):=cq (by omega) (by omega)
  obtain⟨x,hx⟩:∃x,s[i]?=some x:=⟨_,Qv (by omega)⟩
  cases hq:q x with
  |true=>
   refine .inl ⟨i,x,bX ?_,hf,hx,hq⟩;simp only[nG,hd,Qk,bN,hx,Qa,hp,hq,Qe]
  |false=>
   have hstep:aI (nG p s) ((i:Int),())=aI (nG p s) (((i+1:Nat):Int),()):=bp (by simp only[nG,hd,Qk,bN,hx,Qa,hp,hq,Ql,hw])
   rw[hstep];refine KI hs k (i+1) (by omega) ?_
   rw[xK hx,hf,hq];obtain⟨hl,hx'⟩:=Qw.1 hx;rw[List.take_succ_eq_append_getElem hl,hx'];rfl
theorem ES{s:List α}(hs:s.length<1000000000):∀(r i j:Nat) (d:List α),j+r=s.length->i<j->d.length=s.length->d.take i=(s.take j).filter (fun x=> !q x)->(∀m,j<=m->d[m]?=s[m]?)->
  aI (yH p z) ((i:Int),(j:Int),d,())=some (s.filter fun x=> !q x)
 |0,i,j,d,hr,hij,hd,ht,hm=>by
  have e2:decide ((j:Int)<((d.length:Nat):Int))=false:=Qh (by omega)
  refine bX ?_
  have e3:∀n,dK (i:Int) (d.length:Int) n=decide (d.length<=n):=by
   intro n;simp only[dK];have h1:decide ((0:Int)<=(i:Int))=true:=Qg (by omega)
   have h2:decide ((i:Int)<=(d.length:Int))=true:=Qg (by omega)
   rw[h1,h2,Bool.and_self,Bool.true_and,decide_eq_decide];omega
  have e4:(d.take i++List.replicate (d.length - i) z++d.drop (i+(d.length - i))).length=d.length:=by simp;omega
  have e5:dK (0:Int) (i:Int) d.length=true:=by
   simp only[dK,Qm,Qi];omega
  have e6:(d.take i++List.replicate (d.length - i) z++d.drop (i+(d.length - i))).take (i - 0)=s.filter fun x=> !q x:=by
   rw[Nat.sub_zero,QL,List.take_append_of_le_length (by simp;omega),List.take_take,Nat.min_self,ht,show j=s.length by omega,List.take_length]
  simp only[yH,e2,Ql,QV,e3,QI,decide_true,Qk,e4,e5,Int.toNat_zero,e6,Qe]
 |r+1,i,j,d,hr,hij,hd,ht,hm=>by
  have e2:decide ((j:Int)<((d.length:Nat):Int))=true:=Qg (by omega)
  have ej:aJ .i64 (j:Int) 1=((j+1:Nat):Int):=cq (by omega) (by omega)
  have ei:aJ .i64 (i:Int) 1=((i+1:Nat):Int):=cq (by omega) (by omega)
  obtain⟨x,hx⟩:∃x,s[j]?=some x:=⟨_,Qv (by omega)⟩
  obtain⟨y,hy⟩:∃y,d[i]?=some y:=⟨_,Qv (by omega)⟩
  have hdx:d[j]?=some x:=by rw[hm j (QI _),hx]
  have hstep:=xK (q:=fun x=> !q x) hx
  cases hq:q x with
  |true=>
   rw[hq]at hstep;refine(bp (s':=((i:Int),((j+1:Nat):Int),d,())) ?_).trans (ES hs r i (j+1) d (by omega) (by omega) hd (by rw[hstep,ht];simp) fun m h=>hm m (by omega))
   simp only[yH,e2,Qk,bD,bN,QV,hdx,Qa,hp,hq,Qo,Ql,ej]
  |false=>
   rw[hq]at hstep;refine(bp (s':=(((i+1:Nat):Int),((j+1:Nat):Int),d.set i x,())) ?_).trans (ES hs r (i+1) (j+1) (d.set i x) (by omega) (by omega) (by rw[QY];exact hd) ?_ fun m h=> ?_)
   ·simp only[yH,e2,Qk,bD,bN,QV,hdx,hy,Qa,hp,hq,Qp,ej,ei]
   ·rw[hstep,<-ht,List.take_succ_eq_append_getElem (by rw[QY];omega),List.take_set_of_le (QI _)]
    simp
   ·rw[List.getElem?_set,Qs (by omega)]
    exact hm m (by omega)
theorem N4(s:List α)(hs:s.length<1000000000):MP p z s=some (s.filter fun x=> !q x):=by
 rw[MP,PD];rcases KI hp hs s.length 0 (by omega) (by simp)with⟨m,x,h1,h2,h3,h4⟩|⟨h1,h2⟩
 ·have hm:m<s.length:=(Qw.1 h3).1;have h1':aI (nG p s) ((0:Int),())=some (m:Int):=h1;have e:decide ((m:Int)= -1)=false:=Qh (by omega)
  rw[h1',Qa,e,Ql,show aJ .i64 (m:Int) 1=((m+1:Nat):Int)from cq (by omega) (by omega)]
  refine ES hp hs (s.length - (m+1)) m (m+1) s (by omega) (by omega) rfl ?_ fun _ _=>rfl
  rw[xK h3,h2,h4];simp
 ·have h1':aI (nG p s) ((0:Int),())=some (-1):=h1;rw[h1',Qa,h2];rfl
end
theorem zZ{α β ρ:Type}(l:List α)(hl:l.length<=1000000)(f:α->List β)(hf:∀x∈l,(f x).length<=3){step:Int×List β×Unit->Option ((Int×List β×Unit)⊕ρ)}{fin:List β->Option ρ}
  (h1:∀(i:Nat) (x:α) (acc:List β),x∈l->decide ((i:Int)<((l.length:Nat):Int))=true->idx l (i:Int)=some x->aJ .i64 (i:Int) 1=((i+1:Nat):Int)->(∀bytes n:Nat,bytes<=40->n<=3->acc.length<=3000000->b0 bytes (acc.length+n)=true)->acc.length<=3000000->step ((i:Int),acc,())=some (.inl (((i+1:Nat):Int),acc++f x,())))
  (h2:∀acc,decide (((l.length:Nat):Int)<((l.length:Nat):Int))=false->step (((l.length:Nat):Int),acc,())=Option.map Sum.inr (fin acc)):aI step ((0:Int),([]:List β),())=fin (l.flatMap f):=by
 suffices key:∀(k i:Nat) (acc:List β),i+k=l.length->acc=(l.take i).flatMap f->acc.length<=3*i->aI step ((i:Int),acc,())=fin (l.flatMap f)from key l.length 0 [] (by omega) (by simp) (by simp)
 intro k
 induction k with
 |zero=>
  intro i acc hi ha hal;obtain rfl:i=l.length:=by omega
  rw[List.take_length]at ha;rw[lS,h2 acc (Qh (Int.lt_irrefl _)),ha];cases fin (l.flatMap f)<;>rfl
 |succ k ih=>
  intro i acc hi ha hal;have hlt:i<l.length:=by omega
  have hx:l[i]?=some l[i]:=Qv hlt;have:=hf _ (Q0 hlt);refine(bp (h1 i l[i] acc (Q0 hlt) (Qg (by omega)) (by rw[bN];exact hx) (cq (by omega) (by omega)) (fun bytes n hb hn ha=> ?_) (by omega))).trans (ih (i+1) _ (by omega) ?_ (by rw[QB];omega))
  ·simp only[b0,Qm,Qi];exact⟨QK (Nat.mul_le_mul (show acc.length+n<=3000003 by omega) hb) (show 3000003*40<=140737488355328 by decide),QK (show acc.length+n<=3000003 by omega) (by simp[maxLen])⟩
  ·rw[List.take_succ_eq_append_getElem hlt,List.flatMap_append,ha];simp
instance:Inhabited af:=⟨⟨0,ByteArray.mk #[]⟩⟩
instance:DecidableEq af:=fun a b=>decidable_of_iff (a.aj=b.aj/\a.Value=b.Value) (by cases a;cases b;simp)
theorem Tw(s:List af)(hs:s.length<1000000000):∃b,dC s=some b/\b.Pairwise (fun x y=>bb y x=true)/\b.length<=s.length/\∀x,x∈b↔x∈s:=by
 obtain⟨t,h1,h2,h3,h4⟩:=wY.flip.Rt (cmp:=jJ) (c:=fun x y=>Lh y x) (fun x y=>by simp[jJ]) (fun x y=>Lg y x) s hs
 have hc:=zY (eq:=fun x y:af=>kV false x.aj y.aj x.Value y.Value) (ne:=fun x y=>kV true x.aj y.aj x.Value y.Value) (z:=af.mk 0 (ByteArray.mk #[])) (fun x y=>by
  rw[IP,QW];cases x;cases y;simp) (fun x y=>by
  rw[R2];congr 1;rw[QW];cases x;cases y
  simp) t (by omega)
 refine⟨dd t,?_,h3,by have:=K9 t;omega,h4⟩
 have h1':er s=some ((),t):=h1;have hc':fL t=some (dd t):=hc;simp only[dC,h1',hc',Qa]
theorem Tu(s:List ByteArray)(hs:s.length<1000000000):∃b,eo s=some b/\b.Pairwise (fun x y=>mX x y=true)/\b.length<=s.length/\∀x,x∈b↔x∈s:=by
 obtain⟨t,h1,h2,h3,h4⟩:=wX.Rt (cmp:=fe) (c:=HR) (fun x y=>uy x y) Le s hs
 have hc:=zY (eq:=fun x y:ByteArray=>decide (x=y)) (ne:=fun x y=> !decide (x=y)) (z:=ByteArray.mk #[]) (fun _ _=>rfl) (fun _ _=>rfl) t (by omega)
 refine⟨dd t,?_,h3,by have:=K9 t;omega,h4⟩
 have h1':ga s=some ((),t):=h1;have hc':iJ t=some (dd t):=hc;simp only[eo,h1',hc',Qa]
theorem Sf(a b:Int):decide (ux a b<0)=decide (a<b):=by rw[decide_eq_decide];exact EY a b
theorem Tv(s:List Int)(hs:s.length<1000000000):∃b,fb s=some b/\b.Pairwise (·<·)/\b.length<=s.length/\∀x,x∈b↔x∈s:=by
 obtain⟨t,h1,h2,h3,h4⟩:=Cp.Rt (cmp:=gF) (c:=ux) (fun x y=>Ag x y) Sf s hs
 have hc:=zY (eq:=fun x y:Int=>decide (x=y)) (ne:=fun x y=> !decide (x=y)) (z:=0) (fun _ _=>rfl) (fun _ _=>rfl) t (by omega)
 refine⟨dd t,?_,h3.imp fun h=>of_decide_eq_true h,by have:=K9 t;omega,h4⟩
 have h1':iI s=some ((),t):=h1;simp only[fb,h1',Qa,Sd,hc]
 def said(e:ai):List af:=if a8 e then(if e.bS=1 then[e.aa,e.al,e.aw]else if e.bS=2 then[e.al,at_ e 1000000]else[at_ e 1000000])else[]
theorem y2(e:ai):(said e).length<=3:=by
 unfold said;split
 ·split
  ·simp
  ·split<;>simp
 ·simp
theorem oE{α β:Type}(f:α->List β)(hf:∀x,(f x).length<=3):∀l:List α,(l.flatMap f).length<=3*l.length
 |[]=>by simp
 |x::l=>by
  have:=oE f hf l;have:=hf x;rw[List.flatMap_cons,QB,QE];omega
section
variable {l : List ai} (hl : ∀ e ∈ l, eZ e.ae) (hlen : l.length <= 1000)
 include hl hlen
theorem OM:∃b,fM l=some b/\b.Pairwise (fun x y=>bb y x=true)/\b.length<=3000/\∀x,x∈b↔∃e∈l,x∈said e/\aF x=false:=by
 have hd:=N4 (p:=aR) (q:=aF) bW (z:=af.mk 0 (ByteArray.mk #[])) (l.flatMap said) (by have:=oE said y2 l;omega)
 obtain⟨b,h1,h2,hbl,h3⟩:=Tw ((l.flatMap said).filter fun x=> !aF x) (by have:=oE said y2 l;have:=List.length_filter_le (fun x=> !aF x) (l.flatMap said);omega)
 refine⟨b,?_,h2,by have:=oE said y2 l;have:=List.length_filter_le (fun x=> !aF x) (l.flatMap said);omega,fun x=> ?_⟩
 ·unfold fM;refine(zZ l (by omega) said (fun e _=>y2 e) (fin:=fun acc=>Option.bind (c7 acc) fun r8=>Option.bind (dC r8) fun r9=>some r9) (fun i e acc he hd hx hw hok hal=> ?_) (fun acc hd=> ?_)).trans ?_
  ·have o1:=hok 24 3 (by omega) (by omega) hal
   have o2:=hok 24 2 (by omega) (by omega) hal
   have o3:=hok 24 1 (by omega) (by omega) hal
   simp only[hd,hx,hw,Qk,bD,Qa,aq.eta,ai.eta,lX (hl e he),uM,QE,QZ,o1,o2,o3,Nat.zero_add,Nat.reduceAdd];unfold said at_
   cases a8 e<;>by_cases k1:e.bS=1<;>by_cases k2:e.bS=2<;>simp[k1,k2]
  ·simp only[hd,Ql]
  ·have hd':c7 (l.flatMap said)=_:=hd;simp only[hd',h1,Qa]
 ·rw[h3,List.mem_filter,QQ];constructor
  ·rintro⟨⟨e,he,hx⟩,hz⟩;exact⟨e,he,hx,by simpa using hz⟩
  ·rintro⟨e,he,hx,hz⟩;exact⟨⟨e,he,hx⟩,by simpa using hz⟩
theorem Re:∃b,iu l=some b/\b.Pairwise (fun x y=>mX x y=true)/\b.length<=3000/\∀x,x∈b↔∃e∈l,a8 e=true/\x=e.aa.Value:=by
 have hf:∀e:ai,(if a8 e then[e.aa.Value]else[]).length<=3:=fun e=>by split<;>simp
 obtain⟨b,h1,h2,hbl,h3⟩:=Tu (l.flatMap fun e=>if a8 e then[e.aa.Value]else[]) (by have:=oE _ hf l;omega)
 refine⟨b,?_,h2,by have:=oE _ hf l;omega,fun x=> ?_⟩
 ·unfold iu;refine(zZ l (by omega) (fun e=>if a8 e then[e.aa.Value]else[]) (fun e _=>hf e) (fin:=fun acc=>Option.bind (eo acc) fun r6=>some r6) (fun i e acc he hd hx hw hok hal=> ?_) (fun acc hd=> ?_)).trans ?_
  ·have o3:=hok 16 1 (by omega) (by omega) hal
   simp only[hd,hx,hw,Qk,bD,Qa,aq.eta,ai.eta,lX (hl e he),QE,QZ,o3,Nat.zero_add];cases a8 e<;>simp
  ·simp only[hd,Ql]
  ·simp only[h1,Qa]
 ·rw[h3,QQ];constructor
  ·rintro⟨e,he,hx⟩;split at hx
   ·rename_i hv;exact⟨e,he,hv,by simpa using hx⟩
   ·cases hx
  ·rintro⟨e,he,hv,hx⟩;exact⟨e,he,by rw[Qr hv];simpa using hx⟩
theorem OL(v:ByteArray):∃b,ep l v=some b/\b.Pairwise (·<·)/\b.length<=3000/\∀x,x∈b↔x∈ends v l:=by
 have hf:∀e:ai,(if fZ v e then[e.aO,e.aX]else[]).length<=3:=fun e=>by split<;>simp
 obtain⟨b,h1,h2,hbl,h3⟩:=Tv (ends v l) (by have:=oE _ hf l;unfold ends;omega)
 refine⟨b,?_,h2,by have:=oE _ hf l;unfold ends at hbl;omega,h3⟩
 unfold ep;refine(zZ l (by omega) (fun e=>if fZ v e then[e.aO,e.aX]else[]) (fun e _=>hf e) (fin:=fun acc=>Option.bind (fb acc) fun r6=>some r6) (fun i e acc he hd hx hw hok hal=> ?_) (fun acc hd=> ?_)).trans ?_
 ·have o3:=hok 8 2 (by omega) (by omega) hal
  simp only[hd,hx,hw,Qk,bD,Qa,aq.eta,ai.eta,lX (hl e he),QE,QZ,o3,Nat.zero_add,Nat.reduceAdd];unfold fZ;cases a8 e<;>cases decide (e.aa.Value=v)<;>cases decide (e.aO=0)<;>simp
 ·simp only[hd,Ql]
 ·exact(congrArg (fun o=>Option.bind o fun r6=>some r6) h1)
end
end Go.Proofs.YtkgenianmdfmdaaGreat
namespace Go.Proofs.YtkgenianmdfmdaaGreat
open Go.TQ
end Go.Proofs.YtkgenianmdfmdaaGreat
namespace Go.Proofs.YtkgenianmdfmdaaGreat
open Go.TQ
def w9:af:=⟨0,fV⟩
theorem Gx{α τ:Type}(l:List α)(hl:l.length<=1000000)(mk:Int->τ)(P:α->Bool)(z:α){step:τ->Option (τ⊕α)}
  (h1:∀(i:Nat) (x:α),decide ((i:Int)<((l.length:Nat):Int))=true->idx l (i:Int)=some x->aJ .i64 (i:Int) 1=((i+1:Nat):Int)->step (mk (i:Int))=some (bif P x then .inr x else .inl (mk ((i+1:Nat):Int))))
  (h2:decide (((l.length:Nat):Int)<((l.length:Nat):Int))=false->step (mk ((l.length:Nat):Int))=some (.inr z)):aI step (mk 0)=some ((l.find? P).getD z):=by
 suffices key:∀(k i:Nat),i+k=l.length->aI step (mk (i:Int))=some (((l.drop i).find? P).getD z)from key l.length 0 (by omega)
 intro k
 induction k with
 |zero=>
  intro i hi;obtain rfl:i=l.length:=by omega
  rw[bX (h2 (Qh (Int.lt_irrefl _))),List.drop_length];rfl
 |succ k ih=>
  intro i hi;have hlt:i<l.length:=by omega
  have hs:=h1 i l[i] (Qg (by omega)) (by rw[bN];exact Qv hlt) (cq (by omega) (by omega))
  rw[QM hlt,List.find?_cons]
  cases hP:P l[i]with
  |true=>rw[hP]at hs;rw[bX hs];rfl
  |false=>rw[hP]at hs;rw[bp hs];exact ih (i+1) (by omega)
 def eI(l:List ai):List af:=(fM l).getD []
section
variable {l : List ai} (hl : ∀ e ∈ l, eZ e.ae) (hlen : l.length <= 1000)
 include hl hlen
theorem nI:fM l=some (eI l)/\(eI l).Pairwise (fun x y=>bb y x=true)/\(eI l).length<=3000/\∀x,x∈eI l↔∃e∈l,x∈said e/\aF x=false:=by
 obtain⟨b,h1,h2,h3,h4⟩:=OM hl hlen;have:eI l=b:=by rw[eI,h1];rfl
 rw[this];exact⟨h1,h2,h3,h4⟩
end
def rC(b:af):af:=if 1000<=b.aj then⟨1000000,b.Value⟩else b
theorem Od(b:af):gA b=some (rC b):=by
 unfold gA rC;simp only[bD,HV,EE]
section
variable {az : Nat} (hn : az < 10) {t : aq} (ht : eZ t) {l : List ai} (hl : nA l)
 include hn ht hl
end
end Go.Proofs.YtkgenianmdfmdaaGreat
namespace Go.Proofs.YtkgenianmdfmdaaGreat
open Go.TQ
 def fA(l:List ai):List ByteArray:=(iu l).getD []
 def bK(l:List ai)(v:ByteArray):List Int:=(ep l v).getD []
section
variable {l : List ai} (hl : ∀ e ∈ l, eZ e.ae) (hlen : l.length <= 1000)
 include hl hlen
theorem mT:iu l=some (fA l)/\(fA l).Pairwise (fun x y=>mX x y=true)/\(fA l).length<=3000/\∀x,x∈fA l↔∃e∈l,a8 e=true/\x=e.aa.Value:=by
 obtain⟨b,h1,h2,h3,h4⟩:=Re hl hlen;have:fA l=b:=by rw[fA,h1];rfl
 rw[this];exact⟨h1,h2,h3,h4⟩
theorem jk(v:ByteArray):ep l v=some (bK l v)/\(bK l v).Pairwise (·<·)/\(bK l v).length<=3000/\∀x,x∈bK l v↔x∈ends v l:=by
 obtain⟨b,h1,h2,h3,h4⟩:=OL hl hlen v;have:bK l v=b:=by rw[bK,h1];rfl
 rw[this];exact⟨h1,h2,h3,h4⟩
end
theorem I1{l:List ai}(hl:nA l)(hlen:l.length<=1000)(v:ByteArray):∀x∈bK l v,1<=x/\x<=1000:=by
 obtain⟨_,_,_,h⟩:=jk hl.aZ hlen v;intro x hx;obtain⟨e,he,hb,hy⟩:=s9.1 ((h x).1 hx);simp only[fZ,Qm,Bool.not_eq_true',Qj]at hb;have hv:=hb.1.1;have h0:=hb.2;unfold a8 ln at hv;rw[Qm]at hv;have hv:=hv.2
 by_cases k1:e.bS=1
 ·rw[Qr k1]at hv;simp only[fp,finite,Qm,Qi]at hv;omega
 ·rw[Qs k1]at hv
  by_cases k2:e.bS=2
  ·rw[Qr k2]at hv;simp only[wo,tN,Qm,Qi]at hv;omega
  ·rw[Qs k2]at hv
   by_cases k3:e.bS=3
   ·rw[Qr k3]at hv;simp only[zO,tN,Qm,Qi]at hv;omega
   ·rw[Qs k3]at hv;cases hv
theorem Gw{α A B ρ:Type}(l:List α)(hl:l.length<=1000000)(f:A×B->α->A×B){step:A×Int×B×Unit->Option ((A×Int×B×Unit)⊕ρ)}{fin:A×B->Option ρ}
  (h1:∀(i:Nat) (x:α) (a:A) (b:B),x∈l->decide ((i:Int)<((l.length:Nat):Int))=true->idx l (i:Int)=some x->aJ .i64 (i:Int) 1=((i+1:Nat):Int)->step (a,(i:Int),b,())=some (.inl ((f (a,b) x).1,((i+1:Nat):Int),(f (a,b) x).2,())))
  (h2:∀a b,decide (((l.length:Nat):Int)<((l.length:Nat):Int))=false->step (a,((l.length:Nat):Int),b,())=Option.map Sum.inr (fin (a,b))) (a:A) (b:B):aI step (a,(0:Int),b,())=fin (l.foldl f (a,b)):=by
 suffices key:∀(k i:Nat) (a:A) (b:B),i+k=l.length->aI step (a,(i:Int),b,())=fin ((l.drop i).foldl f (a,b))from key l.length 0 a b (by omega)
 intro k
 induction k with
 |zero=>
  intro i a b hi;obtain rfl:i=l.length:=by omega
  rw[lS,h2 a b (Qh (Int.lt_irrefl _)),List.drop_length,List.foldl_nil];cases fin (a,b)<;>rfl
 |succ k ih=>
  intro i a b hi;have hlt:i<l.length:=by omega
  rw[bp (h1 i l[i] a b (Q0 hlt) (Qg (by omega)) (by rw[bN];exact Qv hlt) (cq (by omega) (by omega))),ih (i+1) _ _ (by omega),QM hlt,QU]
def kI(p q:af)(v:ByteArray)(n:Int):Bool:=dZ p ⟨n,v⟩||dZ q ⟨n,v⟩
theorem G1(v:ByteArray)(n:Int)(p q:af):kQ v n p q=some (kI p q v n):=by
 simp only[kQ,nQ,Qa,ng,Bool.cond_true_left,kI]
 def EN(b:List Int)(ready:Int->Int->Bool)(low bM:Int):Int×Int:=
 match b.reverse.find? (fun n=>decide (bM<n)&&ready n n)with
 |none=>(dU (fun x=>ready x bM) b.reverse low,bM)
 |some n=>
  let bottom:=dU (fun x=>ready x n) b.reverse n
  (dU (fun x=>ready x n) b.reverse (if bM<bottom - 1\/bottom<low then bottom else low),n)
 def vn(S:eN)(b:List Int)(v:ByteArray)(m8:Nat)(e9:Int)(v7:Int×Int×Unit):Option ((Int×Int×Unit)⊕(Int×Int×Unit)):=
 Option.bind (bif (decide (e9<=v7.2.1))then some true else Option.bind (fD S v e9 e9) fun r10=>some (!r10)) fun b11=>
 bif b11 then some (Sum.inl (v7.1,v7.2.1,()))else
 Option.bind (gW b e9 S v e9) fun r12=>
 bO (fun(v13:Int×Unit)=>Option.map Sum.inr (Option.bind (fE b v13.1 S v e9) fun r5=>some (r5,e9,()))) fun j14=>
 Option.bind (bif (decide (v7.2.1<(gf .i64 r12 (1:Int))))then some true else some (decide (r12<v7.1))) fun b15=>
 bif b15 then j14 (r12,())else j14 (v7.1,())
 def PJ(S:eN)(b:List Int)(v:ByteArray)(v16:Int×Int×Unit):Option (Int×Int×Unit):=Option.bind (fE b v16.1 S v v16.2.1) fun r5=>some (r5,v16.2.1,())
section
variable {az : Nat} (hn : az < 10) {t : aq} (ht : eZ t) {l : List ai} (hl : nA l)
 include hn ht hl
end
end Go.Proofs.YtkgenianmdfmdaaGreat
namespace Go.Proofs.YtkgenianmdfmdaaGreat
open Go.TQ
section
variable {α : Type} [DecidableEq α] {lt : α -> α -> Bool}
def oC(lt:α->α->Bool)(x:α):List α->List α
 |[]=>[x]
 |y::l=>if lt y x then y::oC lt x l else if y=x then y::l else x::y::l
theorem Er(x:α):∀(l:List α) (z:α),z∈oC lt x l↔z=x\/z∈l
 |[],z=>by simp[oC]
 |y::l,z=>by
  rw[oC];split
  ·rw[QA,Er x l z,QA];constructor
   ·rintro(h|h|h)
    ·exact .inr (.inl h)
    ·exact .inl h
    ·exact .inr (.inr h)
   ·rintro(h|h|h)
    ·exact .inr (.inl h)
    ·exact .inl h
    ·exact .inr (.inr h)
  ·split
   ·rename_i h;rw[QA];constructor
    ·exact .inr
    ·rintro(h1|h1)
     ·exact .inl (h1.trans h.symm)
     ·exact h1
   ·rw[QA]
theorem qm.oC(h:qm lt)(x:α):∀{l:List α},l.Pairwise (fun a b=>lt a b=true)->(Go.Proofs.YtkgenianmdfmdaaGreat.oC lt x l).Pairwise (fun a b=>lt a b=true)
 |[],_=>by rw[Go.Proofs.YtkgenianmdfmdaaGreat.oC];exact List.pairwise_singleton _ _
 |y::l,hp=>by
  rw[Q4]at hp;rw[Go.Proofs.YtkgenianmdfmdaaGreat.oC];split
  ·rename_i hy;rw[Q4];refine⟨fun z hz=> ?_,h.oC x hp.2⟩
   rcases(Er x l z).1 hz with rfl|hz
   ·exact hy
   ·exact hp.1 z hz
  ·rename_i hy;split
   ·exact Q4.2 hp
   ·rename_i hne
    have hxy:lt x y=true:=by
     cases hc:lt x y with
     |true=>rfl
     |false=>exact absurd (h.total y x (by simpa using hy) hc) hne
    rw[Q4,Q4];refine⟨fun z hz=> ?_,hp⟩
    rcases QA.1 hz with rfl|hz
    ·exact hxy
    ·exact h.trans _ _ _ hxy (hp.1 z hz)
theorem Gk(h:qm lt):∀(xs l:List α),l.Pairwise (fun a b=>lt a b=true)->(xs.foldl (fun l x=>oC lt x l) l).Pairwise (fun a b=>lt a b=true)/\∀z,z∈xs.foldl (fun l x=>oC lt x l) l↔z∈xs\/z∈l
 |[],l,hp=>⟨hp,by simp⟩
 |x::xs,l,hp=>by
  obtain⟨h1,h2⟩:=Gk h xs _ (h.oC x hp);rw[QU];refine⟨h1,fun z=> ?_⟩
  rw[h2,Er,QA];constructor
  ·rintro(a|a|a)
   ·exact .inl (.inr a)
   ·exact .inl (.inl a)
   ·exact .inr a
  ·rintro((a|a)|a)
   ·exact .inr (.inl a)
   ·exact .inl a
   ·exact .inr (.inr a)
end
section
variable {l : List ai} (hl : ∀ e ∈ l, eZ e.ae) (hlen : l.length <= 1000)
 include hl hlen
end
section
variable {l : List ai} (hl : ∀ e ∈ l, eZ e.ae) (hlen : l.length <= 1000)
 include hl hlen
end
end Go.Proofs.YtkgenianmdfmdaaGreat
namespace Go.Proofs.YtkgenianmdfmdaaGreat
open Go.TQ
section
variable {l : List ai} (hl : ∀ e ∈ l, eZ e.ae) (hlen : l.length <= 1000)
 include hl hlen
end
end Go.Proofs.YtkgenianmdfmdaaGreat
namespace Go.Proofs.YtkgenianmdfmdaaGreat
open Go.TQ
theorem Fk{c:bh}{az:Int}{l:List ai}(hlen:l.length<=100000)(b:af):fl ⟨az,c,(bH l).map bc.mk⟩ b=gO c az ((dh (fun e=>pY e b||da e b) (bH l):Nat):Int) ((dh (da · b) (bH l):Nat):Int):=by
 have hrl:=uW l;have hin:=oe l;simp only[fl,jX,ig,Qa,Option.bind_fun_some,OF (by omega:(bH l).length<=1000000) hin,DN (by omega:(bH l).length<=1000000) hin]
theorem DY{c:bh}{az:Int}{l:List ai}(hlen:l.length<=100000)(b:af):dJ ⟨az,c,(bH l).map bc.mk⟩ b=gp c az ((dh (da · b) (bH l):Nat):Int):=by
 have hrl:=uW l;have hin:=oe l;simp only[dJ,Qa,Option.bind_fun_some,DN (by omega:(bH l).length<=1000000) hin]
def u0(x:af->Bool)(p q:af)(v:ByteArray)(b:af):Bool:=(decide (v=fV)||decide (b.Value=v))&& !dG (rC p) (rC q) b&&x b
def u9(y:af->Bool)(a b:af):Bool:=bb a b&&decide (b.aj<=1000)&&y b
section
variable {az : Int} {t : aq} {l : List ai} (hl : nA l) (hlen : l.length <= 1000) {c : bh} {x y : af -> Bool}
 include hl hlen
theorem T1(hL:dX az t l=some ⟨az,c,(bH l).map bc.mk⟩)(hx:∀b,fl ⟨az,c,(bH l).map bc.mk⟩ b=some (x b))(p q:af)(v:ByteArray):ku az t l p q v=some (((eI l).find? (u0 x p q v)).getD w9):=by
 obtain⟨h1,_,h3,_⟩:=nI hl.aZ hlen;unfold ku;simp only[aq.eta,hL,h1,Qa];refine Gx (eI l) (by omega) (fun i=>(i,af.mk (0:Int) (ByteArray.mk #[]),())) (u0 x p q v) w9 (fun i b hd hx' hw=> ?_) (fun hd=> ?_)
 ·simp only[hd,hx',hw,Qk,bD,Qa,Od,mO,hx];unfold u0 fV;cases decide (v=ByteArray.mk #[])<;>cases decide (b.Value=v)<;>cases dG (rC p) (rC q) b<;>cases x b<;>simp
 ·simp only[hd,Ql,Qe];rfl
theorem Ub(hL:dX az t l=some ⟨az,c,(bH l).map bc.mk⟩)(hy:∀b,dJ ⟨az,c,(bH l).map bc.mk⟩ b=some (y b))(a:af):iN az t l a=some (((eI l).find? (u9 y a)).getD w9):=by
 obtain⟨h1,_,h3,_⟩:=nI hl.aZ hlen;unfold iN;simp only[aq.eta,hL,h1,Qa];refine Gx (eI l) (by omega) (fun i=>(i,af.mk (0:Int) (ByteArray.mk #[]),())) (u9 y a) w9 (fun i b hd hx' hw=> ?_) (fun hd=> ?_)
 ·simp only[hd,hx',hw,Qk,bD,Qa,gG,jX,hy];unfold u9;cases bb a b<;>cases decide (b.aj<=1000)<;>cases y b<;>simp
 ·simp only[hd,Ql,Qe];rfl
end
end Go.Proofs.YtkgenianmdfmdaaGreat
namespace Go.Proofs.YtkgenianmdfmdaaGreat
open Go.TQ
theorem ER(q:Int->Bool):∀(r:List Int) (lo:Int),(∀x∈r,0<=x/\x<=1000000)->0<=lo/\lo<=1000000->0<=dU q r lo/\dU q r lo<=1000000
 |[],lo,_,h=>h
 |x::r,lo,hx,h=>by
  rw[dU];split
  ·exact ER q r lo (fun y hy=>hx y (by simp[hy])) h
  ·split
   ·exact ER q r x (fun y hy=>hx y (by simp[hy])) (hx x (by simp))
   ·exact h
 def eE(x:ByteArray->Int->Int->Bool)(p q:af)(v:ByteArray)(s:Bool×af)(n:Int):Bool×af:=
 if bb s.2 ⟨n,v⟩&& !kI p q v n&&x v n n then(true,⟨n,v⟩)else s
 def ft(x:ByteArray->Int->Int->Bool)(l:List ai)(p q:af):Bool×af:=
 (fA l).foldl (fun s v=>(bK l v).foldl (eE x p q v) s) (false,⟨0,fV⟩)
 def nv(x:ByteArray->Int->Int->Bool)(l:List ai)(p q:af)(s:Bool×af):ByteArray×Int×Int×Bool×Unit:=
 if s.1 then(s.2.Value,dU (fun n=> !kI p q s.2.Value n&&x s.2.Value n s.2.aj) (bK l s.2.Value).reverse s.2.aj,s.2.aj,true,())else(fV,0,0,false,())
section
variable {S : eN} {x y : ByteArray -> Int -> Int -> Bool} (hx : ∀ v lo hi, fD S v lo hi = some (x v lo hi)) (hy : ∀ v lo hi, jQ S v lo hi = some (y v lo hi))
section
 include hx
theorem R6(b:List Int)(lo:Int)(p q z:af):gM b lo p q z S=some (dU (fun n=> !kI p q z.Value n&&x z.Value n z.aj) b.reverse lo):=by
 have:=vo (p:=fun e=>jK e p q z S) (q:=fun n=> !kI p q z.Value n&&x z.Value n z.aj) (fun e=>by
  simp only[jK,G1,hx,Qa,ng]
  cases kI p q z.Value e<;>simp) b.reverse lo
 simp only[gM,bE,bD,Qa];exact this
theorem R5(b:List Int)(lo:Int)(v:ByteArray)(hi:Int):gW b lo S v hi=some (dU (fun z=>x v z hi) b.reverse lo):=by
 have:=vo (p:=fun e=>mr e S v hi) (q:=fun z=>x v z hi) (fun e=>by simp only[mr,hx,Qa]) b.reverse lo
 simp only[gW,bE,bD,Qa];exact this
theorem K3(b:List Int)(lo:Int)(v:ByteArray)(hi:Int):fE b lo S v hi=some (dU (fun z=>x v z hi) b.reverse lo):=by
 have:=vo (p:=fun e=>mq e S v hi) (q:=fun z=>x v z hi) (fun e=>by simp only[mq,hx,Qa]) b.reverse lo
 simp only[fE,bE,bD,Qa];exact this
theorem IN(b:List Int)(v:ByteArray)(low bM:Int)(hb:∀x∈b,0<=x/\x<=1000000):∀r:List Int,(∀x∈r,x∈b)->jD (vn S b v) (PJ S b v) r (low,bM,())=
  some (match r.find? (fun n=>decide (bM<n)&&x v n n)with
   |none=>(dU (fun z=>x v z bM) b.reverse low,bM,())
   |some n=>(dU (fun z=>x v z n) b.reverse (if bM<dU (fun z=>x v z n) b.reverse n - 1\/dU (fun z=>x v z n) b.reverse n<low then dU (fun z=>x v z n) b.reverse n else low),n,()))
 |[],_=>by simp only[jD,PJ,K3 hx,Qa,List.find?_nil]
 |e::r,hr=>by
  have ih:=IN b v low bM hb r (fun x hx=>hr x (by simp[hx]))
  rw[List.find?_cons,jD]
  by_cases hle:e<=bM
  ·have h2:decide (bM<e)=false:=Qh (by omega)
   have h1:decide (e<=bM)=true:=Qg hle;have hst:vn S b v r.length e (low,bM,())=some (.inl (low,bM,())):=by simp only[vn,h1,Qk,Qa]
   rw[hst,h2,Bool.false_and];exact ih
  ·have h2:decide (bM<e)=true:=Qg (by omega)
   have h1:decide (e<=bM)=false:=Qh hle;rw[h2,Bool.true_and]
   cases hr':x v e e with
   |false=>
    have hst:vn S b v r.length e (low,bM,())=some (.inl (low,bM,())):=by simp only[vn,h1,Ql,hx,hr',Qp,Qa,Qk]
    rw[hst];exact ih
   |true=>
    have hb9:=ER (fun z=>x v z e) b.reverse e (fun z hz=>hb z (by simpa using hz)) (hb e (hr e (by simp)))
    simp only[vn,h1,Ql,hx,hr',Qo,R5 hx,K3 hx,Qa,bD,ng,Bool.cond_true_left,Qe];generalize dU (fun z=>x v z e) b.reverse e=bt at*
    have e3:gf .i64 bt 1=bt - 1:=yY (by omega) (by omega)
    rw[e3]
    by_cases hc:bM<bt - 1\/bt<low
    ·have:(decide (bM<bt - 1)||decide (bt<low))=true:=by rw[Qn];simpa using hc
     rw[this,Qr hc];rfl
    ·have:(decide (bM<bt - 1)||decide (bt<low))=false:=by
      rw[<-QX,Qn];simpa using hc
     rw[this,Qs hc];rfl
end
section
 include hy
theorem Uv(b:List Int)(lo:Int)(v:ByteArray)(hi:Int):gV b lo S v hi=some (dU (fun z=>y v z hi) b.reverse lo):=by
 have:=vo (p:=fun e=>nq e S v hi) (q:=fun z=>y v z hi) (fun e=>by simp only[nq,hy,Qa]) b.reverse lo
 simp only[gV,bE,bD,Qa];exact this
end
variable {az : Int} {t : aq} {l : List ai} (hl : nA l) (hlen : l.length <= 1000) (hL : dX az t l = some S)
 include hl hlen hL
section
 include hx
theorem VW(p q:af):mL az t l p q=some (nv x l p q (ft x l p q)):=by
 obtain⟨h1,_,h3,_⟩:=mT hl.aZ hlen;unfold mL;simp only[aq.eta,hL,h1,Qa];refine(Gw (fA l) (by omega) (fun s v=>(bK l v).foldl (eE x p q v) s) (fin:=fun s=>some (nv x l p q s)) (fun i v a b hv hd hx' hw=> ?_) (fun a b hd=> ?_) false ⟨0,ByteArray.mk #[]⟩)
 ·obtain⟨g1,_,g3,_⟩:=jk hl.aZ hlen v;simp only[hd,hx',hw,Qk,Qa,g1];refine(Gw (bK l v) (by omega) (eE x p q v) (fin:=fun s=>some (Sum.inl (s.1,((i+1:Nat):Int),s.2,()))) (fun i' n a' b' hv' hd' hx'' hw'=> ?_) (fun a' b' hd'=> ?_) a b)
  ·simp only[hd',hx'',hw',Qk,bD,Qa,gG,G1,hx,ng];unfold eE;cases bb b' ⟨n,v⟩<;>cases kI p q v n<;>cases x v n n<;>simp
  ·simp only[hd',Ql]
 ·simp only[hd,Ql];obtain⟨g1,_,g3,_⟩:=jk hl.aZ hlen b.Value;unfold nv;cases a
  ·rfl
  ·simp only[Qo,Ql,g1,Qa,R6 hx,Qt]
theorem UY(v:ByteArray)(low bM:Int):lN az t l v low bM=some ((EN (bK l v) (x v) low bM).1,(EN (bK l v) (x v) low bM).2,()):=by
 obtain⟨h1,_,_,_⟩:=jk hl.aZ hlen v;have hin:=I1 hl hlen v;unfold lN;simp only[aq.eta,hL,h1,Qa,bE];refine(IN hx (bK l v) v low bM (fun x hx=>by have:=hin x hx;omega) (bK l v).reverse (by simp)).trans ?_
 unfold EN;cases (bK l v).reverse.find? (fun n=>decide (bM<n)&&x v n n)<;>rfl
end
section
 include hy
theorem VX(v:ByteArray):mM az t l v=some (sC (bK l v) (y v)):=by
 obtain⟨h1,_,_,_⟩:=jk hl.aZ hlen v
 have:=MR (p:=fun e=>jQ S v e e) (q:=fun e=>y v e e) (d:=fun e=>gV (bK l v) e S v e) (f:=fun e=>dU (fun z=>y v z e) (bK l v).reverse e)
  (fun e=>hy v e e) (fun e=>Uv hy (bK l v) e v e) (bK l v).reverse
 simp only[mM,aq.eta,hL,h1,bE,Qa,sC];exact this
end
end
section
variable {az : Int} {t : aq} {l : List ai} (hl : nA l) (hlen : l.length <= 1000) {x y : ByteArray -> Int -> Int -> Bool} (hx : ∀ v lo hi, xh az t l v lo hi = some (x v lo hi)) (hy : ∀ v lo hi, wC az t l v lo hi = some (y v lo hi))
 include hl hlen
section
 include hx
end
section
 include hy
end
end
end Go.Proofs.YtkgenianmdfmdaaGreat
namespace Go.Proofs.YtkgenianmdfmdaaGreat
open Go.TQ
section
variable {az : Nat} (hn : az < 10) {t : aq} (ht : eZ t) {l : List ai} (hl : nA l) (hlen : l.length <= 1000)
 include hn ht hl hlen
theorem Vf(b:af):fl ⟨az,⟨fg az t l⟩,(bH l).map bc.mk⟩ b=some (iB az t l b):=by
 have hin:=oe l;have hsm:=qz (az:=az) ht hl;rw[Fk hl.len,Al hsm hn (oP hin) (oP hin)];rfl
theorem TS(b:af):dJ ⟨az,⟨fg az t l⟩,(bH l).map bc.mk⟩ b=some (iE az t l b):=by
 have hin:=oe l;have hsm:=qz (az:=az) ht hl;rw[DY hl.len,yF hsm hn (oP hin)];rfl
 def ix(az:Nat)(t:aq)(l:List ai)(p q:af)(v:ByteArray):af:=((eI l).find? (u0 (iB az t l) p q v)).getD w9
 def vb(az:Nat)(t:aq)(l:List ai)(a:af):af:=((eI l).find? (u9 (iE az t l) a)).getD w9
theorem TO(p q:af)(v:ByteArray):ku az t l p q v=some (ix az t l p q v):=T1 hl hlen (HZ hn ht hl) (Vf hn ht hl hlen) p q v
theorem TP(a:af):iN az t l a=some (vb az t l a):=Ub hl hlen (HZ hn ht hl) (TS hn ht hl hlen) a
end
end Go.Proofs.YtkgenianmdfmdaaGreat
namespace Go.Proofs.YtkgenianmdfmdaaGreat
open Go.TQ
theorem MK{bytes n:Nat}(h:bytes<=200)(hn:n<=1000000):b0 bytes n=true:=
 eM ⟨QK (Nat.mul_le_mul hn h) (by decide),hn⟩
theorem FP{α ρ:Type}(l:List α)(hl:l.length<=1000000)(p:α->Bool){step:Int×Unit->Option ((Int×Unit)⊕ρ)}{fin:Option ρ}{f:Nat->α->Option ρ}
  (h1:∀(i:Nat) (x:α),i<l.length->l[i]?=some x->decide ((i:Int)<((l.length:Nat):Int))=true->idx l (i:Int)=some x->aJ .i64 (i:Int) 1=((i+1:Nat):Int)->step ((i:Int),())=bif p x then Option.map Sum.inr (f i x)else some (.inl (((i+1:Nat):Int),())))
  (h2:(∀x∈l,p x=false)->decide (((l.length:Nat):Int)<((l.length:Nat):Int))=false->step (((l.length:Nat):Int),())=Option.map Sum.inr fin):
  aI step ((0:Int),())=match l.findIdx? p with|some i=>(l[i]?).bind (f i)|none=>fin:=by
 suffices key:∀(k i:Nat),i+k=l.length->(∀x∈l.take i,p x=false)->aI step ((i:Int),())=match(l.drop i).findIdx? p with|some j=>(l[i+j]?).bind (f (i+j))|none=>fin by
  have:=key l.length 0 (by omega) (by simp)
  rw[List.drop_zero]at this;simp only[Nat.zero_add]at this;exact this
 intro k
 induction k with
 |zero=>
  intro i hi hpre;obtain rfl:i=l.length:=by omega
  rw[List.take_length]at hpre;rw[lS,h2 hpre (Qh (Int.lt_irrefl _)),List.drop_length];cases fin<;>rfl
 |succ k ih=>
  intro i hi hpre;have hlt:i<l.length:=by omega
  have hx:l[i]?=some l[i]:=Qv hlt;have hs:=h1 i l[i] hlt hx (Qg (by omega)) (by rw[bN];exact hx) (cq (by omega) (by omega))
  rw[QM hlt,List.findIdx?_cons]
  cases hp:p l[i]with
  |true=>
   rw[hp]at hs;rw[lS,hs];simp only[Qk,Qt,Nat.add_zero,hx,Qa];cases f i l[i]<;>rfl
  |false=>
   rw[hp]at hs
   rw[bp hs,ih (i+1) (by omega) (fun x hx=>by
    rw[List.take_succ_eq_append_getElem hlt,Qz,List.mem_singleton]at hx;rcases hx with hx|rfl
    ·exact hpre x hx
    ·exact hp)]
   simp only[Qq,Qu]
   cases (l.drop (i+1)).findIdx? p with
   |none=>rfl
   |some j=>
    simp only[Qe];rw[show i+1+j=i+(j+1)by omega]
def Cc(l:List ai)(e:ai):Nat:=(l.findIdx? fun x=>decide (e.au<x.au)).getD l.length
 def ky(l:List ai)(e:ai):List ai×Bool×Unit:=
 if a8 e then
  match l.findIdx? fun x=>decide (x.au=e.au)with
  |some i=>if e.aL<=((l[i]?).getD e).aL then(l,false,())else(l.set i e,true,())
  |none=>(l.take (Cc l e)++[e]++l.drop (Cc l e),true,())
 else(l,false,())
theorem WI(l:List ai)(e:ai):Cc l e<=l.length:=by
 unfold Cc
 cases h:l.findIdx? fun x=>decide (e.au<x.au)with
 |none=>exact QI _
 |some i=>exact Nat.le_of_lt ((List.findIdx?_eq_some_iff_getElem.1 h).1)
section
variable {l : List ai} (hl : ∀ x ∈ l, eZ x.ae) (hlen : l.length <= 1000)
 include hlen
theorem Rl(e:ai):cQ l e=some (match l.findIdx? fun x=>decide (x.au=e.au)with|some i=>(i:Int)|none=> -1):=by
 unfold cQ;refine(FP l (by omega) (fun x=>decide (x.au=e.au)) (f:=fun i _=>some (i:Int)) (fin:=some (-1)) (fun i x hi hx0 hd hx hw=> ?_) (fun hall hd=> ?_)).trans ?_
 ·simp only[hd,hx,hw,Qk,Qa,pX]
 ·simp only[hd,Ql]
 ·cases h:l.findIdx? fun x=>decide (x.au=e.au)with
  |none=>rfl
  |some i=>have:=(List.findIdx?_eq_some_iff_getElem.1 h).1;simp[Qv this]
theorem Ss(e:ai):cP l e=some (match l.findIdx? fun x=>decide (e.au<x.au)with|some i=>(i:Int)|none=> -1):=by
 unfold cP;refine(FP l (by omega) (fun x=>decide (e.au<x.au)) (f:=fun i _=>some (i:Int)) (fin:=some (-1)) (fun i x hi hx0 hd hx hw=> ?_) (fun hall hd=> ?_)).trans ?_
 ·simp only[hd,hx,hw,Qk,Qa,pW]
 ·simp only[hd,Ql]
 ·cases h:l.findIdx? fun x=>decide (e.au<x.au)with
  |none=>rfl
  |some i=>have:=(List.findIdx?_eq_some_iff_getElem.1 h).1;simp[Qv this]
 include hl
theorem Rj:eD l=some l:=by
 unfold eD
 suffices key:∀(k i:Nat),i+k=l.length->aI _ ((i:Int),l.take i,())=some l from key l.length 0 (by omega)
 intro k
 induction k with
 |zero=>
  intro i hi;obtain rfl:i=l.length:=by omega
  have hd:decide (((l.length:Nat):Int)<((l.length:Nat):Int))=false:=Qh (Int.lt_irrefl _);exact bX (by simp only[hd,Ql,Qe,List.take_length])
 |succ k ih=>
  intro i hi;have hlt:i<l.length:=by omega
  have hd:decide ((i:Int)<((l.length:Nat):Int))=true:=Qg (by omega)
  have hw:aJ .i64 (i:Int) 1=((i+1:Nat):Int):=cq (by omega) (by omega)
  have hx:idx l (i:Int)=some l[i]:=by rw[bN];exact Qv hlt
  have hc:gE l[i]=some l[i]:=by simp only[gE,aq.eta,rE (hl _ (Q0 hlt)),Qa]
  refine(bp ?_).trans (ih (i+1) (by omega))
  simp only[hd,hx,hw,Qk,Qa,aq.eta,ai.eta,hc];rw[MK (by omega) (by simp;omega),List.take_succ_eq_append_getElem hlt]
  rfl
theorem VT{e:ai}(he:eZ e.ae):n2 l e=some (ky l e):=by
 have hc:gE e=some e:=by simp only[gE,aq.eta,rE he,Qa]
 have hat:=WI l e;unfold n2;simp only[Rj hl hlen,aq.eta,ai.eta,lX he,hc,Rl hlen,Ss hlen,Qa,bD];unfold ky
 cases a8 e with
 |false=>rfl
 |true=>
  simp only[Qo,Ql,Qt]
  cases h:l.findIdx? fun x=>decide (x.au=e.au)with
  |some i=>
   have hi:=(List.findIdx?_eq_some_iff_getElem.1 h).1;have hd:decide ((0:Int)<=(i:Int))=true:=Qg (by omega)
   have hx:idx l (i:Int)=some l[i]:=by rw[bN];exact Qv hi
   simp only[hd,hx,Qk,Qa,QV,Qv hi,Q3]
   by_cases hs:e.aL<=l[i].aL<;>simp[hs]
  |none=>
   have hd:decide ((0:Int)<= -1)=false:=rfl;simp only[hd,Ql]
   have hins:∀a:Nat,a<=l.length->dB l (a:Int) [e]=some (l.take a++[e]++l.drop a):=fun a ha=>by
    unfold dB KF;have h1:decide ((0:Int)<=(a:Int))=true:=Qg (by omega)
    have h2:decide ((a:Int)<=((l.length:Nat):Int))=true:=Qg (by omega)
    rw[h1,h2,MK (by omega) (by simp;omega)]
    rfl
   unfold Cc at hat ⊢
   cases h':l.findIdx? fun x=>decide (e.au<x.au)with
   |none=>
    have hd2:decide ((-1:Int)<0)=true:=rfl;simp only[hd2,Qk,hins _ (QI _),Qa,Option.getD_none]
   |some j=>
    have hj:=(List.findIdx?_eq_some_iff_getElem.1 h').1;have hd2:decide ((j:Int)<0)=false:=Qh (by omega)
    simp only[hd2,Ql,hins _ (Nat.le_of_lt hj),Qa,Q3]
end
end Go.Proofs.YtkgenianmdfmdaaGreat
namespace Go.Proofs.YtkgenianmdfmdaaGreat
open Go.TQ
section
variable {l : List ai} (hlen : l.length <= 1000)
 include hlen
end
end Go.Proofs.YtkgenianmdfmdaaGreat
namespace Go.Proofs.YtkgenianmdfmdaaGreat
open Go.TQ
structure Cj (m:ab):Prop where
 n0:0<=m.au
 n1:m.au<10
 aZ:eZ m.ae
 len:m.aC.length<=100
 sm:∀e∈m.aC,eZ e.ae
 valid:∀e∈m.aC,a8 e=true
theorem qS{m:ab}{e:ai}(h:e∈aK m):e∈m.aC\/(aF m.aa=false/\e=dR m):=by
 unfold aK at h;split at h
 ·exact .inl h
 ·rename_i hz;rw[(rA _ _).mem_iff,Qz,List.mem_singleton]at h;rcases h with h|h
  ·exact .inl h
  ·exact .inr ⟨by simpa using hz,h⟩
theorem Sr(m:ab):(aK m).length<=m.aC.length+1:=by
 unfold aK;split
 ·omega
 ·rw[(rA _ _).length_eq,QB,List.length_singleton];omega
theorem zn(m:ab):(dR m).ae=m.ae:=sF m
theorem Cj.mR{m:ab}(h:Cj m):nA (aK m)/\(aK m).length<=1000:=by
 have h1:=Sr m;have h2:=h.len;refine⟨⟨by omega,fun e he=> ?_⟩,by omega⟩
 rcases qS he with he|⟨_,rfl⟩
 ·exact h.sm e he
 ·rw[zn];exact h.aZ
theorem Cj.az{m:ab}(h:Cj m):((m.au.toNat:Nat):Int)=m.au/\m.au.toNat<10:=by
 have:=h.n0;have:=h.n1;omega
def cp(b:af):af:=if 1000<b.aj then⟨1000,b.Value⟩else b
def bY(p q b:af):af×af:=
 if aF b=true then(p,q)else if aF p=true then(b,q)else if bb p b=true then(if bs p b=true then(b,if bs q b=true then bm else q)else(b,p))
 else if(bb b p&& !bs b p&&(aF q||bb q b))=true then(p,b)else(p,q)
theorem DJ(a b:af):bs a b=bs b a:=decide_eq_decide.2 ⟨Eq.symm,Eq.symm⟩
theorem TH(p q b:af):pj p q b=some ((bY p q b).1,(bY p q b).2,()):=by
 unfold pj bY;simp only[bW,gG,dV,Qa,bD,DJ b p,DJ b q];cases aF b<;>cases aF p<;>cases bb p b<;>cases bs p b<;>cases bs q b<;>cases bb b p<;>cases aF q<;>cases bb q b<;>rfl
def Ds(m:ab):ByteArray:=if m.aB=2 then m.aa.Value else fV
 def di(m:ab):af:=ix m.au.toNat m.ae (aK m) m.al m.aw (Ds m)
def pJ(m:ab)(p q:af):Int:=
 if m.aB=1/\m.aO≠0 then(if ez m<ka m.aa.Value m.aO p q then 0 else ka m.aa.Value m.aO p q)else m.aO
 def bZ(m:ab):ab:=
 if m.aB=3\/aF m.aa=true then m else
  {m with al:=(bY m.al m.aw (cp (di m))).1,aw:=(bY m.al m.aw (cp (di m))).2,aO:=pJ m (bY m.al m.aw (cp (di m))).1 (bY m.al m.aw (cp (di m))).2}
 def ib(m:ab):af:=vb m.au.toNat m.ae (aK m) m.ar
def uI(m:ab)(b:af):ab:=
 if bb m.aa b=true then{m with ar:=b,aa:=b,aO:=if bs m.aa b=true then m.aO else 0}else{m with ar:=b}
def mj(m:ab)(b:af):ab:=
 if m.aO=0/\bs m.aa b=true/\ka b.Value m.aa.aj m.al m.aw<=b.aj then{m with aO:=ka b.Value m.aa.aj m.al m.aw}else m
 def gg(m:ab):ab:=
 if m.aB≠1\/aF m.aa=true\/aF (ib m)=true then m else mj (uI m (ib m)) (ib m)
section
variable {az : Nat} (hn : az < 10) {t : aq} (ht : eZ t) {l : List ai} (hl : nA l) (hlen : l.length <= 1000)
 include hn ht hl hlen
end
 def dL(m:ab):ByteArray->Int->Int->Bool:=oH m.au.toNat m.ae (aK m)
 def wW(m:ab):ByteArray->Int->Int->Bool:=qP m.au.toNat m.ae (aK m)
 def dx(m:ab):ByteArray×Int×Int×Bool×Unit:=nv (dL m) (aK m) m.al m.aw (ft (dL m) (aK m) m.al m.aw)
 def c9(m:ab):Int×Int:=EN (bK (aK m) m.aa.Value) (dL m m.aa.Value) m.aO m.aX
 def iQ(m:ab):Int×Int×Bool×Unit:=sC (bK (aK m) m.aa.Value) (wW m m.aa.Value)
def xQ(m:ab)(v:ByteArray)(lo hi:Int):ab:=
 {m with aa:=if(!bs m.aa ⟨hi,v⟩||bb m.aa ⟨hi,v⟩)=true then⟨bn m.aa.aj hi,v⟩else m.aa,al:=if ir m.al ⟨hi,v⟩=true then m.al else⟨hi,v⟩,aB:=2,aO:=lo,aX:=hi,ar:=⟨hi,v⟩,aw:=bm}
def sE(m:ab)(lo hi:Int):ab:=
 {m with aa:=⟨bn m.aa.aj hi,m.aa.Value⟩,al:=⟨bn m.al.aj hi,m.al.Value⟩,ar:=⟨bn m.ar.aj hi,m.aa.Value⟩,aO:=lo,aX:=hi}
 def dq(m:ab):ab:=
 if m.aB=1 then(if(dx m).2.2.2.1=true then xQ m (dx m).1 (dx m).2.1 (dx m).2.2.1 else m)
 else if m.aB=2 then sE m (c9 m).1 (c9 m).2 else m
def zT(m:ab)(lo hi:Int):ab:={m with aB:=3,aO:=lo,aX:=hi,aa:=⟨hi,m.aa.Value⟩,al:=bm,aw:=bm,ar:=bm}
 def gX(m:ab):ab:=if m.aB=2/\(iQ m).2.2.1=true then zT m (iQ m).1 (iQ m).2.1 else m
end Go.Proofs.YtkgenianmdfmdaaGreat
namespace Go.Proofs.YtkgenianmdfmdaaGreat
open Go.TQ
theorem IZ{α β ρ:Type}(l:List α)(hl:l.length<=1000)(f:α->β){step:Int×List β×Unit->Option ((Int×List β×Unit)⊕ρ)}{fin:List β->Option ρ}
  (h1:∀(i:Nat) (e:α) (s:List β),s.length<=1000->e∈l->decide ((i:Int)<((l.length:Nat):Int))=true->idx l (i:Int)=some e->aJ .i64 (i:Int) 1=((i+1:Nat):Int)->step ((i:Int),s,())=some (.inl (((i+1:Nat):Int),s++[f e],())))
  (h2:∀s,decide (((l.length:Nat):Int)<((l.length:Nat):Int))=false->step (((l.length:Nat):Int),s,())=Option.map Sum.inr (fin s)):aI step ((0:Int),[],())=fin (l.map f):=by
 suffices key:∀(k i:Nat) (s:List β),i+k=l.length->s.length=i->aI step ((i:Int),s,())=fin (s++(l.drop i).map f)by
  have:=key l.length 0 [] (by omega) rfl
  simpa using this
 intro k
 induction k with
 |zero=>
  intro i s hi hs;obtain rfl:i=l.length:=by omega
  have hd:decide (((l.length:Nat):Int)<((l.length:Nat):Int))=false:=Qh (Int.lt_irrefl _);have h:=h2 s hd;rw[List.drop_length,QO,List.append_nil]
  cases hf:fin s with
  |none=>rw[hf]at h;exact F7 h
  |some r=>rw[hf]at h;exact bX h
 |succ k ih=>
  intro i s hi hs;have hlt:i<l.length:=by omega
  rw[bp (h1 i l[i] s (by omega) (Q0 hlt) (Qg (by omega)) (by rw[bN];exact Qv hlt) (cq (by omega) (by omega))),ih (i+1) (s++[f l[i]]) (by omega) (by simp;omega),
   QM hlt,QD,QL]
  rfl
theorem PI{α β ρ:Type}(l:List α)(hl:l.length<=1000)(f:α->β){step:Int×List β×Unit->Option ((Int×List β×Unit)⊕ρ)}{fin:List β->Option ρ}
  (h1:∀(i:Nat) (e:α) (s:List β),s.length=l.length->e∈l->i<l.length->decide ((i:Int)<((l.length:Nat):Int))=true->idx l (i:Int)=some e->aJ .i64 (i:Int) 1=((i+1:Nat):Int)->step ((i:Int),s,())=some (.inl (((i+1:Nat):Int),s.set i (f e),())))
  (h2:∀s,decide (((l.length:Nat):Int)<((l.length:Nat):Int))=false->step (((l.length:Nat):Int),s,())=Option.map Sum.inr (fin s)) {s0:List β} (hs0:s0.length=l.length):aI step ((0:Int),s0,())=fin (l.map f):=by
 suffices key:∀(k i:Nat) (s:List β),i+k=l.length->s.length=l.length->aI step ((i:Int),s,())=fin (s.take i++(l.drop i).map f)by
  have:=key l.length 0 s0 (by omega) hs0
  simpa using this
 intro k
 induction k with
 |zero=>
  intro i s hi hs;obtain rfl:i=l.length:=by omega
  have hd:decide (((l.length:Nat):Int)<((l.length:Nat):Int))=false:=Qh (Int.lt_irrefl _);have h:=h2 s hd;rw[List.drop_length,QO,List.append_nil,<-hs,List.take_length];rw[<-hs]at h
  cases hf:fin s with
  |none=>rw[hf]at h;exact F7 h
  |some r=>rw[hf]at h;exact bX h
 |succ k ih=>
  intro i s hi hs;have hlt:i<l.length:=by omega
  rw[bp (h1 i l[i] s hs (Q0 hlt) hlt (Qg (by omega)) (by rw[bN];exact Qv hlt) (cq (by omega) (by omega))),ih (i+1) (s.set i (f l[i])) (by omega) (by simpa using hs),
   QM hlt,QD]
  congr 1;rw[List.take_add_one,List.take_set_of_le (QI i),List.getElem?_set_self (by omega)]
  simp
def Gt(z:af):List af->af
 |[]=>z
 |x::l=>l.foldl (fun a y=>if bb a y=true then y else a) x
theorem N1(l:List af)(hl:l.length<=1000000)(z:af){step:Int×af×Unit->Option ((Int×af×Unit)⊕af)}
  (h1:∀(i:Nat) (x s:af),decide ((i:Int)<((l.length:Nat):Int))=true->idx l (i:Int)=some x->aJ .i64 (i:Int) 1=((i+1:Nat):Int)->step ((i:Int),s,())=some (.inl (((i+1:Nat):Int),(if i=0 then x else if bb s x=true then x else s),())))
  (h2:∀s,decide (((l.length:Nat):Int)<((l.length:Nat):Int))=false->step (((l.length:Nat):Int),s,())=some (.inr s)):aI step ((0:Int),z,())=some (Gt z l):=by
 have hd:decide (((l.length:Nat):Int)<((l.length:Nat):Int))=false:=Qh (Int.lt_irrefl _)
 have key:∀(k i:Nat) (s:af),i+k=l.length->1<=i->aI step ((i:Int),s,())=some ((l.drop i).foldl (fun a y=>if bb a y=true then y else a) s):=by
  intro k
  induction k with
  |zero=>
   intro i s hi h1i;obtain rfl:i=l.length:=by omega
   rw[List.drop_length];exact bX (h2 s hd)
  |succ k ih=>
   intro i s hi h1i;have hlt:i<l.length:=by omega
   rw[bp (h1 i l[i] s (Qg (by omega)) (by rw[bN];exact Qv hlt) (cq (by omega) (by omega))),ih (i+1) _ (by omega) (by omega),QM hlt,QU,Qs (by omega:¬i=0)]
 cases l with
 |nil=>exact bX (h2 z hd)
 |cons x l=>
  have hx:=h1 0 x z (Qg (by simp)) (by rw[bN];rfl) (cq (by omega) (by omega))
  rw[Qr rfl]at hx;exact(bp hx).trans (key l.length 1 x (by simp;omega) (by omega))
theorem RE(l:List af)(hl:l.length<=1000000):jz l=some (Gt bm l):=by
 unfold jz;refine N1 l hl bm (fun i x s hd hx hw=> ?_) (fun s hd=> ?_)
 ·simp only[hd,hx,hw,Qk,bD,Qa,gG]
  by_cases hi:i=0
  ·subst hi;rfl
  ·have:decide ((i:Int)=0)=false:=Qh (by omega)
   rw[this,Qs hi];cases bb s x<;>rfl
 ·simp only[hd,Ql,Qe]
def c6(m:ab):ByteArray:=
 if aF m.ar=false then m.ar.Value else if m.aB≠1 then m.aa.Value else if m.bj≠fV then m.bj else(Gt bm (m.aC.map (·.aa))).Value
theorem Kp{e:ai}(h:eZ e.ae)(hv:a8 e=true):gP e=some (eY e):=by
 rw[LI (Mo h)];have:ln (DW e.ae) e=true:=hv;rw[this,Qr rfl]
def yM(m:ab)(n:Int):Nat:=dh (fun e=>decide (n<eY e)) m.aC
 def gu(m:ab)(n:Int):Bool:=tr (fg m.au.toNat m.ae (aK m)) m.au.toNat (yM m n)
theorem Cj.MM{m:ab}(h:Cj m):rG m.aC:=fun e he=>js (h.valid e he)
theorem Q9{m:ab}(h:Cj m)(n:Int):yM m n<1024:=oP h.MM
 def jC(m:ab)(Cb:Int)(e:ai):Int:=
 if m.aa.aj<eY e/\eY e<Cb/\gu m (eY e)=false then eY e else Cb
 def eU(m:ab):Int:=m.aC.foldl (jC m) 1000000
 def j5(m:ab):ByteArray:=if m.aB=1 then c6 m else m.aa.Value
 def eu(m:ab):ab:=
 if m.aB=3\/gu m m.aa.aj=false then m
 else{m with aO:=if j5 m=m.aa.Value then m.aO else 0,aa:=⟨bn m.aa.aj (dD (eU m) 1000),j5 m⟩}
open Classical in
theorem Sh{m:ab}(h:Cj m){ρ:Type}{step:Int×Int×Unit->Option ((Int×Int×Unit)⊕ρ)}{fin:Int->Option ρ}
  (h1:∀(i:Nat) (e:ai) (s:Int),e∈m.aC->decide ((i:Int)<((m.aC.length:Nat):Int))=true->idx m.aC (i:Int)=some e->aJ .i64 (i:Int) 1=((i+1:Nat):Int)->step (s,(i:Int),())=some (.inl (jC m s e,((i+1:Nat):Int),())))
  (h2:∀s,decide (((m.aC.length:Nat):Int)<((m.aC.length:Nat):Int))=false->step (s,((m.aC.length:Nat):Int),())=Option.map Sum.inr (fin s)):aI step ((1000000:Int),(0:Int),())=fin (eU m):=by
 have hl:=h.len
 have key:=ji m.aC (by omega) (fun i s=>(s,i,())) (fun e s=>if e∈m.aC then some (.inl (jC m s e))else none) fin (step:=step) (fun i x s hd hx hw=>by
  have hm:x∈m.aC:=by rw[bN]at hx;exact List.mem_of_getElem? hx
  rw[h1 i x s hm hd hx hw,Qr hm]) (fun s hd=>h2 s hd) 1000000
 refine key.trans ?_;unfold eU
 suffices h3:∀(l:List ai),(∀e∈l,e∈m.aC)->∀s,fP (fun e s=>if e∈m.aC then some (Sum.inl (β:=ρ) (jC m s e))else none) fin l s=fin (l.foldl (jC m) s)from h3 _ (fun e he=>he) _
 intro l
 induction l with
 |nil=>intro _ s;rfl
 |cons x l ih=>
  intro hx s;rw[fP,Qr (hx x Qx),QU];exact ih (fun e he=>hx e (Qy _ he)) _
end Go.Proofs.YtkgenianmdfmdaaGreat
namespace Go.Proofs.YtkgenianmdfmdaaGreat
open Go.TQ
def bU(b:af):Prop:=1<=b.aj/\b.aj<=1000/\1<=b.Value.size/\b.Value.size<=200
theorem bU.valid{b:af}(h:bU b):ct b=true:=by
 obtain⟨h1,h2,h3,h4⟩:=h;simp only[ct,Qm,Qn,Qi];exact⟨⟨.inl ⟨h1,h2⟩,h3⟩,h4⟩
theorem bU.finite{b:af}(h:bU b):finite b=true:=by
 unfold Go.Proofs.YtkgenianmdfmdaaGreat.finite;rw[h.valid,Qg h.2.1];rfl
theorem MS{b:af}(h:ct b=true)(hc:b.aj<=1000):bU b:=by
 simp only[ct,Qm,Qn,Qi]at h;obtain⟨⟨h1,h2⟩,h3⟩:=h;exact⟨by omega,hc,h2,h3⟩
theorem bU.nz{b:af}(h:bU b):aF b=false:=F6 h.1
theorem bU.ne{b:af}(h:bU b):b.Value≠fV:=by
 intro e;have:=h.2.2.1;rw[e]at this;exact absurd this (by decide)
theorem ll{b:af}:aF b=true↔b=bm:=by
 obtain⟨c,v⟩:=b;simp[aF,bm]
theorem bl:aF bm=true:=ll.2 rfl
structure P1 (m:ab):Prop where
 aA:m.aB=1
 aD:bU m.aa
 cy:m.al=bm\/bU m.al
 bB:m.aw=bm\/(bU m.aw/\bU m.al/\bb m.aw m.al=true/\bs m.aw m.al=false)
 dj:m.ar=bm\/(bU m.ar/\dG m.al m.aw m.ar=true)
 up:bb m.aa m.ar=false
 bM:m.aX=0
 low:m.aO=0\/(1<=m.aO/\m.aO<=ez m/\kI m.al m.aw m.aa.Value m.aO=false)
structure P2 (m:ab):Prop where
 aA:m.aB=2
 aD:bU m.aa
 cy:bU m.al/\m.al.Value=m.aa.Value
 bB:m.aw=bm
 dj:m.ar=bm\/(bU m.ar/\m.ar.Value=m.aa.Value)
 range:1<=m.aO/\m.aO<=m.aX/\m.aX<=m.al.aj
structure P3 (m:ab):Prop where
 aA:m.aB=3
 aD:bU m.aa
 cy:m.al=bm
 bB:m.aw=bm
 dj:m.ar=bm
 range:1<=m.aO/\m.aO<=m.aX/\m.aX<=1000
structure P0 (m:ab):Prop where
 aA:m.aB=1
 aD:m.aa=bm
 cy:m.al=bm
 bB:m.aw=bm
 dj:m.ar=bm
 low:m.aO=0
 bM:m.aX=0
structure aU (m:ab):Prop where
 n0:0<=m.au
 n1:m.au<10
 bL:1<=m.bw/\m.bw<=1000000
 seq:0<=m.aL/\m.aL<=1000000
 aZ:iV m.ae
 pI:m.bj.size<=200
 hv:∀e∈m.aC,a8 e=true/\iV e.ae/\e.bw=m.bw/\e.au≠m.au
 mw:m.aC.Pairwise (fun a b=>a.au<b.au)
 body:P0 m\/P1 m\/P2 m\/P3 m
theorem Fj:∀(l:List ai) (k:Nat),k<=10->(∀e∈l,(k:Int)<=e.au/\e.au<10)->l.Pairwise (fun a b=>a.au<b.au)->l.length+k<=10
 |[],k,hk,_,_=>by simpa using hk
 |x::l,k,hk,h,hp=>by
  rw[Q4]at hp;have hx:=h x Qx;have:=Fj l (k+1) (by omega) (fun e he=>⟨by have:=hp.1 e he;omega,(h e (Qy _ he)).2⟩) hp.2
  rw[QE];omega
theorem aU.len{m:ab}(h:aU m):m.aC.length<=10:=by
 have:=Fj m.aC 0 (by omega) (fun e he=>by have:=js (h.hv e he).1;omega) h.mw
 omega
theorem aU.ev{m:ab}(h:aU m):Cj m:=
 ⟨h.n0,h.n1,h.aZ.sm,by have:=h.len;omega,fun e he=>(h.hv e he).2.1.sm,fun e he=>(h.hv e he).1⟩
theorem Gn{m:ab}(h:P1 m):0<=ez m/\ez m<=m.aa.aj/\(ez m=0\/(bU m.ar/\m.ar.Value=m.aa.Value/\ez m=m.ar.aj)):=by
 unfold ez;split
 ·rename_i hc;simp only[Qm,Bool.not_eq_true',bs,Qi]at hc;rcases h.dj with e|⟨hf,_⟩
  ·rw[e,bl]at hc;cases hc.1
  ·have hup:=h.up;unfold bb at hup;split at hup
   ·rename_i e;exact⟨by have:=hf.1;omega,by omega,.inr ⟨hf,hc.2,rfl⟩⟩
   ·simp only[Qj]at hup;exact⟨by have:=hf.1;omega,by omega,.inr ⟨hf,hc.2,rfl⟩⟩
 ·exact⟨Int.le_refl _,by have:=h.aD.1;omega,.inl rfl⟩
theorem Bz{m:ab}(h:aU m)(hz:aF m.aa=false):a8 (dR m)=true:=by
 have hseq:1<=(dR m).aL/\(dR m).aL<=1000000:=by
  have h1:(dR m).aL=bn m.aL 1:=by show bn (cg m).aL 1=_;rw[KX]
  have:=h.seq;rw[h1];unfold bn;split<;>omega
 have hnode:(dR m).au=m.au:=kj m;have hslot:(dR m).bw=m.bw:=ub m
 have hhead:yC (dR m)=true:=by
  unfold yC;rw[hnode,hslot];simp only[Qm,Qi];exact⟨⟨⟨⟨⟨h.n0,h.n1⟩,h.bL.1⟩,h.bL.2⟩,hseq.1⟩,hseq.2⟩
 unfold a8;rw[zn,AQ h.aZ];unfold ln;rw[hhead];have hkind:(dR m).bS=m.aB:=IQ m;rw[hkind];rcases h.body with h0|h1|h2|h3
 ·rw[h0.aD,bl]at hz;cases hz
 ·rw[Qr h1.aA];have hh:=Gn h1;have e:dR m=⟨m.au,m.bw,bn (cg m).aL 1,m.ae,m.aB,m.aa,m.al,m.aw,m.aO,ez m⟩:=by unfold dR cg;rw[Qr h1.aA]
  have hp:(aF m.al||ct m.al)=true:=by
   rcases h1.cy with e|hf
   ·rw[e,bl];rfl
   ·rw[hf.valid,Bool.or_true]
  have hq:(aF m.aw||ct m.aw)=true:=by
   rcases h1.bB with e|hf
   ·rw[e,bl];rfl
   ·rw[hf.1.valid,Bool.or_true]
  have hpo:Cw (dR m)=true:=by
   rw[e];unfold Cw;rcases h1.bB with e|⟨_,hf,hl,hc⟩
   ·simp only[e,bl,Bool.true_or]
   ·simp only[hf.nz,hl,hc,Qp,Bool.and_self,Bool.or_true]
  have hhp:(decide (ez m=0)||dG m.al m.aw ⟨ez m,m.aa.Value⟩)=true:=by
   rcases hh.2.2 with e|⟨hf,hv,e⟩
   ·rw[Qg e];rfl
   ·rw[e,<-hv];rcases h1.dj with e2|⟨_,hp⟩
    ·have:=hf.nz;rw[e2,bl]at this;cases this
    ·rw[hp,Bool.or_true]
  have hlow:0<=m.aO/\m.aO<=ez m/\(decide (m.aO=0)||(!dZ m.al ⟨m.aO,m.aa.Value⟩&& !dZ m.aw ⟨m.aO,m.aa.Value⟩))=true:=by
   rcases h1.low with e|⟨h5,h6,h7⟩
   ·rw[e];exact⟨Int.le_refl _,hh.1,rfl⟩
   ·refine⟨by omega,h6,?_⟩
    unfold kI at h7;rw[Bool.or_eq_false_iff]at h7;rw[h7.1,h7.2];simp
  unfold fp;rw[hpo];rw[e];unfold at_
  simp only[h1.aD.finite,hp,hq,Qg hlow.1,Qg hlow.2.1,Qg hh.2.1,hhp,hlow.2.2,Bool.and_self,decide_true]
 ·rw[Qs (by rw[h2.aA];decide),Qr h2.aA]
  have e:dR m=⟨m.au,m.bw,bn (cg m).aL 1,m.ae,m.aB,m.aa,m.al,bm,m.aO,m.aX⟩:=by unfold dR cg;rw[Qs (by rw[h2.aA];decide),Qr h2.aA]
  have hc:m.aX<=1000:=by have:=h2.range.2.2;have:=h2.cy.1.2.1;omega
  unfold wo tN;rw[e];simp only[h2.aD.finite,h2.cy.1.valid,bs,Qg h2.cy.2,bl,Qg h2.range.1,Qg h2.range.2.1,Qg h2.range.2.2,Qg hc,Bool.and_self,decide_true]
 ·rw[Qs (by rw[h3.aA];decide),Qs (by rw[h3.aA];decide),Qr h3.aA]
  have e:dR m=⟨m.au,m.bw,bn (cg m).aL 1,m.ae,m.aB,m.aa,bm,bm,m.aO,m.aX⟩:=by unfold dR cg;rw[Qs (by rw[h3.aA];decide),Qs (by rw[h3.aA];decide)]
  unfold zO tN;rw[e];simp only[h3.aD.valid,bl,Qg h3.range.1,Qg h3.range.2.1,Qg h3.range.2.2,Bool.and_self,decide_true]
theorem aU.iO{m:ab}(h:aU m):∀e∈aK m,a8 e=true:=by
 intro e he;rcases qS he with he|⟨hz,rfl⟩
 ·exact(h.hv e he).1
 ·exact Bz h hz
theorem aU.TT{m:ab}(h:aU m){e:ai}(he:e∈aK m)(hn:e.au.toNat=m.au.toNat):aF m.aa=false/\e=dR m:=by
 rcases qS he with he|⟨hz,rfl⟩
 ·have h1:=(h.hv e he).2.2.2;have h2:=js (h.hv e he).1;have:=h.n0;omega
 ·exact⟨hz,rfl⟩
end Go.Proofs.YtkgenianmdfmdaaGreat
namespace Go.Proofs.YtkgenianmdfmdaaGreat
open Go.TQ
theorem ow(a b:af):bb a b=true↔a.aj<b.aj\/(a.aj=b.aj/\mX a.Value b.Value=true):=by
 unfold bb;split
 ·rename_i e;rw[e];simp
 ·rename_i e;simp only[Qi];constructor
  ·exact .inl
  ·rintro(h|h)
   ·exact h
   ·exact absurd h.1 e
theorem jj{a b c:af}(h:bb a b=true)(h':bb b c=true):bb a c=true:=wY.trans _ _ _ h h'
theorem Pv(a:af):bb a a=false:=wY.irrefl a
theorem BJ{a b:af}(h:bb a b=false)(h':a≠b):bb b a=true:=by
 cases h1:bb b a with
 |true=>rfl
 |false=>exact absurd (wY.total a b h h1) h'
theorem fU{a b:af}(h:bb a b=true):a.aj<=b.aj:=by
 rw[ow]at h;omega
theorem Eo{a b:af}(h:bb a b=false):b.aj<=a.aj:=by
 rcases Int.lt_or_le a.aj b.aj with h1|h1
 ·rw[(ow a b).2 (.inl h1)]at h;cases h
 ·exact h1
theorem Pt(v:ByteArray):mX v v=false:=wX.irrefl v
theorem zz{a b:af}(hv:a.Value=b.Value):bb a b=decide (a.aj<b.aj):=by
 unfold bb;split
 ·rename_i e;rw[hv,Pt,e];simp
 ·rfl
theorem B3{p x:af}(h:ir p x=true):bb p x=false:=by
 obtain⟨_,h2,h3⟩:=(iG p x).1 h;rw[zz h2,Qj];omega
theorem IX{p x q:af}(h:ir p x=true)(hq:bb p q=true):bb x q=true:=by
 by_cases e:x=p
 ·rw[e];exact hq
 ·exact jj (BJ (B3 h) (fun h=>e h.symm)) hq
theorem fj{a b:af}:bs a b=true↔a.Value=b.Value:=decide_eq_true_iff
theorem fB{a b:af}:bs a b=false↔a.Value≠b.Value:=Qj
theorem sb(p q x:af):dG p q x=true↔ir p x=true\/ir q x=true\/(aF q=false/\bb x q=true):=by
 unfold dG;simp only[Qn,Qm,Bool.not_eq_true'];exact⟨fun h=>by rcases h with(h|h)|h<;>simp[h],fun h=>by rcases h with h|h|h<;>simp[h]⟩
def mI(p q:af):Prop:=(p=bm\/bU p)/\(q=bm\/(bU q/\bU p/\bb q p=true/\bs q p=false))
theorem P1.fp{m:ab}(h:P1 m):mI m.al m.aw:=⟨h.cy,h.bB⟩
theorem na{b:af}(h:bU b):b≠bm:=fun e=>by have:=h.nz;rw[e,bl]at this;cases this
inductive nW (p q b:af):af->af->Prop where
 |same:nW p q b p q
 |first (hp:p=bm) (hq:q=bm):nW p q b b bm
 |up (hp:bU p) (hl:bb p b=true) (hc:p.Value=b.Value):nW p q b b q
 |vN (hp:bU p) (hl:bb p b=true) (hc:p.Value≠b.Value):nW p q b b p
 |under (hp:bU p) (hl:bb b p=true) (hc:b.Value≠p.Value) (hq:q=bm\/bb q b=true):nW p q b p b
theorem T6{p q b:af}(h:mI p q)(hb:b=bm\/bU b):nW p q b (bY p q b).1 (bY p q b).2:=by
 unfold bY;rcases hb with rfl|hb
 ·rw[Qr bl];exact .same
 rw[Qs (by rw[hb.nz];decide)]
 rcases h.1 with rfl|hp
 ·have hq:q=bm:=by
   rcases h.2 with e|⟨_,e,_⟩
   ·exact e
   ·exact absurd rfl (na e)
  rw[Qr bl,hq];exact .first rfl rfl
 rw[Qs (by rw[hp.nz];decide)]
 by_cases hl:bb p b=true
 ·rw[Qr hl]
  by_cases hc:bs p b=true
  ·rw[Qr hc]
   have hcq:bs q b=false:=by
    rw[fj]at hc;rw[fB];rcases h.2 with rfl|⟨_,_,_,e⟩
    ·exact fun e=>hb.ne e.symm
    ·rw[fB]at e;rw[<-hc];exact e
   rw[Qs (by rw[hcq];decide)]
   exact .up hp hl (fj.1 hc)
  ·rw[Qs hc];exact .vN hp hl (fB.1 (by simpa using hc))
 ·rw[Qs hl];split
  ·rename_i hu;simp only[Qm,Qn,Bool.not_eq_true']at hu;refine .under hp hu.1.1 (fB.1 hu.1.2) ?_;rcases hu.2 with e|e
   ·exact .inl (ll.1 e)
   ·exact .inr e
  ·exact .same
theorem nW.ok{p q b p' q':af}(h:mI p q)(hb:b=bm\/bU b)(hj:nW p q b p' q'):mI p' q':=by
 have hbf:∀{x:af},bb x b=true\/bU b\/(bU x/\bb b x=true)->True:=fun _=>trivial
 cases hj with
 |same=>exact h
 |first hp hq=>exact⟨hb,.inl rfl⟩
 |up hp hl hc=>
  have hb':bU b:=by
   rcases hb with rfl|hb
   ·have h1:=fU hl;have h2:=hp.1;have:(bm:af).aj=0:=rfl;omega
   ·exact hb
  refine⟨.inr hb',?_⟩;rcases h.2 with e|⟨h1,h2,h3,h4⟩
  ·exact .inl e
  ·refine .inr ⟨h1,hb',jj h3 hl,?_⟩;rw[fB]at h4 ⊢;rw[<-hc];exact h4
 |vN hp hl hc=>
  have hb':bU b:=by
   rcases hb with rfl|hb
   ·have h1:=fU hl;have h2:=hp.1;have:(bm:af).aj=0:=rfl;omega
   ·exact hb
  exact⟨.inr hb',.inr ⟨hp,hb',hl,fB.2 hc⟩⟩
 |under hp hl hc hq=>
  refine⟨.inr hp,?_⟩;rcases hb with e|hb
  ·exact .inl e
  ·exact .inr ⟨hb,hp,hl,fB.2 hc⟩
theorem nW.mono{p q b p' q':af}(h:mI p q)(hj:nW p q b p' q'){x:af}(hx:dG p q x=true):dG p' q' x=true:=by
 rw[sb]at hx ⊢
 have hqp:aF q=false->bb q p=true:=fun hz=>by
  rcases h.2 with e|⟨_,_,e,_⟩
  ·rw[e,bl]at hz;cases hz
  ·exact e
 have hcq:ir q x=true->aF q=false:=fun hc=>((iG q x).1 hc).1
 cases hj with
 |same=>exact hx
 |first hp hq=>
  subst hp hq;rcases hx with hx|hx|hx
  ·have:=((iG _ _).1 hx).1;rw[bl]at this;cases this
  ·have:=((iG _ _).1 hx).1;rw[bl]at this;cases this
  ·rw[bl]at hx;cases hx.1
 |up hp hl hc=>
  rcases hx with hx|hx|hx
  ·obtain⟨h1,h2,h3⟩:=(iG _ _).1 hx;refine .inl ((iG _ _).2 ⟨?_,hc.symm.trans h2,Int.le_trans h3 (fU hl)⟩);have:=hp.1;have:=fU hl;exact F6 (by omega)
  ·exact .inr (.inl hx)
  ·exact .inr (.inr hx)
 |vN hp hl hc=>
  rcases hx with hx|hx|hx
  ·exact .inr (.inl hx)
  ·exact .inr (.inr ⟨hp.nz,IX hx (hqp (hcq hx))⟩)
  ·exact .inr (.inr ⟨hp.nz,jj hx.2 (hqp hx.1)⟩)
 |under hp hl hc hq=>
  have hbz:aF q=false->bb q b=true:=fun hz=>by
   rcases hq with e|e
   ·rw[e,bl]at hz;cases hz
   ·exact e
  have hbn:aF q=false->aF b=false:=fun hz=>by
   have h1:=fU (hbz hz);rcases h.2 with e|⟨e,_⟩
   ·rw[e,bl]at hz;cases hz
   ·have:=e.1;exact F6 (by omega)
  rcases hx with hx|hx|hx
  ·exact .inl hx
  ·exact .inr (.inr ⟨hbn (hcq hx),IX hx (hbz (hcq hx))⟩)
  ·exact .inr (.inr ⟨hbn hx.1,jj hx.2 (hbz hx.1)⟩)
theorem Rc{p:af}{v:ByteArray}{n k:Int}(h:dZ p ⟨n,v⟩=false)(hk:n<=k):dZ p ⟨k,v⟩=false:=Mj hk h
theorem JY{v:ByteArray}{n:Int}{x:af}(hx:x=bm\/ct x=true):n<=tz v n x/\dZ x ⟨tz v n x,v⟩=false:=by
 unfold tz;split
 ·rename_i hc;rw[Qm]at hc;have ha:=hc.2;unfold dZ at ha;rw[Qm,Qm]at ha;have hle:n<=x.aj:=fU ha.2;split
  ·refine⟨by omega,?_⟩
   unfold dZ;rw[Bool.and_eq_false_iff];right
   cases hl:bb ⟨x.aj+1,v⟩ x with
   |false=>rfl
   |true=>have:=fU hl;simp only at this;omega
  ·rename_i hn;exact⟨hle,by simpa using hn⟩
 ·rename_i hc;refine⟨Int.le_refl _,?_⟩;rcases hx with rfl|hv
  ·unfold dZ;rw[bl];rfl
  ·rw[hv,Bool.true_and]at hc;simpa using hc
theorem MI{v:ByteArray}{n:Int}{p q:af}(hp:p=bm\/ct p=true)(hq:q=bm\/ct q=true):n<=ka v n p q/\1<=ka v n p q/\kI p q v (ka v n p q)=false:=by
 unfold ka;obtain⟨h1,h2⟩:=JY (v:=v) (n:=bn n 1) hp;obtain⟨h3,h4⟩:=JY (v:=v) (n:=tz v (bn n 1) p) hq;have hm:n<=bn n 1/\1<=bn n 1:=by unfold bn;split<;>omega
 refine⟨by omega,by omega,?_⟩
 unfold kI;rw[h4,Bool.or_false];exact Rc h2 h3
theorem Fe{v:ByteArray}{n:Int}{x:af}(h:dZ x ⟨n,v⟩=false):tz v n x=n:=by
 unfold tz;rw[h,Bool.and_false];rfl
theorem Pp{v:ByteArray}{n:Int}{p q:af}(h1:1<=n)(h:kI p q v n=false):ka v n p q=n:=by
 unfold kI at h;rw[Bool.or_eq_false_iff]at h;have hm:bn n 1=n:=by unfold bn;split<;>omega
 unfold ka;rw[hm,Fe h.1,Fe h.2]
theorem mI.valid{p q:af}(h:mI p q):(p=bm\/ct p=true)/\(q=bm\/ct q=true):=
 ⟨h.1.imp id bU.valid,h.2.imp id fun h=>h.1.valid⟩
theorem Nt{e:ai}(hv:a8 e=true){x:af}(hx:x∈said e)(hz:aF x=false):ct x=true:=by
 have hv':=hv;unfold a8 ln at hv';unfold said at hx;rw[Qr hv]at hx;rw[Qm,Qm]at hv';have hb:=hv'.2
 by_cases h1:e.bS=1
 ·rw[Qr h1]at hb hx;unfold fp at hb;simp only[Qm,Qn]at hb;obtain⟨⟨⟨⟨⟨⟨⟨⟨hf,hp⟩,hq⟩,_⟩,_⟩,_⟩,_⟩,_⟩,_⟩:=hb;simp only[QA,QR,or_false]at hx;rcases hx with rfl|rfl|rfl
  ·unfold finite at hf;rw[Qm]at hf;exact hf.1
  ·rcases hp with hp|hp
   ·rw[hp]at hz;cases hz
   ·exact hp
  ·rcases hq with hq|hq
   ·rw[hq]at hz;cases hz
   ·exact hq
 ·rw[Qs h1]at hb hx
  have hinf:∀{b:af},ct b=true->ct ⟨1000000,b.Value⟩=true:=by
   intro b hb;simp only[ct,Qm,Qn,Qi]at hb ⊢;exact⟨⟨.inr trivial,hb.1.2⟩,hb.2⟩
  by_cases h2:e.bS=2
  ·rw[Qr h2]at hb hx;unfold wo at hb;simp only[Qm]at hb;obtain⟨⟨⟨⟨⟨hf,hp⟩,hc⟩,_⟩,_⟩,_⟩:=hb;simp only[QA,QR,or_false]at hx;rcases hx with rfl|rfl
   ·exact hp
   ·unfold finite at hf;rw[Qm]at hf;exact hinf hf.1
  ·rw[Qs h2]at hb hx;simp only[QA,QR,or_false]at hx;subst hx
   by_cases h3:e.bS=3
   ·rw[Qr h3]at hb;unfold zO at hb;simp only[Qm]at hb;exact hinf hb.1.1.1
   ·rw[Qs h3]at hb;cases hb
theorem Dq{e:ai}(hv:a8 e=true):1<=e.aa.Value.size/\e.aa.Value.size<=200:=by
 have hv':=hv;unfold a8 ln at hv';rw[Qm,Qm]at hv';have hb:=hv'.2
 have go:∀{b:af},ct b=true->1<=b.Value.size/\b.Value.size<=200:=by
  intro b hb;simp only[ct,Qm,Qn,Qi]at hb;exact⟨hb.1.2,hb.2⟩
 have gof:∀{b:af},finite b=true->1<=b.Value.size/\b.Value.size<=200:=by
  intro b hb;unfold finite at hb;rw[Qm]at hb;exact go hb.1
 by_cases h1:e.bS=1
 ·rw[Qr h1]at hb;unfold fp at hb;simp only[Qm]at hb;exact gof hb.1.1.1.1.1.1.1.1
 ·rw[Qs h1]at hb
  by_cases h2:e.bS=2
  ·rw[Qr h2]at hb;unfold wo at hb;simp only[Qm]at hb;exact gof hb.1.1.1.1.1
  ·rw[Qs h2]at hb
   by_cases h3:e.bS=3
   ·rw[Qr h3]at hb;unfold zO at hb;simp only[Qm]at hb;exact go hb.1.1.1
   ·rw[Qs h3]at hb;cases hb
theorem UL{b:af}(h:ct b=true):bU (cp b):=by
 simp only[ct,Qm,Qn,Qi]at h;obtain⟨⟨h1,h2⟩,h3⟩:=h;unfold cp;split
 ·exact⟨(by decide:(1:Int)<=1000),(by decide:(1000:Int)<=1000),h2,h3⟩
 ·exact⟨by omega,by omega,h2,h3⟩
theorem KT{α:Type}{l:List α}{p:α->Bool}{z:α}:(l.find? p).getD z=z\/((l.find? p).getD z∈l/\p ((l.find? p).getD z)=true):=by
 cases h:l.find? p with
 |none=>exact .inl rfl
 |some x=>exact .inr ⟨List.mem_of_find?_eq_some h,List.find?_some h⟩
theorem Am{m:ab}(h:aU m){x:af}(hx:x∈eI (aK m)):ct x=true:=by
 obtain⟨e,he,h1,h2⟩:=((nI h.ev.mR.1.aZ h.ev.mR.2).2.2.2 x).1 hx;exact Nt (h.iO e he) h1 h2
theorem BB{m:ab}(h:aU m):di m=bm\/(ct (di m)=true/\(Ds m=fV\/(di m).Value=Ds m)/\dG (rC m.al) (rC m.aw) (di m)=false/\iB m.au.toNat m.ae (aK m) (di m)=true):=by
 unfold di ix;rcases KT (l:=eI (aK m)) (p:=u0 (iB m.au.toNat m.ae (aK m)) m.al m.aw (Ds m)) (z:=w9)with e|⟨h1,h2⟩
 ·exact .inl e
 ·right;unfold u0 at h2;simp only[Qm,Qn,Bool.not_eq_true',Qi]at h2;exact⟨Am h h1,h2.1.1,h2.1.2,h2.2⟩
theorem pb{m:ab}(h:aU m):cp (di m)=bm\/bU (cp (di m)):=by
 rcases BB h with e|⟨h1,_⟩
 ·left;rw[e];decide
 ·exact .inr (UL h1)
theorem yp{m:ab}(h:aU m)(h1:mI m.al m.aw):nW m.al m.aw (cp (di m)) (bY m.al m.aw (cp (di m))).1 (bY m.al m.aw (cp (di m))).2:=T6 h1 (pb h)
theorem P2.fp{m:ab}(h:P2 m):mI m.al m.aw:=⟨.inr h.cy.1,.inl h.bB⟩
theorem TJ{m:ab}(h:aU m)(h1:P1 m):P1 (bZ m):=by
 unfold bZ;rw[Qs (by rw[h1.aA,h1.aD.nz];decide)]
 have hj:=yp h h1.fp;generalize (bY m.al m.aw (cp (di m))).1=p at hj;generalize (bY m.al m.aw (cp (di m))).2=q at hj;have hok:=hj.ok h1.fp (pb h);refine⟨h1.aA,h1.aD,hok.1,hok.2,?_,h1.up,h1.bM,?_⟩
 ·rcases h1.dj with e|⟨hf,hp⟩
  ·exact .inl e
  ·exact .inr ⟨hf,hj.mono h1.fp hp⟩
 ·show pJ m p q=0\/(1<=pJ m p q/\pJ m p q<=ez m/\kI p q m.aa.Value (pJ m p q)=false);unfold pJ
  by_cases hL:m.aO=0
  ·rw[Qs (fun h=>h.2 hL)];exact .inl hL
  ·rw[Qr ⟨h1.aA,hL⟩];split
   ·exact .inl rfl
   ·rename_i hlt;obtain⟨h2,h3,h4⟩:=MI (v:=m.aa.Value) (n:=m.aO) hok.valid.1 hok.valid.2;exact .inr ⟨h3,by omega,h4⟩
theorem My{m:ab}(h:aU m)(h2:P2 m):P2 (bZ m)/\m.al.aj<=(bZ m).al.aj/\(bZ m).aw=bm:=by
 unfold bZ;rw[Qs (by rw[h2.aA,h2.aD.nz];decide)]
 have hv:cp (di m)=bm\/(cp (di m)).Value=m.aa.Value:=by
  rcases BB h with e|⟨h3,h4,_⟩
  ·left;rw[e];decide
  ·right;have hc:(cp (di m)).Value=(di m).Value:=by unfold cp;split<;>rfl
   have hvo:Ds m=m.aa.Value:=Qr h2.aA;rw[hvo]at h4;rw[hc];exact h4.resolve_left h2.aD.ne
 have hj:=yp h h2.fp;have hlow:∀p q,pJ m p q=m.aO:=fun p q=>Qs (fun h=>by have:=h.1;rw[h2.aA]at this;cases this)
 simp only[hlow];have hok:=hj.ok h2.fp (pb h);generalize (bY m.al m.aw (cp (di m))).1=p at hj hok;generalize (bY m.al m.aw (cp (di m))).2=q at hj hok;generalize hb:cp (di m)=b at hj hv
 have key:bU p/\p.Value=m.aa.Value/\m.al.aj<=p.aj/\q=bm:=by
  cases hj with
  |same=>exact⟨h2.cy.1,h2.cy.2,Int.le_refl _,h2.bB⟩
  |first hp hq=>exact absurd hp (na h2.cy.1)
  |up hp hl hc=>exact⟨hok.1.resolve_left (fun e=>by have:=fU hl;rw[e]at this;have h9:=h2.cy.1.1;have:(bm:af).aj=0:=rfl;omega),hc.symm.trans h2.cy.2,fU hl,h2.bB⟩
  |vN hp hl hc=>
   exfalso;rcases hv with e|e
   ·have:=fU hl;rw[e]at this;have h9:=h2.cy.1.1;have:(bm:af).aj=0:=rfl;omega
   ·exact hc (h2.cy.2.trans e.symm)
  |under hp hl hc hq=>
   rcases hv with e|e
   ·exact⟨h2.cy.1,h2.cy.2,Int.le_refl _,e⟩
   ·exact absurd (e.trans h2.cy.2.symm) hc
 exact⟨⟨h2.aA,h2.aD,⟨key.1,key.2.1⟩,key.2.2.2,h2.dj,⟨h2.range.1,h2.range.2.1,Int.le_trans h2.range.2.2 key.2.2.1⟩⟩,key.2.2.1,key.2.2.2⟩
theorem Ir{m:ab}(h:aU m):aU (bZ m):=by
 have hid:m.aB=3\/aF m.aa=true->bZ m=m:=fun hc=>Qr hc
 have mk:(P0 (bZ m)\/P1 (bZ m)\/P2 (bZ m)\/P3 (bZ m))->aU (bZ m):=by
  intro hb;unfold bZ at hb ⊢;split at hb
  ·rename_i hc;rw[Qr hc];exact h
  ·rename_i hc;rw[Qs hc];exact⟨h.n0,h.n1,h.bL,h.seq,h.aZ,h.pI,h.hv,h.mw,hb⟩
 rcases h.body with h0|h1|h2|h3
 ·rw[hid (.inr (by rw[h0.aD];exact bl))];exact h
 ·exact mk (.inr (.inl (TJ h h1)))
 ·exact mk (.inr (.inr (.inl (My h h2).1)))
 ·rw[hid (.inl h3.aA)];exact h
end Go.Proofs.YtkgenianmdfmdaaGreat
namespace Go.Proofs.YtkgenianmdfmdaaGreat
open Go.TQ
end Go.Proofs.YtkgenianmdfmdaaGreat
namespace Go.Proofs.YtkgenianmdfmdaaGreat
open Go.TQ
theorem oG(q:Int->Bool):∀(r:List Int) (lo:Int),dU q r lo<=lo
 |[],lo=>Int.le_refl _
 |e::r,lo=>by
  rw[dU];split
  ·exact oG q r lo
  ·split
   ·exact Int.le_trans (oG q r e) (by omega)
   ·exact Int.le_refl _
theorem wh(q:Int->Bool):∀(r:List Int) (lo:Int),dU q r lo=lo\/q (dU q r lo)=true/\dU q r lo∈r
 |[],lo=> .inl rfl
 |e::r,lo=>by
  rw[dU];split
  ·exact(wh q r lo).imp id fun h=>⟨h.1,by simp[h.2]⟩
  ·split
   ·rename_i hq;rcases wh q r e with h|h
    ·exact .inr ⟨by rw[h];exact hq,by rw[h];simp⟩
    ·exact .inr ⟨h.1,by simp[h.2]⟩
   ·exact .inl rfl
theorem wi(q:Int->Bool)(r:List Int)(lo:Int)(h:∀x∈r,1<=x)(h1:1<=lo):1<=dU q r lo:=by
 rcases wh q r lo with e|⟨_,e⟩
 ·omega
 ·exact h _ e
section
variable {az : Nat} {t : aq} {l : List ai} (p q : af)
end
end Go.Proofs.YtkgenianmdfmdaaGreat
namespace Go.Proofs.YtkgenianmdfmdaaGreat
open Go.TQ
theorem Tq{m:ab}(h:aU m){p:ai->Bool}(hb:(dh p (bH (aK m))).testBit m.au.toNat=true):aF m.aa=false/\p (dR m)=true:=by
 rw[lP,List.any_eq_true]at hb;obtain⟨e,he,hp⟩:=hb;rw[Qm,Qi]at hp;obtain⟨h1,h2⟩:=h.TT ((List.mem_filter.1 he).1) hp.2;rw[<-h2];exact⟨h1,hp.1⟩
theorem Ld{m:ab}(h:aU m){b:af}(hc:iE m.au.toNat m.ae (aK m) b=true):aF m.aa=false/\da (dR m) b=true:=by
 have hsm:=qz (az:=m.au.toNat) h.aZ.sm h.ev.mR.1;have hg:=Gu hsm (oP (p:=(da · b)) (oe (aK m)));exact Tq h (hg.inside _ hc).1
theorem Dy{m:ab}(h1:m.aB=1){b:af}(ha:da (dR m) b=true):aF b=false/\dG m.al m.aw b=true:=by
 have e:dR m=⟨m.au,m.bw,bn (cg m).aL 1,m.ae,m.aB,m.aa,m.al,m.aw,m.aO,ez m⟩:=by unfold dR cg;rw[Qr h1]
 rw[e]at ha;unfold da at ha;rw[Qm,Qr h1]at ha;simpa using ha
theorem PA{m:ab}(h:aU m)(h1:P1 m):ib m=bm\/(bU (ib m)/\bb m.ar (ib m)=true/\dG m.al m.aw (ib m)=true):=by
 unfold ib vb;rcases KT (l:=eI (aK m)) (p:=u9 (iE m.au.toNat m.ae (aK m)) m.ar) (z:=w9)with e|⟨h2,h3⟩
 ·exact .inl e
 ·right;unfold u9 at h3;simp only[Qm,Qi]at h3;exact⟨MS (Am h h2) h3.1.2,h3.1.1,(Dy h1.aA (Ld h h3.2).2).2⟩
theorem T5{p q b:af}{v:ByteArray}{n:Int}(hok:mI p q)(hb:dG p q b=true)(hv:b.Value≠v)(ha:kI p q v n=false):b.aj<=n:=by
 unfold kI at ha;rw[Bool.or_eq_false_iff]at ha
 have key:∀x:af,aF x=false->x.Value≠v->dZ x ⟨n,v⟩=false->x.aj<=n:=by
  intro x hz hx h;unfold dZ at h;rw[hz,(fB (a:=x) (b:=⟨n,v⟩)).2 hx,Qp,Bool.and_self,Bool.true_and]at h;exact Eo h
 have hqp:aF q=false->bU q/\bU p/\bb q p=true/\q.Value≠p.Value:=fun hz=>by
  rcases hok.2 with e|⟨e1,e2,e3,e4⟩
  ·rw[e,bl]at hz;cases hz
  ·exact⟨e1,e2,e3,fB.1 e4⟩
 rw[sb]at hb;rcases hb with hb|hb|⟨hz,hl⟩
 ·obtain⟨h1,h2,h3⟩:=(iG _ _).1 hb;have:=key p h1 (by rw[h2];exact hv) ha.1
  omega
 ·obtain⟨h1,h2,h3⟩:=(iG _ _).1 hb;have:=key q h1 (by rw[h2];exact hv) ha.2
  omega
 ·obtain⟨e1,e2,e3,e4⟩:=hqp hz;have h5:=fU hl
  by_cases hqv:q.Value=v
  ·have:=key p e2.nz (by rw[<-hqv];exact fun e=>e4 e.symm) ha.1
   have:=fU e3;omega
  ·have:=key q hz hqv ha.2;omega
theorem Wp{m:ab}(h1:P1 m){b:af}(hb:bU b)(hl:bb m.ar b=true)(hp:dG m.al m.aw b=true):P1 (uI m b)/\(uI m b).al=m.al/\(uI m b).aw=m.aw/\(uI m b).ar=b/\m.aa.aj<=(uI m b).aa.aj:=by
 unfold uI;have hh:=Gn h1;split
 ·rename_i hlt
  have hhigh:∀L:Int,ez {m with ar:=b,aa:=b,aO:=L}=b.aj:=by
   intro L;unfold ez;rw[Qr];rw[hb.nz,fj.2 rfl];rfl
  refine⟨⟨h1.aA,hb,h1.cy,h1.bB,.inr ⟨hb,hp⟩,Pv b,h1.bM,?_⟩,rfl,rfl,rfl,fU hlt⟩;show(if bs m.aa b=true then m.aO else 0)=0\/(1<=(if bs m.aa b=true then m.aO else 0)/\(if bs m.aa b=true then m.aO else 0)<=ez {m with ar:=b,aa:=b,aO:=if bs m.aa b=true then m.aO else 0}/\kI m.al m.aw b.Value (if bs m.aa b=true then m.aO else 0)=false)
  rw[hhigh];split
  ·rename_i hc;rw[fj]at hc;rcases h1.low with e|⟨h2,h3,h4⟩
   ·exact .inl e
   ·refine .inr ⟨h2,?_,by rw[<-hc];exact h4⟩
    have:=fU hlt;omega
  ·exact .inl rfl
 ·rename_i hlt;have hlt:bb m.aa b=false:=by simpa using hlt
  refine⟨⟨h1.aA,h1.aD,h1.cy,h1.bB,.inr ⟨hb,hp⟩,hlt,h1.bM,?_⟩,rfl,rfl,rfl,Int.le_refl _⟩;rcases h1.low with e|⟨h2,h3,h4⟩
  ·exact .inl e
  ·refine .inr ⟨h2,?_,h4⟩;show m.aO<=ez {m with ar:=b}
   have hv:b.Value=m.aa.Value:=by
    refine Classical.byContradiction fun hv=> ?_
    have h5:=T5 h1.fp hp hv h4;have h6:=fU hl;rcases hh.2.2 with e|⟨e1,e2,e3⟩
    ·omega
    ·
     have e4:bb b m.ar=false:=wY.asymm hl;have e5:=hl;rw[ow]at e5;have hbc:b.aj=m.ar.aj:=by omega
     have hlow:m.aO=m.ar.aj:=by omega
     have e6:bb ⟨m.aO,m.aa.Value⟩ b=true:=by
      have:(⟨m.aO,m.aa.Value⟩:af)=m.ar:=by rw[hlow,<-e2]
      rw[this];exact hl
     unfold kI at h4;rw[Bool.or_eq_false_iff]at h4
     have key:∀x:af,aF x=false->x.Value≠m.aa.Value->dZ x ⟨m.aO,m.aa.Value⟩=false->bb ⟨m.aO,m.aa.Value⟩ x=false:=by
      intro x hz hx h;unfold dZ at h;rw[hz,(fB (a:=x) (b:=⟨m.aO,m.aa.Value⟩)).2 hx,Qp,Bool.and_self,Bool.true_and]at h;exact h
     rw[sb]at hp;rcases hp with hp|hp|⟨hz,hq⟩
     ·obtain⟨g1,g2,g3⟩:=(iG _ _).1 hp;have g4:=key _ g1 (by rw[g2];exact hv) h4.1
      have g5:bb ⟨m.aO,m.aa.Value⟩ m.al=true:=by
       by_cases e:b=m.al
       ·rw[<-e];exact e6
       ·exact jj e6 (BJ (B3 hp) (fun e'=>e e'.symm))
      rw[g5]at g4;cases g4
     ·obtain⟨g1,g2,g3⟩:=(iG _ _).1 hp;have g4:=key _ g1 (by rw[g2];exact hv) h4.2
      have g5:bb ⟨m.aO,m.aa.Value⟩ m.aw=true:=by
       by_cases e:b=m.aw
       ·rw[<-e];exact e6
       ·exact jj e6 (BJ (B3 hp) (fun e'=>e e'.symm))
      rw[g5]at g4;cases g4
     ·rcases h1.bB with e|⟨f1,f2,f3,f4⟩
      ·rw[e,bl]at hz;cases hz
      ·by_cases hqv:m.aw.Value=m.aa.Value
       ·have g4:=key _ f2.nz (by rw[<-hqv];exact fun e=>(fB.1 f4) e.symm) h4.1
        rw[jj e6 (jj hq f3)]at g4;cases g4
       ·have g4:=key _ hz hqv h4.2;rw[jj e6 hq]at g4;cases g4
   have hhigh:ez {m with ar:=b}=b.aj:=by
    unfold ez;rw[Qr];show(!aF b&&bs b m.aa)=true;rw[hb.nz,fj.2 hv];rfl
   rw[hhigh];rcases hh.2.2 with e|⟨e1,e2,e3⟩
   ·omega
   ·have:=fU hl;omega
theorem Tt{m:ab}(h1:P1 m){b:af}(hb:bU b)(hc:m.ar=b):P1 (mj m b):=by
 unfold mj;split
 ·rename_i hv;obtain⟨hL,hcp,hle⟩:=hv;rw[fj]at hcp;refine⟨h1.aA,h1.aD,h1.cy,h1.bB,h1.dj,h1.up,h1.bM,?_⟩;obtain⟨h2,h3,h4⟩:=MI (v:=b.Value) (n:=m.aa.aj) h1.fp.valid.1 h1.fp.valid.2;refine .inr ⟨h3,?_,by show kI m.al m.aw m.aa.Value _=false;rw[hcp];exact h4⟩
  show ka b.Value m.aa.aj m.al m.aw<=ez {m with aO:=ka b.Value m.aa.aj m.al m.aw}
  have hhigh:ez {m with aO:=ka b.Value m.aa.aj m.al m.aw}=b.aj:=by
   unfold ez;rw[Qr]
   ·show m.ar.aj=_;rw[hc]
   ·show(!aF m.ar&&bs m.ar m.aa)=true;rw[hc,hb.nz,fj.2 hcp.symm];rfl
  rw[hhigh];exact hle
 ·exact h1
theorem Nj(m:ab)(b:af):(mj m b).al=m.al/\(mj m b).aw=m.aw/\(mj m b).ar=m.ar/\(mj m b).aa=m.aa:=by
 unfold mj;split<;>exact⟨rfl,rfl,rfl,rfl⟩
theorem lQ{m:ab}(h:m.aB≠1\/aF m.aa=true\/aF (ib m)=true):gg m=m:=Qr h
theorem xd{m m':ab}(h:aU m)(he:m'.au=m.au/\m'.bw=m.bw/\m'.aL=m.aL/\m'.ae=m.ae/\m'.bj=m.bj/\m'.aC=m.aC)(hb:P0 m'\/P1 m'\/P2 m'\/P3 m'):aU m':=by
 obtain⟨e1,e2,e3,e4,e5,e6⟩:=he;exact⟨by rw[e1];exact h.n0,by rw[e1];exact h.n1,by rw[e2];exact h.bL,by rw[e3];exact h.seq,by rw[e4];exact h.aZ,by rw[e5];exact h.pI,by rw[e6,e1,e2];exact h.hv,by rw[e6];exact h.mw,hb⟩
structure ff (m m':ab):Prop where
 az:m'.au=m.au
 bL:m'.bw=m.bw
 seq:m'.aL=m.aL
 aZ:m'.ae=m.ae
 pI:m'.bj=m.bj
 heard:m'.aC=m.aC
theorem ff.refl(m:ab):ff m m:=⟨rfl,rfl,rfl,rfl,rfl,rfl⟩
theorem ff.all{m m':ab}(h:ff m m'):m'.au=m.au/\m'.bw=m.bw/\m'.aL=m.aL/\m'.ae=m.ae/\m'.bj=m.bj/\m'.aC=m.aC:=⟨h.az,h.bL,h.seq,h.aZ,h.pI,h.heard⟩
theorem rj(m:ab):ff m (bZ m):=by unfold bZ;split<;>exact⟨rfl,rfl,rfl,rfl,rfl,rfl⟩
theorem Uf(m:ab)(b:af):ff m (uI m b):=by unfold uI;split<;>exact⟨rfl,rfl,rfl,rfl,rfl,rfl⟩
theorem OQ(m:ab)(b:af):ff m (mj m b):=by unfold mj;split<;>exact⟨rfl,rfl,rfl,rfl,rfl,rfl⟩
theorem oi(m:ab):ff m (gg m):=by
 unfold gg;split
 ·exact .refl m
 ·have h1:=OQ (uI m (ib m)) (ib m);have h2:=Uf m (ib m);exact⟨h1.az.trans h2.az,h1.bL.trans h2.bL,h1.seq.trans h2.seq,h1.aZ.trans h2.aZ,h1.pI.trans h2.pI,h1.heard.trans h2.heard⟩
theorem mS(m:ab):ff m (dq m):=by
 unfold dq xQ sE;split
 ·split<;>exact⟨rfl,rfl,rfl,rfl,rfl,rfl⟩
 ·split<;>exact⟨rfl,rfl,rfl,rfl,rfl,rfl⟩
theorem rl(m:ab):ff m (gX m):=by unfold gX zT;split<;>exact⟨rfl,rfl,rfl,rfl,rfl,rfl⟩
theorem w6(m:ab):ff m (eu m):=by unfold eu;split<;>exact⟨rfl,rfl,rfl,rfl,rfl,rfl⟩
theorem Cz{m:ab}(h:aU m)(h1:P1 m):P1 (gg m)/\(gg m=m\/((gg m).al=m.al/\(gg m).aw=m.aw/\bb m.ar (gg m).ar=true/\m.aa.aj<=(gg m).aa.aj)):=by
 unfold gg;split
 ·exact⟨h1,.inl rfl⟩
 ·rename_i hc;rcases PA h h1 with e|⟨hf,hl,hp⟩
  ·exact absurd (.inr (.inr (by rw[e];exact bl))) hc
  ·obtain⟨g1,g2,g3,g4,g5⟩:=Wp h1 hf hl hp;obtain⟨v1,v2,v3,v4⟩:=Nj (uI m (ib m)) (ib m);exact⟨Tt g1 hf g4,.inr ⟨v1.trans g2,v2.trans g3,by rw[v3,g4];exact hl,by rw[v4];exact g5⟩⟩
theorem Ip{m:ab}(h:aU m):aU (gg m):=by
 rcases h.body with h0|h1|h2|h3
 ·rw[lQ (.inr (.inl (by rw[h0.aD];exact bl)))];exact h
 ·exact xd h (oi m).all (.inr (.inl (Cz h h1).1))
 ·rw[lQ (.inl (by rw[h2.aA];decide))];exact h
 ·rw[lQ (.inl (by rw[h3.aA];decide))];exact h
theorem tq{m:ab}(h:aU m)(v:ByteArray):∀x∈bK (aK m) v,1<=x/\x<=1000:=I1 h.ev.mR.1 h.ev.mR.2 v
theorem Rn{m:ab}(h:aU m):∀v∈fA (aK m),1<=v.size/\v.size<=200:=by
 intro v hv;obtain⟨e,he,h1,h2⟩:=((mT h.ev.mR.1.aZ h.ev.mR.2).2.2.2 v).1 hv;rw[h2];exact Dq h1
theorem Oy{m:ab}(h:aU m){x:ByteArray->Int->Int->Bool}{p q:af}:(ft x (aK m) p q).1=false\/(bU (ft x (aK m) p q).2/\(ft x (aK m) p q).2.Value∈fA (aK m)/\(ft x (aK m) p q).2.aj∈bK (aK m) (ft x (aK m) p q).2.Value/\
  kI p q (ft x (aK m) p q).2.Value (ft x (aK m) p q).2.aj=false/\x (ft x (aK m) p q).2.Value (ft x (aK m) p q).2.aj (ft x (aK m) p q).2.aj=true):=by
 let G:Bool×af->Prop:=fun s=>s.1=false\/(bU s.2/\s.2.Value∈fA (aK m)/\s.2.aj∈bK (aK m) s.2.Value/\kI p q s.2.Value s.2.aj=false/\x s.2.Value s.2.aj s.2.aj=true)
 have inner:∀(v:ByteArray),v∈fA (aK m)->∀(b:List Int),(∀n∈b,n∈bK (aK m) v)->∀s,G s->G (b.foldl (eE x p q v) s):=by
  intro v hv b
  induction b with
  |nil=>intro _ s hs;exact hs
  |cons n b ih=>
   intro hb s hs;rw[QU];refine ih (fun k hk=>hb k (Qy _ hk)) _ ?_
   unfold eE;split
   ·rename_i hc;simp only[Qm,Bool.not_eq_true']at hc;have hn:=hb n Qx;have h1:=tq h v n hn;have h2:=Rn h v hv;exact .inr ⟨⟨h1.1,h1.2,h2.1,h2.2⟩,hv,hn,hc.1.2,hc.2⟩
   ·exact hs
 have outer:∀(vs:List ByteArray),(∀v∈vs,v∈fA (aK m))->∀s,G s->G (vs.foldl (fun s v=>(bK (aK m) v).foldl (eE x p q v) s) s):=by
  intro vs
  induction vs with
  |nil=>intro _ s hs;exact hs
  |cons v vs ih=>
   intro hv s hs;rw[QU];exact ih (fun u hu=>hv u (Qy _ hu)) _ (inner v (hv v Qx) _ (fun n hn=>hn) s hs)
 exact outer _ (fun v hv=>hv) (false,⟨0,fV⟩) (.inl rfl)
structure WU (m:ab) (v:ByteArray) (lo hi:Int):Prop where
 fin:bU ⟨hi,v⟩
 Pr:1<=lo
 le:lo<=hi
 val:v∈fA (aK m)
 top:dL m v hi hi=true
 all:dL m v lo hi=true
theorem yE{m:ab}(h:aU m)(hk:(dx m).2.2.2.1=true):WU m (dx m).1 (dx m).2.1 (dx m).2.2.1:=by
 rcases Oy (x:=dL m) (p:=m.al) (q:=m.aw) h with e|⟨h1,h2,h3,h4,h5⟩
 ·unfold dx nv at hk;rw[e]at hk;cases hk
 ·have hb:(ft (dL m) (aK m) m.al m.aw).1=true:=by
   unfold dx nv at hk;split at hk
   ·assumption
   ·cases hk
  have e:dx m=((ft (dL m) (aK m) m.al m.aw).2.Value,dU (fun n=> !kI m.al m.aw (ft (dL m) (aK m) m.al m.aw).2.Value n&&dL m (ft (dL m) (aK m) m.al m.aw).2.Value n (ft (dL m) (aK m) m.al m.aw).2.aj) (bK (aK m) (ft (dL m) (aK m) m.al m.aw).2.Value).reverse (ft (dL m) (aK m) m.al m.aw).2.aj,(ft (dL m) (aK m) m.al m.aw).2.aj,true,()):=by
   unfold dx nv;rw[Qr hb]
  rw[e];refine⟨h1,wi _ _ _ (fun x hx=>(tq h _ x (List.mem_reverse.1 hx)).1) h1.1,oG _ _ _,h2,h5,?_⟩
  simp only;rcases wh (fun n=> !kI m.al m.aw (ft (dL m) (aK m) m.al m.aw).2.Value n&&dL m (ft (dL m) (aK m) m.al m.aw).2.Value n (ft (dL m) (aK m) m.al m.aw).2.aj) (bK (aK m) (ft (dL m) (aK m) m.al m.aw).2.Value).reverse (ft (dL m) (aK m) m.al m.aw).2.aj with e|⟨e,_⟩
  ·rw[e];exact h5
  ·rw[Qm]at e;exact e.2
theorem B4{m:ab}(hb0:m.aa=bm\/bU m.aa)(hp0:m.al=bm\/bU m.al){v:ByteArray}{lo hi:Int}(hf:bU ⟨hi,v⟩)(hlo:1<=lo)(hle:lo<=hi):P2 (xQ m v lo hi):=by
 unfold xQ
 have hmax:bU ⟨bn m.aa.aj hi,v⟩:=by
  rcases hb0 with e|h2
  ·have:bn m.aa.aj hi=hi:=by
    have h3:=hf.1;simp only at h3;have h4:m.aa.aj=0:=by rw[e];rfl
    unfold bn;split<;>omega
   rw[this];exact hf
  ·have:bn m.aa.aj hi=m.aa.aj\/bn m.aa.aj hi=hi:=by unfold bn;split<;>simp
   rcases this with e|e<;>rw[e]
   ·exact⟨h2.1,h2.2.1,hf.2.2⟩
   ·exact hf
 have hbv:∀b:af,b=(if(!bs m.aa ⟨hi,v⟩||bb m.aa ⟨hi,v⟩)=true then⟨bn m.aa.aj hi,v⟩else m.aa)->bU b/\b.Value=v:=by
  intro b hb;split at hb
  ·rw[hb];exact⟨hmax,rfl⟩
  ·rename_i hc;rw[hb];simp only[Qn,Bool.not_eq_true',not_or,Bool.not_eq_false]at hc;refine⟨hb0.resolve_left (fun e=> ?_),fj.1 hc.1⟩
   have:=fj.1 hc.1;rw[e]at this;exact hf.ne this.symm
 obtain⟨b1,b2⟩:=hbv _ rfl
 have hpv:∀p:af,p=(if ir m.al ⟨hi,v⟩=true then m.al else⟨hi,v⟩)->bU p/\p.Value=v/\hi<=p.aj:=by
  intro p hp;split at hp
  ·rename_i hc;rw[hp];obtain⟨g1,g2,g3⟩:=(iG _ _).1 hc;refine⟨?_,g2,g3⟩;rcases hp0 with e|e
   ·rw[e,bl]at g1;cases g1
   ·exact e
  ·rw[hp];exact⟨hf,rfl,Int.le_refl _⟩
 obtain⟨p1,p2,p3⟩:=hpv _ rfl;exact⟨rfl,b1,⟨p1,p2.trans b2.symm⟩,rfl,.inr ⟨hf,b2.symm⟩,⟨hlo,hle,p3⟩⟩
theorem KW{m:ab}(h:aU m)(h2:P2 m):1<=(c9 m).1/\(c9 m).1<=(c9 m).2/\(c9 m).2<=1000/\(((c9 m).2=m.aX/\(c9 m).1<=m.aO)\/m.aX<(c9 m).2):=by
 have hr:=h2.range;have hH:m.aX<=1000:=by have:=h2.cy.1.2.1;omega
 have hb:∀x∈(bK (aK m) m.aa.Value).reverse,1<=x:=fun x hx=>(tq h _ x (List.mem_reverse.1 hx)).1
 unfold c9 EN;split
 ·refine⟨wi _ _ _ hb hr.1,?_,hH,.inl ⟨rfl,oG _ _ _⟩⟩;exact Int.le_trans (oG _ _ _) hr.2.1
 ·rename_i n hn;have hnb:=tq h _ n (List.mem_reverse.1 (List.mem_of_find?_eq_some hn));have hnp:=List.find?_some hn;simp only[Qm,Qi]at hnp;have h5:1<=dU (fun x=>dL m m.aa.Value x n) (bK (aK m) m.aa.Value).reverse n:=wi _ _ _ hb hnb.1
  have h6:=oG (fun x=>dL m m.aa.Value x n) (bK (aK m) m.aa.Value).reverse n
  simp only;refine⟨wi _ _ _ hb ?_,?_,hnb.2,.inr hnp.1⟩
  ·split
   ·exact h5
   ·exact hr.1
  ·refine Int.le_trans (oG _ _ _) ?_;split
   ·exact h6
   ·omega
theorem Ob{m:ab}(h2:P2 m){lo hi:Int}(hlo:1<=lo)(hle:lo<=hi)(hhi:hi<=1000):P2 (sE m lo hi):=by
 unfold sE;have hb:=h2.aD;have hp:=h2.cy;have e1:∀c:Int,bn c hi=c\/bn c hi=hi:=fun c=>by unfold bn;split<;>simp
 have e2:∀c:Int,hi<=bn c hi:=fun c=>by unfold bn;split<;>omega
 have mx:∀c:Int,c<=1000->bU ⟨bn c hi,m.aa.Value⟩:=by
  intro c hc;refine⟨by have:=e2 c;simp only;omega,?_,hb.2.2.1,hb.2.2.2⟩
  rcases e1 c with e|e<;>simp only[e]<;>omega
 refine⟨h2.aA,mx _ hb.2.1,⟨?_,?_⟩,h2.bB,.inr ⟨mx _ ?_,rfl⟩,⟨hlo,hle,e2 _⟩⟩
 ·show bU ⟨bn m.al.aj hi,m.al.Value⟩;rw[hp.2];exact mx _ hp.1.2.1
 ·exact hp.2
 ·rcases h2.dj with e|e
  ·rw[e];decide
  ·exact e.1.2.1
theorem Iy{m:ab}(h:aU m):aU (dq m):=by
 refine xd h (mS m).all ?_;unfold dq;rcases h.body with h0|h1|h2|h3
 ·rw[Qr h0.aA];split
  ·rename_i hk;have hf:=yE h hk;exact .inr (.inr (.inl (B4 (.inl h0.aD) (.inl h0.cy) hf.fin hf.Pr hf.le)))
  ·exact .inl h0
 ·rw[Qr h1.aA];split
  ·rename_i hk;have hf:=yE h hk;exact .inr (.inr (.inl (B4 (.inr h1.aD) h1.cy hf.fin hf.Pr hf.le)))
  ·exact .inr (.inl h1)
 ·rw[Qs (by rw[h2.aA];decide),Qr h2.aA]
  have:=KW h h2;exact .inr (.inr (.inl (Ob h2 this.1 this.2.1 this.2.2.1)))
 ·rw[Qs (by rw[h3.aA];decide),Qs (by rw[h3.aA];decide)]
  exact .inr (.inr (.inr h3))
theorem VB{m:ab}(h:aU m)(hk:(iQ m).2.2.1=true):1<=(iQ m).1/\(iQ m).1<=(iQ m).2.1/\(iQ m).2.1<=1000/\wW m m.aa.Value (iQ m).1 (iQ m).2.1=true:=by
 unfold iQ sC at hk ⊢;split at hk
 ·rename_i n hn;have hnb:=tq h _ n (List.mem_reverse.1 (List.mem_of_find?_eq_some hn));have hs:=List.find?_some hn;simp only;refine⟨wi _ _ _ (fun x hx=>(tq h _ x (List.mem_reverse.1 hx)).1) hnb.1,oG _ _ _,hnb.2,?_⟩
  rcases wh (fun x=>wW m m.aa.Value x n) (bK (aK m) m.aa.Value).reverse n with e|⟨e,_⟩
  ·rw[e];exact hs
  ·exact e
 ·cases hk
theorem MA{m:ab}(h:aU m)(h2:P2 m)(hk:(iQ m).2.2.1=true):P3 (zT m (iQ m).1 (iQ m).2.1):=by
 obtain⟨g1,g2,g3,_⟩:=VB h hk;unfold zT;exact⟨rfl,⟨by simp only;omega,g3,h2.aD.2.2.1,h2.aD.2.2.2⟩,rfl,rfl,rfl,⟨g1,g2,g3⟩⟩
theorem Iw{m:ab}(h:aU m):aU (gX m):=by
 refine xd h (rl m).all ?_;unfold gX;split
 ·rename_i hc;rcases h.body with h0|h1|h2|h3
  ·have:=h0.aA;have:=hc.1;omega
  ·have:=h1.aA;have:=hc.1;omega
  ·exact .inr (.inr (.inr (MA h h2 hc.2)))
  ·have:=h3.aA;have:=hc.1;omega
 ·exact h.body
theorem N2{z:af}:∀{l:List af},l≠[]->Gt z l∈l
 |[],h=>absurd rfl h
 |x::l,_=>by
  show l.foldl (fun a y=>if bb a y=true then y else a) x∈x::l
  suffices key:∀(l:List af) (a:af),l.foldl (fun a y=>if bb a y=true then y else a) a=a\/l.foldl (fun a y=>if bb a y=true then y else a) a∈l by
   rcases key l x with e|e
   ·rw[e];exact Qx
   ·exact Qy _ e
  intro l
  induction l with
  |nil=>intro a;exact .inl rfl
  |cons y l ih=>
   intro a;rw[QU];rcases ih (if bb a y=true then y else a)with e|e
   ·rw[e];split
    ·exact .inr Qx
    ·exact .inl rfl
   ·exact .inr (Qy _ e)
theorem TC{t:aq}(h:iV t){s:Nat}(hs:∀k,k<10->s.testBit k=true):jL s t=true:=by
 have hn:∀x:Int,0<=x->x<10->fT s x=true:=by
  intro x h0 h1;unfold fT eB;rw[Qg h0,Qg h1,hs _ (by omega)]
  rfl
 have hc:t.bu.countP (fT s)=t.bu.length:=List.countP_eq_length.2 fun x hx=>hn x (h.nodes x hx).1 (h.nodes x hx).2
 have hi:qB s t.aS=t.aS.length:=by
  rcases h.inner with e|⟨x,h0,h1,e⟩
  ·rw[e];rfl
  ·rw[e]
   have:jL s ⟨1,[x],[]⟩=true:=by
    rw[Cq];simp[List.countP_cons,hn x h0 h1,qB]
   simp[qB,this]
 rw[Cq,hc,hi,Qi];have:=h.th.2;omega
theorem GS{m:ab}(h:aU m){n:Int}(ha:gu m n=true):∃e∈m.aC,n<eY e:=by
 refine Classical.byContradiction fun hno=> ?_
 have hz:yM m n=0:=by
  refine yq fun k=> ?_
  unfold yM;rw[lP,Nat.zero_testBit,List.any_eq_false];intro e he;have:¬n<eY e:=fun hlt=>hno ⟨e,he,hlt⟩
  simp[this]
 unfold gu tr at ha;rw[hz,Qm]at ha
 have hown:kl (fg m.au.toNat m.ae (aK m)) m.au.toNat=m.ae:=by
  unfold kl;rw[AO h.ev.az.2 m.ae (aK m) h.ev.az.2,Qr rfl];rfl
 rw[hown,TC h.aZ (fun k hk=>by rw[sf (by omega)];simp[hk])]at ha
 cases ha.2
theorem Mm{m:ab}(h:aU m)(h1:m.aB=1)(hc:m.ar=bm\/bU m.ar)(hh:m.aC≠[]\/m.bj≠fV\/m.ar≠bm):1<=(c6 m).size/\(c6 m).size<=200:=by
 unfold c6;split
 ·rename_i hz;rcases hc with e|e
  ·rw[e,bl]at hz;cases hz
  ·exact e.2.2
 ·rename_i hz;have hz:aF m.ar=true:=by simpa using hz
  rw[Qs (fun h=>h h1)]
  split
  ·rename_i hp;refine⟨?_,h.pI⟩;rcases Nat.eq_zero_or_pos m.bj.size with e|e
   ·exfalso;apply hp;have:m.bj.data=#[]:=Array.eq_empty_of_size_eq_zero e
    cases hm:m.bj with
    |mk d=>rw[hm]at this;simp only at this;rw[this];rfl
   ·exact e
  ·rename_i hp
   have hne:m.aC≠[]:=by
    rcases hh with e|e|e
    ·exact e
    ·exact absurd e hp
    ·exact absurd (ll.1 hz) e
   have hm:=N2 (z:=bm) (l:=m.aC.map (·.aa)) (by simpa using hne)
   obtain⟨e,he,heq⟩:=QP.1 hm;rw[<-heq];exact Dq (h.hv e he).1
theorem PS{e:ai}(hv:a8 e=true):1<=eY e/\(eY e<=1000\/eY e=1000000):=by
 unfold eY;split
 ·exact⟨by decide,.inr rfl⟩
 ·rename_i h3;have hv':=hv;unfold a8 ln at hv';rw[Qm,Qm]at hv';have hb:=hv'.2
  have gof:∀{b:af},finite b=true->1<=b.aj/\b.aj<=1000:=by
   intro b hb;unfold finite at hb;rw[Qm,Qi]at hb;have:=(MS hb.1 hb.2);exact⟨this.1,this.2.1⟩
  by_cases h1:e.bS=1
  ·rw[Qr h1]at hb;unfold fp at hb;simp only[Qm]at hb;have:=gof hb.1.1.1.1.1.1.1.1;exact⟨this.1,.inl this.2⟩
  ·rw[Qs h1]at hb
   by_cases h2:e.bS=2
   ·rw[Qr h2]at hb;unfold wo at hb;simp only[Qm]at hb;have:=gof hb.1.1.1.1.1;exact⟨this.1,.inl this.2⟩
   ·rw[Qs h2,Qs h3]at hb;cases hb
theorem P4(m:ab):eU m=1000000\/(m.aa.aj<eU m/\eU m<1000000/\gu m (eU m)=false/\∃e∈m.aC,eU m=eY e):=by
 unfold eU
 suffices key:∀(l:List ai),(∀e∈l,e∈m.aC)->∀s,(s=1000000\/(m.aa.aj<s/\s<1000000/\gu m s=false/\∃e∈m.aC,s=eY e))->
   (l.foldl (jC m) s=1000000\/(m.aa.aj<l.foldl (jC m) s/\l.foldl (jC m) s<1000000/\gu m (l.foldl (jC m) s)=false/\∃e∈m.aC,l.foldl (jC m) s=eY e))from key _ (fun e he=>he) _ (.inl rfl)
 intro l
 induction l with
 |nil=>intro _ s hs;exact hs
 |cons x l ih=>
  intro hm s hs;rw[QU];refine ih (fun e he=>hm e (Qy _ he)) _ ?_
  unfold jC;split
  ·rename_i hc;exact .inr ⟨hc.1,by rcases hs with e|e<;>omega,hc.2.2,x,hm x Qx,rfl⟩
  ·exact hs
theorem B6{m:ab}(h:aU m)(hb:0<=m.aa.aj/\m.aa.aj<=1000):m.aa.aj<=bn m.aa.aj (dD (eU m) 1000)/\bn m.aa.aj (dD (eU m) 1000)<=1000/\1<=bn m.aa.aj (dD (eU m) 1000)/\
  (bn m.aa.aj (dD (eU m) 1000)=m.aa.aj->m.aa.aj=1000)/\bn m.aa.aj (dD (eU m) 1000)=dD (eU m) 1000:=by
 have hmin:dD (eU m) 1000<=1000/\1<=dD (eU m) 1000/\(m.aa.aj<dD (eU m) 1000\/dD (eU m) 1000=1000):=by
  rcases P4 m with e|⟨g1,g2,_,x,hx,g4⟩
  ·rw[e];exact⟨by decide,by decide,.inr (by decide)⟩
  ·have hc:=PS (h.hv x hx).1;rw[<-g4]at hc;have:eU m<=1000:=by omega
   have e:dD (eU m) 1000=eU m:=by unfold dD;split<;>omega
   rw[e];omega
 unfold bn;split<;>omega
theorem Hu{m:ab}(h:aU m)(h1:P0 m\/P1 m)(ha:gu m m.aa.aj=true):P1 (eu m):=by
 have hph:m.aB=1:=by rcases h1 with h|h<;>exact h.aA
 have hbc:0<=m.aa.aj/\m.aa.aj<=1000:=by
  rcases h1 with h|h
  ·rw[h.aD];decide
  ·have:=h.aD;exact⟨by have:=this.1;omega,this.2.1⟩
 obtain⟨c1,c2,c3,_⟩:=B6 h hbc;obtain⟨e0,he0,_⟩:=GS h ha
 have hconf:m.ar=bm\/bU m.ar:=by
  rcases h1 with h|h
  ·exact .inl h.dj
  ·exact h.dj.imp id (·.1)
 have hv:=Mm h hph hconf (.inl (List.ne_nil_of_mem he0));unfold eu;rw[Qs (by rw[hph,ha];decide)]
 have hnv:j5 m=c6 m:=Qr hph;rw[hnv];generalize hn:bn m.aa.aj (dD (eU m) 1000)=n at c1 c2 c3 ⊢
 have hpo:mI m.al m.aw:=by
  rcases h1 with h|h
  ·exact⟨.inl h.cy,.inl h.bB⟩
  ·exact h.fp
 refine⟨hph,⟨c3,c2,hv.1,hv.2⟩,hpo.1,hpo.2,?_,?_,?_,?_⟩
 ·rcases h1 with h|h
  ·exact .inl h.dj
  ·exact h.dj
 ·show bb ⟨n,c6 m⟩ m.ar=false;rcases hconf with e|e
  ·rw[e]
   cases hl:bb ⟨n,c6 m⟩ bm with
   |false=>rfl
   |true=>have:=fU hl;have h0:(bm:af).aj=0:=rfl;simp only at this;omega
  ·have hvc:c6 m=m.ar.Value:=by unfold c6;rw[Qr e.nz]
   rw[zz (show(⟨n,c6 m⟩:af).Value=m.ar.Value from hvc),Qj]
   rcases h1 with h|h
   ·exact absurd h.dj (na e)
   ·have:=Eo h.up;simp only;omega
 ·rcases h1 with h|h<;>exact h.bM
 ·show(if c6 m=m.aa.Value then m.aO else 0)=0\/(1<=(if c6 m=m.aa.Value then m.aO else 0)/\_<=_/\kI m.al m.aw (c6 m) (if c6 m=m.aa.Value then m.aO else 0)=false)
  split
  ·rename_i hve;rcases h1 with h|h
   ·exact .inl h.low
   ·rcases h.low with e|⟨g1,g2,g3⟩
    ·exact .inl e
    ·refine .inr ⟨g1,?_,by rw[hve];exact g3⟩
     have:ez {m with aO:=m.aO,aa:=⟨n,c6 m⟩}=ez m:=by
      unfold ez bs;simp only[hve]
     show m.aO<=ez {m with aO:=m.aO,aa:=⟨n,c6 m⟩}
     rw[this];exact g2
  ·exact .inl rfl
theorem Mz{m:ab}(h:aU m)(h2:P2 m):P2 (eu m):=by
 unfold eu;split
 ·exact h2
 ·obtain⟨c1,c2,c3,_⟩:=B6 h ⟨by have:=h2.aD.1;omega,h2.aD.2.1⟩
  have hnv:j5 m=m.aa.Value:=Qs (by rw[h2.aA];decide)
  rw[hnv,Qr rfl];exact⟨h2.aA,⟨c3,c2,h2.aD.2.2⟩,h2.cy,h2.bB,h2.dj,h2.range⟩
theorem Iu{m:ab}(h:aU m):aU (eu m):=by
 have hid:m.aB=3\/gu m m.aa.aj=false->eu m=m:=fun hc=>Qr hc
 cases ha:gu m m.aa.aj with
 |false=>rw[hid (.inr ha)];exact h
 |true=>
  refine xd h (w6 m).all ?_;rcases h.body with h0|h1|h2|h3
  ·exact .inr (.inl (Hu h (.inl h0) ha))
  ·exact .inr (.inl (Hu h (.inr h1) ha))
  ·exact .inr (.inr (.inl (Mz h h2)))
  ·rw[hid (.inl h3.aA)];exact .inr (.inr (.inr h3))
end Go.Proofs.YtkgenianmdfmdaaGreat
end
