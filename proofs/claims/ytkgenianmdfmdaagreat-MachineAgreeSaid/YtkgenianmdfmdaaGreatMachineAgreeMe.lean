/-
  Texts made small by a program (see NOTES). Conditions: those that each theorem names.
-/
import Derived.Test.YtkgenianmdfmdaaGreatMachineAgreeMd
set_option linter.unusedVariables false
set_option linter.unusedSimpArgs false
set_option linter.unusedSectionVars false
set_option maxHeartbeats 2000000
noncomputable section
namespace Go.TQ
@[simp] theorem bB {σ ρ:Type} (j:σ->Option ρ) (f:(σ->Option ρ)->Option ρ):bL j f=f j:=rfl
@[simp] theorem mZ {α:Type} (b:Bool) (x y:α):(bif b then some x else some y)=some (bif b then x else y):=by cases b<;>rfl
@[simp] theorem XZ {α:Type} (b:Bool) (x:α):(bif b then x else x)=x:=by cases b<;>rfl
theorem HY{α:Type}(p:Prop)[Decidable p](x y:α):(bif decide p then x else y)=if p then x else y:=by
 by_cases h:p<;>simp[h]
theorem EJ{α:Type}(p:Prop)[Decidable p](x y:α):(if p then some x else some y)=some (if p then x else y):=by split<;>rfl
@[simp] theorem US {α:Type} (b:Bool) (x y:α):(bif !b then x else y)=bif b then y else x:=by cases b<;>rfl
@[simp] theorem IN (a b:Int) (s t:ByteArray):kV false a b s t=(decide (a=b)&&decide (s=t)):=by simp[kV]
@[simp] theorem R7 (a b:Int) (s t:ByteArray):kV true a b s t= !(decide (a=b)&&decide (s=t)):=by simp[kV]
def Yd{α:Type}(o:Option α)(p:α->Prop):Prop:=∃x,o=some x/\p x
theorem Yd.bind{α β:Type}{o:Option α}{p:α->Prop}{f:α->Option β}{q:β->Prop}(h:Yd o p)(k:∀x,p x->Yd (f x) q):Yd (o.bind f) q:=by
 obtain⟨x,rfl,hx⟩:=h;exact k x hx
theorem Yd.mono{α:Type}{o:Option α}{p q:α->Prop}(h:Yd o p)(k:∀x,p x->q x):Yd o q:=by
 obtain⟨x,h1,hx⟩:=h;exact⟨x,h1,k x hx⟩
theorem Yd.some{α:Type}{x:α}{p:α->Prop}(h:p x):Yd (Option.some x) p:=⟨x,rfl,h⟩
theorem Yd.of_eq{α:Type}{o:Option α}{x:α}{p:α->Prop}(h:o=Option.some x)(hp:p x):Yd o p:=⟨x,h,hp⟩
theorem Yd.cond{α:Type}{b:Bool}{x y:Option α}{p:α->Prop}(h1:b=true->Yd x p)(h2:b=false->Yd y p):Yd (bif b then x else y) p:=by
 cases b
 ·exact h2 rfl
 ·exact h1 rfl
theorem Yd.map{α β:Type}{o:Option α}{f:α->β}{p:β->Prop}(h:Yd o fun x=>p (f x)):Yd (o.map f) p:=by
 obtain⟨x,rfl,hx⟩:=h;exact⟨f x,rfl,hx⟩
theorem Yd.eq_true{o:Option Bool}(h:Yd o (·=true)):o=Option.some true:=by
 obtain⟨x,h1,rfl⟩:=h;exact h1
theorem wrap64{n:Int}(h1: -9223372036854775808<=n)(h2:n<=9223372036854775807):IntKind.i64.wrap n=n:=i64_in h1 h2
theorem cj{a b:Int}(h1: -9223372036854775808<=a+b)(h2:a+b<=9223372036854775807):aJ .i64 a b=a+b:=wrap64 h1 h2
theorem Cu{a b:Int}(h1: -9223372036854775808<=a - b)(h2:a - b<=9223372036854775807):gJ .i64 a b=a - b:=wrap64 h1 h2
theorem bK{α:Type}(l:List α)(i:Nat):idx l (i:Int)=l[i]?:=by simp[idx]
theorem KI{α:Type}(l:List α){n:Int}(h:0<=n):idx l n=l[n.toNat]?:=by simp[idx,h]
@[simp] theorem VJ (n:Nat) (h:n<256):On .i64 (n:Int)=n:=wrap64 (by omega) (by omega)
@[simp] theorem er {bytes n:Nat} (h:n*bytes<=140737488355328/\n<=1000000):bW bytes n=true:=by
 simp only[bW,Qm,Qi];exact⟨h.1,QK h.2 (by simp[maxLen])⟩
theorem oq(a:Nat)(h:a<2 ^ 62):(BitVec.ofInt 64 (a:Int)).toNat=a:=by
 rw[BitVec.ofInt_natCast,BitVec.toNat_ofNat];exact Nat.mod_eq_of_lt (by omega)
theorem yT(n:Nat)(h:n<2 ^ 62):IntKind.i64.wrap (n:Int)=n:=wrap64 (by omega) (by omega)
theorem Ls(a b:Nat)(ha:a<2 ^ 62)(hb:b<2 ^ 62):E8 .i64 (a:Int) (b:Int)=((a&&&b:Nat):Int):=by
 show IntKind.i64.wrap (((BitVec.ofInt 64 (a:Int)&&&BitVec.ofInt 64 (b:Int)).toNat:Nat):Int)=_;rw[BitVec.toNat_and,oq a ha,oq b hb];exact yT _ (Nat.lt_of_le_of_lt Nat.and_le_left ha)
theorem Hw(a b:Nat)(ha:a<2 ^ 62)(hb:b<2 ^ 62):sd .i64 (a:Int) (b:Int)=((a|||b:Nat):Int):=by
 show IntKind.i64.wrap (((BitVec.ofInt 64 (a:Int)|||BitVec.ofInt 64 (b:Int)).toNat:Nat):Int)=_
 rw[BitVec.toNat_or,oq a ha,oq b hb];exact yT _ (Nat.or_lt_two_pow ha hb)
theorem UT(s k:Nat):s&&&2 ^ k=if s.testBit k then 2 ^ k else 0:=by
 refine Nat.eq_of_testBit_eq fun i=> ?_
 rw[Nat.testBit_and,Nat.testBit_two_pow]
 by_cases h:k=i
 ·subst h;cases hs:s.testBit k<;>simp
 ·cases hs:s.testBit k<;>simp[h]
theorem vA(k:Nat)(h:k<=60):jk .i64 1 (k:Int)=((2 ^ k:Nat):Int):=by
 show IntKind.i64.wrap (1*2 ^ min (k:Int).toNat 64)=_;rw[QV,show min k 64=k from Nat.min_eq_left (by omega),Int.one_mul]
 have:=yT (2 ^ k) (Nat.pow_lt_pow_right (by omega) (by omega))
 simpa using this
theorem cd{σ ρ:Type}{step:σ->Option (σ⊕ρ)}{s:σ}{r:ρ}(h:step s=some (.inr r)):aI step s=some r:=by rw[lN,h]
theorem bq{σ ρ:Type}{step:σ->Option (σ⊕ρ)}{s s':σ}(h:step s=some (.inl s')):aI step s=aI step s':=by rw[lN,h]
theorem F9{σ ρ:Type}{step:σ->Option (σ⊕ρ)}{s:σ}(h:step s=none):aI step s=none:=by rw[lN,h]
theorem Yd.loop{σ ρ:Type}{step:σ->Option (σ⊕ρ)}{s:σ}{p:ρ->Prop}(h:Yd (step s) fun y=>match y with| .inl s'=>Yd (aI step s') p| .inr r=>p r):Yd (aI step s) p:=by
 obtain⟨y,h1,h2⟩:=h
 cases y with
 |inl s'=>rw[bq h1];exact h2
 |inr r=>exact⟨r,cd h1,h2⟩
theorem Yd.inr{σ ρ:Type}{o:Option ρ}{p:σ⊕ρ->Prop}(h:Yd o fun r=>p (.inr r)):Yd (Option.map Sum.inr o) p:=h.map
def fN{α σ ρ:Type}(g:α->σ->Option (σ⊕ρ))(fin:σ->Option ρ):List α->σ->Option ρ
 |[],s=>fin s
 |x::l,s=>match g x s with
  |none=>none
  |some (.inr r)=>some r
  |some (.inl s')=>fN g fin l s'
theorem NR{α σ τ ρ:Type}(l:List α)(mk:Int->σ->τ){step:τ->Option (τ⊕ρ)}(g:α->σ->Option (σ⊕ρ))(fin:σ->Option ρ)
  (h1:∀(i:Nat) (x:α) (s:σ),i<l.length->l[i]?=some x->step (mk i s)=match g x s with|none=>none|some (.inr r)=>some (.inr r)|some (.inl s')=>some (.inl (mk (i+1:Nat) s')))
  (h2:∀s,step (mk l.length s)=(fin s).map Sum.inr) (s:σ):aI step (mk 0 s)=fN g fin l s:=by
 suffices h:∀(k:Nat) (i:Nat) (s:σ),i+k=l.length->aI step (mk i s)=fN g fin (l.drop i) s by
  have:=h l.length 0 s (by omega)
  simpa using this
 intro k
 induction k with
 |zero=>
  intro i s hi;obtain rfl:i=l.length:=by omega
  rw[List.drop_length,fN,lN,h2];cases fin s<;>rfl
 |succ k ih=>
  intro i s hi;have hlt:i<l.length:=by omega
  rw[QM hlt,fN,lN,h1 i l[i] s hlt (Qv hlt)]
  cases hg:g l[i] s with
  |none=>rfl
  |some y=>
   cases y with
   |inr r=>rfl
   |inl s'=>exact ih (i+1) s' (by omega)
theorem jf{α σ τ ρ:Type}(l:List α)(hl:l.length<=9223372036854775807)(mk:Int->σ->τ){step:τ->Option (τ⊕ρ)}(g:α->σ->Option (σ⊕ρ))(fin:σ->Option ρ)
  (h1:∀(i:Nat) (x:α) (s:σ),decide ((i:Int)<((l.length:Nat):Int))=true->idx l (i:Int)=some x->aJ .i64 (i:Int) 1=((i+1:Nat):Int)->step (mk i s)=match g x s with|none=>none|some (.inr r)=>some (.inr r)|some (.inl s')=>some (.inl (mk (i+1:Nat) s')))
  (h2:∀s,decide (((l.length:Nat):Int)<((l.length:Nat):Int))=false->step (mk l.length s)=(fin s).map Sum.inr) (s:σ):aI step (mk 0 s)=fN g fin l s:=
 NR l mk g fin (fun i x s hi hx=>h1 i x s (Qg (Int.ofNat_lt.2 hi)) (by rw[bK];exact hx) (cj (by omega) (by omega))) (fun s=>h2 s (Qh (Int.lt_irrefl _))) s
end Go.TQ
namespace Go.Proofs.YtkgenianmdfmdaaGreat
open Go.TQ
def gC:ByteArray:=⟨#[]⟩
def aD(b:af):Bool:=decide (b.aj=0)&&decide (b.Value=gC)
def mT(a b:ByteArray):Bool:=if a.size=b.size then iR a b else decide (a.size<b.size)
def a8(a b:af):Bool:=if a.aj=b.aj then mT a.Value b.Value else decide (a.aj<b.aj)
def bw(a b:af):Bool:=decide (a.Value=b.Value)
def im(p b:af):Bool:= !aD p&&bw p b&&decide (b.aj<=p.aj)
def dG(p q b:af):Bool:=im p b||im q b||(!aD q&&a8 b q)
def eE(p b:af):Bool:= !aD p&& !bw p b&&a8 b p
def cF(b:af):Bool:=(decide (1<=b.aj)&&decide (b.aj<=1000)||decide (b.aj=1000000))&&decide (1<=b.Value.size)&&decide (b.Value.size<=200)
theorem I1:∀x:List UInt8,Op.bytesLess x x=false
 |[]=>rfl
 |a::l=>by simp[Op.bytesLess,I1 l]
theorem Lo:∀{x y:List UInt8},x≠y->Op.bytesLess x y=true\/Op.bytesLess y x=true
 |[],[],h=>absurd rfl h
 |[],_::_,_=> .inl rfl
 |_::_,[],_=> .inr rfl
 |a::l,b::m,h=>by
  simp only[Op.bytesLess]
  by_cases hab:a=b
  ·subst hab;have:l≠m:=fun e=>h (by rw[e])
   simpa using Lo this
  ·rcases Nat.lt_or_gt_of_ne (fun e=>hab (UInt8.toNat_inj.1 e))with h1|h1
   ·have h2:a<b:=h1;simp[h2]
   ·have h2:b<a:=h1;simp[h2]
theorem JW(a:ByteArray):iR a a=false:=I1 _
@[simp] theorem bZ (b:af):aR b=some (aD b):=by unfold aR aD;rw[IN];rfl
@[simp] theorem dV (a b:af):bA a b=some (bw a b):=rfl
@[simp] theorem uk (b:af):eR b=some (cF b):=by
 have h1:decide ((1:Int)<=(b.Value.size:Nat))=decide (1<=b.Value.size):=by rw[decide_eq_decide];omega
 have h2:decide (((b.Value.size:Nat):Int)<=200)=decide (b.Value.size<=200):=by rw[decide_eq_decide];omega
 simp only[eR,cF,h1,h2,mZ,Qa,Bool.cond_false_right,Bool.cond_true_left]
@[simp] theorem ON (a b:af):ic a b=some (im a b):=by simp[ic,im]
def ux(a b:Int):Int:=if a<b then -1 else if b<a then 1 else 0
def Li(a b:ByteArray):Int:=if iR a b then -1 else if iR a b||decide (a=b)then 0 else 1
def S9:List Int->Int
 |[]=>0
 |x::l=>if x=0 then S9 l else x
@[simp] theorem Aj (a b:Int):gy a b=some (ux a b):=by
 simp[gy,n2,ux,HY,EJ]
@[simp] theorem LQ (a b:ByteArray):kl a b=some (Li a b):=by
 simp only[kl,lL,Li];cases h1:iR a b<;>by_cases h2:a=b<;>simp[h2]
theorem G4(l:List Int)(hl:l.length<=1000000):mI l=some (S9 l):=by
 unfold mI;rw[jf l (by omega) (fun i (_:Unit)=>(i,())) (fun x _=>some (if x=0 then .inl ()else .inr x)) (fun _=>some 0) (fun i x s hd hx hw=> ?_) (fun s hd=> ?_) ()]
 ·induction l with
  |nil=>rfl
  |cons x l ih=>
   rw[fN,S9]
   by_cases h:x=0
   ·simp only[h,Qt];exact ih (by simp at hl;omega)
   ·simp only[Qs h]
 ·by_cases h:x=0<;>simp only[hd,hx,hw,h,Qk,Qa]<;>simp
 ·simp only[hd,Ql]
@[simp] theorem SK (a b:Int):mI [a,b]=some (if a=0 then b else a):=by
 rw[G4 _ (by simp)]
 simp only[S9]
 by_cases h:a=0<;>by_cases h':b=0<;>simp[h,h']
def HT(a b:ByteArray):Int:=if ux a.size b.size=0 then Li a b else ux a.size b.size
def Ll(a b:af):Int:=if ux a.aj b.aj=0 then HT a.Value b.Value else ux a.aj b.aj
@[simp] theorem uy (a b:ByteArray):ff a b=some (HT a b):=by simp[ff,HT]
@[simp] theorem OJ (a b:af):j5 a b=some (Ll a b):=by simp[j5,Ll]
theorem xh(a b:Int):ux a b=0↔a=b:=by unfold ux;split<;>(try split)<;>omega
theorem E2(a b:Int):ux a b<0↔a<b:=by unfold ux;split<;>(try split)<;>omega
theorem Sj(a b:ByteArray):Li a b<0↔iR a b=true:=by
 unfold Li;split
 ·rename_i h;simp[h]
 ·rename_i h;split<;>simp[h]
theorem Lh(a b:ByteArray):decide (HT a b<0)=mT a b:=by
 unfold HT mT
 by_cases h:a.size=b.size
 ·rw[Qr ((xh _ _).2 (by rw[h])),Qr h]
  rw[QW,Qi,Sj]
 ·rw[Qs (fun e=>h (by have:=(xh _ _).1 e;omega)),Qs h,decide_eq_decide,E2]
  omega
theorem Lj(a b:af):decide (Ll a b<0)=a8 a b:=by
 unfold Ll a8
 by_cases h:a.aj=b.aj
 ·rw[Qr ((xh _ _).2 h),Qr h,Lh]
 ·rw[Qs (fun e=>h ((xh _ _).1 e)),Qs h,decide_eq_decide,E2]
@[simp] theorem gz (a b:af):de a b=some (a8 a b):=by simp[de,Lj]
@[simp] theorem mJ (p q b:af):fe p q b=some (dG p q b):=by simp[fe,dG]
@[simp] theorem nP (p b:af):df p b=some (eE p b):=by simp[df,eE]
def finite(b:af):Bool:=cF b&&decide (b.aj<=1000)
@[simp] theorem yR (b:af):jw b=some (finite b):=by simp[jw,finite]
@[simp] theorem wV (b:af):iL b=some (aD b||cF b):=by simp[iL]
@[simp] theorem uM (e:ai) (n:Int):kC e n=some ⟨n,e.aa.Value⟩:=rfl
end Go.Proofs.YtkgenianmdfmdaaGreat
namespace Go.Proofs.YtkgenianmdfmdaaGreat
open Go.TQ
theorem H7{rec:(aq×Unit)->Option Int}{t:aq}(hl:t.aS.length<=9223372036854775807):
  gB rec t=fN (fun u m=>(rec (u,())).map fun r=> .inl (bl m r)) (fun m=>some (aJ .i64 m 1)) t.aS 0:=by
 unfold gB;rw[jf t.aS hl (fun i (m:Int)=>(m,i,())) (fun u m=>(rec (u,())).map fun r=> .inl (bl m r)) (fun m=>some (aJ .i64 m 1)) (fun i x s hd hx hw=> ?_) (fun s hd=> ?_) 0]
 ·simp only[hd,hx,hw,Qk,Qa,aq.eta];cases rec (x,())<;>rfl
 ·simp only[hd,Ql]
theorem LP{rec:(aq×Unit)->Option Int}{t:aq}(hl:t.aS.length<=9223372036854775807):
  ig rec t=fN (fun u m=>(rec (u,())).map fun r=> .inl (aJ .i64 m r)) (fun m=>some m) t.aS (aJ .i64 t.bu.length t.aS.length):=by
 unfold ig;rw[jf t.aS hl (fun i (m:Int)=>(m,i,())) (fun u m=>(rec (u,())).map fun r=> .inl (aJ .i64 m r)) (fun m=>some m) (fun i x s hd hx hw=> ?_) (fun s hd=> ?_) (aJ .i64 t.bu.length t.aS.length)]
 ·simp only[hd,hx,hw,Qk,Qa,aq.eta];cases rec (x,())<;>rfl
 ·simp only[hd,Ql]
def eD(x:Int):Bool:=decide (0<=x)&&decide (x<10)
def we(s x:Int):Bool:=decide (0<=s)&&decide (s<1024)&&eD x&&s.toNat.testBit x.toNat
theorem HZ(s:Int):dZ s=some (decide (0<=s)&&decide (s<1024)):=by
 have:jk .i64 1 10=1024:=vA 10 (by omega)
 simp[dZ,sC,this]
theorem Lr{s x:Int}(h1:0<=s)(h2:s<1024)(h3:0<=x)(h4:x<10):(E8 .i64 s (jk .i64 1 x)=0)=(s.toNat.testBit x.toNat=false):=by
 obtain⟨n,rfl⟩:=Int.eq_ofNat_of_zero_le h1;obtain⟨j,rfl⟩:=Int.eq_ofNat_of_zero_le h3;have hj:2 ^ j<=2 ^ 10:=Nat.pow_le_pow_right (by omega) (by omega)
 rw[vA j (by omega),Ls n (2 ^ j) (by omega) (by omega),UT]
 simp only[QV];have hp:2 ^ j≠0:=Nat.pos_iff_ne_zero.1 (Nat.pow_pos (by omega))
 cases n.testBit j
 ·simp
 ·rw[Qr rfl];simp only[Bool.true_eq_false,eq_iff_iff,iff_false];omega
@[simp] theorem ni (s x:Int):gV s x=some (we s x):=by
 unfold gV we eD;rw[HZ]
 by_cases h1:0<=s
 ·by_cases h2:s<1024
  ·by_cases h3:0<=x
   ·by_cases h4:x<10
    ·have h5:¬x<0:=by omega
     have:=Lr h1 h2 h3 h4;simp[h1,h2,h3,h4,h5,this]
    ·simp[h1,h2,h3,h4]
   ·simp[h1,h2,h3]
  ·simp[h1,h2]
 ·simp[h1]
theorem CE{s:Nat}{x:Int}(h1:s<1024)(h3:0<=x)(h4:x<10):sd .i64 (s:Int) (jk .i64 1 x)=((s|||2 ^ x.toNat:Nat):Int):=by
 obtain⟨j,rfl⟩:=Int.eq_ofNat_of_zero_le h3;have hj:2 ^ j<=2 ^ 9:=Nat.pow_le_pow_right (by omega) (by omega)
 rw[vA j (by omega)]
 exact Hw s (2 ^ j) (by omega) (by omega)
theorem Jy{s:Nat}{x:Int}(h1:s<1024)(h4:x<10):s|||2 ^ x.toNat<1024:=by
 have hj:2 ^ x.toNat<=2 ^ 9:=Nat.pow_le_pow_right (by omega) (by omega)
 exact Nat.or_lt_two_pow (n:=10) h1 (by omega)
def sf(s:Nat):List Int->Int×Int×Unit
 |[]=>(s,0,())
 |x::l=>if eD x then(if s.testBit x.toNat then(0,6,())else sf (s|||2 ^ x.toNat) l)else(0,5,())
theorem ME(g:Int->Int->Option (Int⊕(Int×Int×Unit)))
  (hg:∀x (s:Nat),s<1024->g x s=some (if eD x then(if s.testBit x.toNat then .inr (0,6,())else .inl ((s|||2 ^ x.toNat:Nat):Int))else .inr (0,5,()))):
  ∀(l:List Int) (s:Nat),s<1024->fN g (fun s=>some (s,0,())) l s=some (sf s l)
 |[],s,_=>rfl
 |x::l,s,hs=>by
  rw[fN,hg x s hs,sf]
  cases h1:eD x with
  |false=>simp
  |true=>
   cases h2:s.testBit x.toNat with
   |true=>simp
   |false=>
    simp only[Qt,Qq,Qu];have h3:x<10:=by simp[eD]at h1;omega
    exact ME g hg l _ (Jy hs h3)
theorem G3(l:List Int)(hl:l.length<=9223372036854775807):sD l=some (sf 0 l):=by
 unfold sD;rw[jf l hl (fun i (s:Int)=>(s,i,())) (fun x s=>if eD x then(if we s x then some (.inr (0,6,()))else some (.inl (sd .i64 s (jk .i64 1 x))))else some (.inr (0,5,()))) (fun s=>some (s,0,())) (fun i x s hd hx hw=> ?_) (fun s hd=> ?_) 0]
 ·refine ME _ (fun x s hs=> ?_) l 0 (by omega)
  cases h1:eD x with
  |false=>simp
  |true=>
   have h3:0<=x/\x<10:=by simp[eD]at h1;omega
   have h2:we s x=s.testBit x.toNat:=by simp[we,h1];omega
   rw[h2,CE hs h3.1 h3.2];cases s.testBit x.toNat<;>simp
 ·simp only[hd,hx,hw,Qk,Qa,ni]
  by_cases h0:x<0
  ·have:¬0<=x:=by omega
   simp[h0,eD,this]
  ·have h0':0<=x:=by omega
   by_cases h10:10<=x
   ·have:¬x<10:=by omega
    simp[h0,h10,eD,this,h0']
   ·have h10':x<10:=by omega
    cases h:we s x<;>simp[h0,h10,eD,h0',h10']
 ·simp only[hd,Ql]
@[simp] theorem qi (x:Int):iX x=some (!eD x):=by simp[iX,qT,eD]
theorem Du(l:List Int)(hl:l.length<=9223372036854775807):eH l=some (l.any fun x=> !eD x):=by
 have key:∀(i:Nat) (k:Nat),i+k=l.length->Yd (aI (fun(v1:Int×Unit)=>bif (decide (v1.1<((List.length l:Nat):Int)))then Option.bind (idx l v1.1) fun x2=>Option.bind (iX x2) fun r3=>bif r3 then Option.map Sum.inr (some v1.1)else some (Sum.inl ((aJ .i64 v1.1 (1:Int)),()))else Option.map Sum.inr (some (-1:Int))) ((i:Int),())) fun r=>decide (0<=r)=(l.drop i).any fun x=> !eD x:=by
  intro i k
  induction k generalizing i with
  |zero=>
   intro hi;refine⟨-1,cd ?_,?_⟩
   ·have:¬((i:Int)<(l.length:Int)):=by omega
    simp[this]
   ·rw[List.drop_eq_nil_of_le (by omega)];rfl
  |succ k ih=>
   intro hi;have hlt:i<l.length:=by omega
   have hd:decide ((i:Int)<((l.length:Nat):Int))=true:=Qg (Int.ofNat_lt.2 hlt);have hx:idx l (i:Int)=some l[i]:=by rw[bK];exact Qv hlt
   have hw:aJ .i64 (i:Int) 1=((i+1:Nat):Int):=cj (by omega) (by omega)
   rw[QM hlt,List.any_cons]
   cases h:eD l[i]with
   |true=>
    rw[bq (s':=(((i+1:Nat):Int),())) (by simp only[hd,hx,hw,Qk,Qa,qi,h];rfl)]
    exact(ih (i+1) (by omega)).mono fun r hr=>by simpa using hr
   |false=>
    refine⟨i,cd (by simp only[hd,hx,Qk,Qa,qi,h];rfl),?_⟩
    simp
 obtain⟨r,h1,h2⟩:=key 0 l.length (by omega)
 unfold eH iz;simp only[Int.natCast_zero]at h1;rw[h1];simpa using h2
def tQ(rec:aq->Option Int)(t:aq):Option Int:=
 if t.aZ<1\/aJ .i64 t.bu.length t.aS.length<t.aZ then some 4
 else if(t.bu.any fun x=> !eD x)then some 5
 else if(sf 0 t.bu).2.1=0 then fN (fun u (_:Unit)=>(rec u).map fun r=>if r=0 then .inl ()else .inr r) (fun _=>some 0) t.aS ()
 else some (sf 0 t.bu).2.1
theorem H6{rec:(aq×Unit)->Option Int}{t:aq}(hn:t.bu.length<=9223372036854775807)(hl:t.aS.length<=9223372036854775807):gA rec t=tQ (fun u=>rec (u,())) t:=by
 unfold gA tQ;rw[Du _ hn,G3 _ hn];rw[jf t.aS hl (fun i (_:Unit)=>(i,())) (fun u (_:Unit)=>(rec (u,())).map fun r=>if r=0 then .inl ()else .inr r) (fun _=>some 0) (fun i x s hd hx hw=> ?_) (fun s hd=> ?_) ()]
 ·by_cases h1:t.aZ<1
  ·simp[h1]
  ·by_cases h2:aJ .i64 t.bu.length t.aS.length<t.aZ
   ·simp[h1,h2]
   ·simp only[h1,h2,decide_false,Ql,Qa,or_self,Qu]
    cases (t.bu.any fun x=> !eD x)with
    |true=>simp
    |false=>
     by_cases h3:(sf 0 t.bu).2.1=0<;>simp[h3]
 ·simp only[hd,hx,hw,Qk,Qa,aq.eta]
  cases rec (x,())with
  |none=>rfl
  |some r=>by_cases h:r=0<;>simp[h]
 ·simp only[hd,Ql]
structure kh (t:aq):Prop where
 nodes:∀x∈t.bu,0<=x/\x<10
 nodup:t.bu.Nodup
 len:t.bu.length<=10
 inner:t.aS=[]\/∃x,0<=x/\x<10/\t.aS=[⟨1,[x],[]⟩]
 th:1<=t.aZ/\t.aZ<=t.bu.length+t.aS.length
theorem zp:∀(l:List Int) (s:Nat),(∀x∈l,0<=x/\x<10)->l.Nodup->(∀x∈l,s.testBit x.toNat=false)->(sf s l).2.1=0
 |[],s,_,_,_=>rfl
 |x::l,s,h1,h2,h3=>by
  rw[List.nodup_cons]at h2;have hx:=h1 x (by simp)
  have:eD x=true:=by simp[eD];omega
  rw[sf,this,h3 x (by simp)]
  simp only[Qt,Qq,Qu];refine zp l _ (fun y hy=>h1 y (by simp[hy])) h2.2 fun y hy=> ?_
  have hy1:=h1 y (by simp[hy])
  rw[Nat.testBit_or,h3 y (by simp[hy]),Nat.testBit_two_pow]
  have:x.toNat≠y.toNat:=fun e=>by
   have:x=y:=by omega
   subst this;exact h2.1 hy
  simp[this]
theorem Lq{l:List Int}(h:∀x∈l,0<=x/\x<10):(l.any fun x=> !eD x)=false:=by
 rw[List.any_eq_false];intro x hx;have:=h x hx;simp[eD];omega
theorem Mh{rec:aq->Option Int}{x:Int}(h0:0<=x)(h1:x<10):tQ rec ⟨1,[x],[]⟩=some 0:=by
 have h2:aJ .i64 (1:Nat) (0:Nat)=1:=rfl;have h3:(sf 0 [x]).2.1=0:=zp [x] 0 (by simp;omega) (by simp) (by simp)
 have h4:([x].any fun x=> !eD x)=false:=Lq (by simp;omega)
 simp only[tQ,QE,QZ,Nat.zero_add,h2,h3,h4];simp[fN]
theorem NS{t:aq}(h:kh t){rec:aq->Option Int}(hr:∀x,0<=x->x<10->rec ⟨1,[x],[]⟩=some 0):tQ rec t=some 0:=by
 have hil:t.aS.length<=1:=by rcases h.inner with e|⟨x,_,_,e⟩<;>rw[e]<;>simp
 have hlen:=h.len;have h2:aJ .i64 t.bu.length t.aS.length=t.bu.length+t.aS.length:=cj (by omega) (by omega)
 have h3:(sf 0 t.bu).2.1=0:=zp _ 0 h.nodes h.nodup (by simp)
 have h4:=Lq h.nodes;have h5:=h.th;unfold tQ;rw[h2,Qs (by omega),h4,h3]
 simp only[Qq,Qu,Qt];rcases h.inner with e|⟨x,hx0,hx1,e⟩
 ·rw[e];rfl
 ·rw[e,fN,hr x hx0 hx1];rfl
theorem JT(t:aq):∃n,SizeOf.sizeOf t=n+1:=by
 have:1<=SizeOf.sizeOf t:=by
  cases t;simp only[aq.mk.sizeOf_spec];omega
 exact⟨SizeOf.sizeOf t - 1,by omega⟩
theorem Og(n:Nat)(th:Int)(l:List Int):jU (n+1) (⟨th,l,[]⟩,())=some 1:=by
 show gB _ _=_;rw[H7 (by simp)]
 rfl
theorem size_leaf(n:Nat)(th:Int)(l:List Int):kM (n+1) (⟨th,l,[]⟩,())=some (aJ .i64 l.length (0:Nat)):=by
 show ig _ _=_;rw[LP (by simp)]
 rfl
theorem Oh{t:aq}(h:kh t):∃d,jW t=some d/\d<=2:=by
 obtain⟨n,hn⟩:=JT t;have hil:t.aS.length<=1:=by rcases h.inner with e|⟨x,_,_,e⟩<;>rw[e]<;>simp
 unfold jW;rw[hn];show∃d,gB (jU (n+1)) t=some d/\d<=2;rw[H7 (by omega)]
 rcases h.inner with e|⟨x,_,_,e⟩
 ·rw[e];exact⟨1,rfl,by omega⟩
 ·rw[e,fN,Og n 1 [x]];exact⟨2,rfl,by omega⟩
theorem O2{t:aq}(h:kh t):∃d,kN t=some d/\d<=200:=by
 obtain⟨n,hn⟩:=JT t;have hil:t.aS.length<=1:=by rcases h.inner with e|⟨x,_,_,e⟩<;>rw[e]<;>simp
 have hlen:=h.len;unfold kN;rw[hn];show∃d,ig (kM (n+1)) t=some d/\d<=200;rw[LP (by omega),cj (by omega) (by omega)]
 rcases h.inner with e|⟨x,_,_,e⟩
 ·rw[e];exact⟨_,rfl,by simp;omega⟩
 ·rw[e,fN,size_leaf n 1 [x]];have h1:aJ .i64 (([x]:List Int).length:Nat) (0:Nat)=1:=rfl;rw[h1];refine⟨_,rfl,?_⟩;simp only[QE,QZ];rw[cj (by omega) (by omega)]
  omega
theorem lU{t:aq}(h:kh t):dh t=some 0:=by
 obtain⟨d,h1,h2⟩:=Oh h;obtain⟨z,h3,h4⟩:=O2 h;obtain⟨n,hn⟩:=JT t;have hil:t.aS.length<=1:=by rcases h.inner with e|⟨x,_,_,e⟩<;>rw[e]<;>simp
 have hlen:=h.len
 have h5:jV t=some 0:=by
  unfold jV;rw[hn];show gA (iM (n+1)) t=some 0;rw[H6 (by omega) (by omega)]
  refine NS h fun x hx0 hx1=> ?_
  show gA (iM n) ⟨1,[x],[]⟩=some 0;rw[H6 (by simp) (by simp)]
  exact Mh hx0 hx1
 have h6:¬4<d:=by omega
 have h7:¬200<z:=by omega
 simp[dh,h1,h3,h5,h6,h7]
end Go.Proofs.YtkgenianmdfmdaaGreat
namespace Go.Proofs.YtkgenianmdfmdaaGreat
open Go.TQ
structure Cm (s:iQ):Prop where
 len:s.L.length<=800
 lo:0<=s.At
 hi:s.At<=800
theorem VX(l:List Int):Yd (vh l) fun s=>Cm s:=by
 have h:dD (l.length:Int) 800=((min l.length 800:Nat):Int):=by unfold dD;split<;>omega
 have h2:dK 0 ((min l.length 800:Nat):Int) l.length=true:=by
  simp only[dK,Qm,Qi];omega
 unfold vh;rw[h,h2];refine Yd.some ⟨?_,by simp,by simp⟩
 simp only[QV,List.length_drop,List.length_take];omega
theorem TF(x n:Int)(hn:1<=n): -n<x.tmod n/\x.tmod n<n:=by
 have h2:=Int.emod_nonneg x (show n≠0 by omega)
 have h3:=Int.emod_lt_of_pos x (show 0<n by omega)
 rw[Int.tmod_eq_emod];split
 ·omega
 ·rw[Int.natAbs_of_nonneg (by omega)];omega
theorem LH{s:iQ}(h:Cm s){n:Int}(hn:n<=1000000000):Yd (jv s n) fun p=>Cm p.2/\0<=p.1/\(1<=n->p.1<n)/\(n<1->p.1=0):=by
 unfold jv;simp only[bB];refine Yd.cond (fun h1=> ?_) (fun h1=> ?_)
 ·exact Yd.some ⟨h,by simp,fun _=>by simp;omega,fun _=>rfl⟩
 ·simp only[Qj,Int.not_le]at h1;refine Yd.cond (fun h2=> ?_) (fun h2=> ?_)
  ·simp only[Qi]at h2;exact Yd.some ⟨h,by simp,fun _=>by simp;omega,fun _=>rfl⟩
  ·simp only[Qj,Int.not_lt]at h2;obtain⟨hl,hlo,hhi⟩:=h;have e1:aJ .i64 s.At 1=s.At+1:=cj (by omega) (by omega)
   have e2:gJ .i64 (s.At+1) 1=s.At:=by rw[Cu (by omega) (by omega)];omega
   rw[e1,e2];have hlt:s.At.toNat<s.L.length:=by omega
   rw[KI _ hlo,Qv hlt,Qa,Qs (by omega),Qs (by omega)]
   have hb:=TF s.L[s.At.toNat] n h2;have e3:Nw .i64 s.L[s.At.toNat] n=s.L[s.At.toNat].tmod n:=rfl;rw[e3];generalize s.L[s.At.toNat].tmod n=y at hb;have e4:aJ .i64 y n=y+n:=cj (by omega) (by omega)
   rw[e4];have h5:Nw .i64 (y+n) n=(y+n) % n:=Int.tmod_eq_emod_of_nonneg (by omega)
   rw[h5];exact Yd.some ⟨⟨hl,by simp;omega,by simp;omega⟩,Int.emod_nonneg _ (by omega),fun _=>Int.emod_lt_of_pos _ (by omega),fun _=>by omega⟩
theorem SD{s:iQ}(h:Cm s){a b:Int}(h1:0<=a)(h2:a<=b+1)(h3:b<=1000000):Yd (nh s a b) fun p=>Cm p.2/\a<=p.1/\(a<=b->p.1<=b)/\(b<a->p.1=a):=by
 unfold nh;have e1:gJ .i64 b a=b - a:=Cu (by omega) (by omega)
 have e2:aJ .i64 (b - a) 1=b - a+1:=cj (by omega) (by omega)
 rw[e1,e2];refine(LH h (by omega)).bind fun p ⟨h4,h5,h6,h7⟩=> ?_
 have e3:aJ .i64 a p.1=a+p.1:=by
  by_cases hq:b - a+1<1
  ·rw[h7 hq];exact cj (by omega) (by omega)
  ·have:=h6 (by omega);exact cj (by omega) (by omega)
 rw[e3];refine Yd.some ⟨h4,by simp;omega,fun hab=> ?_,fun hab=> ?_⟩
 ·have:=h6 (by omega)
  show a+p.1<=b;omega
 ·have:=h7 (by omega)
  show a+p.1=a;omega
theorem U1{s:iQ}(h:Cm s){l:List ByteArray}(h1:1<=l.length)(h2:l.length<=1000):Yd (nW s l) fun p=>Cm p.2/\p.1∈l:=by
 unfold nW;refine(LH h (by omega)).bind fun p ⟨h4,h5,h6,_⟩=> ?_
 have:=h6 (by omega)
 have hlt:p.1.toNat<l.length:=by omega
 rw[KI _ h5,Qv hlt];exact Yd.some ⟨h4,Q0 hlt⟩
def I6(v:ByteArray):Prop:=v∈[(ByteArray.mk #[97]),(ByteArray.mk #[98]),(ByteArray.mk #[99]),(ByteArray.mk #[97,97])]
theorem I6.size{v:ByteArray}(h:I6 v):1<=v.size/\v.size<=2:=by
 simp only[I6,QA,QR,or_false]at h;rcases h with rfl|rfl|rfl|rfl<;>exact⟨by decide,by decide⟩
theorem Sz{s:iQ}(h:Cm s):Yd (ng s) fun p=>Cm p.2/\I6 p.1:=by
 unfold ng;exact(U1 h (by simp) (by simp)).bind fun p hp=>Yd.some hp
end Go.Proofs.YtkgenianmdfmdaaGreat
namespace Go.Proofs.YtkgenianmdfmdaaGreat
open Go.TQ
def at_(e:ai)(n:Int):af:=⟨n,e.aa.Value⟩
def CA(e:ai):Bool:=aD e.aw||(!aD e.al&&a8 e.aw e.al&& !bw e.aw e.al)
def fo(e:ai):Bool:=
 finite e.aa&&(aD e.al||cF e.al)&&(aD e.aw||cF e.aw)&&CA e&&decide (0<=e.aN)&&decide (e.aN<=e.bc)&&decide (e.bc<=e.aa.aj)
  &&(decide (e.bc=0)||dG e.al e.aw (at_ e e.bc))&&(decide (e.aN=0)||(!eE e.al (at_ e e.aN)&& !eE e.aw (at_ e e.aN)))
def vM(e:ai):Bool:=decide (1<=e.aN)&&decide (e.aN<=e.bc)&&decide (e.bc<=1000)
def wu(e:ai):Bool:=finite e.aa&&cF e.al&&bw e.al e.aa&&aD e.aw&&vM e&&decide (e.bc<=e.al.aj)
def CN(e:ai):Bool:=cF e.aa&&aD e.al&&aD e.aw&&vM e
def BV(e:ai):Bool:=decide (0<=e.ar)&&decide (e.ar<10)&&decide (1<=e.bs)&&decide (e.bs<=1000000)&&decide (1<=e.aK)&&decide (e.aK<=1000000)
def mn(tv:Int)(e:ai):Bool:=
 BV e&&decide (tv=0)&&(if e.bQ=1 then fo e else if e.bQ=2 then wu e else if e.bQ=3 then CN e else false)
theorem Xx(a b:Int):decide (a<b)= !decide (b<=a):=by by_cases h:a<b<;>simp[h]<;>omega
theorem Js(e:ai):kj e=some (fo e):=by
 unfold kj fo CA at_
 simp only[bZ,gz,dV,yR,wV,uM,nP,mJ,Qa,mZ,bB,Xx,US];cases finite e.aa<;>cases (aD e.al||cF e.al)<;>cases (aD e.aw||cF e.aw)<;>simp
 by_cases h:e.bc=0<;>simp[h,Bool.and_assoc]
theorem sG{e:ai}{tv:Int}(hT:dh e.ae=some tv):cx e=some (mn tv e):=by
 unfold cx mn BV;simp[Js,hT,Xx,wu,CN,vM]
 grind
def zO(e:ai)(v:ByteArray)(lo hi:Int):Bool:=decide (1<=lo)&&decide (lo<=hi)&&decide (e.aa.Value=v)&&decide (e.aN<=lo)
def rK(e:ai)(v:ByteArray)(lo hi:Int):Bool:=zO e v lo hi&&(!decide (e.bQ=1)||(!decide (e.aN=0)&&decide (hi<=e.bc)))
def et(e:ai)(v:ByteArray)(lo hi:Int):Bool:=zO e v lo hi&&(decide (e.bQ=3)||(decide (e.bQ=2)&&decide (hi<=e.bc)))
def pT(e:ai)(b:af):Bool:= !aD b&&(if e.bQ=1 then im e.aa b else bw e.aa b)
def db(e:ai)(b:af):Bool:= !aD b&&(if e.bQ=1 then dG e.al e.aw b else if e.bQ=2 then im e.al b else bw e.aa b)
def eZ(e:ai):Int:=if e.bQ=3 then 1000000 else e.aa.aj
@[simp] theorem xT (r:bb) (v:ByteArray) (lo hi:Int):fV r v lo hi=some (rK r.av v lo hi):=by
 simp[fV,gO,rK,zO]
@[simp] theorem oL (r:bb) (v:ByteArray) (lo hi:Int):ft r v lo hi=some (et r.av v lo hi):=by
 simp[ft,gO,et,zO]
@[simp] theorem wW (r:bb) (b:af):fR r b=some (pT r.av b):=by
 simp only[fR,pT];cases hz:aD b<;>by_cases h:r.av.bQ=1<;>simp[h,hz]
@[simp] theorem n3 (r:bb) (b:af):fl r b=some (db r.av b):=by
 simp only[fl,db];cases hz:aD b<;>by_cases h:r.av.bQ=1<;>by_cases h2:r.av.bQ=2<;>simp[h,h2,hz]
@[simp] theorem SL (r:bb):iW r=some (eZ r.av):=by
 simp[iW,eZ,HY,EJ]
section
variable {e : ai} {tv : Int} (hT : dh e.ae = some tv)
 include hT
theorem LM:gI e=some (if mn tv e then eZ e else 0):=by
 simp only[gI,aq.eta,ai.eta,sG hT,Qa];cases mn tv e<;>simp
end
def kp(n:Nat):List Int:=(List.range n).map fun i:Nat=>(i:Int)
theorem D0(n:Nat):kp (n+1)=kp n++[(n:Int)]:=by simp[kp,List.range_succ]
@[simp] theorem Fc (n:Nat):(kp n).length=n:=by simp[kp]
theorem Nf(n:Nat)(hn:n<=1000)(k:Int):lY n k=some ⟨k,kp n,[]⟩:=by
 unfold lY
 suffices key:∀(m i:Nat) (t:aq),i+m=n->t.aZ=k->t.aS=[]->aI (fun(v1:Int×aq×(List Int)×Unit)=>
   bif (decide (v1.1<(n:Int)))then
   bif bW 8 (List.length v1.2.2.1+List.length [v1.1])then
   some (Sum.inl ((aJ .i64 v1.1 (1:Int)),(aq.mk v1.2.1.aZ ([]:List Int) v1.2.1.aS),(v1.2.2.1++[v1.1]),()))
   else none
   else
   Option.map Sum.inr (some (aq.mk v1.2.1.aZ v1.2.2.1 v1.2.1.aS))) ((i:Int),t,kp i,())=some ⟨k,kp n,[]⟩from key n 0 _ (by omega) rfl rfl
 intro m
 induction m with
 |zero=>
  intro i t hi h1 h2;obtain rfl:i=n:=by omega
  refine cd ?_;have hd:decide ((i:Int)<(i:Int))=false:=Qh (Int.lt_irrefl _);simp only[hd,Ql,h1,h2,Qe]
 |succ m ih=>
  intro i t hi h1 h2;have hd:decide ((i:Int)<(n:Int))=true:=Qg (by omega)
  have hw:aJ .i64 (i:Int) 1=((i+1:Nat):Int):=cj (by omega) (by omega)
  rw[bq (s':=(((i+1:Nat):Int),⟨t.aZ,[],t.aS⟩,kp (i+1),()))]
  ·exact ih (i+1) _ (by omega) h1 h2
  ·simp only[hd,hw,Qk];rw[er (by simp;omega)]
   simp[D0]
theorem tZ(n:Nat)(hn:n<=10)(k:Int)(h1:1<=k)(h2:k<=n):kh ⟨k,kp n,[]⟩:=by
 refine⟨fun x hx=> ?_,?_,by simpa using hn,.inl rfl,h1,by simpa using h2⟩
 ·simp only[kp,QP,List.mem_range]at hx;obtain⟨i,hi,rfl⟩:=hx;omega
 ·show(kp n).Nodup;exact List.Pairwise.map _ (fun a b h e=>h (by omega)) List.nodup_range
structure W0 (az bS n:Int) (e:ai):Prop where
 az:e.ar=az
 bS:e.bs=bS
 seq:1<=e.aK/\e.aK<=9
 aY:kh e.ae
 nodes:∀x∈e.ae.bu,x<n
 ne:e.ae.bu≠[]
 val:I6 e.aa.Value
 valid:mn 0 e=true
theorem OT{b:af}(h1:1<=b.aj)(h2:b.aj<=1000)(h3:I6 b.Value):cF b=true:=by
 have:=h3.size;have h4:b.Value.size<=200:=by omega
 simp[cF,h1,h2,h4,this.1]
end Go.Proofs.YtkgenianmdfmdaaGreat
namespace Go.Proofs.YtkgenianmdfmdaaGreat
open Go.TQ
inductive fb:aq->Prop where
 |mk (t:aq) (h1:t.bu.length<=1000000) (h2:t.aS.length<=1000000) (h3:∀u∈t.aS,fb u):fb t
theorem fb.nodes{t:aq}:fb t->t.bu.length<=1000000| .mk _ h _ _=>h
theorem fb.len{t:aq}:fb t->t.aS.length<=1000000| .mk _ _ h _=>h
theorem fb.inner{t:aq}:fb t->∀u∈t.aS,fb u| .mk _ _ _ h=>h
theorem tf{t u:aq}(h:u∈t.aS):SizeOf.sizeOf u<SizeOf.sizeOf t:=by
 have h1:=List.sizeOf_lt_of_mem h
 cases t with
 |mk th ns is=>
  simp only[aq.mk.sizeOf_spec]at h1 ⊢;omega
theorem kh.sm{t:aq}(h:kh t):fb t:=by
 have:=h.len;refine .mk t (by omega) ?_ fun u hu=> ?_
 ·rcases h.inner with e|⟨x,_,_,e⟩<;>rw[e]<;>simp
 ·rcases h.inner with e|⟨x,_,_,e⟩
  ·rw[e]at hu;cases hu
  ·rw[e]at hu;simp only[List.mem_singleton]at hu;subst hu;exact .mk _ (by simp) (by simp) (by simp)
@[simp] theorem Sl (l:List Int) (h:l.length<=1000000):ji l=some l:=by
 unfold ji;rw[er (by simp;omega)]
 cases l with
 |nil=>simp
 |cons x l=>simp
theorem SJ{n:Nat}:∀{t:aq},SizeOf.sizeOf t<n->fb t->pa n (t,())=some t:=by
 induction n with
 |zero=>intro t h;omega
 |succ n ih=>
  intro t hs hm;show pd (pa n) t=some t;unfold pd;have hl:=hm.len;rw[Sl _ hm.nodes,Qa]
  suffices key:∀(k i:Nat) (t':aq),i+k=t.aS.length->t'.aZ=t.aZ->t'.bu=t.bu->aI (fun(v2:Int×aq×(List aq)×Unit)=>
    bif (decide (v2.1<((List.length t.aS:Nat):Int)))then
    Option.bind (idx t.aS v2.1) fun x3=>
    Option.bind (pa n ((aq.mk x3.aZ x3.bu x3.aS),())) fun r4=>
    bif bW 56 (List.length v2.2.2.1+List.length [(aq.mk r4.aZ r4.bu r4.aS)])then
    some (Sum.inl ((aJ .i64 v2.1 (1:Int)),(aq.mk v2.2.1.aZ v2.2.1.bu ([]:List aq)),(v2.2.2.1++[(aq.mk r4.aZ r4.bu r4.aS)]),()))
    else none
    else
    Option.map Sum.inr (some (aq.mk v2.2.1.aZ v2.2.1.bu v2.2.2.1))) ((i:Int),t',t.aS.take i,())=some t by
   have:=key t.aS.length 0 ⟨t.aZ,t.bu,[]⟩ (by omega) rfl rfl
   simpa using this
  intro k
  induction k with
  |zero=>
   intro i t' hi h1 h2;refine cd ?_;have hd:decide ((i:Int)<((t.aS.length:Nat):Int))=false:=Qh (by omega)
   simp only[hd,Ql,Qe,h1,h2];rw[List.take_of_length_le (by omega),aq.eta]
  |succ k ihk=>
   intro i t' hi h1 h2;have hlt:i<t.aS.length:=by omega
   have hd:decide ((i:Int)<((t.aS.length:Nat):Int))=true:=Qg (by omega)
   have hx:idx t.aS (i:Int)=some t.aS[i]:=by rw[bK];exact Qv hlt
   have hw:aJ .i64 (i:Int) 1=((i+1:Nat):Int):=cj (by omega) (by omega)
   have hmem:t.aS[i]∈t.aS:=Q0 hlt;have hr:=ih (t:=t.aS[i]) (by have:=tf hmem;omega) (hm.inner _ hmem)
   rw[bq (s':=(((i+1:Nat):Int),⟨t'.aZ,t'.bu,[]⟩,t.aS.take (i+1),()))]
   ·exact ihk (i+1) _ (by omega) h1 h2
   ·simp only[hd,Qk,hx,hw,Qa,aq.eta,hr];rw[er (by simp;omega),List.take_succ_eq_append_getElem hlt]
    rfl
@[simp] theorem rB {t:aq} (h:fb t):jd t=some t:=SJ (by omega) h
theorem tI{α σ ρ:Type}{g:α->σ->Option (σ⊕ρ)}{fin:σ->Option ρ}(hf:∀s,∃r,fin s=some r):∀(l:List α),(∀x∈l,∀s,∃y,g x s=some y)->∀s,∃r,fN g fin l s=some r
 |[],_,s=>hf s
 |x::l,h,s=>by
  obtain⟨y,hy⟩:=h x (by simp) s
  rw[fN,hy]
  cases y with
  |inr r=>exact⟨r,rfl⟩
  |inl s'=>exact tI hf l (fun x hx=>h x (by simp[hx])) s'
theorem Mk{n:Nat}:∀{t:aq},SizeOf.sizeOf t<n->fb t->∃d,jU n (t,())=some d:=by
 induction n with
 |zero=>intro t h;omega
 |succ n ih=>
  intro t hs hm;show∃d,gB (jU n) t=some d;have hl:=hm.len;rw[H7 (by omega)]
  refine tI (fun s=>⟨_,rfl⟩) _ (fun u hu s=> ?_) _
  obtain⟨d,hd⟩:=ih (t:=u) (by have:=tf hu;omega) (hm.inner u hu)
  exact⟨_,by rw[hd];rfl⟩
theorem Np{n:Nat}:∀{t:aq},SizeOf.sizeOf t<n->fb t->∃d,kM n (t,())=some d:=by
 induction n with
 |zero=>intro t h;omega
 |succ n ih=>
  intro t hs hm;show∃d,ig (kM n) t=some d;have hl:=hm.len;rw[LP (by omega)]
  refine tI (fun s=>⟨_,rfl⟩) _ (fun u hu s=> ?_) _
  obtain⟨d,hd⟩:=ih (t:=u) (by have:=tf hu;omega) (hm.inner u hu)
  exact⟨_,by rw[hd];rfl⟩
theorem KB{rec:aq->Option Int}{t:aq}(h:∀u∈t.aS,∃r,rec u=some r):∃r,tQ rec t=some r:=by
 unfold tQ;split
 ·exact⟨_,rfl⟩
 ·split
  ·exact⟨_,rfl⟩
  ·split
   ·refine tI (fun s=>⟨_,rfl⟩) _ (fun u hu s=> ?_) _
    obtain⟨r,hr⟩:=h u hu;exact⟨_,by rw[hr];rfl⟩
   ·exact⟨_,rfl⟩
theorem level_p{n:Nat}:∀{t:aq},SizeOf.sizeOf t<n->fb t->∃d,iM n (t,())=some d:=by
 induction n with
 |zero=>intro t h;omega
 |succ n ih=>
  intro t hs hm;show∃d,gA (iM n) t=some d;have hl:=hm.len;have hn:=hm.nodes;rw[H6 (by omega) (by omega)]
  exact KB (rec:=fun u=>iM n (u,())) (t:=t) fun u hu=>ih (t:=u) (by have:=tf hu;omega) (hm.inner u hu)
theorem valid_p{t:aq}(h:fb t):∃v,dh t=some v:=by
 obtain⟨d,hd⟩:∃d,jW t=some d:=Mk (by omega) h
 obtain⟨z,hz⟩:∃z,kN t=some z:=Np (by omega) h
 obtain⟨l,hl1⟩:∃l,jV t=some l:=level_p (by omega) h
 simp[dh,hd,hz,hl1]
 def G9(t:aq):Int:=(dh t).getD 1
theorem Mp{t:aq}(h:fb t):dh t=some (G9 t):=by
 obtain⟨v,h1⟩:=valid_p h;rw[G9,h1];rfl
theorem Ia{t:aq}(h:kh t):G9 t=0:=by rw[G9,lU h];rfl
 def ba(e:ai):Bool:=mn (G9 e.ae) e
theorem lS{e:ai}(h:fb e.ae):cx e=some (ba e):=sG (Mp h)
def gd(s:Nat)(x:Int):Bool:=eD x&&s.testBit x.toNat
theorem wc{s:Nat}(h:s<1024)(x:Int):we s x=gd s x:=by
 have h1:decide (0<=(s:Int))=true:=Qg (by omega)
 have h2:decide ((s:Int)<1024)=true:=Qg (by omega)
 simp only[we,gd,h1,h2,Bool.true_and,QV]
mutual
def jK(s:Nat):aq->Bool
 |⟨th,ns,is⟩=>decide (th<=((ns.countP (gd s)+qx s is:Nat):Int))
def qx(s:Nat):List aq->Nat
 |[]=>0
 |t::l=>(if jK s t then 1 else 0)+qx s l
end
theorem Cw(s:Nat)(t:aq):jK s t=decide (t.aZ<=((t.bu.countP (gd s)+qx s t.aS:Nat):Int)):=by
 cases t;rw[jK]
theorem zX(s:Nat)(hs:s<1024)(fin:Int->Option Bool):∀(l:List Int) (n:Nat),n+l.length<=9000000->
  fN (fun x (m:Int)=>some (.inl (if we s x then aJ .i64 m 1 else m))) fin l n=fin ((n+l.countP (gd s):Nat):Int)
 |[],n,_=>by simp[fN]
 |x::l,n,h=>by
  simp at h;rw[fN,wc hs,List.countP_cons]
  cases hx:gd s x with
  |false=>
   simp only[Qq,Qu,Nat.add_zero];exact zX s hs fin l n (by omega)
  |true=>
   simp only[Qt];rw[cj (by omega) (by omega)]
   rw[show(n:Int)+1=((n+1:Nat):Int)by omega,zX s hs fin l (n+1) (by omega)]
   congr 2;omega
theorem D4(s:Nat)(rec:aq->Option Bool)(fin:Int->Option Bool):∀(l:List aq) (n:Nat),n+l.length<=9000000->(∀u∈l,rec u=some (jK s u))->
  fN (fun u (m:Int)=>(rec u).map fun r=> .inl (if r then aJ .i64 m 1 else m)) fin l n=fin ((n+qx s l:Nat):Int)
 |[],n,_,_=>by simp[fN,qx]
 |u::l,n,h,hr=>by
  simp at h;rw[fN,hr u (by simp),qx]
  cases hx:jK s u with
  |false=>
   simp only[Qe,Qq,Qu,Nat.zero_add];exact D4 s rec fin l n (by omega) fun u hu=>hr u (by simp[hu])
  |true=>
   simp only[Qe,Qt];rw[cj (by omega) (by omega)]
   rw[show(n:Int)+1=((n+1:Nat):Int)by omega,D4 s rec fin l (n+1) (by omega) fun u hu=>hr u (by simp[hu])]
   congr 2;omega
theorem W8{rec:(aq×Int×Unit)->Option Bool}{t:aq}{s:Nat}(hs:s<1024)(hm:fb t)(hr:∀u∈t.aS,rec (u,(s:Int),())=some (jK s u)):iv rec t s=some (jK s t):=by
 unfold iv;have hn:=hm.nodes;have hl:=hm.len;have hv:dZ (s:Int)=some true:=by rw[HZ];simp;omega
 rw[hv];simp only[Qa,Qo,Ql,bB];rw[jf t.bu (by omega) (fun i (m:Int)=>(m,i,())) (fun x (m:Int)=>some (.inl (if we s x then aJ .i64 m 1 else m))) (fun m=>fN (fun u (m:Int)=>(rec (u,(s:Int),())).map fun r=> .inl (if r then aJ .i64 m 1 else m)) (fun m=>some (decide (t.aZ<=m))) t.aS m) (fun i x m hd hx hw=> ?_) (fun m hd=> ?_) 0]
 ·rw[show(0:Int)=((0:Nat):Int)from rfl,zX s hs _ t.bu 0 (by omega)]
  rw[D4 s (fun u=>rec (u,(s:Int),())) _ t.aS _ (by have:=List.countP_le_length (p:=gd s) (l:=t.bu);omega) hr,Cw]
  simp
 ·simp only[hd,hx,hw,Qk,Qa,ni];cases we s x<;>rfl
 ·simp only[hd,Ql];rw[jf t.aS (by omega) (fun i (m:Int)=>(m,i,())) (fun u (m:Int)=>(rec (u,(s:Int),())).map fun r=> .inl (if r then aJ .i64 m 1 else m)) (fun m=>some (decide (t.aZ<=m))) (fun i x m hd hx hw=> ?_) (fun m hd=> ?_) m]
  ·simp only[hd,hx,hw,Qk,Qa,aq.eta]
   cases rec (x,(s:Int),())with
   |none=>rfl
   |some r=>cases r<;>rfl
  ·simp only[hd,Ql]
theorem WX{s:Nat}(hs:s<1024){n:Nat}:∀{t:aq},SizeOf.sizeOf t<n->fb t->mE n (t,(s:Int),())=some (jK s t):=by
 induction n with
 |zero=>intro t h;omega
 |succ n ih=>
  intro t hz hm;show iv (mE n) t s=some (jK s t);exact W8 hs hm fun u hu=>ih (t:=u) (by have:=tf hu;omega) (hm.inner u hu)
theorem Cl{s:Nat}(hs:s<1024){t:aq}(hm:fb t):jF t s=some (jK s t):=WX hs (by omega) hm
theorem IH{s s':Nat}(h:∀k,s.testBit k=true->s'.testBit k=true)(x:Int)(hx:gd s x=true):gd s' x=true:=by
 simp only[gd,Qm]at hx ⊢;exact⟨hx.1,h _ hx.2⟩
mutual
theorem Ie{s s':Nat}(h:∀k,s.testBit k=true->s'.testBit k=true):∀(t:aq),jK s t=true->jK s' t=true
 |⟨th,ns,is⟩,ht=>by
  rw[jK,Qi]at ht ⊢;have h1:=Ig h is;have h2:ns.countP (gd s)<=ns.countP (gd s'):=List.countP_mono_left fun x _ hx=>IH h x hx
  omega
theorem Ig{s s':Nat}(h:∀k,s.testBit k=true->s'.testBit k=true):∀(l:List aq),qx s l<=qx s' l
 |[]=>by simp[qx]
 |t::l=>by
  have h1:=Ig h l;have h2:=Ie h t;rw[qx,qx]
  cases hs:jK s t with
  |false=>simp;omega
  |true=>rw[h2 hs];simp;omega
end
end Go.Proofs.YtkgenianmdfmdaaGreat
namespace Go.Proofs.YtkgenianmdfmdaaGreat
open Go.TQ
theorem uO{s:Nat}(h:s<1024):dZ (s:Int)=some true:=by rw[HZ];simp;omega
theorem DT(a b:Nat)(ha:a<2 ^ 62)(hb:b<2 ^ 62):∃c:Nat,tt .i64 (a:Int) (b:Int)=(c:Int)/\c<=a/\∀k,c.testBit k=(a.testBit k&& !b.testBit k):=by
 refine⟨((BitVec.ofInt 64 (a:Int)&&& ~~~ BitVec.ofInt 64 (b:Int)).toNat),?_,?_,fun k=> ?_⟩
 ·have hle:(BitVec.ofInt 64 (a:Int)&&& ~~~ BitVec.ofInt 64 (b:Int)).toNat<=a:=by
   rw[BitVec.toNat_and,oq a ha];exact Nat.and_le_left
  show IntKind.i64.wrap (((BitVec.ofInt 64 (a:Int)&&& ~~~ BitVec.ofInt 64 (b:Int)).toNat:Nat):Int)=_;exact yT _ (by omega)
 ·rw[BitVec.toNat_and,oq a ha];exact Nat.and_le_left
 ·have h1:∀i (x:Nat),x<2 ^ 62->(BitVec.ofInt 64 (x:Int)).getLsbD i=x.testBit i:=by
   intro i x hx;rw[<-BitVec.testBit_toNat,oq x hx]
  rw[BitVec.testBit_toNat,BitVec.getLsbD_and,BitVec.getLsbD_not,h1 k a ha,h1 k b hb]
  by_cases hk:k<64
  ·simp[hk]
  ·have:a.testBit k=false:=Nat.testBit_lt_two_pow (QJ ha (Nat.pow_le_pow_right (by omega) (by omega)))
   simp[this]
theorem yr{a b:Nat}(h:∀k,a.testBit k=b.testBit k):a=b:=Nat.eq_of_testBit_eq h
theorem GL{s k:Nat}(hs:s<1024)(hk:s.testBit k=true):k<10:=by
 rcases Nat.lt_or_ge k 10 with h|h
 ·exact h
 ·have:s.testBit k=false:=Nat.testBit_lt_two_pow (QJ hs (show 2 ^ 10<=2 ^ k from Nat.pow_le_pow_right (by omega) h))
  rw[this]at hk;cases hk
theorem yu{s:Nat}(h:∀k,s.testBit k=true->k<10):s<1024:=by
 rcases Nat.lt_or_ge s 1024 with h1|h1
 ·exact h1
 ·obtain⟨k,hk1,hk2⟩:=Nat.exists_ge_and_testBit_of_ge_two_pow (n:=10) h1;have:=h k hk2;omega
theorem wg(s k:Nat):gd s (k:Int)=(decide (k<10)&&s.testBit k):=by
 have h1:decide ((k:Int)<10)=decide (k<10):=by rw[decide_eq_decide];omega
 have h2:decide (0<=(k:Int))=true:=Qg (by omega)
 simp only[gd,eD,h1,h2,Bool.true_and,QV]
def zU(i:Nat)(s:Nat):List aU->Nat
 |[]=>s
 |m::l=>zU (i+1) (if m.dm&&decide (i<10)then s|||2 ^ i else s) l
def nU(l:List aU):Nat:=zU 0 0 l
theorem IT:∀(l:List aU) (i s k:Nat),(zU i s l).testBit k=(s.testBit k||(decide (i<=k)&&decide (k<10)&&((l[k - i]?).any (·.dm))))
 |[],i,s,k=>by simp[zU]
 |m::l,i,s,k=>by
  rw[zU,IT l (i+1)]
  by_cases hk:k=i
  ·subst hk;have h1:¬(k+1<=k):=by omega
   cases hm:m.dm<;>by_cases hi:k<10<;>simp[hm,hi,h1,Nat.testBit_or]
  ·have h2:i<=k↔i+1<=k:=by omega
   have h3:∀b:Bool,(if(b&&decide (i<10))=true then s|||2 ^ i else s).testBit k=s.testBit k:=by
    intro b;split
    ·rw[Nat.testBit_or,Nat.testBit_two_pow];have:¬i=k:=fun e=>hk e.symm
     simp[this]
    ·rfl
   rw[h3]
   by_cases hik:i+1<=k
   ·have h4:(m::l)[k - i]?=l[k - (i+1)]?:=by
     rw[show k - i=(k - (i+1))+1 by omega,List.getElem?_cons_succ]
    rw[h4];have:i<=k:=by omega
    simp[this,hik]
   ·have:¬i<=k:=by omega
    simp[this,hik]
theorem B5(l:List aU)(k:Nat):(nU l).testBit k=(decide (k<10)&&((l[k]?).any (·.dm))):=by
 rw[nU,IT];simp
theorem K8(l:List aU):nU l<1024:=yu fun k hk=>by
 rw[B5]at hk;simp at hk;exact hk.1
theorem PU(step:(Int×Int×Unit)->Option ((Int×Int×Unit)⊕Int))(l:List aU)
  (h1:∀(i:Nat) (m:aU) (s:Nat),l[i]?=some m->s<1024->step ((s:Int),(i:Int),())=some (.inl (((if m.dm&&decide (i<10)then s|||2 ^ i else s:Nat):Int),((i+1:Nat):Int),())))
  (h2:∀s:Int,step (s,(l.length:Int),())=some (.inr s)):aI step (0,0,())=some ((nU l:Nat):Int):=by
 suffices key:∀(k i s:Nat),i+k=l.length->s<1024->aI step ((s:Int),(i:Int),())=some ((zU i s (l.drop i):Nat):Int)by
  have:=key l.length 0 0 (by omega) (by omega)
  simpa[nU]using this
 intro k
 induction k with
 |zero=>
  intro i s hi hs;obtain rfl:i=l.length:=by omega
  rw[cd (h2 s),List.drop_length];rfl
 |succ k ih=>
  intro i s hi hs;have hlt:i<l.length:=by omega
  rw[QM hlt,zU,bq (h1 i l[i] s (Qv hlt) hs)];refine ih (i+1) _ (by omega) ?_
  split
  ·rename_i hc;simp only[Qm,Qi]at hc;have:=Jy (x:=(i:Int)) hs (by omega)
   simpa using this
  ·exact hs
theorem DY{c:bh}(h:c.bE.length<=1000000):fY c=some ((nU c.bE:Nat):Int):=by
 unfold fY;refine PU _ _ (fun i m s hm hs=> ?_) (fun s=> ?_)
 ·have hlt:i<c.bE.length:=(Qw.1 hm).1;have hd:decide ((i:Int)<((c.bE.length:Nat):Int))=true:=Qg (by omega)
  have hw:aJ .i64 (i:Int) 1=((i+1:Nat):Int):=cj (by omega) (by omega)
  have hx:idx c.bE (i:Int)=some m:=by rw[bK];exact hm
  have h0:¬(i:Int)<0:=by omega
  simp only[hd,hx,hw,Qk,Qa,bB,h0,Qu]
  cases m.dm with
  |false=>simp
  |true=>
   by_cases h10:i<10
   ·have:(i:Int)<10:=by omega
    have ho:=CE (x:=(i:Int)) hs (by omega) (by omega)
    simp only[QV]at ho;simp[this,h10,ho]
   ·have:¬(i:Int)<10:=by omega
    simp[this,h10]
 ·have hd:decide (((c.bE.length:Nat):Int)<((c.bE.length:Nat):Int))=false:=Qh (Int.lt_irrefl _);simp only[hd,Ql,Qe]
structure GZ (c:bh):Prop where
 len:c.bE.length<=1000000
 aY:∀m∈c.bE,fb m.ae
def kq(l:List aU)(k:Nat):aq:=((l[k]?).map (·.ae)).getD ⟨0,[],[]⟩
def mz(l:List aU)(k:Nat):Bool:=(nU l).testBit k
theorem zN{l:List aU}{k:Nat}(h:mz l k=true):k<10/\∃m,l[k]?=some m/\m.dm=true:=by
 rw[mz,B5]at h;simp only[Qm,Qi,Option.any_eq_true]at h;obtain⟨h1,m,h2,h3⟩:=h;exact⟨h1,m,h2,h3⟩
theorem tx{l:List aU}{k:Nat}{m:aU}(h:l[k]?=some m):kq l k=m.ae:=by rw[kq,h];rfl
def s7(s v:Nat):Nat:=(1023^^^s)|||2 ^ v
def tr(l:List aU)(v s:Nat):Bool:=mz l v&& !jK (s7 s v) (kq l v)
theorem SR(k:Nat):(1023:Nat).testBit k=decide (k<10):=by
 rw[show(1023:Nat)=2 ^ 10 - 1 from rfl,Nat.testBit_two_pow_sub_one]
theorem uZ{s:Nat}(hs:s<1024)(v k:Nat):(s7 s v).testBit k=(decide (k<10)&& !s.testBit k||decide (v=k)):=by
 rw[s7,Nat.testBit_or,Nat.testBit_xor,SR,Nat.testBit_two_pow]
 by_cases hk:k<10
 ·simp[hk]
 ·have:s.testBit k=false:=by
   cases h:s.testBit k with
   |false=>rfl
   |true=>exact absurd (GL hs h) hk
  simp[hk,this]
theorem Pm{s v:Nat}(hs:s<1024)(hv:v<10):s7 s v<1024:=yu fun k hk=>by
 rw[uZ hs]at hk;simp at hk;omega
theorem Mb{s v:Nat}(hs:s<1024)(hv:v<10):sd .i64 (tt .i64 1023 (s:Int)) (jk .i64 1 (v:Int))=((s7 s v:Nat):Int):=by
 obtain⟨c,h1,h2,h3⟩:=DT 1023 s (by omega) (by omega)
 have h1':tt .i64 1023 (s:Int)=(c:Int):=h1;rw[h1',vA v (by omega),Hw c (2 ^ v) (by omega) (Nat.pow_lt_pow_right (by omega) (by omega))]
 congr 1;refine yr fun k=> ?_
 rw[uZ hs,Nat.testBit_or,h3,SR,Nat.testBit_two_pow]
theorem I7{c:bh}(hc:GZ c){v s:Nat}(hs:s<1024):j1 c v s=some (tr c.bE v s):=by
 unfold j1 tr;rw[uO hs,DY hc.len];simp only[Qa,Qo,Ql,ni,wc (K8 _),wg]
 cases hd:mz c.bE v with
 |false=>
  have:(decide (v<10)&&(nU c.bE).testBit v)=false:=by
   rw[show(nU c.bE).testBit v=mz c.bE v from rfl,hd];simp
  simp[this]
 |true=>
  obtain⟨h10,m,hm,hdm⟩:=zN hd
  have:(decide (v<10)&&(nU c.bE).testBit v)=true:=by
   rw[show(nU c.bE).testBit v=mz c.bE v from rfl,hd];simp[h10]
  rw[bK,hm,Mb hs h10];have h0:¬(v:Int)<0:=by omega
  have hmem:m∈c.bE:=List.mem_of_getElem? hm;simp only[this,Qo,Ql,Qa,h0,Qu,aq.eta,Cl (Pm hs h10) (hc.aY m hmem),tx hm,Bool.true_and]
end Go.Proofs.YtkgenianmdfmdaaGreat
namespace Go.Proofs.YtkgenianmdfmdaaGreat
open Go.TQ
def si(s:Nat):List Int:=(kp 10).filter (gd s)
theorem CH{n:Nat}{x:Int}:x∈kp n↔∃k:Nat,k<n/\x=k:=by
 simp only[kp,QP,List.mem_range];exact⟨fun⟨k,h1,h2⟩=>⟨k,h1,h2.symm⟩,fun⟨k,h1,h2⟩=>⟨k,h1,h2.symm⟩⟩
theorem zw{s:Nat}{x:Int}:x∈si s↔∃k:Nat,k<10/\x=k/\s.testBit k=true:=by
 rw[si,List.mem_filter,CH];constructor
 ·rintro⟨⟨k,h1,rfl⟩,h2⟩;rw[wg]at h2;simp at h2;exact⟨k,h1,rfl,h2.2⟩
 ·rintro⟨k,h1,rfl,h2⟩;exact⟨⟨k,h1,rfl⟩,by rw[wg];simp[h1,h2]⟩
theorem NL(step:(Int×List Int×Unit)->Option ((Int×List Int×Unit)⊕List Int))(s:Nat)
  (h1:∀(i:Nat) (acc:List Int),i<10->acc.length<=i->step ((i:Int),acc,())=some (.inl (((i+1:Nat):Int),(if gd s i then acc++[(i:Int)]else acc),())))
  (h2:∀acc,step (((10:Nat):Int),acc,())=some (.inr acc)):aI step (0,[],())=some (si s):=by
 suffices key:∀(k i:Nat) (acc:List Int),i+k=10->acc=(kp i).filter (gd s)->aI step ((i:Int),acc,())=some (si s)from key 10 0 [] rfl rfl
 intro k
 induction k with
 |zero=>
  intro i acc hi ha;obtain rfl:i=10:=by omega
  rw[cd (h2 acc),ha];rfl
 |succ k ih=>
  intro i acc hi ha;have hlen:acc.length<=i:=by rw[ha];exact QK (List.length_filter_le _ _) (by simp)
  rw[bq (h1 i acc (by omega) hlen)]
  refine ih (i+1) _ (by omega) ?_
  rw[D0,List.filter_append,<-ha];cases hh:gd s i<;>simp[hh]
theorem SE{s:Nat}(hs:s<1024):nX (s:Int)=some (si s):=by
 unfold nX;refine NL _ s (fun i acc hi hl=> ?_) (fun acc=> ?_)
 ·have hd:decide ((i:Int)<10)=true:=Qg (by omega)
  have hw:aJ .i64 (i:Int) 1=((i+1:Nat):Int):=cj (by omega) (by omega)
  simp only[hd,hw,Qk,bB,ni,wc hs,Qa];rw[er (by simp;omega)]
  cases gd s i<;>simp
 ·rfl
def yP(l:List aU)(s r:Nat):Prop:=∀k,r.testBit k=true->s.testBit k=true/\mz l k=true/\jK r (kq l k)=true
structure wC (l:List aU) (s q:Nat):Prop where
 inside:yP l s q
 max:∀r,yP l s r->∀k,r.testBit k=true->q.testBit k=true
theorem wC.unique{l:List aU}{s q q':Nat}(h:wC l s q)(h':wC l s q'):q=q':=by
 refine yr fun k=> ?_
 rw[QW];exact⟨h'.max q h.inside k,h.max q' h'.inside k⟩
theorem wC.lt{l:List aU}{s q:Nat}(h:wC l s q):q<1024:=yu fun k hk=>(zN (h.inside k hk).2.1).1
def sU(l:List aU)(s:Nat):Option Int:=(si s).find? fun x=> !jK s (kq l x.toNat)
theorem I8{l:List aU}{s:Nat}{x:Int}(h:sU l s=some x):∃k:Nat,x=k/\k<10/\s.testBit k=true/\jK s (kq l k)=false:=by
 have h1:=List.mem_of_find?_eq_some h;have h2:=List.find?_some h;obtain⟨k,hk,rfl,hb⟩:=zw.1 h1;simp at h2;exact⟨k,rfl,hk,hb,h2⟩
theorem I9{l:List aU}{s:Nat}(hs:s<1024)(h:sU l s=none):∀k,s.testBit k=true->jK s (kq l k)=true:=by
 intro k hk;have:=List.find?_eq_none.1 h (k:Int) (zw.2 ⟨k,GL hs hk,rfl,hk⟩);simpa using this
theorem TH:∀s,s<1024->∀k,k<10->s.testBit k=true->s - 2 ^ k=s^^^2 ^ k:=by decide+kernel
theorem Hb{s k:Nat}(hs:s<1024)(hk:s.testBit k=true):2 ^ k<=s/\∀j,(s - 2 ^ k).testBit j=(s.testBit j&& !decide (k=j)):=by
 have hle:2 ^ k<=s:=Nat.ge_two_pow_of_testBit hk;refine⟨hle,?_⟩;have hx:s - 2 ^ k=s^^^2 ^ k:=TH s hs k (GL hs hk) hk;intro j;rw[hx,Nat.testBit_xor,Nat.testBit_two_pow]
 by_cases hj:k=j
 ·subst hj;simp[hk]
 ·simp[hj]
structure pc (l:List aU) (s0 s:Nat):Prop where
 lt:s<1024
 sub:∀k,s.testBit k=true->s0.testBit k=true/\mz l k=true
 max:∀r,yP l s0 r->∀k,r.testBit k=true->s.testBit k=true
theorem pc.first(l:List aU){s:Nat}(hs:s<1024):pc l s (s&&&nU l):=by
 refine⟨Nat.lt_of_le_of_lt Nat.and_le_left hs,fun k hk=> ?_,fun r hr k hk=> ?_⟩
 ·rw[Nat.testBit_and,Qm]at hk;exact hk
 ·rw[Nat.testBit_and,Qm];exact⟨(hr k hk).1,(hr k hk).2.1⟩
theorem pc.next{l:List aU}{s0 s k:Nat}(h:pc l s0 s)(hk:s.testBit k=true)(hu:jK s (kq l k)=false):pc l s0 (s - 2 ^ k):=by
 obtain⟨h1,h2⟩:=Hb h.lt hk;refine⟨Nat.lt_of_le_of_lt (Nat.sub_le _ _) h.lt,fun j hj=> ?_,fun r hr j hj=> ?_⟩
 ·rw[h2]at hj;simp at hj;exact h.sub j hj.1
 ·rw[h2,h.max r hr j hj]
  have:k≠j:=by
   intro e;subst e;have:=Ie (fun i hi=>h.max r hr i hi) _ (hr k hj).2.2
   rw[hu]at this;cases this
  simp[this]
theorem pc.done{l:List aU}{s0 s:Nat}(h:pc l s0 s)(hn:sU l s=none):wC l s0 s:=
 ⟨fun k hk=>⟨(h.sub k hk).1,(h.sub k hk).2,I9 h.lt hn k hk⟩,h.max⟩
theorem PN{l:List Int}{ρ:Type}{f:Int->Bool}{hit:Int->ρ}{fin:Unit->Option ρ}{g:Int->Unit->Option (Unit⊕ρ)}(hg:∀x∈l,∀s,g x s=some (if f x then .inr (hit x)else .inl ())):
  fN g fin l ()=match l.find? f with|some x=>some (hit x)|none=>fin ():=by
 induction l with
 |nil=>rfl
 |cons x l ih=>
  rw[fN,hg x (by simp),List.find?_cons]
  cases hx:f x with
  |true=>simp
  |false=>
   simp only[Qq,Qu];exact ih fun y hy=>hg y (by simp[hy])
theorem NM(s:Nat):(si s).length<=10:=QK (List.length_filter_le _ _) (by simp)
theorem Nk{c:bh}(hc:GZ c){s:Nat}(hs:s<1024)(hsub:∀k,s.testBit k=true->mz c.bE k=true):
  jZ c s=some (match sU c.bE s with|some x=>(x,true,())|none=>(0,false,())):=by
 unfold jZ;rw[SE hs,Qa];have hlen:=NM s;rw[jf (si s) (by omega) (fun i (_:Unit)=>(i,())) (fun x (_:Unit)=>(j0 c x s).map fun r=>if r then .inl ()else .inr (x,true,())) (fun _=>some (0,false,())) (fun i x u hd hx hw=> ?_) (fun u hd=> ?_) ()]
 ·rw[PN (f:=fun x=> !jK s (kq c.bE x.toNat)) (hit:=fun x=>(x,true,()))]
  ·unfold sU;cases (si s).find? _<;>rfl
  ·intro x hx u;obtain⟨k,hk,rfl,hb⟩:=zw.1 hx;obtain⟨_,m,hm,_⟩:=zN (hsub k hb);unfold j0;rw[bK,hm];simp only[Qa,aq.eta,Cl hs (hc.aY m (List.mem_of_getElem? hm)),Qe,QV,tx hm];cases jK s m.ae<;>rfl
 ·simp only[hd,hx,hw,Qk,Qa]
  cases j0 c x s with
  |none=>rfl
  |some r=>cases r<;>rfl
 ·simp only[hd,Ql]
theorem OB{s k:Nat}(hs:s<1024)(hk:s.testBit k=true):tt .i64 (s:Int) (jk .i64 1 (k:Int))=((s - 2 ^ k:Nat):Int):=by
 have h10:=GL hs hk;obtain⟨c,h1,_,h3⟩:=DT s (2 ^ k) (by omega) (Nat.pow_lt_pow_right (by omega) (by omega))
 rw[vA k (by omega),h1]
 congr 1;refine yr fun j=> ?_
 rw[h3,(Hb hs hk).2,Nat.testBit_two_pow]
theorem DW{c:bh}(hc:GZ c){s:Nat}(hs:s<1024):Yd (iu c s) fun q=>∃n:Nat,q=n/\wC c.bE s n:=by
 unfold iu nO;rw[uO hs,DY hc.len];simp only[Qa,Qo,Ql];have hdl:=K8 c.bE;rw[Ls s (nU c.bE) (by omega) (by omega)]
 suffices key:∀(n t:Nat) (out:List Int),t<n->pc c.bE s t->out.length+t<=1024->Yd (aI (fun(v3:Int×(List Int)×Unit)=>
   Option.bind (jZ c v3.1) fun r4=>
   bif (!r4.2.1)then
   Option.map Sum.inr (some (v3.1,v3.2.1,()))
   else
   bif bW 8 (List.length v3.2.1+List.length [r4.1])then
   if r4.1<0 then none else
   some (Sum.inl ((tt .i64 v3.1 (jk .i64 (1:Int) r4.1)),(v3.2.1++[r4.1]),()))
   else none) ((t:Int),out,())) fun p=>∃n:Nat,p.1=n/\wC c.bE s n by
  have hfirst:=pc.first c.bE hs
  have hb:=hfirst.lt;refine(key 1024 (s&&&nU c.bE) [] hb hfirst (by simp;omega)).bind fun p hp=>Yd.some hp
 intro n
 induction n with
 |zero=>intro t out h;omega
 |succ n ih=>
  intro t out ht hinv hout;refine Yd.loop ?_;rw[Nk hc hinv.lt fun k hk=>(hinv.sub k hk).2]
  simp only[Qa]
  cases hu:sU c.bE t with
  |none=>exact Yd.some ⟨t,rfl,hinv.done hu⟩
  |some x=>
   obtain⟨k,rfl,hk10,hkb,hks⟩:=I8 hu;have h0:¬(k:Int)<0:=by omega
   have hlb:=(Hb hinv.lt hkb).1;have hp:0<2 ^ k:=Nat.pow_pos (by omega)
   simp only[Qo,Ql];rw[er (by simp;omega),Qs h0,OB hinv.lt hkb]
   exact Yd.some (ih (t - 2 ^ k) _ (by omega) (hinv.next hkb hks) (by simp;omega))
theorem PI{c:bh}(hc:GZ c){s:Nat}(hs:s<1024):∃q,wC c.bE s q:=by
 obtain⟨_,_,n,_,h⟩:=DW hc hs;exact⟨n,h⟩
open Classical in
 def gq(l:List aU)(s:Nat):Nat:=if h:∃q,wC l s q then Classical.choose h else 0
theorem Gw{c:bh}(hc:GZ c){s:Nat}(hs:s<1024):wC c.bE s (gq c.bE s):=by
 have h:=PI hc hs;rw[gq,dif_pos h];exact Classical.choose_spec h
theorem DX{c:bh}(hc:GZ c){s:Nat}(hs:s<1024):iu c s=some ((gq c.bE s:Nat):Int):=by
 obtain⟨q,h1,n,rfl,h2⟩:=DW hc hs;rw[h1,h2.unique (Gw hc hs)]
end Go.Proofs.YtkgenianmdfmdaaGreat
namespace Go.Proofs.YtkgenianmdfmdaaGreat
open Go.TQ
structure ny (l:List ai):Prop where
 len:l.length<=100000
 aY:∀e∈l,fb e.ae
theorem jo{e:ai}(h:ba e=true):0<=e.ar/\e.ar<10:=by
 simp only[ba,mn,BV,Qm,Qi]at h;exact⟨h.1.1.1.1.1.1.1,h.1.1.1.1.1.1.2⟩
def fW:aU:=⟨false,⟨0,[],[]⟩⟩
 def c8(ms:List aU)(e:ai):List aU:=
 if ba e&& !((ms[e.ar.toNat]?).any (·.dm))then ms.set e.ar.toNat ⟨true,e.ae⟩else ms
 def fh(az:Nat)(t:aq)(l:List ai):List aU:=l.foldl c8 ((List.replicate 10 fW).set az ⟨true,t⟩)
theorem vw(ms:List aU)(e:ai):(c8 ms e).length=ms.length:=by
 unfold c8;split
 ·rw[QY]
 ·rfl
theorem xU:∀(l:List ai) (ms:List aU),(l.foldl c8 ms).length=ms.length
 |[],_=>rfl
 |e::l,ms=>by rw[QU,xU l,vw]
theorem AT(az:Nat)(t:aq)(l:List ai):(fh az t l).length=10:=by
 rw[fh,xU,QY,List.length_replicate]
theorem Th{ms:List aU}(hl:ms.length=10){n:Int}(h0:0<=n)(h1:n<10):∃m,ms[n.toNat]?=some m/\idx ms n=some m:=by
 have:n.toNat<ms.length:=by omega
 exact⟨ms[n.toNat],Qv this,by rw[KI _ h0];exact Qv this⟩
theorem M8{az:Nat}(hn:az<10){t:aq}(ht:fb t){l:List ai}(hl:ny l):mF az t l=some ⟨fh az t l⟩:=by
 unfold mF
 have h1:(decide ((10:Int)=10)&&decide ((0:Int)<=10)&&bW 64 (Int.toNat 10))=true:=by
  rw[er (by decide)];rfl
 have h2:¬(az:Int)<0:=by omega
 have h3:¬(10:Int)<=az:=by omega
 rw[h1];simp only[Qk,h2,h3,decide_false,Ql,Qa,aq.eta,rB ht,bB];obtain⟨m,hm1,hm2⟩:=Th (ms:=List.replicate 10 fW) (by simp) (n:=(az:Int)) (by omega) (by omega)
 have e10:List.replicate (Int.toNat 10) (aU.mk false (aq.mk 0 [] []))=List.replicate 10 fW:=rfl;rw[e10,hm2,hm1,Qa,Qa];have hlen:=hl.len
 suffices key:∀(k i:Nat) (ms:List aU) (c:bh),i+k=l.length->ms.length=10->aI _ ((i:Int),c,ms,())=some (bh.mk ((l.drop i).foldl c8 ms))by
  have:=key l.length 0 ((List.replicate 10 fW).set az ⟨true,t⟩) ⟨[]⟩ (by omega) (by simp)
  simpa[fh]using this
 intro k
 induction k with
 |zero=>
  intro i ms c hi hms;obtain rfl:i=l.length:=by omega
  refine cd ?_;have hd:decide (((l.length:Nat):Int)<((l.length:Nat):Int))=false:=Qh (Int.lt_irrefl _);simp only[hd,Ql,List.drop_length,List.foldl_nil]
 |succ k ih=>
  intro i ms c hi hms;have hlt:i<l.length:=by omega
  have hd:decide ((i:Int)<((l.length:Nat):Int))=true:=Qg (by omega)
  have hw:aJ .i64 (i:Int) 1=((i+1:Nat):Int):=cj (by omega) (by omega)
  have hx:idx l (i:Int)=some l[i]:=by rw[bK];exact Qv hlt
  have hsm:=hl.aY _ (Q0 hlt);rw[QM hlt,QU];refine Eq.trans (bq (s':=(((i+1:Nat):Int),⟨[]⟩,c8 ms l[i],())) ?_) (ih (i+1) _ _ (by omega) (by rw[vw];exact hms))
  simp only[hd,hx,hw,Qk,Qa,lS hsm];unfold c8
  cases hv:ba l[i]with
  |false=>simp
  |true=>
   obtain⟨h4,h5⟩:=jo hv;obtain⟨m,hm1,hm2⟩:=Th hms h4 h5;simp only[Qk,hm1,hm2,Qa,rB hsm,Option.any_some,Bool.true_and];cases m.dm<;>simp
theorem qu{az:Nat}{t:aq}(ht:fb t){l:List ai}(hl:ny l):GZ ⟨fh az t l⟩:=by
 refine⟨by rw[AT];omega,?_⟩
 have key:∀(l:List ai) (ms:List aU),(∀e∈l,fb e.ae)->(∀m∈ms,fb m.ae)->∀m∈l.foldl c8 ms,fb m.ae:=by
  intro l
  induction l with
  |nil=>intro ms _ h;exact h
  |cons e l ih=>
   intro ms he h;rw[QU];refine ih _ (fun e' h'=>he e' (by simp[h'])) fun m hm=> ?_
   unfold c8 at hm;split at hm
   ·rcases List.mem_or_eq_of_mem_set hm with hm|rfl
    ·exact h m hm
    ·exact he e (by simp)
   ·exact h m hm
 refine key l _ hl.aY fun m hm=> ?_
 rcases List.mem_or_eq_of_mem_set hm with hm|rfl
 ·rw[List.eq_of_mem_replicate hm];exact .mk _ (by simp[fW]) (by simp[fW]) (by simp[fW])
 ·exact ht
 def bH(l:List ai):List ai:=l.filter ba
theorem Rn{l:List ai}(hl:ny l):lJ l=some ((bH l).map bb.mk):=by
 unfold lJ;have hlen:=hl.len;simp only[bB]
 suffices key:∀(k i:Nat) (acc:List bb),i+k=l.length->acc=(bH (l.take i)).map bb.mk->aI _ ((i:Int),acc,())=some ((bH l).map bb.mk)from key l.length 0 [] (by omega) rfl
 intro k
 induction k with
 |zero=>
  intro i acc hi ha;obtain rfl:i=l.length:=by omega
  refine cd ?_;have hd:decide (((l.length:Nat):Int)<((l.length:Nat):Int))=false:=Qh (Int.lt_irrefl _);simp only[hd,Ql,Qe,ha,List.take_length]
 |succ k ih=>
  intro i acc hi ha;have hlt:i<l.length:=by omega
  have hd:decide ((i:Int)<((l.length:Nat):Int))=true:=Qg (by omega)
  have hw:aJ .i64 (i:Int) 1=((i+1:Nat):Int):=cj (by omega) (by omega)
  have hx:idx l (i:Int)=some l[i]:=by rw[bK];exact Qv hlt
  have hsm:=hl.aY _ (Q0 hlt)
  have hal:acc.length<=i:=by
   rw[ha,QC];exact QK (List.length_filter_le _ _) (by rw[List.length_take];omega)
  refine Eq.trans (bq (s':=(((i+1:Nat):Int),(if ba l[i]then acc++[bb.mk l[i]]else acc),())) ?_) (ih (i+1) _ (by omega) ?_)
  ·simp only[hd,hx,hw,Qk,Qa,aq.eta,ai.eta,lS hsm];rw[er (by simp;omega)]
   cases ba l[i]<;>simp
  ·rw[List.take_succ_eq_append_getElem hlt,bH,List.filter_append,ha];cases hv:ba l[i]<;>simp[bH,hv]
def dy(p:ai->Bool):List ai->Nat
 |[]=>0
 |e::l=>(if p e then 2 ^ e.ar.toNat else 0)|||dy p l
theorem mP(p:ai->Bool)(k:Nat):∀(l:List ai),(dy p l).testBit k=l.any fun e=>p e&&decide (e.ar.toNat=k)
 |[]=>by simp[dy]
 |e::l=>by
  rw[dy,Nat.testBit_or,mP p k l,List.any_cons];cases p e<;>simp[Nat.testBit_two_pow]
def rD(l:List ai):Prop:=∀e∈l,0<=e.ar/\e.ar<10
theorem ob(l:List ai):rD (bH l):=fun _ he=>jo (List.mem_filter.1 he).2
theorem uW(l:List ai):(bH l).length<=l.length:=List.length_filter_le _ _
theorem qY{p:ai->Bool}{l:List ai}(h:rD l):dy p l<1024:=yu fun k hk=>by
 rw[mP,List.any_eq_true]at hk;obtain⟨e,he,h1⟩:=hk;simp only[Qm,Qi]at h1;have:=h e he;omega
theorem yU(p:ai->Bool)(l:List ai)(hin:rD l)(step:(Int×Int×Unit)->Option ((Int×Int×Unit)⊕Int))
  (h1:∀(i:Nat) (e:ai) (s:Int),l[i]?=some e->step (s,(i:Int),())=if p e then(if e.ar<0 then none else some (.inl (sd .i64 s (jk .i64 1 e.ar),((i+1:Nat):Int),())))else some (.inl (s,((i+1:Nat):Int),())))
  (h2:∀s:Int,step (s,(l.length:Int),())=some (.inr s)):aI step (0,0,())=some ((dy p l:Nat):Int):=by
 suffices key:∀(k i s:Nat),i+k=l.length->s<1024->aI step ((s:Int),(i:Int),())=some ((s|||dy p (l.drop i):Nat):Int)by
  have:=key l.length 0 0 (by omega) (by omega)
  simpa using this
 intro k
 induction k with
 |zero=>
  intro i s hi hs;obtain rfl:i=l.length:=by omega
  rw[cd (h2 s),List.drop_length,dy];simp
 |succ k ih=>
  intro i s hi hs;have hlt:i<l.length:=by omega
  have hm:=hin l[i] (Q0 hlt);rw[QM hlt,dy];have hst:=h1 i l[i] s (Qv hlt)
  cases hp:p l[i]with
  |false=>
   rw[hp]at hst;rw[bq hst,ih (i+1) s (by omega) hs]
   simp
  |true=>
   rw[hp,Qr rfl,Qs (by omega),CE hs hm.1 hm.2]at hst
   rw[bq hst,ih (i+1) _ (by omega) (Jy hs hm.2)]
   simp[Nat.or_assoc]
theorem DU{v:bh}{az:Int}{l:List ai}(hl:l.length<=1000000)(hin:rD l)(b:af):gm ⟨az,v,l.map bb.mk⟩ b=some ((dy (db · b) l:Nat):Int):=by
 unfold gm;refine yU (db · b) l hin _ (fun i e s he=> ?_) (fun s=> ?_)
 ·have hlt:i<l.length:=(Qw.1 he).1;have hd:decide ((i:Int)<(((l.map bb.mk).length:Nat):Int))=true:=Qg (by rw[QC];omega)
  have hw:aJ .i64 (i:Int) 1=((i+1:Nat):Int):=cj (by omega) (by omega)
  have hx:idx (l.map bb.mk) (i:Int)=some ⟨e⟩:=by rw[bK,QT,he];rfl
  simp only[hd,hx,hw,Qk,Qa,aq.eta,ai.eta,iY,n3,bB];cases db e b<;>simp
 ·have hd:decide (((l.length:Nat):Int)<(((l.map bb.mk).length:Nat):Int))=false:=Qh (by rw[QC];exact Int.lt_irrefl _)
  simp only[hd,Ql,Qe]
theorem OF{v:bh}{az:Int}{l:List ai}(hl:l.length<=1000000)(hin:rD l)(b:af):eQ ⟨az,v,l.map bb.mk⟩ b b=some ((dy (fun e=>pT e b||db e b) l:Nat):Int):=by
 unfold eQ;refine yU (fun e=>pT e b||db e b) l hin _ (fun i e s he=> ?_) (fun s=> ?_)
 ·have hlt:i<l.length:=(Qw.1 he).1;have hd:decide ((i:Int)<(((l.map bb.mk).length:Nat):Int))=true:=Qg (by rw[QC];omega)
  have hw:aJ .i64 (i:Int) 1=((i+1:Nat):Int):=cj (by omega) (by omega)
  have hx:idx (l.map bb.mk) (i:Int)=some ⟨e⟩:=by rw[bK,QT,he];rfl
  simp only[hd,hx,hw,Qk,Qa,aq.eta,ai.eta,gu,iY,lX,n3,wW,bB,mZ,Bool.cond_true_left];cases (pT e b||db e b)<;>simp
 ·have hd:decide (((l.length:Nat):Int)<(((l.map bb.mk).length:Nat):Int))=false:=Qh (by rw[QC];exact Int.lt_irrefl _)
  simp only[hd,Ql,Qe]
 def o0(ms:List aU)(v votes accepts:Nat):Bool:=tr ms v accepts||(gq ms (votes|||accepts)).testBit v
theorem Ap{c:bh}(hc:GZ c){v votes accepts:Nat}(hv:v<10)(h1:votes<1024)(h2:accepts<1024):gH c v votes accepts=some (o0 c.bE v votes accepts):=by
 unfold gH o0;have h3:votes|||accepts<1024:=Nat.or_lt_two_pow (n:=10) h1 h2
 rw[uO h1,uO h2,I7 hc h2,Hw votes accepts (by omega) (by omega),DX hc h3]
 simp[wc (Gw hc h3).lt,wg,hv]
theorem yE{c:bh}(hc:GZ c){v accepts:Nat}(hv:v<10)(h2:accepts<1024):gi c v accepts=some ((gq c.bE accepts).testBit v):=by
 unfold gi;rw[DX hc h2];simp[wc (Gw hc h2).lt,wg,hv]
 def iA(az:Nat)(t:aq)(l:List ai)(b:af):Bool:=
 o0 (fh az t l) az (dy (fun e=>pT e b||db e b) (bH l)) (dy (db · b) (bH l))
 def iD(az:Nat)(t:aq)(l:List ai)(b:af):Bool:=
 (gq (fh az t l) (dy (db · b) (bH l))).testBit az
theorem H3{az:Nat}(hn:az<10){t:aq}(ht:fb t){l:List ai}(hl:ny l):dX az t l=some ⟨az,⟨fh az t l⟩,(bH l).map bb.mk⟩:=by
 unfold dX;simp only[aq.eta,M8 hn ht hl,Rn hl,Qa]
end Go.Proofs.YtkgenianmdfmdaaGreat
namespace Go.Proofs.YtkgenianmdfmdaaGreat
open Go.TQ
theorem Sv{α:Type}{l l':List α}(h:l.Perm l')(p:α->Bool):l.any p=l'.any p:=by
 rw[QW,List.any_eq_true,List.any_eq_true];exact⟨fun⟨x,h1,h2⟩=>⟨x,h.mem_iff.1 h1,h2⟩,fun⟨x,h1,h2⟩=>⟨x,h.mem_iff.2 h1,h2⟩⟩
theorem OO{l l':List ai}(h:l.Perm l')(p:ai->Bool):dy p l=dy p l':=yr fun k=>by rw[mP,mP,Sv h]
theorem L0{l l':List ai}(h:l.Perm l'):(bH l).Perm (bH l'):=h.filter _
def tL(l:List ai):Prop:=∀a∈l,∀b∈l,a.ar=b.ar->a=b
theorem tL.perm{l l':List ai}(h:tL l)(hp:l.Perm l'):tL l':=fun a ha b hb=>h a (hp.mem_iff.2 ha) b (hp.mem_iff.2 hb)
 def kF(l:List ai)(k:Nat):Option ai:=l.find? fun e=>ba e&&decide (e.ar.toNat=k)
theorem xx{l:List ai}{k:Nat}{e:ai}(h:kF l k=some e):e∈l/\ba e=true/\e.ar=k:=by
 unfold kF at h;have h1:=List.mem_of_find?_eq_some h;have h2:=List.find?_some h;simp only[Qm,Qi]at h2;have:=jo h2.1;exact⟨h1,h2.1,by omega⟩
theorem F3{l:List ai}(ha:tL l){k:Nat}{e:ai}(h1:e∈l)(h2:ba e=true)(h3:e.ar=k):kF l k=some e:=by
 cases h:kF l k with
 |none=>
  unfold kF at h;rw[List.find?_eq_none]at h;have:=h e h1;simp[h2,h3]at this
 |some e'=>
  obtain⟨g1,g2,g3⟩:=xx h;rw[ha e' g1 e h1 (by omega)]
theorem Md{l l':List ai}(ha:tL l)(h:l.Perm l')(k:Nat):kF l k=kF l' k:=by
 cases h1:kF l k with
 |some e=>
  obtain⟨g1,g2,g3⟩:=xx h1;exact(F3 (ha.perm h) (h.mem_iff.1 g1) g2 g3).symm
 |none=>
  cases h2:kF l' k with
  |none=>rfl
  |some e=>
   obtain⟨g1,g2,g3⟩:=xx h2;rw[F3 ha (h.mem_iff.2 g1) g2 g3]at h1;cases h1
theorem H9:∀(l:List ai) (ms:List aU),ms.length=10->(∀m∈ms,m.dm=false->m=fW)->∀k,k<10->(l.foldl c8 ms)[k]?=some (match ms[k]? with
  |some m=>if m.dm then m else(match kF l k with
   |some e=>⟨true,e.ae⟩
   |none=>fW)
  |none=>fW)
 |[],ms,hl,hn,k,hk=>by
  have hk':k<ms.length:=by omega
  rw[List.foldl_nil,Qv hk']
  cases hd:ms[k].dm with
  |true=>simp[hd]
  |false=>
   have:=hn _ (Q0 hk') hd;simp[hd,kF,this]
 |e::l,ms,hl,hn,k,hk=>by
  have hk':k<ms.length:=by omega
  rw[QU];have hlen:(c8 ms e).length=10:=by rw[vw];exact hl
  have hn':∀m∈c8 ms e,m.dm=false->m=fW:=by
   unfold c8;split
   ·intro m hm hd;rcases List.mem_or_eq_of_mem_set hm with hm|rfl
    ·exact hn m hm hd
    ·cases hd
   ·exact hn
  rw[H9 l (c8 ms e) hlen hn' k hk];congr 1
  have hof:kF (e::l) k=if(ba e&&decide (e.ar.toNat=k))=true then some e else kF l k:=by
   unfold kF;rw[List.find?_cons];cases ba e&&decide (e.ar.toNat=k)<;>rfl
  rw[hof];unfold c8
  by_cases hv:ba e=true
  ·have hnode:=jo hv;have hi:e.ar.toNat<ms.length:=by omega
   rw[hv,Bool.true_and,Bool.true_and]
   by_cases hke:e.ar.toNat=k
   ·subst hke;rw[Qv hi]
    cases hd:ms[e.ar.toNat].dm with
    |true=>simp[hd,Qv hi]
    |false=>simp[hd,hi]
   ·have hne:decide (e.ar.toNat=k)=false:=Qh hke
    have hset:∀c:Bool,(if c=true then ms.set e.ar.toNat ⟨true,e.ae⟩else ms)[k]?=ms[k]?:=fun c=>by
     cases c
     ·rfl
     ·rw[Qr rfl,List.getElem?_set_ne hke]
    rw[hne,hset];simp
  ·have hv':ba e=false:=by simpa using hv
   simp[hv']
theorem AS{az:Nat}(hn:az<10)(t:aq)(l:List ai){k:Nat}(hk:k<10):(fh az t l)[k]?=some (if k=az then⟨true,t⟩else match kF l k with
  |some e=>⟨true,e.ae⟩
  |none=>fW):=by
 rw[fh,H9 l _ (by simp) (fun m hm hd=> ?_) k hk]
 ·by_cases h:k=az
  ·subst h;simp[hn]
  ·rw[List.getElem?_set_ne (fun e=>h e.symm),List.getElem?_replicate,Qr hk]
   simp[h,fW]
 ·rcases List.mem_or_eq_of_mem_set hm with hm|rfl
  ·exact(List.mem_replicate.1 hm).2
  ·cases hd
theorem Nj{az:Nat}(hn:az<10)(t:aq){l l':List ai}(ha:tL l)(h:l.Perm l'):fh az t l=fh az t l':=by
 refine List.ext_getElem? fun k=> ?_
 by_cases hk:k<10
 ·rw[AS hn t l hk,AS hn t l' hk,Md ha h]
 ·rw[List.getElem?_eq_none (by rw[AT];omega),List.getElem?_eq_none (by rw[AT];omega)]
end Go.Proofs.YtkgenianmdfmdaaGreat
namespace Go.Proofs.YtkgenianmdfmdaaGreat
open Go.TQ
theorem Re{τ ρ:Type}(n:Nat)(mk:Int->τ){step:τ->Option (τ⊕ρ)}{fin:Option ρ}(h1:∀i:Nat,i<n->step (mk (i:Int))=some (.inl (mk ((i+1:Nat):Int))))(h2:step (mk (n:Int))=Option.map Sum.inr fin):aI step (mk 0)=fin:=by
 suffices key:∀(k i:Nat),i+k=n->aI step (mk (i:Int))=fin from key n 0 (by omega)
 intro k
 induction k with
 |zero=>
  intro i hi;obtain rfl:i=n:=by omega
  rw[lN,h2];cases fin<;>rfl
 |succ k ih=>exact fun i hi=>(bq (h1 i (by omega))).trans (ih (i+1) (by omega))
theorem Ik{ρ:Type}(n:Nat)(hn:n<=1000000){fin:Option ρ}{step:Int×Unit->Option ((Int×Unit)⊕ρ)}
  (h1:∀i:Nat,i<n->decide ((i:Int)<((n:Nat):Int))=true->aJ .i64 (i:Int) 1=((i+1:Nat):Int)->step ((i:Int),())=some (.inl (((i+1:Nat):Int),())))
  (h2:decide (((n:Nat):Int)<((n:Nat):Int))=false->step ((n:Int),())=Option.map Sum.inr fin):aI step (0,())=fin:=
 Re n (fun i=>(i,())) (fun i hi=>h1 i hi (Qg (by omega)) (cj (by omega) (by omega))) (h2 (Qh (Int.lt_irrefl _)))
end Go.Proofs.YtkgenianmdfmdaaGreat
namespace Go.Proofs.YtkgenianmdfmdaaGreat
open Go.TQ
def zS:List UInt8->Nat
 |[]=>0
 |a::l=>a.toNat*256 ^ l.length+zS l
theorem CO:∀l:List UInt8,zS l<256 ^ l.length
 |[]=>by simp[zS]
 |a::l=>by
  have h1:=CO l;have h2:a.toNat<256:=a.toNat_lt;rw[zS,QE,Nat.pow_succ];have h3:(a.toNat+1)*256 ^ l.length<=256*256 ^ l.length:=Nat.mul_le_mul_right _ h2;rw[Nat.add_mul,Nat.one_mul,Nat.mul_comm 256]at h3;omega
theorem Q9:∀{x y:List UInt8},x.length=y.length->Op.bytesLess x y=true->zS x<zS y
 |[],[],_,h=>by simp[Op.bytesLess]at h
 |[],_::_,hl,_=>by simp at hl
 |_::_,[],hl,_=>by simp at hl
 |a::x,b::y,hl,h=>by
  simp only[QE,Nat.add_right_cancel_iff]at hl;simp only[Op.bytesLess,Qn,Qi,Qm,beq_iff_eq]at h;rw[zS,zS,hl];rcases h with h|⟨rfl,h⟩
  ·have h1:=CO x;rw[hl]at h1;have h2:a.toNat<b.toNat:=UInt8.lt_iff_toNat_lt.1 h;have h3:(a.toNat+1)*256 ^ y.length<=b.toNat*256 ^ y.length:=Nat.mul_le_mul_right _ h2;rw[Nat.add_mul,Nat.one_mul]at h3;omega
  ·have:=Q9 hl h;omega
def WV:Nat:=256 ^ 201
def HR(v:ByteArray):Nat:=v.size*256 ^ 200+zS v.toList
theorem toList_len(v:ByteArray):v.toList.length=v.size:=by
 rw[Lib.toList_data];cases v;simp[ByteArray.size]
theorem O8{a b:Nat}(h:a<=b):(256:Nat) ^ a<=256 ^ b:=Nat.pow_le_pow_right (by omega) h
theorem MU{v:ByteArray}(h:v.size<=200):HR v<WV:=by
 have h1:=CO v.toList;rw[toList_len]at h1;have h2:=O8 h;have h3:v.size*256 ^ 200<=200*256 ^ 200:=Nat.mul_le_mul_right _ h;have h4:WV=256*256 ^ 200:=by rw[WV,Nat.pow_succ,Nat.mul_comm]
 unfold HR;rw[h4];generalize (256:Nat) ^ 200=Z at*;omega
theorem Pz{a b:ByteArray}(hb:b.size<=200)(h:mT a b=true):HR a<HR b:=by
 unfold mT at h;unfold HR
 by_cases hs:a.size=b.size
 ·rw[Qr hs]at h;have:=Q9 (x:=a.toList) (y:=b.toList) (by rw[toList_len,toList_len,hs]) h
  rw[hs];omega
 ·rw[Qs hs,Qi]at h;have h1:=CO a.toList;rw[toList_len]at h1;have h2:=O8 (show a.size<=200 by omega)
  have h3:(a.size+1)*256 ^ 200<=b.size*256 ^ 200:=Nat.mul_le_mul_right _ h;rw[Nat.add_mul,Nat.one_mul]at h3;generalize (256:Nat) ^ 200=Z at*;omega
def Sm(b:af):Prop:=0<=b.aj/\b.aj<=1000/\b.Value.size<=200
def ke(b:af):Nat:=b.aj.toNat*WV+HR b.Value
def WB:Nat:=1001*WV
theorem lg{b:af}(h:Sm b):ke b<WB:=by
 obtain⟨h1,h2,h3⟩:=h;have h4:=MU h3;unfold ke WB;have h5:b.aj.toNat*WV<=1000*WV:=Nat.mul_le_mul_right _ (by omega)
 generalize WV=Z at*;omega
theorem ou{a b:af}(ha:Sm a)(hb:Sm b)(h:a8 a b=true):ke a<ke b:=by
 unfold a8 at h;unfold ke
 by_cases hc:a.aj=b.aj
 ·rw[Qr hc]at h;have:=Pz hb.2.2 h;rw[hc];omega
 ·rw[Qs hc,Qi]at h;have h1:=MU ha.2.2;have h2:=ha.1;have h3:(a.aj.toNat+1)*WV<=b.aj.toNat*WV:=Nat.mul_le_mul_right _ (by omega)
  rw[Nat.add_mul,Nat.one_mul]at h3;generalize WV=Z at*;omega
theorem Yd.down{σ ρ:Type}{step:σ->Option (σ⊕ρ)}{p:ρ->Prop}(inv:σ->Prop)(μ:σ->Nat)(h:∀s,inv s->Yd (step s) fun y=>match y with| .inl s'=>inv s'/\μ s'<μ s| .inr r=>p r){s:σ}(hs:inv s):Yd (aI step s) p:=by
 suffices key:∀(n:Nat) (s:σ),μ s<n->inv s->Yd (aI step s) p from key _ s (Nat.lt_succ_self _) hs
 intro n
 induction n with
 |zero=>intro s h0;omega
 |succ n ih=>
  intro s hn hi;refine Yd.loop ((h s hi).mono fun y hy=> ?_)
  cases y with
  |inl s'=>exact ih s' (by have:=hy.2;omega) hy.1
  |inr r=>exact hy
end Go.Proofs.YtkgenianmdfmdaaGreat
namespace Go.Proofs.YtkgenianmdfmdaaGreat
open Go.TQ
def bm:af:=⟨0,gC⟩
def ez(m:ab):Int:=if(!aD m.au&&bw m.au m.aa)=true then m.au.aj else 0
def bU(m:ab):ai:=
 if m.aA=1 then⟨m.ar,m.bs,m.aK,m.ae,m.aA,m.aa,m.al,m.aw,m.aN,ez m⟩
 else if m.aA=2 then⟨m.ar,m.bs,m.aK,m.ae,m.aA,m.aa,m.al,bm,m.aN,m.bc⟩
 else⟨m.ar,m.bs,m.aK,m.ae,m.aA,m.aa,bm,bm,m.aN,m.bc⟩
theorem il(m:ab):(bU m).ar=m.ar:=by unfold bU;split<;>(try split)<;>rfl
theorem ub(m:ab):(bU m).bs=m.bs:=by unfold bU;split<;>(try split)<;>rfl
theorem K3(m:ab):(bU m).aK=m.aK:=by unfold bU;split<;>(try split)<;>rfl
theorem sA(m:ab):(bU m).ae=m.ae:=by unfold bU;split<;>(try split)<;>rfl
theorem xg(m:ab):(bU m).bQ=m.aA:=by unfold bU;split<;>(try split)<;>rfl
theorem DM(m:ab):(bU m).aa=m.aa:=by unfold bU;split<;>(try split)<;>rfl
def fp(m:ab):ai:={bU m with aK:=bl (bU m).aK 1}
def BU(e:ai):List ai->List ai
 |[]=>[e]
 |x::l=>if e.ar<x.ar then e::x::l else x::BU e l
theorem xe(e:ai):∀l,(BU e l).Perm (l++[e])
 |[]=> .refl _
 |x::l=>by
  unfold BU;split
  ·exact(List.perm_append_singleton e (x::l)).symm
  ·exact(xe e l).cons x
def aO(m:ab):List ai:=if aD m.aa=true then m.aB else BU (fp m) m.aB
def uP(a b:af):Bool:=decide (a.aj=b.aj)&&decide (a.Value=b.Value)
theorem n9{a b:af}:uP a b=true↔a=b:=by
 cases a;cases b;simp[uP]
def ll(a b:ab):Bool:=decide (a.aA=b.aA)&&uP a.aa b.aa&&uP a.al b.al&&uP a.aw b.aw&&uP a.au b.au&&decide (a.aN=b.aN)&&decide (a.bc=b.bc)
end Go.Proofs.YtkgenianmdfmdaaGreat
namespace Go.Proofs.YtkgenianmdfmdaaGreat
open Go.TQ
def tz(v:ByteArray)(n:Int)(x:af):Int:=
 if(cF x&&eE x ⟨n,v⟩)=true then(if eE x ⟨x.aj,v⟩=true then x.aj+1 else x.aj)else n
def kc(v:ByteArray)(n:Int)(p q:af):Int:=tz v (tz v (bl n 1) p) q
end Go.Proofs.YtkgenianmdfmdaaGreat
namespace Go.Proofs.YtkgenianmdfmdaaGreat
open Go.TQ
theorem NU{lo k:Int}{v:ByteArray}{p:af}(h:lo<=k)(hl:a8 ⟨k,v⟩ p=true):a8 ⟨lo,v⟩ p=true:=by
 unfold a8 at hl ⊢;simp only at hl ⊢
 by_cases h1:lo=k
 ·rw[h1];exact hl
 ·have h2:lo<p.aj:=by
   split at hl
   ·omega
   ·simp only[Qi]at hl;omega
  rw[Qs (by omega)]
  simpa using h2
theorem Mm{lo k:Int}{v:ByteArray}{p:af}(h:lo<=k)(ha:eE p ⟨lo,v⟩=false):eE p ⟨k,v⟩=false:=by
 cases hk:eE p ⟨k,v⟩with
 |false=>rfl
 |true=>
  simp only[eE,Qm,bw]at hk;simp only[eE,bw,hk.1.1,hk.1.2,NU h hk.2]at ha;cases ha
theorem iF(p b:af):im p b=true↔aD p=false/\p.Value=b.Value/\b.aj<=p.aj:=by
 simp[im,bw,and_assoc]
theorem F8{b:af}(h:1<=b.aj):aD b=false:=by
 have:¬b.aj=0:=by omega
 simp[aD,this]
end Go.Proofs.YtkgenianmdfmdaaGreat
namespace Go.Proofs.YtkgenianmdfmdaaGreat
open Go.TQ
def vE(b p:af)(j:Nat)(t:aq):ai:=⟨j,1,1,t,1,b,p,⟨0,ByteArray.mk #[]⟩,0,0⟩
structure LI (b:af):Prop where
 lo:1<=b.aj
 hi:b.aj<=6
 val:I6 b.Value
theorem LI.valid{b:af}(h:LI b):cF b=true:=OT h.lo (by have:=h.hi;omega) h.val
theorem LI.nz{b:af}(h:LI b):aD b=false:=F8 h.lo
theorem FL{l:List ai}(h:∀e∈l,ba e=true):bH l=l:=List.filter_eq_self.2 h
end Go.Proofs.YtkgenianmdfmdaaGreat
namespace Go.Proofs.YtkgenianmdfmdaaGreat
open Go.TQ
theorem vu:∀(l:List ai) (ms:List aU) (k:Nat) (m:aU),ms[k]?=some m->
  (l.foldl c8 ms)[k]?=some (if m.dm then m else match(bH l).find? (fun e=>decide (e.ar.toNat=k))with|some e=>⟨true,e.ae⟩|none=>m)
 |[],ms,k,m,h=>by simp[bH,h]
 |e::l,ms,k,m,h=>by
  rw[QU]
  by_cases hv:ba e=true
  ·have hr:bH (e::l)=e::bH l:=by simp[bH,hv]
   rw[hr,List.find?_cons]
   by_cases hk:e.ar.toNat=k
   ·have hstep:(c8 ms e)[k]?=some (if m.dm then m else⟨true,e.ae⟩):=by
     unfold c8;rw[hv,hk,h]
     cases hm:m.dm with
     |true=>simp[hm,h]
     |false=>
      have hlt:k<ms.length:=(Qw.1 h).1;simp[hm,hlt]
    rw[vu l _ k _ hstep]
    cases hm:m.dm with
    |true=>simp[hm]
    |false=>simp[hk]
   ·have hstep:(c8 ms e)[k]?=some m:=by
     unfold c8;split
     ·rw[List.getElem?_set_ne hk];exact h
     ·exact h
    rw[vu l _ k m hstep];simp[hk]
  ·have hv':ba e=false:=by simpa using hv
   have hr:bH (e::l)=bH l:=by simp[bH,hv']
   have hstep:c8 ms e=ms:=by simp[c8,hv']
   rw[hr,hstep];exact vu l ms k m h
theorem OS{az:Nat}{t:aq}{l:List ai}{k:Nat}(hk:k<10)(hn:az<10):
  (fh az t l)[k]?=some (if k=az then⟨true,t⟩else match(bH l).find? (fun e=>decide (e.ar.toNat=k))with|some e=>⟨true,e.ae⟩|none=>fW):=by
 unfold fh
 by_cases h:k=az
 ·subst h;rw[vu l _ k ⟨true,t⟩ (by simp[hk])]
  simp
 ·rw[vu l _ k fW (by
   rw[List.getElem?_set_ne (fun e=>h e.symm),List.getElem?_replicate,Qr hk])]
  simp[h,fW]
theorem IE{l:List aU}{k:Nat}{m:aU}(hk:k<10)(h:l[k]?=some m)(hd:m.dm=true):mz l k=true:=by
 rw[mz,B5,h];simp[hk,hd]
theorem OR{az:Nat}(hn:az<10){t:aq}{l:List ai}(T:Nat->aq)(ht:T az=t)(hT:∀e∈bH l,e.ae=T e.ar.toNat){k:Nat}(hk:k<10)(hs:k=az\/∃e∈bH l,e.ar.toNat=k):
  mz (fh az t l) k=true/\kq (fh az t l) k=T k:=by
 have hg:=OS (t:=t) (l:=l) hk hn
 by_cases h:k=az
 ·rw[Qr h]at hg;exact⟨IE hk hg rfl,by rw[tx hg,h,ht]⟩
 ·rw[Qs h]at hg;obtain⟨e,he,hek⟩:=hs.resolve_left h
  cases hf:(bH l).find? (fun e=>decide (e.ar.toNat=k))with
  |none=>
   have:=List.find?_eq_none.1 hf e he;simp[hek]at this
  |some e'=>
   rw[hf]at hg;have h1:=List.mem_of_find?_eq_some hf;have h2:=List.find?_some hf;simp only[Qi]at h2;exact⟨IE hk hg rfl,by rw[tx hg,<-h2];exact hT e' h1⟩
def yS(b p:af)(ts:List aq)(q n:Nat)(l:List ai):Prop:=
 l.length<=n/\(∀e∈l,∃i t,i<n/\q.testBit i=true/\ts[i]?=some t/\e=vE b p i t)/\∀i t,i<n->q.testBit i=true->ts[i]?=some t->vE b p i t∈l
theorem yS.nil(b p:af)(ts:List aq)(q:Nat):yS b p ts q 0 []:=⟨by simp,by simp,fun i t h=>by omega⟩
theorem yS.take{b p:af}{ts:List aq}{q n:Nat}{l:List ai}(h:yS b p ts q n l)(hq:q.testBit n=true){t:aq}(ht:ts[n]?=some t):yS b p ts q (n+1) (l++[vE b p n t]):=by
 obtain⟨h1,h2,h3⟩:=h;refine⟨by simp;omega,fun e he=> ?_,fun i t' hi hb ht'=> ?_⟩
 ·rcases Qz.1 he with he|he
  ·obtain⟨i,t,a,b,c⟩:=h2 e he;exact⟨i,t,by omega,b,c⟩
  ·simp only[List.mem_singleton]at he;exact⟨n,t,by omega,hq,ht,he⟩
 ·rcases Nat.lt_or_ge i n with h|h
  ·exact Qz.2 (.inl (h3 i t' h hb ht'))
  ·obtain rfl:i=n:=by omega
   rw[ht]at ht';injection ht' with ht'
   subst ht';exact Qz.2 (.inr (by simp))
section
variable {b p : af} (hb : LI b) (hp : aD p = true \/ cF p = true) {ts : List aq} (hts : ∀ t ∈ ts, kh t) {q : Nat} {l : List ai} (hlen : ts.length <= 5) (hc : yS b p ts q ts.length l)
 include hb hp hts hlen hc
end
end Go.Proofs.YtkgenianmdfmdaaGreat
namespace Go.Proofs.YtkgenianmdfmdaaGreat
open Go.TQ
section
variable {α : Type}
structure SWO (lt:α->α->Bool):Prop where
 asymm:∀x y,lt x y=true->lt y x=false
 trans:∀x y z,lt y x=false->lt z y=false->lt z x=false
end
end Go.Proofs.YtkgenianmdfmdaaGreat
namespace Go.Proofs.YtkgenianmdfmdaaGreat
open Go.TQ
section
variable {α : Type}
 def Lf(eq ne:α->α->Bool)(z:α)(K:Int)(n:Nat)(v6:Int×Int×(List α)×Unit):Option ((Int×Int×(List α)×Unit)⊕((Int×(List α)×Unit)⊕List α)):=
 bif (decide (v6.2.1<((List.length ((v6.2.2.1.drop (Int.toNat K)).take (Int.toNat (n:Int) - Int.toNat K)):Nat):Int)))then
 bL (fun(v7:Int×(List α)×Unit)=>
 some (Sum.inl (v7.1,(aJ .i64 v6.2.1 (1:Int)),v7.2.1,()))) fun j8=>
 Option.bind (idx ((v6.2.2.1.drop (Int.toNat K)).take (Int.toNat (n:Int) - Int.toNat K)) v6.2.1) fun x9=>
 Option.bind (v6.2.2.1[((Int.toNat K)+Int.toNat v6.2.1)]?) fun x10=>
 Option.bind (idx ((v6.2.2.1.drop (Int.toNat K)).take (Int.toNat (n:Int) - Int.toNat K)) (gJ .i64 v6.2.1 (1:Int))) fun x11=>
 Option.bind (v6.2.2.1[((Int.toNat K)+Int.toNat (gJ .i64 v6.2.1 (1:Int)))]?) fun x12=>
 bif (ne x10 x12)then
 Option.bind (idx ((v6.2.2.1.drop (Int.toNat K)).take (Int.toNat (n:Int) - Int.toNat K)) v6.2.1) fun x13=>
 Option.bind (v6.2.2.1[((Int.toNat K)+Int.toNat v6.2.1)]?) fun x14=>
 Option.bind (idx v6.2.2.1 v6.1) fun x15=>
 Option.bind (v6.2.2.1[(Int.toNat v6.1)]?) fun x16=>
 j8 ((aJ .i64 v6.1 (1:Int)),(v6.2.2.1.set (Int.toNat v6.1) x14),())
 else
 j8 (v6.1,v6.2.2.1,())
 else
 Option.map Sum.inr (bif dK v6.1 ((List.length v6.2.2.1):Int) (List.length v6.2.2.1)then
 bif dK (0:Int) v6.1 (List.length (v6.2.2.1.take (Int.toNat v6.1)++List.replicate (Int.toNat ((List.length v6.2.2.1):Int) - Int.toNat v6.1) z++v6.2.2.1.drop ((Int.toNat v6.1)+(Int.toNat ((List.length v6.2.2.1):Int) - Int.toNat v6.1))))then
 Option.map Sum.inr (some ((v6.2.2.1.take (Int.toNat v6.1)++List.replicate (Int.toNat ((List.length v6.2.2.1):Int) - Int.toNat v6.1) z++v6.2.2.1.drop ((Int.toNat v6.1)+(Int.toNat ((List.length v6.2.2.1):Int) - Int.toNat v6.1))).take (Int.toNat v6.1 - Int.toNat (0:Int))))
 else none
 else none)
 def GF(eq ne:α->α->Bool)(z:α)(v1:Int×(List α)×Unit):Option ((Int×(List α)×Unit)⊕List α):=
 bif (decide (v1.1<((List.length v1.2.1:Nat):Int)))then
 Option.bind (idx v1.2.1 v1.1) fun x2=>
 Option.bind (v1.2.1[(Int.toNat v1.1)]?) fun x3=>
 Option.bind (idx v1.2.1 (gJ .i64 v1.1 (1:Int))) fun x4=>
 Option.bind (v1.2.1[(Int.toNat (gJ .i64 v1.1 (1:Int)))]?) fun x5=>
 bif (eq x3 x5)then
 bif dK v1.1 ((List.length v1.2.1):Int) (List.length v1.2.1)then
 aI (Lf eq ne z v1.1 (List.length v1.2.1)) (v1.1,(1:Int),v1.2.1,())
 else none
 else
 some (Sum.inl ((aJ .i64 v1.1 (1:Int)),v1.2.1,()))
 else
 Option.map Sum.inr (some v1.2.1)
 def ER(eq ne:α->α->Bool)(z:α)(s:List α):Option (List α):=
 bif (decide (((List.length s:Nat):Int)<(2:Int)))then
 some s
 else
 aI (GF eq ne z) ((1:Int),s,())
theorem JM(d:List α){K n m:Nat}(hm:m<n - K):idx ((d.drop K).take (n - K)) (m:Int)=d[K+m]?:=by
 rw[bK,List.getElem?_take,Qr hm,List.getElem?_drop]
variable [DecidableEq α]
def mC(acc:List α)(x:α):List α:=if acc.getLast?=some x then acc else acc++[x]
def dd(l:List α):List α:=l.foldl mC []
theorem MZ(l:List α)(x:α):dd (l++[x])=mC (dd l) x:=by simp[dd,List.foldl_append]
theorem UH(l:List α):(dd l).getLast?=l.getLast?:=by
 suffices h:∀r:List α,(dd r.reverse).getLast?=r.reverse.getLast? by
  have:=h l.reverse
  rwa [List.reverse_reverse]at this
 intro r
 induction r with
 |nil=>rfl
 |cons x r ih=>
  rw[List.reverse_cons,MZ,mC];split
  ·rename_i h;rw[h];simp
  ·simp
theorem MY{s:List α}{k:Nat}{x:α}(h:s[k]?=some x):dd (s.take (k+1))=mC (dd (s.take k)) x:=by
 obtain⟨hl,hx⟩:=Qw.1 h;rw[List.take_succ_eq_append_getElem hl,hx,MZ]
theorem ID{s:List α}{k:Nat}{x:α}(h:s[k]?=some x):(dd (s.take (k+1))).getLast?=some x:=by
 obtain⟨hl,hx⟩:=Qw.1 h;rw[UH,List.take_succ_eq_append_getElem hl,hx];simp
variable {eq ne : α -> α -> Bool} {z : α}
theorem E0(hne:∀x y,ne x y= !decide (x=y)){s:List α}{K:Nat}(hn:s.length<1000000000):∀(r i k2:Nat) (d:List α),k2+r=s.length - K->1<=k2->i<=K+k2 - 1->d.length=s.length->d.take i=dd (s.take (K+k2))->(∀j,K+k2 - 1<=j->d[j]?=s[j]?)->
  aI (Lf eq ne z (K:Int) s.length) ((i:Int),(k2:Int),d,())=some (.inr (dd s))
 |0,i,k2,d,hr,h1,hi,hd,ht,hs=>by
  have hKn:K+k2=s.length:=by omega
  refine cd ?_;have e1:(((d.drop K).take (s.length - K)).length)=s.length - K:=by simp;omega
  have e2:decide ((k2:Int)<((s.length - K:Nat):Int))=false:=Qh (by omega)
  have e3:∀n,dK (i:Int) (d.length:Int) n=decide (d.length<=n):=by
   intro n;have:i<=d.length:=by omega
   simp only[dK];have h1:decide ((0:Int)<=(i:Int))=true:=Qg (by omega)
   have h2:decide ((i:Int)<=(d.length:Int))=true:=Qg (by omega)
   rw[h1,h2,Bool.and_self,Bool.true_and,decide_eq_decide];omega
  have e4:(d.take i++List.replicate (d.length - i) z++d.drop (i+(d.length - i))).length=d.length:=by simp;omega
  have e5:dK (0:Int) (i:Int) d.length=true:=by
   simp only[dK,Qm,Qi];omega
  have e6:(d.take i++List.replicate (d.length - i) z++d.drop (i+(d.length - i))).take (i - 0)=dd s:=by
   rw[Nat.sub_zero,QL,List.take_append_of_le_length (by simp;omega),List.take_take,Nat.min_self,ht,hKn,List.take_length]
  simp only[Lf,QV,e1,e2,Ql,e3,QI,decide_true,Qk,e4,e5,Int.toNat_zero,e6,Qe]
 |r+1,i,k2,d,hr,h1,hi,hd,ht,hs=>by
  have hKn:K+k2<s.length:=by omega
  obtain⟨x,hx⟩:∃x,s[K+k2]?=some x:=⟨_,Qv hKn⟩;obtain⟨y,hy⟩:∃y,s[K+(k2 - 1)]?=some y:=⟨_,Qv (by omega)⟩
  have e1:(((d.drop K).take (s.length - K)).length)=s.length - K:=by simp;omega
  have e2:decide ((k2:Int)<((s.length - K:Nat):Int))=true:=Qg (by omega)
  have e3:gJ .i64 (k2:Int) 1=((k2 - 1:Nat):Int):=by rw[Cu (by omega) (by omega)];omega
  have e4:aJ .i64 (k2:Int) 1=((k2+1:Nat):Int):=cj (by omega) (by omega)
  have e5:aJ .i64 (i:Int) 1=((i+1:Nat):Int):=cj (by omega) (by omega)
  have hdx:d[K+k2]?=some x:=by rw[hs _ (by omega),hx]
  have hdy:d[K+(k2 - 1)]?=some y:=by rw[hs _ (by omega),hy]
  have hv1:=JM d (K:=K) (n:=s.length) (m:=k2) (by omega)
  have hv2:=JM d (K:=K) (n:=s.length) (m:=k2 - 1) (by omega)
  obtain⟨w,hw⟩:∃w,d[i]?=some w:=⟨_,Qv (by omega)⟩
  have hstep:=MY hx
  have hlast:(dd (s.take (K+k2))).getLast?=some y:=by
   have:=ID hy
   rwa [show K+(k2 - 1)+1=K+k2 by omega]at this
  rw[mC,hlast]at hstep;have hil:i<d.length:=by omega
  by_cases hxy:x=y
  ·refine Eq.trans (bq (s':=((i:Int),((k2+1:Nat):Int),d,())) ?_) (E0 hne hn r i (k2+1) d (by omega) (by omega) (by omega) hd ?_ fun j hj=>hs j (by omega))
   ·simp only[Lf,QV,e1,e2,Qk,bB,hv1,hdx,Qa,e3,hv2,hdy,hne,hxy,decide_true,Qo,Ql,e4]
   ·rw[show K+(k2+1)=K+k2+1 by omega,hstep,Qr (by rw[hxy]),ht]
  ·refine Eq.trans (bq (s':=(((i+1:Nat):Int),((k2+1:Nat):Int),d.set i x,())) ?_) (E0 hne hn r (i+1) (k2+1) (d.set i x) (by omega) (by omega) (by omega) (by rw[QY];exact hd) ?_ fun j hj=> ?_)
   ·simp only[Lf,QV,e1,e2,Qk,bB,hv1,hdx,Qa,e3,hv2,hdy,hne,hxy,decide_false,Qp,e4,e5,bK,hw]
   ·rw[show K+(k2+1)=K+k2+1 by omega,hstep,Qs (fun e=>hxy (by injection e with e;exact e.symm)),<-ht,List.take_succ_eq_append_getElem (by rw[QY];exact hil)]
    congr 1
    ·rw[List.take_set_of_le (QI _)]
    ·simp
   ·rw[List.getElem?_set,Qs (by omega)]
    exact hs j (by omega)
theorem Le(heq:∀x y,eq x y=decide (x=y))(hne:∀x y,ne x y= !decide (x=y)){s:List α}(hn:s.length<1000000000):∀(r k:Nat),k+r=s.length->1<=k->dd (s.take k)=s.take k->aI (GF eq ne z) ((k:Int),s,())=some (dd s)
 |0,k,hr,h1,h=>by
  refine cd ?_;have hk:k=s.length:=by omega
  have e2:decide ((k:Int)<((s.length:Nat):Int))=false:=Qh (by omega)
  rw[hk,List.take_length]at h;simp only[GF,e2,Ql,Qe,h]
 |r+1,k,hr,h1,h=>by
  have hk:k<s.length:=by omega
  obtain⟨x,hx⟩:∃x,s[k]?=some x:=⟨_,Qv hk⟩;obtain⟨y,hy⟩:∃y,s[k - 1]?=some y:=⟨_,Qv (by omega)⟩
  have e2:decide ((k:Int)<((s.length:Nat):Int))=true:=Qg (by omega)
  have e3:gJ .i64 (k:Int) 1=((k - 1:Nat):Int):=by rw[Cu (by omega) (by omega)];omega
  have e4:aJ .i64 (k:Int) 1=((k+1:Nat):Int):=cj (by omega) (by omega)
  have hstep:=MY hx
  have hlast:(dd (s.take k)).getLast?=some y:=by
   have:=ID hy
   rwa [show k - 1+1=k by omega]at this
  rw[mC,hlast]at hstep
  by_cases hxy:x=y
  ·rw[Qr (by rw[hxy])]at hstep
   have e5:dK (k:Int) (s.length:Int) s.length=true:=by
    simp only[dK,Qm,Qi];omega
   have hin:=E0 (eq:=eq) (z:=z) (K:=k) hne hn (s.length - k - 1) k 1 s (by omega) (by omega) (by omega) rfl (by rw[hstep,h]) (fun _ _=>rfl)
   refine cd ?_;simp only[GF,e2,Qk,bK,QV,hx,hy,e3,Qa,heq,hxy,decide_true,e5];exact hin
  ·rw[Qs (fun e=>hxy (by injection e with e;exact e.symm))]at hstep
   refine Eq.trans (bq (s':=(((k+1:Nat):Int),s,())) ?_) (Le heq hne hn r (k+1) (by omega) (by omega) ?_)
   ·simp only[GF,e2,Qk,bK,QV,hx,hy,e3,Qa,heq,hxy,decide_false,Ql,e4]
   ·obtain⟨hl,hx'⟩:=Qw.1 hx;rw[hstep,h,List.take_succ_eq_append_getElem hl,hx']
theorem zY(heq:∀x y,eq x y=decide (x=y))(hne:∀x y,ne x y= !decide (x=y))(s:List α)(hn:s.length<1000000000):ER eq ne z s=some (dd s):=by
 unfold ER
 by_cases h:s.length<2
 ·have e:decide (((s.length:Nat):Int)<2)=true:=Qg (by omega)
  rw[e,Qk]
  match s,h with
  |[],_=>rfl
  |[x],_=>rfl
 ·have e:decide (((s.length:Nat):Int)<2)=false:=Qh (by omega)
  rw[e,Ql];refine Le heq hne hn (s.length - 1) 1 (by omega) (by omega) ?_
  cases s with
  |nil=>rfl
  |cons x l=>rfl
theorem Oi(acc:List α)(x:α):∀y,y∈mC acc x↔y∈acc\/y=x:=by
 intro y;unfold mC;split
 ·rename_i h;have:=List.mem_of_getLast? h;exact⟨.inl,fun h'=>h'.elim id fun e=>e▸this⟩
 ·simp
theorem BG:∀(l acc:List α) (y:α),y∈l.foldl mC acc↔y∈acc\/y∈l
 |[],acc,y=>by simp
 |x::l,acc,y=>by
  rw[QU,BG l,Oi];simp[or_assoc]
theorem Vq(l:List α)(y:α):y∈dd l↔y∈l:=by rw[dd,BG];simp
theorem Lc(l:List α):(dd l).length<=l.length:=by
 suffices h:∀(l acc:List α),(l.foldl mC acc).length<=acc.length+l.length by simpa[dd]using h l []
 intro l
 induction l with
 |nil=>intro acc;simp
 |cons x l ih=>
  intro acc;rw[QU];refine QK (ih _) ?_;unfold mC;split<;>simp<;>omega
theorem PX{lt:α->α->Bool}(ho:SWO lt)(hto:∀x y,lt x y=false->lt y x=false->x=y){l:List α}(hl:l.Pairwise (fun a b=>lt b a=false)):(dd l).Pairwise (fun a b=>lt a b=true):=by
 suffices h:∀(l acc:List α),(acc++l).Pairwise (fun a b=>lt b a=false)->acc.Pairwise (fun a b=>lt a b=true)->(l.foldl mC acc).Pairwise (fun a b=>lt a b=true)from h l [] (by simpa using hl) .nil
 intro l
 induction l with
 |nil=>intro acc _ h;exact h
 |cons x l ih=>
  intro acc h1 h2;rw[QU];unfold mC;split
  ·rename_i hlast;refine ih acc ?_ h2;rw[List.pairwise_append]at h1 ⊢;exact⟨h1.1,(Q4.1 h1.2.1).2,fun a ha b hb=>h1.2.2 a ha b (by simp[hb])⟩
  ·rename_i hlast;refine ih _ (by simpa using h1) ?_
   rw[List.pairwise_append]at h1 ⊢;refine⟨h2,by simp,fun a ha b hb=> ?_⟩
   rw[List.mem_singleton.1 hb];have hax:lt x a=false:=h1.2.2 a ha x (by simp)
   cases hc:lt a x with
   |true=>rfl
   |false=>
    exfalso;have e:=hto a x hc hax;subst e
    obtain⟨y,hy⟩:∃y,acc.getLast?=some y:=by
     cases hg:acc.getLast? with
     |none=>rw[List.getLast?_eq_none_iff.1 hg]at ha;cases ha
     |some y=>exact⟨y,rfl⟩
    obtain⟨pre,rfl⟩:∃pre,acc=pre++[y]:=by
     have:=List.getLast?_eq_some_iff.1 hy;exact this
    rcases Qz.1 ha with ha|ha
    ·rw[List.pairwise_append]at h2;have h3:=h2.2.2 a ha y (by simp)
     have h4:=h1.2.2 y (by simp) a (by simp)
     rw[h3]at h4;cases h4
    ·rw[List.mem_singleton.1 ha]at hlast;exact hlast hy
end
end Go.Proofs.YtkgenianmdfmdaaGreat
namespace Go.Proofs.YtkgenianmdfmdaaGreat
open Go.TQ
theorem Si(s:List Int):kO s=ER (fun x y=>decide (x=y)) (fun x y=> !decide (x=y)) 0 s:=rfl
 def jq(v:ByteArray)(e:ai):Bool:=ba e&&decide (e.aa.Value=v)&& !decide (e.aN=0)
 def ends(v:ByteArray)(l:List ai):List Int:=l.flatMap fun e=>if jq v e then[e.aN,e.bc]else[]
theorem s9{v:ByteArray}{l:List ai}{x:Int}:x∈ends v l↔∃e∈l,jq v e=true/\(x=e.aN\/x=e.bc):=by
 simp only[ends,QQ];constructor
 ·rintro⟨e,he,hx⟩;split at hx
  ·rename_i h;exact⟨e,he,h,by simpa using hx⟩
  ·cases hx
 ·rintro⟨e,he,h,hx⟩;exact⟨e,he,by rw[Qr h];simpa using hx⟩
end Go.Proofs.YtkgenianmdfmdaaGreat
namespace Go.Proofs.YtkgenianmdfmdaaGreat
open Go.TQ
theorem Cj{v:bh}{az:Int}{l:List ai}(hl:l.length<=1000000)(hin:rD l)(val:ByteArray)(lo hi:Int):gl ⟨az,v,l.map bb.mk⟩ val lo hi=some ((dy (et · val lo hi) l:Nat):Int):=by
 unfold gl;refine yU (et · val lo hi) l hin _ (fun i e s he=> ?_) (fun s=> ?_)
 ·have hlt:i<l.length:=(Qw.1 he).1;have hd:decide ((i:Int)<(((l.map bb.mk).length:Nat):Int))=true:=Qg (by rw[QC];omega)
  have hw:aJ .i64 (i:Int) 1=((i+1:Nat):Int):=cj (by omega) (by omega)
  have hx:idx (l.map bb.mk) (i:Int)=some ⟨e⟩:=by rw[bK,QT,he];rfl
  simp only[hd,hx,hw,Qk,Qa,aq.eta,ai.eta,jx,oL,bB];cases et e val lo hi<;>simp
 ·have hd:decide (((l.length:Nat):Int)<(((l.map bb.mk).length:Nat):Int))=false:=Qh (by rw[QC];exact Int.lt_irrefl _)
  simp only[hd,Ql,Qe]
theorem Mn{v:bh}{az:Int}{l:List ai}(hl:l.length<=1000000)(hin:rD l)(val:ByteArray)(lo hi:Int):eO ⟨az,v,l.map bb.mk⟩ val lo hi val lo hi=some ((dy (fun e=>rK e val lo hi||et e val lo hi) l:Nat):Int):=by
 unfold eO;refine yU (fun e=>rK e val lo hi||et e val lo hi) l hin _ (fun i e s he=> ?_) (fun s=> ?_)
 ·have hlt:i<l.length:=(Qw.1 he).1;have hd:decide ((i:Int)<(((l.map bb.mk).length:Nat):Int))=true:=Qg (by rw[QC];omega)
  have hw:aJ .i64 (i:Int) 1=((i+1:Nat):Int):=cj (by omega) (by omega)
  have hx:idx (l.map bb.mk) (i:Int)=some ⟨e⟩:=by rw[bK,QT,he];rfl
  simp only[hd,hx,hw,Qk,Qa,aq.eta,ai.eta,gr,jx,qW,oL,xT,bB,mZ,Bool.cond_true_left];cases (rK e val lo hi||et e val lo hi)<;>simp
 ·have hd:decide (((l.length:Nat):Int)<(((l.map bb.mk).length:Nat):Int))=false:=Qh (by rw[QC];exact Int.lt_irrefl _)
  simp only[hd,Ql,Qe]
 def A1(az:Nat)(t:aq)(l:List ai):eN:=⟨az,⟨fh az t l⟩,(bH l).map bb.mk⟩
 def oG(az:Nat)(t:aq)(l:List ai)(val:ByteArray)(lo hi:Int):Bool:=
 o0 (fh az t l) az (dy (fun e=>rK e val lo hi||et e val lo hi) (bH l)) (dy (et · val lo hi) (bH l))
 def qN(az:Nat)(t:aq)(l:List ai)(val:ByteArray)(lo hi:Int):Bool:=
 (gq (fh az t l) (dy (et · val lo hi) (bH l))).testBit az
section
variable {az : Nat} (hn : az < 10) {t : aq} (ht : fb t) {l : List ai} (hl : ny l)
 include hn ht hl
theorem Kc(val:ByteArray)(lo hi:Int):fA (A1 az t l) val lo hi=some (oG az t l val lo hi):=by
 have hlen:=hl.len;have hrl:=uW l;have hin:=ob l
 simp only[A1,fA,kP,hY,Qa,Mn (by omega:(bH l).length<=1000000) hin,Cj (by omega:(bH l).length<=1000000) hin,
  Ap (qu ht hl) hn (qY hin) (qY hin),oG]
theorem TG(val:ByteArray)(lo hi:Int):jQ (A1 az t l) val lo hi=some (qN az t l val lo hi):=by
 have hlen:=hl.len;have hrl:=uW l;have hin:=ob l;simp only[A1,jQ,kP,jb,Qa,Cj (by omega:(bH l).length<=1000000) hin,yE (qu ht hl) hn (qY hin),qN]
theorem look_eq:dX az t l=some (A1 az t l):=H3 hn ht hl
end
def dU(q:Int->Bool):List Int->Int->Int
 |[],lo=>lo
 |e::l,lo=>if lo<=e then dU q l lo else if q e then dU q l e else lo
theorem vp{p:Int->Option Bool}{q:Int->Bool}(h:∀e,p e=some (q e)):∀(l:List Int) (lo:Int),jC (fun(m5:Nat) (e6:Int) (v4:Int×Unit)=>
  bif (decide (v4.1<=e6))then some (Sum.inl (v4.1,()))else
  Option.bind (p e6) fun r7=>bif (!r7)then Option.map Sum.inr (some v4.1)else some (Sum.inl (e6,()))) (fun v8=>some v8.1) l (lo,())=some (dU q l lo)
 |[],lo=>rfl
 |e::l,lo=>by
  rw[jC,dU]
  by_cases hle:lo<=e
  ·rw[Qr hle];simp only[hle,decide_true,Qk];exact vp h l lo
  ·rw[Qs hle];simp only[hle,decide_false,Ql,h,Qa]
   cases hq:q e with
   |true=>
    simp only[Qo,Ql,Qt];have:=vp h l e;simp only[h,Qa]at this;exact this
   |false=>rfl
def flat(n:Nat)(k:Int):aq:=⟨k,kp n,[]⟩
theorem D5(s n:Nat)(k:Int):jK s (flat n k)=decide (k<=(((kp n).countP (gd s):Nat):Int)):=by
 rw[Cw];simp[flat,qx]
theorem Om{s n:Nat}(hn:n<=10)(h:∀k,k<n->s.testBit k=true):(kp n).countP (gd s)=n:=by
 have:(kp n).countP (gd s)=(kp n).length:=by
  rw[List.countP_eq_length];intro x hx;obtain⟨k,hk,rfl⟩:=CH.1 hx;simp only[gd,eD,Qm,Qi,QV];exact⟨by omega,h k hk⟩
 rw[this,Fc]
theorem Ol{s s':Nat}(h:∀k,s.testBit k=true->s'.testBit k=true)(l:List Int):l.countP (gd s)<=l.countP (gd s'):=List.countP_mono_left fun x _ hx=>IH h x hx
structure Ai (n:Nat) (k:Int) (l:List ai):Prop where
 n10:n<=10
 k1:1<=k
 kn:k<=n
 valid:∀e∈l,ba e=true
 aY:∀e∈l,e.ae=flat n k
 X9:l.length<=1000
 all:∀i,i<n->∃e∈l,e.ar.toNat=i
theorem Ai.eU{n:Nat}{k:Int}{l:List ai}(h:Ai n k l):kh (flat n k):=tZ n h.n10 k h.k1 h.kn
theorem Ai.sm{n:Nat}{k:Int}{l:List ai}(h:Ai n k l):ny l:=⟨by have:=h.X9;omega,fun e he=>by rw[h.aY e he];exact h.eU.sm⟩
theorem Ai.bH{n:Nat}{k:Int}{l:List ai}(h:Ai n k l):Go.Proofs.YtkgenianmdfmdaaGreat.bH l=l:=FL h.valid
def cE(n:Nat)(k:Int)(c:Int)(v:ByteArray)(lo hi:Nat->Int)(i:Nat):ai:=⟨i,1,1,flat n k,2,⟨c,v⟩,⟨c,v⟩,⟨0,ByteArray.mk #[]⟩,lo i,hi i⟩
end Go.Proofs.YtkgenianmdfmdaaGreat
namespace Go.Proofs.YtkgenianmdfmdaaGreat
open Go.TQ
def wh(b:List Int)(sure:Int->Int->Bool):Int×Int×Bool×Unit:=
 match b.reverse.find? (fun e=>sure e e)with
 |some e=>(dU (fun x=>sure x e) b.reverse e,e,true,())
 |none=>(0,0,false,())
theorem MR{p:Int->Option Bool}{q:Int->Bool}{d:Int->Option Int}{f:Int->Int}(hp:∀e,p e=some (q e))(hd:∀e,d e=some (f e)):∀r:List Int,jC (fun(m5:Nat) (e6:Int) (v4:Int×Int×Bool×Unit)=>
  Option.bind (p e6) fun r7=>bif r7 then Option.bind (d e6) fun r8=>Option.map Sum.inr (some (r8,e6,true,()))else some (Sum.inl (v4.1,v4.2.1,v4.2.2.1,()))) (fun(v9:Int×Int×Bool×Unit)=>some ((0:Int),(0:Int),false,())) r ((0:Int),(0:Int),false,())=
  some (match r.find? q with|some e=>(f e,e,true,())|none=>(0,0,false,()))
 |[]=>rfl
 |e::r=>by
  have ih:=MR hp hd r;rw[jC,List.find?_cons];simp only[hp,hd,Qa,Qe]at ih ⊢
  cases q e with
  |true=>rfl
  |false=>simp only[Ql];exact ih
section
variable {az : Nat} (hn : az < 10) {t : aq} (ht : fb t) {l : List ai} (hl : ny l)
 include hn ht hl
end
section
variable {n : Nat} {k c : Int} {v : ByteArray} {lo hi : Nat -> Int} (h : Ai n k ((List.range n).map (cE n k c v lo hi))) {i : Nat} (hi' : i < n)
 include h hi'
end
end Go.Proofs.YtkgenianmdfmdaaGreat
namespace Go.Proofs.YtkgenianmdfmdaaGreat
open Go.TQ
section
variable {α : Type}
structure qh (lt:α->α->Bool):Prop where
 irrefl:∀x,lt x x=false
 trans:∀x y z,lt x y=true->lt y z=true->lt x z=true
 total:∀x y,lt x y=false->lt y x=false->x=y
variable {lt : α -> α -> Bool}
theorem qh.asymm(h:qh lt){x y:α}(hxy:lt x y=true):lt y x=false:=by
 cases hc:lt y x with
 |false=>rfl
 |true=>have:=h.trans x y x hxy hc;rw[h.irrefl]at this;cases this
theorem qh.ntrans(h:qh lt){x y z:α}(h1:lt x y=false)(h2:lt y z=false):lt x z=false:=by
 cases hc:lt x z with
 |false=>rfl
 |true=>
  cases hyx:lt y x with
  |false=>rw[h.total x y h1 hyx,h2]at hc;cases hc
  |true=>have:=h.trans y x z hyx hc;rw[h2]at this;cases this
theorem qh.X8(h:qh lt):Go.Sort.SWO lt:=⟨h.irrefl,h.trans,fun _ _ _=>h.ntrans⟩
theorem qh.own(h:qh lt):SWO lt:=⟨fun _ _=>h.asymm,fun _ _ _ h1 h2=>h.ntrans h2 h1⟩
theorem qh.flip(h:qh lt):qh fun a b=>lt b a:=⟨h.irrefl,fun x y z h1 h2=>h.trans z y x h2 h1,fun x y h1 h2=>h.total x y h2 h1⟩
theorem qh.unique(h:qh lt):∀{a b:List α},a.Pairwise (fun x y=>lt x y=true)->b.Pairwise (fun x y=>lt x y=true)->(∀x,x∈a↔x∈b)->a=b
 |[],[],_,_,_=>rfl
 |[],y::b,_,_,h'=>by have:=(h' y).2 (by simp);cases this
 |x::a,[],_,_,h'=>by have:=(h' x).1 (by simp);cases this
 |x::a,y::b,ha,hb,h'=>by
  rw[Q4]at ha hb
  have hxy:x=y:=by
   have h1:=(h' x).1 (by simp)
   have h2:=(h' y).2 (by simp)
   rcases QA.1 h1 with h1|h1
   ·exact h1
   ·rcases QA.1 h2 with h2|h2
    ·exact h2.symm
    ·have q1:=ha.1 y h2;have q2:=hb.1 x h1;rw[h.asymm q1]at q2;cases q2
  subst hxy;congr 1;refine h.unique ha.2 hb.2 fun z=>⟨fun hz=> ?_,fun hz=> ?_⟩
  ·rcases QA.1 ((h' z).1 (by simp[hz]))with e|e
   ·subst e;have:=ha.1 z hz;rw[h.irrefl]at this;cases this
   ·exact e
  ·rcases QA.1 ((h' z).2 (by simp[hz]))with e|e
   ·subst e;have:=hb.1 z hz;rw[h.irrefl]at this;cases this
   ·exact e
theorem qh.RA[DecidableEq α](h:qh lt){cmp:α->α->Option Int}{c:α->α->Int}(hc:∀x y,cmp x y=some (c x y))(hlt:∀x y,decide (c x y<0)=lt x y)(s:List α)(hs:s.length<1000000000):
  ∃t,vz cmp s=some ((),t)/\t.length=s.length/\(dd t).Pairwise (fun x y=>lt x y=true)/\∀x,x∈dd t↔x∈s:=by
 have hcf:Cc cmp=c:=funext fun x=>funext fun y=>by unfold Cc;rw[hc];rfl
 have hl:Go.Proofs.ltOf (Cc cmp)=lt:=by
  rw[hcf];exact funext fun x=>funext fun y=>hlt x y
 have hok:Tv cmp:=⟨fun x y=>by rw[hcf];exact hc x y,by rw[hl];exact h.X8,fun x y h1 h2=>by rw[hl]at h1 h2;exact h.total x y h1 h2⟩
 refine⟨s.mergeSort fun x y=> !lt y x,?_,List.length_mergeSort s,PX h.own h.total ?_,fun x=>by rw[Vq,List.mem_mergeSort]⟩
 ·unfold vz;rw[Qr ⟨hok,by omega⟩,hl]
 ·refine(List.pairwise_mergeSort (le:=fun x y=> !lt y x) (fun a b c h1 h2=> ?_) (fun a b=> ?_) s).imp fun{a b} hab=>by simpa using hab
  ·simp only[Bool.not_eq_true']at h1 h2 ⊢;exact h.ntrans h2 h1
  ·cases hab:lt a b with
   |false=>simp
   |true=>rw[h.asymm hab];rfl
end
theorem Cv:qh fun a b:Int=>decide (a<b):=
 ⟨fun x=>Qh (Int.lt_irrefl x),fun x y z h1 h2=>by simp only[Qi]at*;omega,fun x y h1 h2=>by simp only[Qj]at*;omega⟩
theorem Ln:∀{x y z:List UInt8},Op.bytesLess x y=true->Op.bytesLess y z=true->Op.bytesLess x z=true
 |[],[],_,h,_=>by simp[Op.bytesLess]at h
 |_::_,[],_,h,_=>by simp[Op.bytesLess]at h
 |[],_::_,[],_,h=>by simp[Op.bytesLess]at h
 |[],_::_,_::_,_,_=>rfl
 |_::_,_::_,[],_,h=>by simp[Op.bytesLess]at h
 |a::x,b::y,c::z,h,h'=>by
  simp only[Op.bytesLess,Qn,Qi,Qm,beq_iff_eq]at h h' ⊢;rcases h with h|⟨rfl,h⟩
  ·rcases h' with h'|⟨rfl,h'⟩
   ·exact .inl (UInt8.lt_trans h h')
   ·exact .inl h
  ·rcases h' with h'|⟨rfl,h'⟩
   ·exact .inl h'
   ·exact .inr ⟨rfl,Ln h h'⟩
theorem LU{a b c:ByteArray}(h:iR a b=true)(h':iR b c=true):iR a c=true:=Ln h h'
theorem LV{a b:ByteArray}(h:a≠b):iR a b=true\/iR b a=true:=
 Lo fun e=>h (by
  rw[Lib.toList_data,Lib.toList_data]at e;cases a;cases b;rename_i x y;cases x;cases y
  simp_all)
theorem wX:qh mT:=by
 refine⟨fun x=>by rw[mT,Qr rfl,JW],fun x y z h1 h2=> ?_,fun x y h1 h2=> ?_⟩
 ·unfold mT at*
  by_cases e1:x.size=y.size
  ·rw[Qr e1]at h1
   by_cases e2:y.size=z.size
   ·rw[Qr e2]at h2;rw[Qr (e1.trans e2)];exact LU h1 h2
   ·rw[Qs e2]at h2;rw[Qs (by omega),e1]
    exact h2
  ·rw[Qs e1,Qi]at h1
   by_cases e2:y.size=z.size
   ·rw[Qs (by omega),<-e2]
    exact Qg h1
   ·rw[Qs e2,Qi]at h2;rw[Qs (by omega)]
    exact Qg (by omega)
 ·unfold mT at*
  by_cases e1:x.size=y.size
  ·rw[Qr e1]at h1;rw[Qr e1.symm]at h2;refine Classical.byContradiction fun hne=> ?_
   rcases LV hne with h|h
   ·rw[h]at h1;cases h1
   ·rw[h]at h2;cases h2
  ·rw[Qs e1,Qj]at h1;rw[Qs (fun e=>e1 e.symm),Qj]at h2
   omega
theorem wY:qh a8:=by
 refine⟨fun x=>by rw[a8,Qr rfl,wX.irrefl],fun x y z h1 h2=> ?_,fun x y h1 h2=> ?_⟩
 ·unfold a8 at*
  by_cases e1:x.aj=y.aj
  ·rw[Qr e1]at h1
   by_cases e2:y.aj=z.aj
   ·rw[Qr e2]at h2;rw[Qr (e1.trans e2)];exact wX.trans _ _ _ h1 h2
   ·rw[Qs e2]at h2;rw[Qs (by omega),e1]
    exact h2
  ·rw[Qs e1,Qi]at h1
   by_cases e2:y.aj=z.aj
   ·rw[Qs (by omega),<-e2]
    exact Qg h1
   ·rw[Qs e2,Qi]at h2;rw[Qs (by omega)]
    exact Qg (by omega)
 ·unfold a8 at*
  by_cases e1:x.aj=y.aj
  ·rw[Qr e1]at h1;rw[Qr e1.symm]at h2;have:=wX.total _ _ h1 h2;cases x;cases y
   simp_all
  ·rw[Qs e1,Qj]at h1;rw[Qs (fun e=>e1 e.symm),Qj]at h2
   omega
end Go.Proofs.YtkgenianmdfmdaaGreat
namespace Go.Proofs.YtkgenianmdfmdaaGreat
open Go.TQ
structure G5 (n:Nat) (l:List ai):Prop where
 of:∀e∈l,∃i:Nat,i<n/\W0 i 1 n e
 Yt:l.Pairwise fun a b=>a.ar<b.ar
 len:l.length<=n
theorem G5.valid{n:Nat}{l:List ai}(h:G5 n l):∀e∈l,ba e=true:=fun e he=>by
 obtain⟨i,_,hi⟩:=h.of e he;rw[ba,Ia hi.aY];exact hi.valid
theorem G5.sm{n:Nat}{l:List ai}(h:G5 n l)(hn:n<=1000):ny l:=⟨by have:=h.len;omega,fun e he=>by
 obtain⟨i,_,hi⟩:=h.of e he
 exact hi.aY.sm⟩
theorem yP.mono{l:List aU}{s s' r:Nat}(h:∀k,s.testBit k=true->s'.testBit k=true)(hi:yP l s r):yP l s' r:=fun k hk=>⟨h k (hi k hk).1,(hi k hk).2⟩
section
variable {az : Nat} {t : aq} (ht : fb t) {l : List ai} (hl : ny l) {v : ByteArray} {lo hi k : Int} (h1 : lo <= k) (h2 : k <= hi)
 include ht hl h1 h2
end
end Go.Proofs.YtkgenianmdfmdaaGreat
namespace Go.Proofs.YtkgenianmdfmdaaGreat
open Go.TQ
section
variable {α : Type}
 def nF(p:α->Option Bool)(a0:List α)(v1:Int×Unit):Option ((Int×Unit)⊕Int):=
 bif (decide (v1.1<((List.length a0:Nat):Int)))then
  Option.bind (idx a0 v1.1) fun x2=>Option.bind (p x2) fun r3=>bif r3 then Option.map Sum.inr (some v1.1)else some (Sum.inl ((aJ .i64 v1.1 (1:Int)),()))
 else Option.map Sum.inr (some (-1:Int))
 def PJ(p:α->Option Bool)(a0:List α):Option Int:=aI (nF p a0) ((0:Int),())
 def yG(p:α->Option Bool)(z:α)(v2:Int×Int×(List α)×Unit):Option ((Int×Int×(List α)×Unit)⊕List α):=
 bif (decide (v2.2.1<((List.length v2.2.2.1:Nat):Int)))then
  bL (fun(v3:Int×(List α)×Unit)=>some (Sum.inl (v3.1,(aJ .i64 v2.2.1 (1:Int)),v3.2.1,()))) fun j4=>
  Option.bind (idx v2.2.2.1 v2.2.1) fun x5=>Option.bind (v2.2.2.1[(Int.toNat v2.2.1)]?) fun x6=>Option.bind (p x6) fun r7=>
  bif (!r7)then
   Option.bind (idx v2.2.2.1 v2.1) fun x8=>Option.bind (v2.2.2.1[(Int.toNat v2.1)]?) fun x9=>j4 ((aJ .i64 v2.1 (1:Int)),(v2.2.2.1.set (Int.toNat v2.1) x6),())
  else j4 (v2.1,v2.2.2.1,())
 else
  Option.map Sum.inr (bif dK v2.1 ((List.length v2.2.2.1):Int) (List.length v2.2.2.1)then
   bif dK (0:Int) v2.1 (List.length (v2.2.2.1.take (Int.toNat v2.1)++List.replicate (Int.toNat ((List.length v2.2.2.1):Int) - Int.toNat v2.1) z++v2.2.2.1.drop ((Int.toNat v2.1)+(Int.toNat ((List.length v2.2.2.1):Int) - Int.toNat v2.1))))then
    some ((v2.2.2.1.take (Int.toNat v2.1)++List.replicate (Int.toNat ((List.length v2.2.2.1):Int) - Int.toNat v2.1) z++v2.2.2.1.drop ((Int.toNat v2.1)+(Int.toNat ((List.length v2.2.2.1):Int) - Int.toNat v2.1))).take (Int.toNat v2.1 - Int.toNat (0:Int)))
   else none
  else none)
 def MP(p:α->Option Bool)(z:α)(s:List α):Option (List α):=
 Option.bind (PJ p s) fun r1=>bif (decide (r1=(-1:Int)))then some s else aI (yG p z) (r1,(aJ .i64 r1 (1:Int)),s,())
theorem xK{q:α->Bool}{s:List α}{j:Nat}{x:α}(h:s[j]?=some x):(s.take (j+1)).filter q=(s.take j).filter q++if q x then[x]else[]:=by
 obtain⟨hl,hx⟩:=Qw.1 h;rw[List.take_succ_eq_append_getElem hl,List.filter_append,hx];congr 1;cases hq:q x<;>simp[hq]
variable {p : α -> Option Bool} {q : α -> Bool} (hp : ∀ x, p x = some (q x)) {z : α}
 include hp
theorem KJ{s:List α}(hs:s.length<1000000000):∀(k i:Nat),i+k=s.length->(s.take i).filter (fun x=> !q x)=s.take i->
  (∃m:Nat,∃x,aI (nF p s) ((i:Int),())=some (m:Int)/\(s.take m).filter (fun x=> !q x)=s.take m/\s[m]?=some x/\q x=true)\/(aI (nF p s) ((i:Int),())=some (-1)/\s.filter (fun x=> !q x)=s)
 |0,i,hi,hf=>by
  have hd:decide ((i:Int)<((s.length:Nat):Int))=false:=Qh (by omega)
  refine .inr ⟨cd ?_,?_⟩
  ·simp only[nF,hd,Ql,Qe]
  ·rwa [show i=s.length by omega,List.take_length]at hf
 |k+1,i,hi,hf=>by
  have hd:decide ((i:Int)<((s.length:Nat):Int))=true:=Qg (by omega)
  have hw:aJ .i64 (i:Int) 1=((i+1:Nat):Int):=cj (by omega) (by omega)
  obtain⟨x,hx⟩:∃x,s[i]?=some x:=⟨_,Qv (by omega)⟩
  cases hq:q x with
  |true=>
   refine .inl ⟨i,x,cd ?_,hf,hx,hq⟩;simp only[nF,hd,Qk,bK,hx,Qa,hp,hq,Qe]
  |false=>
   have hstep:aI (nF p s) ((i:Int),())=aI (nF p s) (((i+1:Nat):Int),()):=bq (by simp only[nF,hd,Qk,bK,hx,Qa,hp,hq,Ql,hw])
   rw[hstep];refine KJ hs k (i+1) (by omega) ?_
   rw[xK hx,hf,hq];obtain⟨hl,hx'⟩:=Qw.1 hx;rw[List.take_succ_eq_append_getElem hl,hx'];rfl
theorem EV{s:List α}(hs:s.length<1000000000):∀(r i j:Nat) (d:List α),j+r=s.length->i<j->d.length=s.length->d.take i=(s.take j).filter (fun x=> !q x)->(∀m,j<=m->d[m]?=s[m]?)->
  aI (yG p z) ((i:Int),(j:Int),d,())=some (s.filter fun x=> !q x)
 |0,i,j,d,hr,hij,hd,ht,hm=>by
  have e2:decide ((j:Int)<((d.length:Nat):Int))=false:=Qh (by omega)
  refine cd ?_
  have e3:∀n,dK (i:Int) (d.length:Int) n=decide (d.length<=n):=by
   intro n;simp only[dK];have h1:decide ((0:Int)<=(i:Int))=true:=Qg (by omega)
   have h2:decide ((i:Int)<=(d.length:Int))=true:=Qg (by omega)
   rw[h1,h2,Bool.and_self,Bool.true_and,decide_eq_decide];omega
  have e4:(d.take i++List.replicate (d.length - i) z++d.drop (i+(d.length - i))).length=d.length:=by simp;omega
  have e5:dK (0:Int) (i:Int) d.length=true:=by
   simp only[dK,Qm,Qi];omega
  have e6:(d.take i++List.replicate (d.length - i) z++d.drop (i+(d.length - i))).take (i - 0)=s.filter fun x=> !q x:=by
   rw[Nat.sub_zero,QL,List.take_append_of_le_length (by simp;omega),List.take_take,Nat.min_self,ht,show j=s.length by omega,List.take_length]
  simp only[yG,e2,Ql,QV,e3,QI,decide_true,Qk,e4,e5,Int.toNat_zero,e6,Qe]
 |r+1,i,j,d,hr,hij,hd,ht,hm=>by
  have e2:decide ((j:Int)<((d.length:Nat):Int))=true:=Qg (by omega)
  have ej:aJ .i64 (j:Int) 1=((j+1:Nat):Int):=cj (by omega) (by omega)
  have ei:aJ .i64 (i:Int) 1=((i+1:Nat):Int):=cj (by omega) (by omega)
  obtain⟨x,hx⟩:∃x,s[j]?=some x:=⟨_,Qv (by omega)⟩
  obtain⟨y,hy⟩:∃y,d[i]?=some y:=⟨_,Qv (by omega)⟩
  have hdx:d[j]?=some x:=by rw[hm j (QI _),hx]
  have hstep:=xK (q:=fun x=> !q x) hx
  cases hq:q x with
  |true=>
   rw[hq]at hstep;refine(bq (s':=((i:Int),((j+1:Nat):Int),d,())) ?_).trans (EV hs r i (j+1) d (by omega) (by omega) hd (by rw[hstep,ht];simp) fun m h=>hm m (by omega))
   simp only[yG,e2,Qk,bB,bK,QV,hdx,Qa,hp,hq,Qo,Ql,ej]
  |false=>
   rw[hq]at hstep;refine(bq (s':=(((i+1:Nat):Int),((j+1:Nat):Int),d.set i x,())) ?_).trans (EV hs r (i+1) (j+1) (d.set i x) (by omega) (by omega) (by rw[QY];exact hd) ?_ fun m h=> ?_)
   ·simp only[yG,e2,Qk,bB,bK,QV,hdx,hy,Qa,hp,hq,Qp,ej,ei]
   ·rw[hstep,<-ht,List.take_succ_eq_append_getElem (by rw[QY];omega),List.take_set_of_le (QI _)]
    simp
   ·rw[List.getElem?_set,Qs (by omega)]
    exact hm m (by omega)
theorem N2(s:List α)(hs:s.length<1000000000):MP p z s=some (s.filter fun x=> !q x):=by
 rw[MP,PJ];rcases KJ hp hs s.length 0 (by omega) (by simp)with⟨m,x,h1,h2,h3,h4⟩|⟨h1,h2⟩
 ·have hm:m<s.length:=(Qw.1 h3).1;have h1':aI (nF p s) ((0:Int),())=some (m:Int):=h1;have e:decide ((m:Int)= -1)=false:=Qh (by omega)
  rw[h1',Qa,e,Ql,show aJ .i64 (m:Int) 1=((m+1:Nat):Int)from cj (by omega) (by omega)]
  refine EV hp hs (s.length - (m+1)) m (m+1) s (by omega) (by omega) rfl ?_ fun _ _=>rfl
  rw[xK h3,h2,h4];simp
 ·have h1':aI (nF p s) ((0:Int),())=some (-1):=h1;rw[h1',Qa,h2];rfl
end
theorem z6{α β ρ:Type}(l:List α)(hl:l.length<=1000000)(f:α->List β)(hf:∀x∈l,(f x).length<=3){step:Int×List β×Unit->Option ((Int×List β×Unit)⊕ρ)}{fin:List β->Option ρ}
  (h1:∀(i:Nat) (x:α) (acc:List β),x∈l->decide ((i:Int)<((l.length:Nat):Int))=true->idx l (i:Int)=some x->aJ .i64 (i:Int) 1=((i+1:Nat):Int)->(∀bytes n:Nat,bytes<=40->n<=3->acc.length<=3000000->bW bytes (acc.length+n)=true)->acc.length<=3000000->step ((i:Int),acc,())=some (.inl (((i+1:Nat):Int),acc++f x,())))
  (h2:∀acc,decide (((l.length:Nat):Int)<((l.length:Nat):Int))=false->step (((l.length:Nat):Int),acc,())=Option.map Sum.inr (fin acc)):aI step ((0:Int),([]:List β),())=fin (l.flatMap f):=by
 suffices key:∀(k i:Nat) (acc:List β),i+k=l.length->acc=(l.take i).flatMap f->acc.length<=3*i->aI step ((i:Int),acc,())=fin (l.flatMap f)from key l.length 0 [] (by omega) (by simp) (by simp)
 intro k
 induction k with
 |zero=>
  intro i acc hi ha hal;obtain rfl:i=l.length:=by omega
  rw[List.take_length]at ha;rw[lN,h2 acc (Qh (Int.lt_irrefl _)),ha];cases fin (l.flatMap f)<;>rfl
 |succ k ih=>
  intro i acc hi ha hal;have hlt:i<l.length:=by omega
  have hx:l[i]?=some l[i]:=Qv hlt;have:=hf _ (Q0 hlt);refine(bq (h1 i l[i] acc (Q0 hlt) (Qg (by omega)) (by rw[bK];exact hx) (cj (by omega) (by omega)) (fun bytes n hb hn ha=> ?_) (by omega))).trans (ih (i+1) _ (by omega) ?_ (by rw[QB];omega))
  ·simp only[bW,Qm,Qi];exact⟨QK (Nat.mul_le_mul (show acc.length+n<=3000003 by omega) hb) (show 3000003*40<=140737488355328 by decide),QK (show acc.length+n<=3000003 by omega) (by simp[maxLen])⟩
  ·rw[List.take_succ_eq_append_getElem hlt,List.flatMap_append,ha];simp
instance:Inhabited af:=⟨⟨0,ByteArray.mk #[]⟩⟩
instance:DecidableEq af:=fun a b=>decidable_of_iff (a.aj=b.aj/\a.Value=b.Value) (by cases a;cases b;simp)
theorem TE(s:List af)(hs:s.length<1000000000):∃b,dB s=some b/\b.Pairwise (fun x y=>a8 y x=true)/\b.length<=s.length/\∀x,x∈b↔x∈s:=by
 obtain⟨t,h1,h2,h3,h4⟩:=wY.flip.RA (cmp:=jI) (c:=fun x y=>Ll y x) (fun x y=>by simp[jI]) (fun x y=>Lj y x) s hs
 have hc:=zY (eq:=fun x y:af=>kV false x.aj y.aj x.Value y.Value) (ne:=fun x y=>kV true x.aj y.aj x.Value y.Value) (z:=af.mk 0 (ByteArray.mk #[])) (fun x y=>by
  rw[IN,QW];cases x;cases y;simp) (fun x y=>by
  rw[R7];congr 1;rw[QW];cases x;cases y
  simp) t (by omega)
 refine⟨dd t,?_,h3,by have:=Lc t;omega,h4⟩
 have h1':eu s=some ((),t):=h1;have hc':fI t=some (dd t):=hc;simp only[dB,h1',hc',Qa]
theorem TC(s:List ByteArray)(hs:s.length<1000000000):∃b,ed s=some b/\b.Pairwise (fun x y=>mT x y=true)/\b.length<=s.length/\∀x,x∈b↔x∈s:=by
 obtain⟨t,h1,h2,h3,h4⟩:=wX.RA (cmp:=ff) (c:=HT) (fun x y=>uy x y) Lh s hs
 have hc:=zY (eq:=fun x y:ByteArray=>decide (x=y)) (ne:=fun x y=> !decide (x=y)) (z:=ByteArray.mk #[]) (fun _ _=>rfl) (fun _ _=>rfl) t (by omega)
 refine⟨dd t,?_,h3,by have:=Lc t;omega,h4⟩
 have h1':fX s=some ((),t):=h1;have hc':iJ t=some (dd t):=hc;simp only[ed,h1',hc',Qa]
theorem Sk(a b:Int):decide (ux a b<0)=decide (a<b):=by rw[decide_eq_decide];exact E2 a b
theorem TD(s:List Int)(hs:s.length<1000000000):∃b,fc s=some b/\b.Pairwise (·<·)/\b.length<=s.length/\∀x,x∈b↔x∈s:=by
 obtain⟨t,h1,h2,h3,h4⟩:=Cv.RA (cmp:=gy) (c:=ux) (fun x y=>Aj x y) Sk s hs
 have hc:=zY (eq:=fun x y:Int=>decide (x=y)) (ne:=fun x y=> !decide (x=y)) (z:=0) (fun _ _=>rfl) (fun _ _=>rfl) t (by omega)
 refine⟨dd t,?_,h3.imp fun h=>of_decide_eq_true h,by have:=Lc t;omega,h4⟩
 have h1':iI s=some ((),t):=h1;simp only[fc,h1',Qa,Si,hc]
 def said(e:ai):List af:=if ba e then(if e.bQ=1 then[e.aa,e.al,e.aw]else if e.bQ=2 then[e.al,at_ e 1000000]else[at_ e 1000000])else[]
theorem y2(e:ai):(said e).length<=3:=by
 unfold said;split
 ·split
  ·simp
  ·split<;>simp
 ·simp
theorem oC{α β:Type}(f:α->List β)(hf:∀x,(f x).length<=3):∀l:List α,(l.flatMap f).length<=3*l.length
 |[]=>by simp
 |x::l=>by
  have:=oC f hf l;have:=hf x;rw[List.flatMap_cons,QB,QE];omega
section
variable {l : List ai} (hl : ∀ e ∈ l, fb e.ae) (hlen : l.length <= 1000)
 include hl hlen
theorem OM:∃b,fJ l=some b/\b.Pairwise (fun x y=>a8 y x=true)/\b.length<=3000/\∀x,x∈b↔∃e∈l,x∈said e/\aD x=false:=by
 have hd:=N2 (p:=aR) (q:=aD) bZ (z:=af.mk 0 (ByteArray.mk #[])) (l.flatMap said) (by have:=oC said y2 l;omega)
 obtain⟨b,h1,h2,hbl,h3⟩:=TE ((l.flatMap said).filter fun x=> !aD x) (by have:=oC said y2 l;have:=List.length_filter_le (fun x=> !aD x) (l.flatMap said);omega)
 refine⟨b,?_,h2,by have:=oC said y2 l;have:=List.length_filter_le (fun x=> !aD x) (l.flatMap said);omega,fun x=> ?_⟩
 ·unfold fJ;refine(z6 l (by omega) said (fun e _=>y2 e) (fin:=fun acc=>Option.bind (c7 acc) fun r8=>Option.bind (dB r8) fun r9=>some r9) (fun i e acc he hd hx hw hok hal=> ?_) (fun acc hd=> ?_)).trans ?_
  ·have o1:=hok 24 3 (by omega) (by omega) hal
   have o2:=hok 24 2 (by omega) (by omega) hal
   have o3:=hok 24 1 (by omega) (by omega) hal
   simp only[hd,hx,hw,Qk,bB,Qa,aq.eta,ai.eta,lS (hl e he),uM,QE,QZ,o1,o2,o3,Nat.zero_add,Nat.reduceAdd];unfold said at_
   cases ba e<;>by_cases k1:e.bQ=1<;>by_cases k2:e.bQ=2<;>simp[k1,k2]
  ·simp only[hd,Ql]
  ·have hd':c7 (l.flatMap said)=_:=hd;simp only[hd',h1,Qa]
 ·rw[h3,List.mem_filter,QQ];constructor
  ·rintro⟨⟨e,he,hx⟩,hz⟩;exact⟨e,he,hx,by simpa using hz⟩
  ·rintro⟨e,he,hx,hz⟩;exact⟨⟨e,he,hx⟩,by simpa using hz⟩
theorem Rk:∃b,ir l=some b/\b.Pairwise (fun x y=>mT x y=true)/\b.length<=3000/\∀x,x∈b↔∃e∈l,ba e=true/\x=e.aa.Value:=by
 have hf:∀e:ai,(if ba e then[e.aa.Value]else[]).length<=3:=fun e=>by split<;>simp
 obtain⟨b,h1,h2,hbl,h3⟩:=TC (l.flatMap fun e=>if ba e then[e.aa.Value]else[]) (by have:=oC _ hf l;omega)
 refine⟨b,?_,h2,by have:=oC _ hf l;omega,fun x=> ?_⟩
 ·unfold ir;refine(z6 l (by omega) (fun e=>if ba e then[e.aa.Value]else[]) (fun e _=>hf e) (fin:=fun acc=>Option.bind (ed acc) fun r6=>some r6) (fun i e acc he hd hx hw hok hal=> ?_) (fun acc hd=> ?_)).trans ?_
  ·have o3:=hok 16 1 (by omega) (by omega) hal
   simp only[hd,hx,hw,Qk,bB,Qa,aq.eta,ai.eta,lS (hl e he),QE,QZ,o3,Nat.zero_add];cases ba e<;>simp
  ·simp only[hd,Ql]
  ·simp only[h1,Qa]
 ·rw[h3,QQ];constructor
  ·rintro⟨e,he,hx⟩;split at hx
   ·rename_i hv;exact⟨e,he,hv,by simpa using hx⟩
   ·cases hx
  ·rintro⟨e,he,hv,hx⟩;exact⟨e,he,by rw[Qr hv];simpa using hx⟩
theorem OL(v:ByteArray):∃b,eo l v=some b/\b.Pairwise (·<·)/\b.length<=3000/\∀x,x∈b↔x∈ends v l:=by
 have hf:∀e:ai,(if jq v e then[e.aN,e.bc]else[]).length<=3:=fun e=>by split<;>simp
 obtain⟨b,h1,h2,hbl,h3⟩:=TD (ends v l) (by have:=oC _ hf l;unfold ends;omega)
 refine⟨b,?_,h2,by have:=oC _ hf l;unfold ends at hbl;omega,h3⟩
 unfold eo;refine(z6 l (by omega) (fun e=>if jq v e then[e.aN,e.bc]else[]) (fun e _=>hf e) (fin:=fun acc=>Option.bind (fc acc) fun r6=>some r6) (fun i e acc he hd hx hw hok hal=> ?_) (fun acc hd=> ?_)).trans ?_
 ·have o3:=hok 8 2 (by omega) (by omega) hal
  simp only[hd,hx,hw,Qk,bB,Qa,aq.eta,ai.eta,lS (hl e he),QE,QZ,o3,Nat.zero_add,Nat.reduceAdd];unfold jq;cases ba e<;>cases decide (e.aa.Value=v)<;>cases decide (e.aN=0)<;>simp
 ·simp only[hd,Ql]
 ·exact(congrArg (fun o=>Option.bind o fun r6=>some r6) h1)
end
end Go.Proofs.YtkgenianmdfmdaaGreat
namespace Go.Proofs.YtkgenianmdfmdaaGreat
open Go.TQ
end Go.Proofs.YtkgenianmdfmdaaGreat
namespace Go.Proofs.YtkgenianmdfmdaaGreat
open Go.TQ
def w9:af:=⟨0,gC⟩
theorem Gz{α τ:Type}(l:List α)(hl:l.length<=1000000)(mk:Int->τ)(P:α->Bool)(z:α){step:τ->Option (τ⊕α)}
  (h1:∀(i:Nat) (x:α),decide ((i:Int)<((l.length:Nat):Int))=true->idx l (i:Int)=some x->aJ .i64 (i:Int) 1=((i+1:Nat):Int)->step (mk (i:Int))=some (bif P x then .inr x else .inl (mk ((i+1:Nat):Int))))
  (h2:decide (((l.length:Nat):Int)<((l.length:Nat):Int))=false->step (mk ((l.length:Nat):Int))=some (.inr z)):aI step (mk 0)=some ((l.find? P).getD z):=by
 suffices key:∀(k i:Nat),i+k=l.length->aI step (mk (i:Int))=some (((l.drop i).find? P).getD z)from key l.length 0 (by omega)
 intro k
 induction k with
 |zero=>
  intro i hi;obtain rfl:i=l.length:=by omega
  rw[cd (h2 (Qh (Int.lt_irrefl _))),List.drop_length];rfl
 |succ k ih=>
  intro i hi;have hlt:i<l.length:=by omega
  have hs:=h1 i l[i] (Qg (by omega)) (by rw[bK];exact Qv hlt) (cj (by omega) (by omega))
  rw[QM hlt,List.find?_cons]
  cases hP:P l[i]with
  |true=>rw[hP]at hs;rw[cd hs];rfl
  |false=>rw[hP]at hs;rw[bq hs];exact ih (i+1) (by omega)
 def eJ(l:List ai):List af:=(fJ l).getD []
section
variable {l : List ai} (hl : ∀ e ∈ l, fb e.ae) (hlen : l.length <= 1000)
 include hl hlen
theorem nH:fJ l=some (eJ l)/\(eJ l).Pairwise (fun x y=>a8 y x=true)/\(eJ l).length<=3000/\∀x,x∈eJ l↔∃e∈l,x∈said e/\aD x=false:=by
 obtain⟨b,h1,h2,h3,h4⟩:=OM hl hlen;have:eJ l=b:=by rw[eJ,h1];rfl
 rw[this];exact⟨h1,h2,h3,h4⟩
end
def ru(b:af):af:=if 1000<=b.aj then⟨1000000,b.Value⟩else b
theorem Ob(b:af):gp b=some (ru b):=by
 unfold gp ru;simp only[bB,HY,EJ]
section
variable {az : Nat} (hn : az < 10) {t : aq} (ht : fb t) {l : List ai} (hl : ny l)
 include hn ht hl
end
end Go.Proofs.YtkgenianmdfmdaaGreat
namespace Go.Proofs.YtkgenianmdfmdaaGreat
open Go.TQ
 def ga(l:List ai):List ByteArray:=(ir l).getD []
 def bV(l:List ai)(v:ByteArray):List Int:=(eo l v).getD []
section
variable {l : List ai} (hl : ∀ e ∈ l, fb e.ae) (hlen : l.length <= 1000)
 include hl hlen
theorem rL:ir l=some (ga l)/\(ga l).Pairwise (fun x y=>mT x y=true)/\(ga l).length<=3000/\∀x,x∈ga l↔∃e∈l,ba e=true/\x=e.aa.Value:=by
 obtain⟨b,h1,h2,h3,h4⟩:=Rk hl hlen;have:ga l=b:=by rw[ga,h1];rfl
 rw[this];exact⟨h1,h2,h3,h4⟩
theorem lF(v:ByteArray):eo l v=some (bV l v)/\(bV l v).Pairwise (·<·)/\(bV l v).length<=3000/\∀x,x∈bV l v↔x∈ends v l:=by
 obtain⟨b,h1,h2,h3,h4⟩:=OL hl hlen v;have:bV l v=b:=by rw[bV,h1];rfl
 rw[this];exact⟨h1,h2,h3,h4⟩
end
theorem I0{l:List ai}(hl:ny l)(hlen:l.length<=1000)(v:ByteArray):∀x∈bV l v,1<=x/\x<=1000:=by
 obtain⟨_,_,_,h⟩:=lF hl.aY hlen v;intro x hx;obtain⟨e,he,hb,hy⟩:=s9.1 ((h x).1 hx);simp only[jq,Qm,Bool.not_eq_true',Qj]at hb;have hv:=hb.1.1;have h0:=hb.2;unfold ba mn at hv;rw[Qm]at hv;have hv:=hv.2
 by_cases k1:e.bQ=1
 ·rw[Qr k1]at hv;simp only[fo,finite,Qm,Qi]at hv;omega
 ·rw[Qs k1]at hv
  by_cases k2:e.bQ=2
  ·rw[Qr k2]at hv;simp only[wu,vM,Qm,Qi]at hv;omega
  ·rw[Qs k2]at hv
   by_cases k3:e.bQ=3
   ·rw[Qr k3]at hv;simp only[CN,vM,Qm,Qi]at hv;omega
   ·rw[Qs k3]at hv;cases hv
theorem Gy{α A B ρ:Type}(l:List α)(hl:l.length<=1000000)(f:A×B->α->A×B){step:A×Int×B×Unit->Option ((A×Int×B×Unit)⊕ρ)}{fin:A×B->Option ρ}
  (h1:∀(i:Nat) (x:α) (a:A) (b:B),x∈l->decide ((i:Int)<((l.length:Nat):Int))=true->idx l (i:Int)=some x->aJ .i64 (i:Int) 1=((i+1:Nat):Int)->step (a,(i:Int),b,())=some (.inl ((f (a,b) x).1,((i+1:Nat):Int),(f (a,b) x).2,())))
  (h2:∀a b,decide (((l.length:Nat):Int)<((l.length:Nat):Int))=false->step (a,((l.length:Nat):Int),b,())=Option.map Sum.inr (fin (a,b))) (a:A) (b:B):aI step (a,(0:Int),b,())=fin (l.foldl f (a,b)):=by
 suffices key:∀(k i:Nat) (a:A) (b:B),i+k=l.length->aI step (a,(i:Int),b,())=fin ((l.drop i).foldl f (a,b))from key l.length 0 a b (by omega)
 intro k
 induction k with
 |zero=>
  intro i a b hi;obtain rfl:i=l.length:=by omega
  rw[lN,h2 a b (Qh (Int.lt_irrefl _)),List.drop_length,List.foldl_nil];cases fin (a,b)<;>rfl
 |succ k ih=>
  intro i a b hi;have hlt:i<l.length:=by omega
  rw[bq (h1 i l[i] a b (Q0 hlt) (Qg (by omega)) (by rw[bK];exact Qv hlt) (cj (by omega) (by omega))),ih (i+1) _ _ (by omega),QM hlt,QU]
def ma(p q:af)(v:ByteArray)(n:Int):Bool:=eE p ⟨n,v⟩||eE q ⟨n,v⟩
theorem G1(v:ByteArray)(n:Int)(p q:af):kQ v n p q=some (ma p q v n):=by
 simp only[kQ,nP,Qa,mZ,Bool.cond_true_left,ma]
 def K0(b:List Int)(ready:Int->Int->Bool)(low bP:Int):Int×Int:=
 match b.reverse.find? (fun n=>decide (bP<n)&&ready n n)with
 |none=>(dU (fun x=>ready x bP) b.reverse low,bP)
 |some n=>
  let bottom:=dU (fun x=>ready x n) b.reverse n
  (dU (fun x=>ready x n) b.reverse (if bP<bottom - 1\/bottom<low then bottom else low),n)
 def vo(S:eN)(b:List Int)(v:ByteArray)(m8:Nat)(e9:Int)(v7:Int×Int×Unit):Option ((Int×Int×Unit)⊕(Int×Int×Unit)):=
 Option.bind (bif (decide (e9<=v7.2.1))then some true else Option.bind (fA S v e9 e9) fun r10=>some (!r10)) fun b11=>
 bif b11 then some (Sum.inl (v7.1,v7.2.1,()))else
 Option.bind (gQ b e9 S v e9) fun r12=>
 bL (fun(v13:Int×Unit)=>Option.map Sum.inr (Option.bind (fB b v13.1 S v e9) fun r5=>some (r5,e9,()))) fun j14=>
 Option.bind (bif (decide (v7.2.1<(gJ .i64 r12 (1:Int))))then some true else some (decide (r12<v7.1))) fun b15=>
 bif b15 then j14 (r12,())else j14 (v7.1,())
 def PR(S:eN)(b:List Int)(v:ByteArray)(v16:Int×Int×Unit):Option (Int×Int×Unit):=Option.bind (fB b v16.1 S v v16.2.1) fun r5=>some (r5,v16.2.1,())
section
variable {az : Nat} (hn : az < 10) {t : aq} (ht : fb t) {l : List ai} (hl : ny l)
 include hn ht hl
end
end Go.Proofs.YtkgenianmdfmdaaGreat
namespace Go.Proofs.YtkgenianmdfmdaaGreat
open Go.TQ
section
variable {α : Type} [DecidableEq α] {lt : α -> α -> Bool}
def oA(lt:α->α->Bool)(x:α):List α->List α
 |[]=>[x]
 |y::l=>if lt y x then y::oA lt x l else if y=x then y::l else x::y::l
theorem Ew(x:α):∀(l:List α) (z:α),z∈oA lt x l↔z=x\/z∈l
 |[],z=>by simp[oA]
 |y::l,z=>by
  rw[oA];split
  ·rw[QA,Ew x l z,QA];constructor
   ·rintro(h|h|h)
    ·exact .inr (.inl h)
    ·exact .inl h
    ·exact .inr (.inr h)
   ·rintro(h|h|h)
    ·exact .inr (.inl h)
    ·exact .inl h
    ·exact .inr (.inr h)
  ·split
   ·rename_i h;rw[QA];constructor
    ·exact .inr
    ·rintro(h1|h1)
     ·exact .inl (h1.trans h.symm)
     ·exact h1
   ·rw[QA]
theorem qh.oA(h:qh lt)(x:α):∀{l:List α},l.Pairwise (fun a b=>lt a b=true)->(Go.Proofs.YtkgenianmdfmdaaGreat.oA lt x l).Pairwise (fun a b=>lt a b=true)
 |[],_=>by rw[Go.Proofs.YtkgenianmdfmdaaGreat.oA];exact List.pairwise_singleton _ _
 |y::l,hp=>by
  rw[Q4]at hp;rw[Go.Proofs.YtkgenianmdfmdaaGreat.oA];split
  ·rename_i hy;rw[Q4];refine⟨fun z hz=> ?_,h.oA x hp.2⟩
   rcases(Ew x l z).1 hz with rfl|hz
   ·exact hy
   ·exact hp.1 z hz
  ·rename_i hy;split
   ·exact Q4.2 hp
   ·rename_i hne
    have hxy:lt x y=true:=by
     cases hc:lt x y with
     |true=>rfl
     |false=>exact absurd (h.total y x (by simpa using hy) hc) hne
    rw[Q4,Q4];refine⟨fun z hz=> ?_,hp⟩
    rcases QA.1 hz with rfl|hz
    ·exact hxy
    ·exact h.trans _ _ _ hxy (hp.1 z hz)
theorem Gm(h:qh lt):∀(xs l:List α),l.Pairwise (fun a b=>lt a b=true)->(xs.foldl (fun l x=>oA lt x l) l).Pairwise (fun a b=>lt a b=true)/\∀z,z∈xs.foldl (fun l x=>oA lt x l) l↔z∈xs\/z∈l
 |[],l,hp=>⟨hp,by simp⟩
 |x::xs,l,hp=>by
  obtain⟨h1,h2⟩:=Gm h xs _ (h.oA x hp);rw[QU];refine⟨h1,fun z=> ?_⟩
  rw[h2,Ew,QA];constructor
  ·rintro(a|a|a)
   ·exact .inl (.inr a)
   ·exact .inl (.inl a)
   ·exact .inr a
  ·rintro((a|a)|a)
   ·exact .inr (.inl a)
   ·exact .inl a
   ·exact .inr (.inr a)
end
section
variable {l : List ai} (hl : ∀ e ∈ l, fb e.ae) (hlen : l.length <= 1000)
 include hl hlen
end
section
variable {l : List ai} (hl : ∀ e ∈ l, fb e.ae) (hlen : l.length <= 1000)
 include hl hlen
end
end Go.Proofs.YtkgenianmdfmdaaGreat
namespace Go.Proofs.YtkgenianmdfmdaaGreat
open Go.TQ
section
variable {l : List ai} (hl : ∀ e ∈ l, fb e.ae) (hlen : l.length <= 1000)
 include hl hlen
end
end Go.Proofs.YtkgenianmdfmdaaGreat
namespace Go.Proofs.YtkgenianmdfmdaaGreat
open Go.TQ
theorem Fm{c:bh}{az:Int}{l:List ai}(hlen:l.length<=100000)(b:af):fj ⟨az,c,(bH l).map bb.mk⟩ b=gH c az ((dy (fun e=>pT e b||db e b) (bH l):Nat):Int) ((dy (db · b) (bH l):Nat):Int):=by
 have hrl:=uW l;have hin:=ob l;simp only[fj,jX,hZ,Qa,Option.bind_fun_some,OF (by omega:(bH l).length<=1000000) hin,DU (by omega:(bH l).length<=1000000) hin]
theorem D3{c:bh}{az:Int}{l:List ai}(hlen:l.length<=100000)(b:af):dJ ⟨az,c,(bH l).map bb.mk⟩ b=gi c az ((dy (db · b) (bH l):Nat):Int):=by
 have hrl:=uW l;have hin:=ob l;simp only[dJ,Qa,Option.bind_fun_some,DU (by omega:(bH l).length<=1000000) hin]
def u4(x:af->Bool)(p q:af)(v:ByteArray)(b:af):Bool:=(decide (v=gC)||decide (b.Value=v))&& !dG (ru p) (ru q) b&&x b
def vb(y:af->Bool)(a b:af):Bool:=a8 a b&&decide (b.aj<=1000)&&y b
section
variable {az : Int} {t : aq} {l : List ai} (hl : ny l) (hlen : l.length <= 1000) {c : bh} {x y : af -> Bool}
 include hl hlen
theorem T9(hL:dX az t l=some ⟨az,c,(bH l).map bb.mk⟩)(hx:∀b,fj ⟨az,c,(bH l).map bb.mk⟩ b=some (x b))(p q:af)(v:ByteArray):ky az t l p q v=some (((eJ l).find? (u4 x p q v)).getD w9):=by
 obtain⟨h1,_,h3,_⟩:=nH hl.aY hlen;unfold ky;simp only[aq.eta,hL,h1,Qa];refine Gz (eJ l) (by omega) (fun i=>(i,af.mk (0:Int) (ByteArray.mk #[]),())) (u4 x p q v) w9 (fun i b hd hx' hw=> ?_) (fun hd=> ?_)
 ·simp only[hd,hx',hw,Qk,bB,Qa,Ob,mJ,hx];unfold u4 gC;cases decide (v=ByteArray.mk #[])<;>cases decide (b.Value=v)<;>cases dG (ru p) (ru q) b<;>cases x b<;>simp
 ·simp only[hd,Ql,Qe];rfl
theorem Uh(hL:dX az t l=some ⟨az,c,(bH l).map bb.mk⟩)(hy:∀b,dJ ⟨az,c,(bH l).map bb.mk⟩ b=some (y b))(a:af):iN az t l a=some (((eJ l).find? (vb y a)).getD w9):=by
 obtain⟨h1,_,h3,_⟩:=nH hl.aY hlen;unfold iN;simp only[aq.eta,hL,h1,Qa];refine Gz (eJ l) (by omega) (fun i=>(i,af.mk (0:Int) (ByteArray.mk #[]),())) (vb y a) w9 (fun i b hd hx' hw=> ?_) (fun hd=> ?_)
 ·simp only[hd,hx',hw,Qk,bB,Qa,gz,jX,hy];unfold vb;cases a8 a b<;>cases decide (b.aj<=1000)<;>cases y b<;>simp
 ·simp only[hd,Ql,Qe];rfl
end
end Go.Proofs.YtkgenianmdfmdaaGreat
namespace Go.Proofs.YtkgenianmdfmdaaGreat
open Go.TQ
theorem EU(q:Int->Bool):∀(r:List Int) (lo:Int),(∀x∈r,0<=x/\x<=1000000)->0<=lo/\lo<=1000000->0<=dU q r lo/\dU q r lo<=1000000
 |[],lo,_,h=>h
 |x::r,lo,hx,h=>by
  rw[dU];split
  ·exact EU q r lo (fun y hy=>hx y (by simp[hy])) h
  ·split
   ·exact EU q r x (fun y hy=>hx y (by simp[hy])) (hx x (by simp))
   ·exact h
 def oJ(x:ByteArray->Int->Int->Bool)(p q:af)(v:ByteArray)(s:Bool×af)(n:Int):Bool×af:=
 if a8 s.2 ⟨n,v⟩&& !ma p q v n&&x v n n then(true,⟨n,v⟩)else s
 def fP(x:ByteArray->Int->Int->Bool)(l:List ai)(p q:af):Bool×af:=
 (ga l).foldl (fun s v=>(bV l v).foldl (oJ x p q v) s) (false,⟨0,gC⟩)
 def oD(x:ByteArray->Int->Int->Bool)(l:List ai)(p q:af)(s:Bool×af):ByteArray×Int×Int×Bool×Unit:=
 if s.1 then(s.2.Value,dU (fun n=> !ma p q s.2.Value n&&x s.2.Value n s.2.aj) (bV l s.2.Value).reverse s.2.aj,s.2.aj,true,())else(gC,0,0,false,())
section
variable {S : eN} {x y : ByteArray -> Int -> Int -> Bool} (hx : ∀ v lo hi, fA S v lo hi = some (x v lo hi)) (hy : ∀ v lo hi, jQ S v lo hi = some (y v lo hi))
section
 include hx
theorem Sb(b:List Int)(lo:Int)(p q z:af):gF b lo p q z S=some (dU (fun n=> !ma p q z.Value n&&x z.Value n z.aj) b.reverse lo):=by
 have:=vp (p:=fun e=>jJ e p q z S) (q:=fun n=> !ma p q z.Value n&&x z.Value n z.aj) (fun e=>by
  simp only[jJ,G1,hx,Qa,mZ]
  cases ma p q z.Value e<;>simp) b.reverse lo
 simp only[gF,bD,bB,Qa];exact this
theorem Sa(b:List Int)(lo:Int)(v:ByteArray)(hi:Int):gQ b lo S v hi=some (dU (fun z=>x v z hi) b.reverse lo):=by
 have:=vp (p:=fun e=>mm e S v hi) (q:=fun z=>x v z hi) (fun e=>by simp only[mm,hx,Qa]) b.reverse lo
 simp only[gQ,bD,bB,Qa];exact this
theorem K6(b:List Int)(lo:Int)(v:ByteArray)(hi:Int):fB b lo S v hi=some (dU (fun z=>x v z hi) b.reverse lo):=by
 have:=vp (p:=fun e=>ml e S v hi) (q:=fun z=>x v z hi) (fun e=>by simp only[ml,hx,Qa]) b.reverse lo
 simp only[fB,bD,bB,Qa];exact this
theorem IM(b:List Int)(v:ByteArray)(low bP:Int)(hb:∀x∈b,0<=x/\x<=1000000):∀r:List Int,(∀x∈r,x∈b)->jC (vo S b v) (PR S b v) r (low,bP,())=
  some (match r.find? (fun n=>decide (bP<n)&&x v n n)with
   |none=>(dU (fun z=>x v z bP) b.reverse low,bP,())
   |some n=>(dU (fun z=>x v z n) b.reverse (if bP<dU (fun z=>x v z n) b.reverse n - 1\/dU (fun z=>x v z n) b.reverse n<low then dU (fun z=>x v z n) b.reverse n else low),n,()))
 |[],_=>by simp only[jC,PR,K6 hx,Qa,List.find?_nil]
 |e::r,hr=>by
  have ih:=IM b v low bP hb r (fun x hx=>hr x (by simp[hx]))
  rw[List.find?_cons,jC]
  by_cases hle:e<=bP
  ·have h2:decide (bP<e)=false:=Qh (by omega)
   have h1:decide (e<=bP)=true:=Qg hle;have hst:vo S b v r.length e (low,bP,())=some (.inl (low,bP,())):=by simp only[vo,h1,Qk,Qa]
   rw[hst,h2,Bool.false_and];exact ih
  ·have h2:decide (bP<e)=true:=Qg (by omega)
   have h1:decide (e<=bP)=false:=Qh hle;rw[h2,Bool.true_and]
   cases hr':x v e e with
   |false=>
    have hst:vo S b v r.length e (low,bP,())=some (.inl (low,bP,())):=by simp only[vo,h1,Ql,hx,hr',Qp,Qa,Qk]
    rw[hst];exact ih
   |true=>
    have hb9:=EU (fun z=>x v z e) b.reverse e (fun z hz=>hb z (by simpa using hz)) (hb e (hr e (by simp)))
    simp only[vo,h1,Ql,hx,hr',Qo,Sa hx,K6 hx,Qa,bB,mZ,Bool.cond_true_left,Qe];generalize dU (fun z=>x v z e) b.reverse e=bt at*
    have e3:gJ .i64 bt 1=bt - 1:=Cu (by omega) (by omega)
    rw[e3]
    by_cases hc:bP<bt - 1\/bt<low
    ·have:(decide (bP<bt - 1)||decide (bt<low))=true:=by rw[Qn];simpa using hc
     rw[this,Qr hc];rfl
    ·have:(decide (bP<bt - 1)||decide (bt<low))=false:=by
      rw[<-QX,Qn];simpa using hc
     rw[this,Qs hc];rfl
end
section
 include hy
theorem Uz(b:List Int)(lo:Int)(v:ByteArray)(hi:Int):gP b lo S v hi=some (dU (fun z=>y v z hi) b.reverse lo):=by
 have:=vp (p:=fun e=>nn e S v hi) (q:=fun z=>y v z hi) (fun e=>by simp only[nn,hy,Qa]) b.reverse lo
 simp only[gP,bD,bB,Qa];exact this
end
variable {az : Int} {t : aq} {l : List ai} (hl : ny l) (hlen : l.length <= 1000) (hL : dX az t l = some S)
 include hl hlen hL
section
 include hx
theorem VZ(p q:af):mG az t l p q=some (oD x l p q (fP x l p q)):=by
 obtain⟨h1,_,h3,_⟩:=rL hl.aY hlen;unfold mG;simp only[aq.eta,hL,h1,Qa];refine(Gy (ga l) (by omega) (fun s v=>(bV l v).foldl (oJ x p q v) s) (fin:=fun s=>some (oD x l p q s)) (fun i v a b hv hd hx' hw=> ?_) (fun a b hd=> ?_) false ⟨0,ByteArray.mk #[]⟩)
 ·obtain⟨g1,_,g3,_⟩:=lF hl.aY hlen v;simp only[hd,hx',hw,Qk,Qa,g1];refine(Gy (bV l v) (by omega) (oJ x p q v) (fin:=fun s=>some (Sum.inl (s.1,((i+1:Nat):Int),s.2,()))) (fun i' n a' b' hv' hd' hx'' hw'=> ?_) (fun a' b' hd'=> ?_) a b)
  ·simp only[hd',hx'',hw',Qk,bB,Qa,gz,G1,hx,mZ];unfold oJ;cases a8 b' ⟨n,v⟩<;>cases ma p q v n<;>cases x v n n<;>simp
  ·simp only[hd',Ql]
 ·simp only[hd,Ql];obtain⟨g1,_,g3,_⟩:=lF hl.aY hlen b.Value;unfold oD;cases a
  ·rfl
  ·simp only[Qo,Ql,g1,Qa,Sb hx,Qt]
theorem U3(v:ByteArray)(low bP:Int):lK az t l v low bP=some ((K0 (bV l v) (x v) low bP).1,(K0 (bV l v) (x v) low bP).2,()):=by
 obtain⟨h1,_,_,_⟩:=lF hl.aY hlen v;have hin:=I0 hl hlen v;unfold lK;simp only[aq.eta,hL,h1,Qa,bD];refine(IM hx (bV l v) v low bP (fun x hx=>by have:=hin x hx;omega) (bV l v).reverse (by simp)).trans ?_
 unfold K0;cases (bV l v).reverse.find? (fun n=>decide (bP<n)&&x v n n)<;>rfl
end
section
 include hy
theorem V0(v:ByteArray):mH az t l v=some (wh (bV l v) (y v)):=by
 obtain⟨h1,_,_,_⟩:=lF hl.aY hlen v
 have:=MR (p:=fun e=>jQ S v e e) (q:=fun e=>y v e e) (d:=fun e=>gP (bV l v) e S v e) (f:=fun e=>dU (fun z=>y v z e) (bV l v).reverse e)
  (fun e=>hy v e e) (fun e=>Uz hy (bV l v) e v e) (bV l v).reverse
 simp only[mH,aq.eta,hL,h1,bD,Qa,wh];exact this
end
end
section
variable {az : Int} {t : aq} {l : List ai} (hl : ny l) (hlen : l.length <= 1000) {x y : ByteArray -> Int -> Int -> Bool} (hx : ∀ v lo hi, xi az t l v lo hi = some (x v lo hi)) (hy : ∀ v lo hi, wE az t l v lo hi = some (y v lo hi))
 include hl hlen
section
 include hx
end
section
 include hy
end
end
end Go.Proofs.YtkgenianmdfmdaaGreat
namespace Go.Proofs.YtkgenianmdfmdaaGreat
open Go.TQ
section
variable {az : Nat} (hn : az < 10) {t : aq} (ht : fb t) {l : List ai} (hl : ny l) (hlen : l.length <= 1000)
 include hn ht hl hlen
theorem Vl(b:af):fj ⟨az,⟨fh az t l⟩,(bH l).map bb.mk⟩ b=some (iA az t l b):=by
 have hin:=ob l;have hsm:=qu (az:=az) ht hl;rw[Fm hl.len,Ap hsm hn (qY hin) (qY hin)];rfl
theorem T0(b:af):dJ ⟨az,⟨fh az t l⟩,(bH l).map bb.mk⟩ b=some (iD az t l b):=by
 have hin:=ob l;have hsm:=qu (az:=az) ht hl;rw[D3 hl.len,yE hsm hn (qY hin)];rfl
 def iw(az:Nat)(t:aq)(l:List ai)(p q:af)(v:ByteArray):af:=((eJ l).find? (u4 (iA az t l) p q v)).getD w9
 def vd(az:Nat)(t:aq)(l:List ai)(a:af):af:=((eJ l).find? (vb (iD az t l) a)).getD w9
theorem TX(p q:af)(v:ByteArray):ky az t l p q v=some (iw az t l p q v):=T9 hl hlen (H3 hn ht hl) (Vl hn ht hl hlen) p q v
theorem TY(a:af):iN az t l a=some (vd az t l a):=Uh hl hlen (H3 hn ht hl) (T0 hn ht hl hlen) a
end
end Go.Proofs.YtkgenianmdfmdaaGreat
namespace Go.Proofs.YtkgenianmdfmdaaGreat
open Go.TQ
theorem ML{bytes n:Nat}(h:bytes<=200)(hn:n<=1000000):bW bytes n=true:=
 er ⟨QK (Nat.mul_le_mul hn h) (by decide),hn⟩
theorem FR{α ρ:Type}(l:List α)(hl:l.length<=1000000)(p:α->Bool){step:Int×Unit->Option ((Int×Unit)⊕ρ)}{fin:Option ρ}{f:Nat->α->Option ρ}
  (h1:∀(i:Nat) (x:α),i<l.length->l[i]?=some x->decide ((i:Int)<((l.length:Nat):Int))=true->idx l (i:Int)=some x->aJ .i64 (i:Int) 1=((i+1:Nat):Int)->step ((i:Int),())=bif p x then Option.map Sum.inr (f i x)else some (.inl (((i+1:Nat):Int),())))
  (h2:(∀x∈l,p x=false)->decide (((l.length:Nat):Int)<((l.length:Nat):Int))=false->step (((l.length:Nat):Int),())=Option.map Sum.inr fin):
  aI step ((0:Int),())=match l.findIdx? p with|some i=>(l[i]?).bind (f i)|none=>fin:=by
 suffices key:∀(k i:Nat),i+k=l.length->(∀x∈l.take i,p x=false)->aI step ((i:Int),())=match(l.drop i).findIdx? p with|some j=>(l[i+j]?).bind (f (i+j))|none=>fin by
  have:=key l.length 0 (by omega) (by simp)
  rw[List.drop_zero]at this;simp only[Nat.zero_add]at this;exact this
 intro k
 induction k with
 |zero=>
  intro i hi hpre;obtain rfl:i=l.length:=by omega
  rw[List.take_length]at hpre;rw[lN,h2 hpre (Qh (Int.lt_irrefl _)),List.drop_length];cases fin<;>rfl
 |succ k ih=>
  intro i hi hpre;have hlt:i<l.length:=by omega
  have hx:l[i]?=some l[i]:=Qv hlt;have hs:=h1 i l[i] hlt hx (Qg (by omega)) (by rw[bK];exact hx) (cj (by omega) (by omega))
  rw[QM hlt,List.findIdx?_cons]
  cases hp:p l[i]with
  |true=>
   rw[hp]at hs;rw[lN,hs];simp only[Qk,Qt,Nat.add_zero,hx,Qa];cases f i l[i]<;>rfl
  |false=>
   rw[hp]at hs
   rw[bq hs,ih (i+1) (by omega) (fun x hx=>by
    rw[List.take_succ_eq_append_getElem hlt,Qz,List.mem_singleton]at hx;rcases hx with hx|rfl
    ·exact hpre x hx
    ·exact hp)]
   simp only[Qq,Qu]
   cases (l.drop (i+1)).findIdx? p with
   |none=>rfl
   |some j=>
    simp only[Qe];rw[show i+1+j=i+(j+1)by omega]
def Ch(l:List ai)(e:ai):Nat:=(l.findIdx? fun x=>decide (e.ar<x.ar)).getD l.length
 def kb(l:List ai)(e:ai):List ai×Bool×Unit:=
 if ba e then
  match l.findIdx? fun x=>decide (x.ar=e.ar)with
  |some i=>if e.aK<=((l[i]?).getD e).aK then(l,false,())else(l.set i e,true,())
  |none=>(l.take (Ch l e)++[e]++l.drop (Ch l e),true,())
 else(l,false,())
theorem WK(l:List ai)(e:ai):Ch l e<=l.length:=by
 unfold Ch
 cases h:l.findIdx? fun x=>decide (e.ar<x.ar)with
 |none=>exact QI _
 |some i=>exact Nat.le_of_lt ((List.findIdx?_eq_some_iff_getElem.1 h).1)
section
variable {l : List ai} (hl : ∀ x ∈ l, fb x.ae) (hlen : l.length <= 1000)
 include hlen
theorem Rr(e:ai):cP l e=some (match l.findIdx? fun x=>decide (x.ar=e.ar)with|some i=>(i:Int)|none=> -1):=by
 unfold cP;refine(FR l (by omega) (fun x=>decide (x.ar=e.ar)) (f:=fun i _=>some (i:Int)) (fin:=some (-1)) (fun i x hi hx0 hd hx hw=> ?_) (fun hall hd=> ?_)).trans ?_
 ·simp only[hd,hx,hw,Qk,Qa,pR]
 ·simp only[hd,Ql]
 ·cases h:l.findIdx? fun x=>decide (x.ar=e.ar)with
  |none=>rfl
  |some i=>have:=(List.findIdx?_eq_some_iff_getElem.1 h).1;simp[Qv this]
theorem Sy(e:ai):cO l e=some (match l.findIdx? fun x=>decide (e.ar<x.ar)with|some i=>(i:Int)|none=> -1):=by
 unfold cO;refine(FR l (by omega) (fun x=>decide (e.ar<x.ar)) (f:=fun i _=>some (i:Int)) (fin:=some (-1)) (fun i x hi hx0 hd hx hw=> ?_) (fun hall hd=> ?_)).trans ?_
 ·simp only[hd,hx,hw,Qk,Qa,pQ]
 ·simp only[hd,Ql]
 ·cases h:l.findIdx? fun x=>decide (e.ar<x.ar)with
  |none=>rfl
  |some i=>have:=(List.findIdx?_eq_some_iff_getElem.1 h).1;simp[Qv this]
 include hl
theorem Rp:eG l=some l:=by
 unfold eG
 suffices key:∀(k i:Nat),i+k=l.length->aI _ ((i:Int),l.take i,())=some l from key l.length 0 (by omega)
 intro k
 induction k with
 |zero=>
  intro i hi;obtain rfl:i=l.length:=by omega
  have hd:decide (((l.length:Nat):Int)<((l.length:Nat):Int))=false:=Qh (Int.lt_irrefl _);exact cd (by simp only[hd,Ql,Qe,List.take_length])
 |succ k ih=>
  intro i hi;have hlt:i<l.length:=by omega
  have hd:decide ((i:Int)<((l.length:Nat):Int))=true:=Qg (by omega)
  have hw:aJ .i64 (i:Int) 1=((i+1:Nat):Int):=cj (by omega) (by omega)
  have hx:idx l (i:Int)=some l[i]:=by rw[bK];exact Qv hlt
  have hc:gw l[i]=some l[i]:=by simp only[gw,aq.eta,rB (hl _ (Q0 hlt)),Qa]
  refine(bq ?_).trans (ih (i+1) (by omega))
  simp only[hd,hx,hw,Qk,Qa,aq.eta,ai.eta,hc];rw[ML (by omega) (by simp;omega),List.take_succ_eq_append_getElem hlt]
  rfl
theorem VW{e:ai}(he:fb e.ae):nZ l e=some (kb l e):=by
 have hc:gw e=some e:=by simp only[gw,aq.eta,rB he,Qa]
 have hat:=WK l e;unfold nZ;simp only[Rp hl hlen,aq.eta,ai.eta,lS he,hc,Rr hlen,Sy hlen,Qa,bB];unfold kb
 cases ba e with
 |false=>rfl
 |true=>
  simp only[Qo,Ql,Qt]
  cases h:l.findIdx? fun x=>decide (x.ar=e.ar)with
  |some i=>
   have hi:=(List.findIdx?_eq_some_iff_getElem.1 h).1;have hd:decide ((0:Int)<=(i:Int))=true:=Qg (by omega)
   have hx:idx l (i:Int)=some l[i]:=by rw[bK];exact Qv hi
   simp only[hd,hx,Qk,Qa,QV,Qv hi,Q3]
   by_cases hs:e.aK<=l[i].aK<;>simp[hs]
  |none=>
   have hd:decide ((0:Int)<= -1)=false:=rfl;simp only[hd,Ql]
   have hins:∀a:Nat,a<=l.length->dx l (a:Int) [e]=some (l.take a++[e]++l.drop a):=fun a ha=>by
    unfold dx KG;have h1:decide ((0:Int)<=(a:Int))=true:=Qg (by omega)
    have h2:decide ((a:Int)<=((l.length:Nat):Int))=true:=Qg (by omega)
    rw[h1,h2,ML (by omega) (by simp;omega)]
    rfl
   unfold Ch at hat ⊢
   cases h':l.findIdx? fun x=>decide (e.ar<x.ar)with
   |none=>
    have hd2:decide ((-1:Int)<0)=true:=rfl;simp only[hd2,Qk,hins _ (QI _),Qa,Option.getD_none]
   |some j=>
    have hj:=(List.findIdx?_eq_some_iff_getElem.1 h').1;have hd2:decide ((j:Int)<0)=false:=Qh (by omega)
    simp only[hd2,Ql,hins _ (Nat.le_of_lt hj),Qa,Q3]
end
end Go.Proofs.YtkgenianmdfmdaaGreat
namespace Go.Proofs.YtkgenianmdfmdaaGreat
open Go.TQ
section
variable {l : List ai} (hlen : l.length <= 1000)
 include hlen
end
end Go.Proofs.YtkgenianmdfmdaaGreat
namespace Go.Proofs.YtkgenianmdfmdaaGreat
open Go.TQ
structure Co (m:ab):Prop where
 n0:0<=m.ar
 n1:m.ar<10
 aY:fb m.ae
 len:m.aB.length<=100
 sm:∀e∈m.aB,fb e.ae
 valid:∀e∈m.aB,ba e=true
theorem na{m:ab}{e:ai}(h:e∈aO m):e∈m.aB\/(aD m.aa=false/\e=fp m):=by
 unfold aO at h;split at h
 ·exact .inl h
 ·rename_i hz;rw[(xe _ _).mem_iff,Qz,List.mem_singleton]at h;rcases h with h|h
  ·exact .inl h
  ·exact .inr ⟨by simpa using hz,h⟩
theorem Sw(m:ab):(aO m).length<=m.aB.length+1:=by
 unfold aO;split
 ·omega
 ·rw[(xe _ _).length_eq,QB,List.length_singleton];omega
theorem zm(m:ab):(fp m).ae=m.ae:=sA m
theorem Co.mN{m:ab}(h:Co m):ny (aO m)/\(aO m).length<=1000:=by
 have h1:=Sw m;have h2:=h.len;refine⟨⟨by omega,fun e he=> ?_⟩,by omega⟩
 rcases na he with he|⟨_,rfl⟩
 ·exact h.sm e he
 ·rw[zm];exact h.aY
theorem Co.az{m:ab}(h:Co m):((m.ar.toNat:Nat):Int)=m.ar/\m.ar.toNat<10:=by
 have:=h.n0;have:=h.n1;omega
def ct(b:af):af:=if 1000<b.aj then⟨1000,b.Value⟩else b
def cg(p q b:af):af×af:=
 if aD b=true then(p,q)else if aD p=true then(b,q)else if a8 p b=true then(if bw p b=true then(b,if bw q b=true then bm else q)else(b,p))
 else if(a8 b p&& !bw b p&&(aD q||a8 q b))=true then(p,b)else(p,q)
theorem DP(a b:af):bw a b=bw b a:=decide_eq_decide.2 ⟨Eq.symm,Eq.symm⟩
theorem TO(p q b:af):pb p q b=some ((cg p q b).1,(cg p q b).2,()):=by
 unfold pb cg;simp only[bZ,gz,dV,Qa,bB,DP b p,DP b q];cases aD b<;>cases aD p<;>cases a8 p b<;>cases bw p b<;>cases bw q b<;>cases a8 b p<;>cases aD q<;>cases a8 q b<;>rfl
def Dx(m:ab):ByteArray:=if m.aA=2 then m.aa.Value else gC
 def dj(m:ab):af:=iw m.ar.toNat m.ae (aO m) m.al m.aw (Dx m)
def pD(m:ab)(p q:af):Int:=
 if m.aA=1/\m.aN≠0 then(if ez m<kc m.aa.Value m.aN p q then 0 else kc m.aa.Value m.aN p q)else m.aN
 def bR(m:ab):ab:=
 if m.aA=3\/aD m.aa=true then m else
  {m with al:=(cg m.al m.aw (ct (dj m))).1,aw:=(cg m.al m.aw (ct (dj m))).2,aN:=pD m (cg m.al m.aw (ct (dj m))).1 (cg m.al m.aw (ct (dj m))).2}
 def gY(m:ab):af:=vd m.ar.toNat m.ae (aO m) m.au
def sO(m:ab)(b:af):ab:=
 if a8 m.aa b=true then{m with au:=b,aa:=b,aN:=if bw m.aa b=true then m.aN else 0}else{m with au:=b}
def kS(m:ab)(b:af):ab:=
 if m.aN=0/\bw m.aa b=true/\kc b.Value m.aa.aj m.al m.aw<=b.aj then{m with aN:=kc b.Value m.aa.aj m.al m.aw}else m
 def fL(m:ab):ab:=
 if m.aA≠1\/aD m.aa=true\/aD (gY m)=true then m else kS (sO m (gY m)) (gY m)
section
variable {az : Nat} (hn : az < 10) {t : aq} (ht : fb t) {l : List ai} (hl : ny l) (hlen : l.length <= 1000)
 include hn ht hl hlen
end
 def eB(m:ab):ByteArray->Int->Int->Bool:=oG m.ar.toNat m.ae (aO m)
 def yX(m:ab):ByteArray->Int->Int->Bool:=qN m.ar.toNat m.ae (aO m)
 def dQ(m:ab):ByteArray×Int×Int×Bool×Unit:=oD (eB m) (aO m) m.al m.aw (fP (eB m) (aO m) m.al m.aw)
 def dt(m:ab):Int×Int:=K0 (bV (aO m) m.aa.Value) (eB m m.aa.Value) m.aN m.bc
 def jM(m:ab):Int×Int×Bool×Unit:=wh (bV (aO m) m.aa.Value) (yX m m.aa.Value)
def zZ(m:ab)(v:ByteArray)(lo hi:Int):ab:=
 {m with aa:=if(!bw m.aa ⟨hi,v⟩||a8 m.aa ⟨hi,v⟩)=true then⟨bl m.aa.aj hi,v⟩else m.aa,al:=if im m.al ⟨hi,v⟩=true then m.al else⟨hi,v⟩,aA:=2,aN:=lo,bc:=hi,au:=⟨hi,v⟩,aw:=bm}
def sP(m:ab)(lo hi:Int):ab:=
 {m with aa:=⟨bl m.aa.aj hi,m.aa.Value⟩,al:=⟨bl m.al.aj hi,m.al.Value⟩,au:=⟨bl m.au.aj hi,m.aa.Value⟩,aN:=lo,bc:=hi}
 def dC(m:ab):ab:=
 if m.aA=1 then(if(dQ m).2.2.2.1=true then zZ m (dQ m).1 (dQ m).2.1 (dQ m).2.2.1 else m)
 else if m.aA=2 then sP m (dt m).1 (dt m).2 else m
def CP(m:ab)(lo hi:Int):ab:={m with aA:=3,aN:=lo,bc:=hi,aa:=⟨hi,m.aa.Value⟩,al:=bm,aw:=bm,au:=bm}
 def gR(m:ab):ab:=if m.aA=2/\(jM m).2.2.1=true then CP m (jM m).1 (jM m).2.1 else m
end Go.Proofs.YtkgenianmdfmdaaGreat
namespace Go.Proofs.YtkgenianmdfmdaaGreat
open Go.TQ
theorem IY{α β ρ:Type}(l:List α)(hl:l.length<=1000)(f:α->β){step:Int×List β×Unit->Option ((Int×List β×Unit)⊕ρ)}{fin:List β->Option ρ}
  (h1:∀(i:Nat) (e:α) (s:List β),s.length<=1000->e∈l->decide ((i:Int)<((l.length:Nat):Int))=true->idx l (i:Int)=some e->aJ .i64 (i:Int) 1=((i+1:Nat):Int)->step ((i:Int),s,())=some (.inl (((i+1:Nat):Int),s++[f e],())))
  (h2:∀s,decide (((l.length:Nat):Int)<((l.length:Nat):Int))=false->step (((l.length:Nat):Int),s,())=Option.map Sum.inr (fin s)):aI step ((0:Int),[],())=fin (l.map f):=by
 suffices key:∀(k i:Nat) (s:List β),i+k=l.length->s.length=i->aI step ((i:Int),s,())=fin (s++(l.drop i).map f)by
  have:=key l.length 0 [] (by omega) rfl
  simpa using this
 intro k
 induction k with
 |zero=>
  intro i s hi hs;obtain rfl:i=l.length:=by omega
  have hd:decide (((l.length:Nat):Int)<((l.length:Nat):Int))=false:=Qh (Int.lt_irrefl _);have h:=h2 s hd;rw[List.drop_length,QO,List.append_nil]
  cases hf:fin s with
  |none=>rw[hf]at h;exact F9 h
  |some r=>rw[hf]at h;exact cd h
 |succ k ih=>
  intro i s hi hs;have hlt:i<l.length:=by omega
  rw[bq (h1 i l[i] s (by omega) (Q0 hlt) (Qg (by omega)) (by rw[bK];exact Qv hlt) (cj (by omega) (by omega))),ih (i+1) (s++[f l[i]]) (by omega) (by simp;omega),
   QM hlt,QD,QL]
  rfl
theorem PQ{α β ρ:Type}(l:List α)(hl:l.length<=1000)(f:α->β){step:Int×List β×Unit->Option ((Int×List β×Unit)⊕ρ)}{fin:List β->Option ρ}
  (h1:∀(i:Nat) (e:α) (s:List β),s.length=l.length->e∈l->i<l.length->decide ((i:Int)<((l.length:Nat):Int))=true->idx l (i:Int)=some e->aJ .i64 (i:Int) 1=((i+1:Nat):Int)->step ((i:Int),s,())=some (.inl (((i+1:Nat):Int),s.set i (f e),())))
  (h2:∀s,decide (((l.length:Nat):Int)<((l.length:Nat):Int))=false->step (((l.length:Nat):Int),s,())=Option.map Sum.inr (fin s)) {s0:List β} (hs0:s0.length=l.length):aI step ((0:Int),s0,())=fin (l.map f):=by
 suffices key:∀(k i:Nat) (s:List β),i+k=l.length->s.length=l.length->aI step ((i:Int),s,())=fin (s.take i++(l.drop i).map f)by
  have:=key l.length 0 s0 (by omega) hs0
  simpa using this
 intro k
 induction k with
 |zero=>
  intro i s hi hs;obtain rfl:i=l.length:=by omega
  have hd:decide (((l.length:Nat):Int)<((l.length:Nat):Int))=false:=Qh (Int.lt_irrefl _);have h:=h2 s hd;rw[List.drop_length,QO,List.append_nil,<-hs,List.take_length];rw[<-hs]at h
  cases hf:fin s with
  |none=>rw[hf]at h;exact F9 h
  |some r=>rw[hf]at h;exact cd h
 |succ k ih=>
  intro i s hi hs;have hlt:i<l.length:=by omega
  rw[bq (h1 i l[i] s hs (Q0 hlt) hlt (Qg (by omega)) (by rw[bK];exact Qv hlt) (cj (by omega) (by omega))),ih (i+1) (s.set i (f l[i])) (by omega) (by simpa using hs),
   QM hlt,QD]
  congr 1;rw[List.take_add_one,List.take_set_of_le (QI i),List.getElem?_set_self (by omega)]
  simp
def Gv(z:af):List af->af
 |[]=>z
 |x::l=>l.foldl (fun a y=>if a8 a y=true then y else a) x
theorem NZ(l:List af)(hl:l.length<=1000000)(z:af){step:Int×af×Unit->Option ((Int×af×Unit)⊕af)}
  (h1:∀(i:Nat) (x s:af),decide ((i:Int)<((l.length:Nat):Int))=true->idx l (i:Int)=some x->aJ .i64 (i:Int) 1=((i+1:Nat):Int)->step ((i:Int),s,())=some (.inl (((i+1:Nat):Int),(if i=0 then x else if a8 s x=true then x else s),())))
  (h2:∀s,decide (((l.length:Nat):Int)<((l.length:Nat):Int))=false->step (((l.length:Nat):Int),s,())=some (.inr s)):aI step ((0:Int),z,())=some (Gv z l):=by
 have hd:decide (((l.length:Nat):Int)<((l.length:Nat):Int))=false:=Qh (Int.lt_irrefl _)
 have key:∀(k i:Nat) (s:af),i+k=l.length->1<=i->aI step ((i:Int),s,())=some ((l.drop i).foldl (fun a y=>if a8 a y=true then y else a) s):=by
  intro k
  induction k with
  |zero=>
   intro i s hi h1i;obtain rfl:i=l.length:=by omega
   rw[List.drop_length];exact cd (h2 s hd)
  |succ k ih=>
   intro i s hi h1i;have hlt:i<l.length:=by omega
   rw[bq (h1 i l[i] s (Qg (by omega)) (by rw[bK];exact Qv hlt) (cj (by omega) (by omega))),ih (i+1) _ (by omega) (by omega),QM hlt,QU,Qs (by omega:¬i=0)]
 cases l with
 |nil=>exact cd (h2 z hd)
 |cons x l=>
  have hx:=h1 0 x z (Qg (by simp)) (by rw[bK];rfl) (cj (by omega) (by omega))
  rw[Qr rfl]at hx;exact(bq hx).trans (key l.length 1 x (by simp;omega) (by omega))
theorem RL(l:List af)(hl:l.length<=1000000):jy l=some (Gv bm l):=by
 unfold jy;refine NZ l hl bm (fun i x s hd hx hw=> ?_) (fun s hd=> ?_)
 ·simp only[hd,hx,hw,Qk,bB,Qa,gz]
  by_cases hi:i=0
  ·subst hi;rfl
  ·have:decide ((i:Int)=0)=false:=Qh (by omega)
   rw[this,Qs hi];cases a8 s x<;>rfl
 ·simp only[hd,Ql,Qe]
def di(m:ab):ByteArray:=
 if aD m.au=false then m.au.Value else if m.aA≠1 then m.aa.Value else if m.bj≠gC then m.bj else(Gv bm (m.aB.map (·.aa))).Value
theorem Kp{e:ai}(h:fb e.ae)(hv:ba e=true):gI e=some (eZ e):=by
 rw[LM (Mp h)];have:mn (G9 e.ae) e=true:=hv;rw[this,Qr rfl]
def yL(m:ab)(n:Int):Nat:=dy (fun e=>decide (n<eZ e)) m.aB
 def gM(m:ab)(n:Int):Bool:=tr (fh m.ar.toNat m.ae (aO m)) m.ar.toNat (yL m n)
theorem Co.HK{m:ab}(h:Co m):rD m.aB:=fun e he=>jo (h.valid e he)
theorem Rg{m:ab}(h:Co m)(n:Int):yL m n<1024:=qY h.HK
 def jB(m:ab)(Cg:Int)(e:ai):Int:=
 if m.aa.aj<eZ e/\eZ e<Cg/\gM m (eZ e)=false then eZ e else Cg
 def eV(m:ab):Int:=m.aB.foldl (jB m) 1000000
 def jn(m:ab):ByteArray:=if m.aA=1 then di m else m.aa.Value
 def dL(m:ab):ab:=
 if m.aA=3\/gM m m.aa.aj=false then m
 else{m with aN:=if jn m=m.aa.Value then m.aN else 0,aa:=⟨bl m.aa.aj (dD (eV m) 1000),jn m⟩}
open Classical in
theorem Sn{m:ab}(h:Co m){ρ:Type}{step:Int×Int×Unit->Option ((Int×Int×Unit)⊕ρ)}{fin:Int->Option ρ}
  (h1:∀(i:Nat) (e:ai) (s:Int),e∈m.aB->decide ((i:Int)<((m.aB.length:Nat):Int))=true->idx m.aB (i:Int)=some e->aJ .i64 (i:Int) 1=((i+1:Nat):Int)->step (s,(i:Int),())=some (.inl (jB m s e,((i+1:Nat):Int),())))
  (h2:∀s,decide (((m.aB.length:Nat):Int)<((m.aB.length:Nat):Int))=false->step (s,((m.aB.length:Nat):Int),())=Option.map Sum.inr (fin s)):aI step ((1000000:Int),(0:Int),())=fin (eV m):=by
 have hl:=h.len
 have key:=jf m.aB (by omega) (fun i s=>(s,i,())) (fun e s=>if e∈m.aB then some (.inl (jB m s e))else none) fin (step:=step) (fun i x s hd hx hw=>by
  have hm:x∈m.aB:=by rw[bK]at hx;exact List.mem_of_getElem? hx
  rw[h1 i x s hm hd hx hw,Qr hm]) (fun s hd=>h2 s hd) 1000000
 refine key.trans ?_;unfold eV
 suffices h3:∀(l:List ai),(∀e∈l,e∈m.aB)->∀s,fN (fun e s=>if e∈m.aB then some (Sum.inl (β:=ρ) (jB m s e))else none) fin l s=fin (l.foldl (jB m) s)from h3 _ (fun e he=>he) _
 intro l
 induction l with
 |nil=>intro _ s;rfl
 |cons x l ih=>
  intro hx s;rw[fN,Qr (hx x Qx),QU];exact ih (fun e he=>hx e (Qy _ he)) _
end Go.Proofs.YtkgenianmdfmdaaGreat
namespace Go.Proofs.YtkgenianmdfmdaaGreat
open Go.TQ
def bX(b:af):Prop:=1<=b.aj/\b.aj<=1000/\1<=b.Value.size/\b.Value.size<=200
theorem bX.valid{b:af}(h:bX b):cF b=true:=by
 obtain⟨h1,h2,h3,h4⟩:=h;simp only[cF,Qm,Qn,Qi];exact⟨⟨.inl ⟨h1,h2⟩,h3⟩,h4⟩
theorem bX.finite{b:af}(h:bX b):finite b=true:=by
 unfold Go.Proofs.YtkgenianmdfmdaaGreat.finite;rw[h.valid,Qg h.2.1];rfl
theorem MS{b:af}(h:cF b=true)(hc:b.aj<=1000):bX b:=by
 simp only[cF,Qm,Qn,Qi]at h;obtain⟨⟨h1,h2⟩,h3⟩:=h;exact⟨by omega,hc,h2,h3⟩
theorem bX.nz{b:af}(h:bX b):aD b=false:=F8 h.1
theorem bX.ne{b:af}(h:bX b):b.Value≠gC:=by
 intro e;have:=h.2.2.1;rw[e]at this;exact absurd this (by decide)
theorem mM{b:af}:aD b=true↔b=bm:=by
 obtain⟨c,v⟩:=b;simp[aD,bm]
theorem br:aD bm=true:=mM.2 rfl
structure P1 (m:ab):Prop where
 aE:m.aA=1
 aF:bX m.aa
 cQ:m.al=bm\/bX m.al
 bG:m.aw=bm\/(bX m.aw/\bX m.al/\a8 m.aw m.al=true/\bw m.aw m.al=false)
 dz:m.au=bm\/(bX m.au/\dG m.al m.aw m.au=true)
 up:a8 m.aa m.au=false
 bP:m.bc=0
 low:m.aN=0\/(1<=m.aN/\m.aN<=ez m/\ma m.al m.aw m.aa.Value m.aN=false)
structure P2 (m:ab):Prop where
 aE:m.aA=2
 aF:bX m.aa
 cQ:bX m.al/\m.al.Value=m.aa.Value
 bG:m.aw=bm
 dz:m.au=bm\/(bX m.au/\m.au.Value=m.aa.Value)
 range:1<=m.aN/\m.aN<=m.bc/\m.bc<=m.al.aj
structure P3 (m:ab):Prop where
 aE:m.aA=3
 aF:bX m.aa
 cQ:m.al=bm
 bG:m.aw=bm
 dz:m.au=bm
 range:1<=m.aN/\m.aN<=m.bc/\m.bc<=1000
structure P0 (m:ab):Prop where
 aE:m.aA=1
 aF:m.aa=bm
 cQ:m.al=bm
 bG:m.aw=bm
 dz:m.au=bm
 low:m.aN=0
 bP:m.bc=0
structure aW (m:ab):Prop where
 n0:0<=m.ar
 n1:m.ar<10
 bS:1<=m.bs/\m.bs<=1000000
 seq:0<=m.aK/\m.aK<=1000000
 aY:kh m.ae
 qB:m.bj.size<=200
 hv:∀e∈m.aB,ba e=true/\kh e.ae/\e.bs=m.bs/\e.ar≠m.ar
 nq:m.aB.Pairwise (fun a b=>a.ar<b.ar)
 body:P0 m\/P1 m\/P2 m\/P3 m
theorem Fl:∀(l:List ai) (k:Nat),k<=10->(∀e∈l,(k:Int)<=e.ar/\e.ar<10)->l.Pairwise (fun a b=>a.ar<b.ar)->l.length+k<=10
 |[],k,hk,_,_=>by simpa using hk
 |x::l,k,hk,h,hp=>by
  rw[Q4]at hp;have hx:=h x Qx;have:=Fl l (k+1) (by omega) (fun e he=>⟨by have:=hp.1 e he;omega,(h e (Qy _ he)).2⟩) hp.2
  rw[QE];omega
theorem aW.len{m:ab}(h:aW m):m.aB.length<=10:=by
 have:=Fl m.aB 0 (by omega) (fun e he=>by have:=jo (h.hv e he).1;omega) h.nq
 omega
theorem aW.ev{m:ab}(h:aW m):Co m:=
 ⟨h.n0,h.n1,h.aY.sm,by have:=h.len;omega,fun e he=>(h.hv e he).2.1.sm,fun e he=>(h.hv e he).1⟩
theorem Gq{m:ab}(h:P1 m):0<=ez m/\ez m<=m.aa.aj/\(ez m=0\/(bX m.au/\m.au.Value=m.aa.Value/\ez m=m.au.aj)):=by
 unfold ez;split
 ·rename_i hc;simp only[Qm,Bool.not_eq_true',bw,Qi]at hc;rcases h.dz with e|⟨hf,_⟩
  ·rw[e,br]at hc;cases hc.1
  ·have hup:=h.up;unfold a8 at hup;split at hup
   ·rename_i e;exact⟨by have:=hf.1;omega,by omega,.inr ⟨hf,hc.2,rfl⟩⟩
   ·simp only[Qj]at hup;exact⟨by have:=hf.1;omega,by omega,.inr ⟨hf,hc.2,rfl⟩⟩
 ·exact⟨Int.le_refl _,by have:=h.aF.1;omega,.inl rfl⟩
theorem Iz{m:ab}(h:aW m)(hz:aD m.aa=false):ba (fp m)=true:=by
 have hseq:1<=(fp m).aK/\(fp m).aK<=1000000:=by
  have h1:(fp m).aK=bl m.aK 1:=by show bl (bU m).aK 1=_;rw[K3]
  have:=h.seq;rw[h1];unfold bl;split<;>omega
 have hnode:(fp m).ar=m.ar:=il m;have hslot:(fp m).bs=m.bs:=ub m
 have hhead:BV (fp m)=true:=by
  unfold BV;rw[hnode,hslot];simp only[Qm,Qi];exact⟨⟨⟨⟨⟨h.n0,h.n1⟩,h.bS.1⟩,h.bS.2⟩,hseq.1⟩,hseq.2⟩
 unfold ba;rw[zm,Ia h.aY];unfold mn;rw[hhead];have hkind:(fp m).bQ=m.aA:=xg m;rw[hkind];rcases h.body with h0|h1|h2|h3
 ·rw[h0.aF,br]at hz;cases hz
 ·rw[Qr h1.aE];have hh:=Gq h1;have e:fp m=⟨m.ar,m.bs,bl (bU m).aK 1,m.ae,m.aA,m.aa,m.al,m.aw,m.aN,ez m⟩:=by unfold fp bU;rw[Qr h1.aE]
  have hp:(aD m.al||cF m.al)=true:=by
   rcases h1.cQ with e|hf
   ·rw[e,br];rfl
   ·rw[hf.valid,Bool.or_true]
  have hq:(aD m.aw||cF m.aw)=true:=by
   rcases h1.bG with e|hf
   ·rw[e,br];rfl
   ·rw[hf.1.valid,Bool.or_true]
  have hpo:CA (fp m)=true:=by
   rw[e];unfold CA;rcases h1.bG with e|⟨_,hf,hl,hc⟩
   ·simp only[e,br,Bool.true_or]
   ·simp only[hf.nz,hl,hc,Qp,Bool.and_self,Bool.or_true]
  have hhp:(decide (ez m=0)||dG m.al m.aw ⟨ez m,m.aa.Value⟩)=true:=by
   rcases hh.2.2 with e|⟨hf,hv,e⟩
   ·rw[Qg e];rfl
   ·rw[e,<-hv];rcases h1.dz with e2|⟨_,hp⟩
    ·have:=hf.nz;rw[e2,br]at this;cases this
    ·rw[hp,Bool.or_true]
  have hlow:0<=m.aN/\m.aN<=ez m/\(decide (m.aN=0)||(!eE m.al ⟨m.aN,m.aa.Value⟩&& !eE m.aw ⟨m.aN,m.aa.Value⟩))=true:=by
   rcases h1.low with e|⟨h5,h6,h7⟩
   ·rw[e];exact⟨Int.le_refl _,hh.1,rfl⟩
   ·refine⟨by omega,h6,?_⟩
    unfold ma at h7;rw[Bool.or_eq_false_iff]at h7;rw[h7.1,h7.2];simp
  unfold fo;rw[hpo];rw[e];unfold at_
  simp only[h1.aF.finite,hp,hq,Qg hlow.1,Qg hlow.2.1,Qg hh.2.1,hhp,hlow.2.2,Bool.and_self,decide_true]
 ·rw[Qs (by rw[h2.aE];decide),Qr h2.aE]
  have e:fp m=⟨m.ar,m.bs,bl (bU m).aK 1,m.ae,m.aA,m.aa,m.al,bm,m.aN,m.bc⟩:=by unfold fp bU;rw[Qs (by rw[h2.aE];decide),Qr h2.aE]
  have hc:m.bc<=1000:=by have:=h2.range.2.2;have:=h2.cQ.1.2.1;omega
  unfold wu vM;rw[e];simp only[h2.aF.finite,h2.cQ.1.valid,bw,Qg h2.cQ.2,br,Qg h2.range.1,Qg h2.range.2.1,Qg h2.range.2.2,Qg hc,Bool.and_self,decide_true]
 ·rw[Qs (by rw[h3.aE];decide),Qs (by rw[h3.aE];decide),Qr h3.aE]
  have e:fp m=⟨m.ar,m.bs,bl (bU m).aK 1,m.ae,m.aA,m.aa,bm,bm,m.aN,m.bc⟩:=by unfold fp bU;rw[Qs (by rw[h3.aE];decide),Qs (by rw[h3.aE];decide)]
  unfold CN vM;rw[e];simp only[h3.aF.valid,br,Qg h3.range.1,Qg h3.range.2.1,Qg h3.range.2.2,Bool.and_self,decide_true]
theorem aW.iq{m:ab}(h:aW m):∀e∈aO m,ba e=true:=by
 intro e he;rcases na he with he|⟨hz,rfl⟩
 ·exact(h.hv e he).1
 ·exact Iz h hz
theorem aW.T1{m:ab}(h:aW m){e:ai}(he:e∈aO m)(hn:e.ar.toNat=m.ar.toNat):aD m.aa=false/\e=fp m:=by
 rcases na he with he|⟨hz,rfl⟩
 ·have h1:=(h.hv e he).2.2.2;have h2:=jo (h.hv e he).1;have:=h.n0;omega
 ·exact⟨hz,rfl⟩
end Go.Proofs.YtkgenianmdfmdaaGreat
namespace Go.Proofs.YtkgenianmdfmdaaGreat
open Go.TQ
theorem rl(a b:af):a8 a b=true↔a.aj<b.aj\/(a.aj=b.aj/\mT a.Value b.Value=true):=by
 unfold a8;split
 ·rename_i e;rw[e];simp
 ·rename_i e;simp only[Qi];constructor
  ·exact .inl
  ·rintro(h|h)
   ·exact h
   ·exact absurd h.1 e
theorem jg{a b c:af}(h:a8 a b=true)(h':a8 b c=true):a8 a c=true:=wY.trans _ _ _ h h'
theorem PA(a:af):a8 a a=false:=wY.irrefl a
theorem BL{a b:af}(h:a8 a b=false)(h':a≠b):a8 b a=true:=by
 cases h1:a8 b a with
 |true=>rfl
 |false=>exact absurd (wY.total a b h h1) h'
theorem fT{a b:af}(h:a8 a b=true):a.aj<=b.aj:=by
 rw[rl]at h;omega
theorem Eu{a b:af}(h:a8 a b=false):b.aj<=a.aj:=by
 rcases Int.lt_or_le a.aj b.aj with h1|h1
 ·rw[(rl a b).2 (.inl h1)]at h;cases h
 ·exact h1
theorem Py(v:ByteArray):mT v v=false:=wX.irrefl v
theorem zy{a b:af}(hv:a.Value=b.Value):a8 a b=decide (a.aj<b.aj):=by
 unfold a8;split
 ·rename_i e;rw[hv,Py,e];simp
 ·rfl
theorem B8{p x:af}(h:im p x=true):a8 p x=false:=by
 obtain⟨_,h2,h3⟩:=(iF p x).1 h;rw[zy h2,Qj];omega
theorem IV{p x q:af}(h:im p x=true)(hq:a8 p q=true):a8 x q=true:=by
 by_cases e:x=p
 ·rw[e];exact hq
 ·exact jg (BL (B8 h) (fun h=>e h.symm)) hq
theorem fO{a b:af}:bw a b=true↔a.Value=b.Value:=decide_eq_true_iff
theorem fu{a b:af}:bw a b=false↔a.Value≠b.Value:=Qj
theorem rY(p q x:af):dG p q x=true↔im p x=true\/im q x=true\/(aD q=false/\a8 x q=true):=by
 unfold dG;simp only[Qn,Qm,Bool.not_eq_true'];exact⟨fun h=>by rcases h with(h|h)|h<;>simp[h],fun h=>by rcases h with h|h|h<;>simp[h]⟩
def mD(p q:af):Prop:=(p=bm\/bX p)/\(q=bm\/(bX q/\bX p/\a8 q p=true/\bw q p=false))
theorem P1.fo{m:ab}(h:P1 m):mD m.al m.aw:=⟨h.cQ,h.bG⟩
theorem qK{b:af}(h:bX b):b≠bm:=fun e=>by have:=h.nz;rw[e,br]at this;cases this
inductive nV (p q b:af):af->af->Prop where
 |same:nV p q b p q
 |first (hp:p=bm) (hq:q=bm):nV p q b b bm
 |up (hp:bX p) (hl:a8 p b=true) (hc:p.Value=b.Value):nV p q b b q
 |vO (hp:bX p) (hl:a8 p b=true) (hc:p.Value≠b.Value):nV p q b b p
 |under (hp:bX p) (hl:a8 b p=true) (hc:b.Value≠p.Value) (hq:q=bm\/a8 q b=true):nV p q b p b
theorem Uc{p q b:af}(h:mD p q)(hb:b=bm\/bX b):nV p q b (cg p q b).1 (cg p q b).2:=by
 unfold cg;rcases hb with rfl|hb
 ·rw[Qr br];exact .same
 rw[Qs (by rw[hb.nz];decide)]
 rcases h.1 with rfl|hp
 ·have hq:q=bm:=by
   rcases h.2 with e|⟨_,e,_⟩
   ·exact e
   ·exact absurd rfl (qK e)
  rw[Qr br,hq];exact .first rfl rfl
 rw[Qs (by rw[hp.nz];decide)]
 by_cases hl:a8 p b=true
 ·rw[Qr hl]
  by_cases hc:bw p b=true
  ·rw[Qr hc]
   have hcq:bw q b=false:=by
    rw[fO]at hc;rw[fu];rcases h.2 with rfl|⟨_,_,_,e⟩
    ·exact fun e=>hb.ne e.symm
    ·rw[fu]at e;rw[<-hc];exact e
   rw[Qs (by rw[hcq];decide)]
   exact .up hp hl (fO.1 hc)
  ·rw[Qs hc];exact .vO hp hl (fu.1 (by simpa using hc))
 ·rw[Qs hl];split
  ·rename_i hu;simp only[Qm,Qn,Bool.not_eq_true']at hu;refine .under hp hu.1.1 (fu.1 hu.1.2) ?_;rcases hu.2 with e|e
   ·exact .inl (mM.1 e)
   ·exact .inr e
  ·exact .same
theorem nV.ok{p q b p' q':af}(h:mD p q)(hb:b=bm\/bX b)(hj:nV p q b p' q'):mD p' q':=by
 have hbf:∀{x:af},a8 x b=true\/bX b\/(bX x/\a8 b x=true)->True:=fun _=>trivial
 cases hj with
 |same=>exact h
 |first hp hq=>exact⟨hb,.inl rfl⟩
 |up hp hl hc=>
  have hb':bX b:=by
   rcases hb with rfl|hb
   ·have h1:=fT hl;have h2:=hp.1;have:(bm:af).aj=0:=rfl;omega
   ·exact hb
  refine⟨.inr hb',?_⟩;rcases h.2 with e|⟨h1,h2,h3,h4⟩
  ·exact .inl e
  ·refine .inr ⟨h1,hb',jg h3 hl,?_⟩;rw[fu]at h4 ⊢;rw[<-hc];exact h4
 |vO hp hl hc=>
  have hb':bX b:=by
   rcases hb with rfl|hb
   ·have h1:=fT hl;have h2:=hp.1;have:(bm:af).aj=0:=rfl;omega
   ·exact hb
  exact⟨.inr hb',.inr ⟨hp,hb',hl,fu.2 hc⟩⟩
 |under hp hl hc hq=>
  refine⟨.inr hp,?_⟩;rcases hb with e|hb
  ·exact .inl e
  ·exact .inr ⟨hb,hp,hl,fu.2 hc⟩
theorem nV.mono{p q b p' q':af}(h:mD p q)(hj:nV p q b p' q'){x:af}(hx:dG p q x=true):dG p' q' x=true:=by
 rw[rY]at hx ⊢
 have hqp:aD q=false->a8 q p=true:=fun hz=>by
  rcases h.2 with e|⟨_,_,e,_⟩
  ·rw[e,br]at hz;cases hz
  ·exact e
 have hcq:im q x=true->aD q=false:=fun hc=>((iF q x).1 hc).1
 cases hj with
 |same=>exact hx
 |first hp hq=>
  subst hp hq;rcases hx with hx|hx|hx
  ·have:=((iF _ _).1 hx).1;rw[br]at this;cases this
  ·have:=((iF _ _).1 hx).1;rw[br]at this;cases this
  ·rw[br]at hx;cases hx.1
 |up hp hl hc=>
  rcases hx with hx|hx|hx
  ·obtain⟨h1,h2,h3⟩:=(iF _ _).1 hx;refine .inl ((iF _ _).2 ⟨?_,hc.symm.trans h2,Int.le_trans h3 (fT hl)⟩);have:=hp.1;have:=fT hl;exact F8 (by omega)
  ·exact .inr (.inl hx)
  ·exact .inr (.inr hx)
 |vO hp hl hc=>
  rcases hx with hx|hx|hx
  ·exact .inr (.inl hx)
  ·exact .inr (.inr ⟨hp.nz,IV hx (hqp (hcq hx))⟩)
  ·exact .inr (.inr ⟨hp.nz,jg hx.2 (hqp hx.1)⟩)
 |under hp hl hc hq=>
  have hbz:aD q=false->a8 q b=true:=fun hz=>by
   rcases hq with e|e
   ·rw[e,br]at hz;cases hz
   ·exact e
  have hbn:aD q=false->aD b=false:=fun hz=>by
   have h1:=fT (hbz hz);rcases h.2 with e|⟨e,_⟩
   ·rw[e,br]at hz;cases hz
   ·have:=e.1;exact F8 (by omega)
  rcases hx with hx|hx|hx
  ·exact .inl hx
  ·exact .inr (.inr ⟨hbn (hcq hx),IV hx (hbz (hcq hx))⟩)
  ·exact .inr (.inr ⟨hbn hx.1,jg hx.2 (hbz hx.1)⟩)
theorem Rj{p:af}{v:ByteArray}{n k:Int}(h:eE p ⟨n,v⟩=false)(hk:n<=k):eE p ⟨k,v⟩=false:=Mm hk h
theorem JV{v:ByteArray}{n:Int}{x:af}(hx:x=bm\/cF x=true):n<=tz v n x/\eE x ⟨tz v n x,v⟩=false:=by
 unfold tz;split
 ·rename_i hc;rw[Qm]at hc;have ha:=hc.2;unfold eE at ha;rw[Qm,Qm]at ha;have hle:n<=x.aj:=fT ha.2;split
  ·refine⟨by omega,?_⟩
   unfold eE;rw[Bool.and_eq_false_iff];right
   cases hl:a8 ⟨x.aj+1,v⟩ x with
   |false=>rfl
   |true=>have:=fT hl;simp only at this;omega
  ·rename_i hn;exact⟨hle,by simpa using hn⟩
 ·rename_i hc;refine⟨Int.le_refl _,?_⟩;rcases hx with rfl|hv
  ·unfold eE;rw[br];rfl
  ·rw[hv,Bool.true_and]at hc;simpa using hc
theorem MJ{v:ByteArray}{n:Int}{p q:af}(hp:p=bm\/cF p=true)(hq:q=bm\/cF q=true):n<=kc v n p q/\1<=kc v n p q/\ma p q v (kc v n p q)=false:=by
 unfold kc;obtain⟨h1,h2⟩:=JV (v:=v) (n:=bl n 1) hp;obtain⟨h3,h4⟩:=JV (v:=v) (n:=tz v (bl n 1) p) hq;have hm:n<=bl n 1/\1<=bl n 1:=by unfold bl;split<;>omega
 refine⟨by omega,by omega,?_⟩
 unfold ma;rw[h4,Bool.or_false];exact Rj h2 h3
theorem Fg{v:ByteArray}{n:Int}{x:af}(h:eE x ⟨n,v⟩=false):tz v n x=n:=by
 unfold tz;rw[h,Bool.and_false];rfl
theorem Pv{v:ByteArray}{n:Int}{p q:af}(h1:1<=n)(h:ma p q v n=false):kc v n p q=n:=by
 unfold ma at h;rw[Bool.or_eq_false_iff]at h;have hm:bl n 1=n:=by unfold bl;split<;>omega
 unfold kc;rw[hm,Fg h.1,Fg h.2]
theorem mD.valid{p q:af}(h:mD p q):(p=bm\/cF p=true)/\(q=bm\/cF q=true):=
 ⟨h.1.imp id bX.valid,h.2.imp id fun h=>h.1.valid⟩
theorem Nr{e:ai}(hv:ba e=true){x:af}(hx:x∈said e)(hz:aD x=false):cF x=true:=by
 have hv':=hv;unfold ba mn at hv';unfold said at hx;rw[Qr hv]at hx;rw[Qm,Qm]at hv';have hb:=hv'.2
 by_cases h1:e.bQ=1
 ·rw[Qr h1]at hb hx;unfold fo at hb;simp only[Qm,Qn]at hb;obtain⟨⟨⟨⟨⟨⟨⟨⟨hf,hp⟩,hq⟩,_⟩,_⟩,_⟩,_⟩,_⟩,_⟩:=hb;simp only[QA,QR,or_false]at hx;rcases hx with rfl|rfl|rfl
  ·unfold finite at hf;rw[Qm]at hf;exact hf.1
  ·rcases hp with hp|hp
   ·rw[hp]at hz;cases hz
   ·exact hp
  ·rcases hq with hq|hq
   ·rw[hq]at hz;cases hz
   ·exact hq
 ·rw[Qs h1]at hb hx
  have hinf:∀{b:af},cF b=true->cF ⟨1000000,b.Value⟩=true:=by
   intro b hb;simp only[cF,Qm,Qn,Qi]at hb ⊢;exact⟨⟨.inr trivial,hb.1.2⟩,hb.2⟩
  by_cases h2:e.bQ=2
  ·rw[Qr h2]at hb hx;unfold wu at hb;simp only[Qm]at hb;obtain⟨⟨⟨⟨⟨hf,hp⟩,hc⟩,_⟩,_⟩,_⟩:=hb;simp only[QA,QR,or_false]at hx;rcases hx with rfl|rfl
   ·exact hp
   ·unfold finite at hf;rw[Qm]at hf;exact hinf hf.1
  ·rw[Qs h2]at hb hx;simp only[QA,QR,or_false]at hx;subst hx
   by_cases h3:e.bQ=3
   ·rw[Qr h3]at hb;unfold CN at hb;simp only[Qm]at hb;exact hinf hb.1.1.1
   ·rw[Qs h3]at hb;cases hb
theorem Dv{e:ai}(hv:ba e=true):1<=e.aa.Value.size/\e.aa.Value.size<=200:=by
 have hv':=hv;unfold ba mn at hv';rw[Qm,Qm]at hv';have hb:=hv'.2
 have go:∀{b:af},cF b=true->1<=b.Value.size/\b.Value.size<=200:=by
  intro b hb;simp only[cF,Qm,Qn,Qi]at hb;exact⟨hb.1.2,hb.2⟩
 have gof:∀{b:af},finite b=true->1<=b.Value.size/\b.Value.size<=200:=by
  intro b hb;unfold finite at hb;rw[Qm]at hb;exact go hb.1
 by_cases h1:e.bQ=1
 ·rw[Qr h1]at hb;unfold fo at hb;simp only[Qm]at hb;exact gof hb.1.1.1.1.1.1.1.1
 ·rw[Qs h1]at hb
  by_cases h2:e.bQ=2
  ·rw[Qr h2]at hb;unfold wu at hb;simp only[Qm]at hb;exact gof hb.1.1.1.1.1
  ·rw[Qs h2]at hb
   by_cases h3:e.bQ=3
   ·rw[Qr h3]at hb;unfold CN at hb;simp only[Qm]at hb;exact go hb.1.1.1
   ·rw[Qs h3]at hb;cases hb
theorem UQ{b:af}(h:cF b=true):bX (ct b):=by
 simp only[cF,Qm,Qn,Qi]at h;obtain⟨⟨h1,h2⟩,h3⟩:=h;unfold ct;split
 ·exact⟨(by decide:(1:Int)<=1000),(by decide:(1000:Int)<=1000),h2,h3⟩
 ·exact⟨by omega,by omega,h2,h3⟩
theorem KX{α:Type}{l:List α}{p:α->Bool}{z:α}:(l.find? p).getD z=z\/((l.find? p).getD z∈l/\p ((l.find? p).getD z)=true):=by
 cases h:l.find? p with
 |none=>exact .inl rfl
 |some x=>exact .inr ⟨List.mem_of_find?_eq_some h,List.find?_some h⟩
theorem Aq{m:ab}(h:aW m){x:af}(hx:x∈eJ (aO m)):cF x=true:=by
 obtain⟨e,he,h1,h2⟩:=((nH h.ev.mN.1.aY h.ev.mN.2).2.2.2 x).1 hx;exact Nr (h.iq e he) h1 h2
theorem BD{m:ab}(h:aW m):dj m=bm\/(cF (dj m)=true/\(Dx m=gC\/(dj m).Value=Dx m)/\dG (ru m.al) (ru m.aw) (dj m)=false/\iA m.ar.toNat m.ae (aO m) (dj m)=true):=by
 unfold dj iw;rcases KX (l:=eJ (aO m)) (p:=u4 (iA m.ar.toNat m.ae (aO m)) m.al m.aw (Dx m)) (z:=w9)with e|⟨h1,h2⟩
 ·exact .inl e
 ·right;unfold u4 at h2;simp only[Qm,Qn,Bool.not_eq_true',Qi]at h2;exact⟨Aq h h1,h2.1.1,h2.1.2,h2.2⟩
theorem o7{m:ab}(h:aW m):ct (dj m)=bm\/bX (ct (dj m)):=by
 rcases BD h with e|⟨h1,_⟩
 ·left;rw[e];decide
 ·exact .inr (UQ h1)
theorem yq{m:ab}(h:aW m)(h1:mD m.al m.aw):nV m.al m.aw (ct (dj m)) (cg m.al m.aw (ct (dj m))).1 (cg m.al m.aw (ct (dj m))).2:=Uc h1 (o7 h)
theorem P2.fo{m:ab}(h:P2 m):mD m.al m.aw:=⟨.inr h.cQ.1,.inl h.bG⟩
theorem TS{m:ab}(h:aW m)(h1:P1 m):P1 (bR m):=by
 unfold bR;rw[Qs (by rw[h1.aE,h1.aF.nz];decide)]
 have hj:=yq h h1.fo;generalize (cg m.al m.aw (ct (dj m))).1=p at hj;generalize (cg m.al m.aw (ct (dj m))).2=q at hj;have hok:=hj.ok h1.fo (o7 h);refine⟨h1.aE,h1.aF,hok.1,hok.2,?_,h1.up,h1.bP,?_⟩
 ·rcases h1.dz with e|⟨hf,hp⟩
  ·exact .inl e
  ·exact .inr ⟨hf,hj.mono h1.fo hp⟩
 ·show pD m p q=0\/(1<=pD m p q/\pD m p q<=ez m/\ma p q m.aa.Value (pD m p q)=false);unfold pD
  by_cases hL:m.aN=0
  ·rw[Qs (fun h=>h.2 hL)];exact .inl hL
  ·rw[Qr ⟨h1.aE,hL⟩];split
   ·exact .inl rfl
   ·rename_i hlt;obtain⟨h2,h3,h4⟩:=MJ (v:=m.aa.Value) (n:=m.aN) hok.valid.1 hok.valid.2;exact .inr ⟨h3,by omega,h4⟩
theorem Mz{m:ab}(h:aW m)(h2:P2 m):P2 (bR m)/\m.al.aj<=(bR m).al.aj/\(bR m).aw=bm:=by
 unfold bR;rw[Qs (by rw[h2.aE,h2.aF.nz];decide)]
 have hv:ct (dj m)=bm\/(ct (dj m)).Value=m.aa.Value:=by
  rcases BD h with e|⟨h3,h4,_⟩
  ·left;rw[e];decide
  ·right;have hc:(ct (dj m)).Value=(dj m).Value:=by unfold ct;split<;>rfl
   have hvo:Dx m=m.aa.Value:=Qr h2.aE;rw[hvo]at h4;rw[hc];exact h4.resolve_left h2.aF.ne
 have hj:=yq h h2.fo;have hlow:∀p q,pD m p q=m.aN:=fun p q=>Qs (fun h=>by have:=h.1;rw[h2.aE]at this;cases this)
 simp only[hlow];have hok:=hj.ok h2.fo (o7 h);generalize (cg m.al m.aw (ct (dj m))).1=p at hj hok;generalize (cg m.al m.aw (ct (dj m))).2=q at hj hok;generalize hb:ct (dj m)=b at hj hv
 have key:bX p/\p.Value=m.aa.Value/\m.al.aj<=p.aj/\q=bm:=by
  cases hj with
  |same=>exact⟨h2.cQ.1,h2.cQ.2,Int.le_refl _,h2.bG⟩
  |first hp hq=>exact absurd hp (qK h2.cQ.1)
  |up hp hl hc=>exact⟨hok.1.resolve_left (fun e=>by have:=fT hl;rw[e]at this;have h9:=h2.cQ.1.1;have:(bm:af).aj=0:=rfl;omega),hc.symm.trans h2.cQ.2,fT hl,h2.bG⟩
  |vO hp hl hc=>
   exfalso;rcases hv with e|e
   ·have:=fT hl;rw[e]at this;have h9:=h2.cQ.1.1;have:(bm:af).aj=0:=rfl;omega
   ·exact hc (h2.cQ.2.trans e.symm)
  |under hp hl hc hq=>
   rcases hv with e|e
   ·exact⟨h2.cQ.1,h2.cQ.2,Int.le_refl _,e⟩
   ·exact absurd (e.trans h2.cQ.2.symm) hc
 exact⟨⟨h2.aE,h2.aF,⟨key.1,key.2.1⟩,key.2.2.2,h2.dz,⟨h2.range.1,h2.range.2.1,Int.le_trans h2.range.2.2 key.2.2.1⟩⟩,key.2.2.1,key.2.2.2⟩
theorem Iu{m:ab}(h:aW m):aW (bR m):=by
 have hid:m.aA=3\/aD m.aa=true->bR m=m:=fun hc=>Qr hc
 have mk:(P0 (bR m)\/P1 (bR m)\/P2 (bR m)\/P3 (bR m))->aW (bR m):=by
  intro hb;unfold bR at hb ⊢;split at hb
  ·rename_i hc;rw[Qr hc];exact h
  ·rename_i hc;rw[Qs hc];exact⟨h.n0,h.n1,h.bS,h.seq,h.aY,h.qB,h.hv,h.nq,hb⟩
 rcases h.body with h0|h1|h2|h3
 ·rw[hid (.inr (by rw[h0.aF];exact br))];exact h
 ·exact mk (.inr (.inl (TS h h1)))
 ·exact mk (.inr (.inr (.inl (Mz h h2).1)))
 ·rw[hid (.inl h3.aE)];exact h
end Go.Proofs.YtkgenianmdfmdaaGreat
namespace Go.Proofs.YtkgenianmdfmdaaGreat
open Go.TQ
end Go.Proofs.YtkgenianmdfmdaaGreat
namespace Go.Proofs.YtkgenianmdfmdaaGreat
open Go.TQ
theorem oF(q:Int->Bool):∀(r:List Int) (lo:Int),dU q r lo<=lo
 |[],lo=>Int.le_refl _
 |e::r,lo=>by
  rw[dU];split
  ·exact oF q r lo
  ·split
   ·exact Int.le_trans (oF q r e) (by omega)
   ·exact Int.le_refl _
theorem wj(q:Int->Bool):∀(r:List Int) (lo:Int),dU q r lo=lo\/q (dU q r lo)=true/\dU q r lo∈r
 |[],lo=> .inl rfl
 |e::r,lo=>by
  rw[dU];split
  ·exact(wj q r lo).imp id fun h=>⟨h.1,by simp[h.2]⟩
  ·split
   ·rename_i hq;rcases wj q r e with h|h
    ·exact .inr ⟨by rw[h];exact hq,by rw[h];simp⟩
    ·exact .inr ⟨h.1,by simp[h.2]⟩
   ·exact .inl rfl
theorem wm(q:Int->Bool)(r:List Int)(lo:Int)(h:∀x∈r,1<=x)(h1:1<=lo):1<=dU q r lo:=by
 rcases wj q r lo with e|⟨_,e⟩
 ·omega
 ·exact h _ e
section
variable {az : Nat} {t : aq} {l : List ai} (p q : af)
end
end Go.Proofs.YtkgenianmdfmdaaGreat
namespace Go.Proofs.YtkgenianmdfmdaaGreat
open Go.TQ
theorem Tx{m:ab}(h:aW m){p:ai->Bool}(hb:(dy p (bH (aO m))).testBit m.ar.toNat=true):aD m.aa=false/\p (fp m)=true:=by
 rw[mP,List.any_eq_true]at hb;obtain⟨e,he,hp⟩:=hb;rw[Qm,Qi]at hp;obtain⟨h1,h2⟩:=h.T1 ((List.mem_filter.1 he).1) hp.2;rw[<-h2];exact⟨h1,hp.1⟩
theorem Lg{m:ab}(h:aW m){b:af}(hc:iD m.ar.toNat m.ae (aO m) b=true):aD m.aa=false/\db (fp m) b=true:=by
 have hsm:=qu (az:=m.ar.toNat) h.aY.sm h.ev.mN.1;have hg:=Gw hsm (qY (p:=(db · b)) (ob (aO m)));exact Tx h (hg.inside _ hc).1
theorem DD{m:ab}(h1:m.aA=1){b:af}(ha:db (fp m) b=true):aD b=false/\dG m.al m.aw b=true:=by
 have e:fp m=⟨m.ar,m.bs,bl (bU m).aK 1,m.ae,m.aA,m.aa,m.al,m.aw,m.aN,ez m⟩:=by unfold fp bU;rw[Qr h1]
 rw[e]at ha;unfold db at ha;rw[Qm,Qr h1]at ha;simpa using ha
theorem PG{m:ab}(h:aW m)(h1:P1 m):gY m=bm\/(bX (gY m)/\a8 m.au (gY m)=true/\dG m.al m.aw (gY m)=true):=by
 unfold gY vd;rcases KX (l:=eJ (aO m)) (p:=vb (iD m.ar.toNat m.ae (aO m)) m.au) (z:=w9)with e|⟨h2,h3⟩
 ·exact .inl e
 ·right;unfold vb at h3;simp only[Qm,Qi]at h3;exact⟨MS (Aq h h2) h3.1.2,h3.1.1,(DD h1.aE (Lg h h3.2).2).2⟩
theorem Ub{p q b:af}{v:ByteArray}{n:Int}(hok:mD p q)(hb:dG p q b=true)(hv:b.Value≠v)(ha:ma p q v n=false):b.aj<=n:=by
 unfold ma at ha;rw[Bool.or_eq_false_iff]at ha
 have key:∀x:af,aD x=false->x.Value≠v->eE x ⟨n,v⟩=false->x.aj<=n:=by
  intro x hz hx h;unfold eE at h;rw[hz,(fu (a:=x) (b:=⟨n,v⟩)).2 hx,Qp,Bool.and_self,Bool.true_and]at h;exact Eu h
 have hqp:aD q=false->bX q/\bX p/\a8 q p=true/\q.Value≠p.Value:=fun hz=>by
  rcases hok.2 with e|⟨e1,e2,e3,e4⟩
  ·rw[e,br]at hz;cases hz
  ·exact⟨e1,e2,e3,fu.1 e4⟩
 rw[rY]at hb;rcases hb with hb|hb|⟨hz,hl⟩
 ·obtain⟨h1,h2,h3⟩:=(iF _ _).1 hb;have:=key p h1 (by rw[h2];exact hv) ha.1
  omega
 ·obtain⟨h1,h2,h3⟩:=(iF _ _).1 hb;have:=key q h1 (by rw[h2];exact hv) ha.2
  omega
 ·obtain⟨e1,e2,e3,e4⟩:=hqp hz;have h5:=fT hl
  by_cases hqv:q.Value=v
  ·have:=key p e2.nz (by rw[<-hqv];exact fun e=>e4 e.symm) ha.1
   have:=fT e3;omega
  ·have:=key q hz hqv ha.2;omega
theorem Ws{m:ab}(h1:P1 m){b:af}(hb:bX b)(hl:a8 m.au b=true)(hp:dG m.al m.aw b=true):P1 (sO m b)/\(sO m b).al=m.al/\(sO m b).aw=m.aw/\(sO m b).au=b/\m.aa.aj<=(sO m b).aa.aj:=by
 unfold sO;have hh:=Gq h1;split
 ·rename_i hlt
  have hhigh:∀L:Int,ez {m with au:=b,aa:=b,aN:=L}=b.aj:=by
   intro L;unfold ez;rw[Qr];rw[hb.nz,fO.2 rfl];rfl
  refine⟨⟨h1.aE,hb,h1.cQ,h1.bG,.inr ⟨hb,hp⟩,PA b,h1.bP,?_⟩,rfl,rfl,rfl,fT hlt⟩;show(if bw m.aa b=true then m.aN else 0)=0\/(1<=(if bw m.aa b=true then m.aN else 0)/\(if bw m.aa b=true then m.aN else 0)<=ez {m with au:=b,aa:=b,aN:=if bw m.aa b=true then m.aN else 0}/\ma m.al m.aw b.Value (if bw m.aa b=true then m.aN else 0)=false)
  rw[hhigh];split
  ·rename_i hc;rw[fO]at hc;rcases h1.low with e|⟨h2,h3,h4⟩
   ·exact .inl e
   ·refine .inr ⟨h2,?_,by rw[<-hc];exact h4⟩
    have:=fT hlt;omega
  ·exact .inl rfl
 ·rename_i hlt;have hlt:a8 m.aa b=false:=by simpa using hlt
  refine⟨⟨h1.aE,h1.aF,h1.cQ,h1.bG,.inr ⟨hb,hp⟩,hlt,h1.bP,?_⟩,rfl,rfl,rfl,Int.le_refl _⟩;rcases h1.low with e|⟨h2,h3,h4⟩
  ·exact .inl e
  ·refine .inr ⟨h2,?_,h4⟩;show m.aN<=ez {m with au:=b}
   have hv:b.Value=m.aa.Value:=by
    refine Classical.byContradiction fun hv=> ?_
    have h5:=Ub h1.fo hp hv h4;have h6:=fT hl;rcases hh.2.2 with e|⟨e1,e2,e3⟩
    ·omega
    ·
     have e4:a8 b m.au=false:=wY.asymm hl;have e5:=hl;rw[rl]at e5;have hbc:b.aj=m.au.aj:=by omega
     have hlow:m.aN=m.au.aj:=by omega
     have e6:a8 ⟨m.aN,m.aa.Value⟩ b=true:=by
      have:(⟨m.aN,m.aa.Value⟩:af)=m.au:=by rw[hlow,<-e2]
      rw[this];exact hl
     unfold ma at h4;rw[Bool.or_eq_false_iff]at h4
     have key:∀x:af,aD x=false->x.Value≠m.aa.Value->eE x ⟨m.aN,m.aa.Value⟩=false->a8 ⟨m.aN,m.aa.Value⟩ x=false:=by
      intro x hz hx h;unfold eE at h;rw[hz,(fu (a:=x) (b:=⟨m.aN,m.aa.Value⟩)).2 hx,Qp,Bool.and_self,Bool.true_and]at h;exact h
     rw[rY]at hp;rcases hp with hp|hp|⟨hz,hq⟩
     ·obtain⟨g1,g2,g3⟩:=(iF _ _).1 hp;have g4:=key _ g1 (by rw[g2];exact hv) h4.1
      have g5:a8 ⟨m.aN,m.aa.Value⟩ m.al=true:=by
       by_cases e:b=m.al
       ·rw[<-e];exact e6
       ·exact jg e6 (BL (B8 hp) (fun e'=>e e'.symm))
      rw[g5]at g4;cases g4
     ·obtain⟨g1,g2,g3⟩:=(iF _ _).1 hp;have g4:=key _ g1 (by rw[g2];exact hv) h4.2
      have g5:a8 ⟨m.aN,m.aa.Value⟩ m.aw=true:=by
       by_cases e:b=m.aw
       ·rw[<-e];exact e6
       ·exact jg e6 (BL (B8 hp) (fun e'=>e e'.symm))
      rw[g5]at g4;cases g4
     ·rcases h1.bG with e|⟨f1,f2,f3,f4⟩
      ·rw[e,br]at hz;cases hz
      ·by_cases hqv:m.aw.Value=m.aa.Value
       ·have g4:=key _ f2.nz (by rw[<-hqv];exact fun e=>(fu.1 f4) e.symm) h4.1
        rw[jg e6 (jg hq f3)]at g4;cases g4
       ·have g4:=key _ hz hqv h4.2;rw[jg e6 hq]at g4;cases g4
   have hhigh:ez {m with au:=b}=b.aj:=by
    unfold ez;rw[Qr];show(!aD b&&bw b m.aa)=true;rw[hb.nz,fO.2 hv];rfl
   rw[hhigh];rcases hh.2.2 with e|⟨e1,e2,e3⟩
   ·omega
   ·have:=fT hl;omega
theorem TA{m:ab}(h1:P1 m){b:af}(hb:bX b)(hc:m.au=b):P1 (kS m b):=by
 unfold kS;split
 ·rename_i hv;obtain⟨hL,hcp,hle⟩:=hv;rw[fO]at hcp;refine⟨h1.aE,h1.aF,h1.cQ,h1.bG,h1.dz,h1.up,h1.bP,?_⟩;obtain⟨h2,h3,h4⟩:=MJ (v:=b.Value) (n:=m.aa.aj) h1.fo.valid.1 h1.fo.valid.2;refine .inr ⟨h3,?_,by show ma m.al m.aw m.aa.Value _=false;rw[hcp];exact h4⟩
  show kc b.Value m.aa.aj m.al m.aw<=ez {m with aN:=kc b.Value m.aa.aj m.al m.aw}
  have hhigh:ez {m with aN:=kc b.Value m.aa.aj m.al m.aw}=b.aj:=by
   unfold ez;rw[Qr]
   ·show m.au.aj=_;rw[hc]
   ·show(!aD m.au&&bw m.au m.aa)=true;rw[hc,hb.nz,fO.2 hcp.symm];rfl
  rw[hhigh];exact hle
 ·exact h1
theorem Ni(m:ab)(b:af):(kS m b).al=m.al/\(kS m b).aw=m.aw/\(kS m b).au=m.au/\(kS m b).aa=m.aa:=by
 unfold kS;split<;>exact⟨rfl,rfl,rfl,rfl⟩
theorem kE{m:ab}(h:m.aA≠1\/aD m.aa=true\/aD (gY m)=true):fL m=m:=Qr h
theorem xd{m m':ab}(h:aW m)(he:m'.ar=m.ar/\m'.bs=m.bs/\m'.aK=m.aK/\m'.ae=m.ae/\m'.bj=m.bj/\m'.aB=m.aB)(hb:P0 m'\/P1 m'\/P2 m'\/P3 m'):aW m':=by
 obtain⟨e1,e2,e3,e4,e5,e6⟩:=he;exact⟨by rw[e1];exact h.n0,by rw[e1];exact h.n1,by rw[e2];exact h.bS,by rw[e3];exact h.seq,by rw[e4];exact h.aY,by rw[e5];exact h.qB,by rw[e6,e1,e2];exact h.hv,by rw[e6];exact h.nq,hb⟩
structure fg (m m':ab):Prop where
 az:m'.ar=m.ar
 bS:m'.bs=m.bs
 seq:m'.aK=m.aK
 aY:m'.ae=m.ae
 qB:m'.bj=m.bj
 heard:m'.aB=m.aB
theorem fg.refl(m:ab):fg m m:=⟨rfl,rfl,rfl,rfl,rfl,rfl⟩
theorem fg.all{m m':ab}(h:fg m m'):m'.ar=m.ar/\m'.bs=m.bs/\m'.aK=m.aK/\m'.ae=m.ae/\m'.bj=m.bj/\m'.aB=m.aB:=⟨h.az,h.bS,h.seq,h.aY,h.qB,h.heard⟩
theorem ri(m:ab):fg m (bR m):=by unfold bR;split<;>exact⟨rfl,rfl,rfl,rfl,rfl,rfl⟩
theorem Ul(m:ab)(b:af):fg m (sO m b):=by unfold sO;split<;>exact⟨rfl,rfl,rfl,rfl,rfl,rfl⟩
theorem OQ(m:ab)(b:af):fg m (kS m b):=by unfold kS;split<;>exact⟨rfl,rfl,rfl,rfl,rfl,rfl⟩
theorem oh(m:ab):fg m (fL m):=by
 unfold fL;split
 ·exact .refl m
 ·have h1:=OQ (sO m (gY m)) (gY m);have h2:=Ul m (gY m);exact⟨h1.az.trans h2.az,h1.bS.trans h2.bS,h1.seq.trans h2.seq,h1.aY.trans h2.aY,h1.qB.trans h2.qB,h1.heard.trans h2.heard⟩
theorem mO(m:ab):fg m (dC m):=by
 unfold dC zZ sP;split
 ·split<;>exact⟨rfl,rfl,rfl,rfl,rfl,rfl⟩
 ·split<;>exact⟨rfl,rfl,rfl,rfl,rfl,rfl⟩
theorem rj(m:ab):fg m (gR m):=by unfold gR CP;split<;>exact⟨rfl,rfl,rfl,rfl,rfl,rfl⟩
theorem w6(m:ab):fg m (dL m):=by unfold dL;split<;>exact⟨rfl,rfl,rfl,rfl,rfl,rfl⟩
theorem CD{m:ab}(h:aW m)(h1:P1 m):P1 (fL m)/\(fL m=m\/((fL m).al=m.al/\(fL m).aw=m.aw/\a8 m.au (fL m).au=true/\m.aa.aj<=(fL m).aa.aj)):=by
 unfold fL;split
 ·exact⟨h1,.inl rfl⟩
 ·rename_i hc;rcases PG h h1 with e|⟨hf,hl,hp⟩
  ·exact absurd (.inr (.inr (by rw[e];exact br))) hc
  ·obtain⟨g1,g2,g3,g4,g5⟩:=Ws h1 hf hl hp;obtain⟨v1,v2,v3,v4⟩:=Ni (sO m (gY m)) (gY m);exact⟨TA g1 hf g4,.inr ⟨v1.trans g2,v2.trans g3,by rw[v3,g4];exact hl,by rw[v4];exact g5⟩⟩
theorem Is{m:ab}(h:aW m):aW (fL m):=by
 rcases h.body with h0|h1|h2|h3
 ·rw[kE (.inr (.inl (by rw[h0.aF];exact br)))];exact h
 ·exact xd h (oh m).all (.inr (.inl (CD h h1).1))
 ·rw[kE (.inl (by rw[h2.aE];decide))];exact h
 ·rw[kE (.inl (by rw[h3.aE];decide))];exact h
theorem tq{m:ab}(h:aW m)(v:ByteArray):∀x∈bV (aO m) v,1<=x/\x<=1000:=I0 h.ev.mN.1 h.ev.mN.2 v
theorem Rt{m:ab}(h:aW m):∀v∈ga (aO m),1<=v.size/\v.size<=200:=by
 intro v hv;obtain⟨e,he,h1,h2⟩:=((rL h.ev.mN.1.aY h.ev.mN.2).2.2.2 v).1 hv;rw[h2];exact Dv h1
theorem Ox{m:ab}(h:aW m){x:ByteArray->Int->Int->Bool}{p q:af}:(fP x (aO m) p q).1=false\/(bX (fP x (aO m) p q).2/\(fP x (aO m) p q).2.Value∈ga (aO m)/\(fP x (aO m) p q).2.aj∈bV (aO m) (fP x (aO m) p q).2.Value/\
  ma p q (fP x (aO m) p q).2.Value (fP x (aO m) p q).2.aj=false/\x (fP x (aO m) p q).2.Value (fP x (aO m) p q).2.aj (fP x (aO m) p q).2.aj=true):=by
 let G:Bool×af->Prop:=fun s=>s.1=false\/(bX s.2/\s.2.Value∈ga (aO m)/\s.2.aj∈bV (aO m) s.2.Value/\ma p q s.2.Value s.2.aj=false/\x s.2.Value s.2.aj s.2.aj=true)
 have inner:∀(v:ByteArray),v∈ga (aO m)->∀(b:List Int),(∀n∈b,n∈bV (aO m) v)->∀s,G s->G (b.foldl (oJ x p q v) s):=by
  intro v hv b
  induction b with
  |nil=>intro _ s hs;exact hs
  |cons n b ih=>
   intro hb s hs;rw[QU];refine ih (fun k hk=>hb k (Qy _ hk)) _ ?_
   unfold oJ;split
   ·rename_i hc;simp only[Qm,Bool.not_eq_true']at hc;have hn:=hb n Qx;have h1:=tq h v n hn;have h2:=Rt h v hv;exact .inr ⟨⟨h1.1,h1.2,h2.1,h2.2⟩,hv,hn,hc.1.2,hc.2⟩
   ·exact hs
 have outer:∀(vs:List ByteArray),(∀v∈vs,v∈ga (aO m))->∀s,G s->G (vs.foldl (fun s v=>(bV (aO m) v).foldl (oJ x p q v) s) s):=by
  intro vs
  induction vs with
  |nil=>intro _ s hs;exact hs
  |cons v vs ih=>
   intro hv s hs;rw[QU];exact ih (fun u hu=>hv u (Qy _ hu)) _ (inner v (hv v Qx) _ (fun n hn=>hn) s hs)
 exact outer _ (fun v hv=>hv) (false,⟨0,gC⟩) (.inl rfl)
structure WZ (m:ab) (v:ByteArray) (lo hi:Int):Prop where
 fin:bX ⟨hi,v⟩
 Px:1<=lo
 le:lo<=hi
 val:v∈ga (aO m)
 top:eB m v hi hi=true
 all:eB m v lo hi=true
theorem BW{m:ab}(h:aW m)(hk:(dQ m).2.2.2.1=true):WZ m (dQ m).1 (dQ m).2.1 (dQ m).2.2.1:=by
 rcases Ox (x:=eB m) (p:=m.al) (q:=m.aw) h with e|⟨h1,h2,h3,h4,h5⟩
 ·unfold dQ oD at hk;rw[e]at hk;cases hk
 ·have hb:(fP (eB m) (aO m) m.al m.aw).1=true:=by
   unfold dQ oD at hk;split at hk
   ·assumption
   ·cases hk
  have e:dQ m=((fP (eB m) (aO m) m.al m.aw).2.Value,dU (fun n=> !ma m.al m.aw (fP (eB m) (aO m) m.al m.aw).2.Value n&&eB m (fP (eB m) (aO m) m.al m.aw).2.Value n (fP (eB m) (aO m) m.al m.aw).2.aj) (bV (aO m) (fP (eB m) (aO m) m.al m.aw).2.Value).reverse (fP (eB m) (aO m) m.al m.aw).2.aj,(fP (eB m) (aO m) m.al m.aw).2.aj,true,()):=by
   unfold dQ oD;rw[Qr hb]
  rw[e];refine⟨h1,wm _ _ _ (fun x hx=>(tq h _ x (List.mem_reverse.1 hx)).1) h1.1,oF _ _ _,h2,h5,?_⟩
  simp only;rcases wj (fun n=> !ma m.al m.aw (fP (eB m) (aO m) m.al m.aw).2.Value n&&eB m (fP (eB m) (aO m) m.al m.aw).2.Value n (fP (eB m) (aO m) m.al m.aw).2.aj) (bV (aO m) (fP (eB m) (aO m) m.al m.aw).2.Value).reverse (fP (eB m) (aO m) m.al m.aw).2.aj with e|⟨e,_⟩
  ·rw[e];exact h5
  ·rw[Qm]at e;exact e.2
theorem B9{m:ab}(hb0:m.aa=bm\/bX m.aa)(hp0:m.al=bm\/bX m.al){v:ByteArray}{lo hi:Int}(hf:bX ⟨hi,v⟩)(hlo:1<=lo)(hle:lo<=hi):P2 (zZ m v lo hi):=by
 unfold zZ
 have hmax:bX ⟨bl m.aa.aj hi,v⟩:=by
  rcases hb0 with e|h2
  ·have:bl m.aa.aj hi=hi:=by
    have h3:=hf.1;simp only at h3;have h4:m.aa.aj=0:=by rw[e];rfl
    unfold bl;split<;>omega
   rw[this];exact hf
  ·have:bl m.aa.aj hi=m.aa.aj\/bl m.aa.aj hi=hi:=by unfold bl;split<;>simp
   rcases this with e|e<;>rw[e]
   ·exact⟨h2.1,h2.2.1,hf.2.2⟩
   ·exact hf
 have hbv:∀b:af,b=(if(!bw m.aa ⟨hi,v⟩||a8 m.aa ⟨hi,v⟩)=true then⟨bl m.aa.aj hi,v⟩else m.aa)->bX b/\b.Value=v:=by
  intro b hb;split at hb
  ·rw[hb];exact⟨hmax,rfl⟩
  ·rename_i hc;rw[hb];simp only[Qn,Bool.not_eq_true',not_or,Bool.not_eq_false]at hc;refine⟨hb0.resolve_left (fun e=> ?_),fO.1 hc.1⟩
   have:=fO.1 hc.1;rw[e]at this;exact hf.ne this.symm
 obtain⟨b1,b2⟩:=hbv _ rfl
 have hpv:∀p:af,p=(if im m.al ⟨hi,v⟩=true then m.al else⟨hi,v⟩)->bX p/\p.Value=v/\hi<=p.aj:=by
  intro p hp;split at hp
  ·rename_i hc;rw[hp];obtain⟨g1,g2,g3⟩:=(iF _ _).1 hc;refine⟨?_,g2,g3⟩;rcases hp0 with e|e
   ·rw[e,br]at g1;cases g1
   ·exact e
  ·rw[hp];exact⟨hf,rfl,Int.le_refl _⟩
 obtain⟨p1,p2,p3⟩:=hpv _ rfl;exact⟨rfl,b1,⟨p1,p2.trans b2.symm⟩,rfl,.inr ⟨hf,b2.symm⟩,⟨hlo,hle,p3⟩⟩
theorem KZ{m:ab}(h:aW m)(h2:P2 m):1<=(dt m).1/\(dt m).1<=(dt m).2/\(dt m).2<=1000/\(((dt m).2=m.bc/\(dt m).1<=m.aN)\/m.bc<(dt m).2):=by
 have hr:=h2.range;have hH:m.bc<=1000:=by have:=h2.cQ.1.2.1;omega
 have hb:∀x∈(bV (aO m) m.aa.Value).reverse,1<=x:=fun x hx=>(tq h _ x (List.mem_reverse.1 hx)).1
 unfold dt K0;split
 ·refine⟨wm _ _ _ hb hr.1,?_,hH,.inl ⟨rfl,oF _ _ _⟩⟩;exact Int.le_trans (oF _ _ _) hr.2.1
 ·rename_i n hn;have hnb:=tq h _ n (List.mem_reverse.1 (List.mem_of_find?_eq_some hn));have hnp:=List.find?_some hn;simp only[Qm,Qi]at hnp;have h5:1<=dU (fun x=>eB m m.aa.Value x n) (bV (aO m) m.aa.Value).reverse n:=wm _ _ _ hb hnb.1
  have h6:=oF (fun x=>eB m m.aa.Value x n) (bV (aO m) m.aa.Value).reverse n
  simp only;refine⟨wm _ _ _ hb ?_,?_,hnb.2,.inr hnp.1⟩
  ·split
   ·exact h5
   ·exact hr.1
  ·refine Int.le_trans (oF _ _ _) ?_;split
   ·exact h6
   ·omega
theorem N9{m:ab}(h2:P2 m){lo hi:Int}(hlo:1<=lo)(hle:lo<=hi)(hhi:hi<=1000):P2 (sP m lo hi):=by
 unfold sP;have hb:=h2.aF;have hp:=h2.cQ;have e1:∀c:Int,bl c hi=c\/bl c hi=hi:=fun c=>by unfold bl;split<;>simp
 have e2:∀c:Int,hi<=bl c hi:=fun c=>by unfold bl;split<;>omega
 have mx:∀c:Int,c<=1000->bX ⟨bl c hi,m.aa.Value⟩:=by
  intro c hc;refine⟨by have:=e2 c;simp only;omega,?_,hb.2.2.1,hb.2.2.2⟩
  rcases e1 c with e|e<;>simp only[e]<;>omega
 refine⟨h2.aE,mx _ hb.2.1,⟨?_,?_⟩,h2.bG,.inr ⟨mx _ ?_,rfl⟩,⟨hlo,hle,e2 _⟩⟩
 ·show bX ⟨bl m.al.aj hi,m.al.Value⟩;rw[hp.2];exact mx _ hp.1.2.1
 ·exact hp.2
 ·rcases h2.dz with e|e
  ·rw[e];decide
  ·exact e.1.2.1
theorem Ix{m:ab}(h:aW m):aW (dC m):=by
 refine xd h (mO m).all ?_;unfold dC;rcases h.body with h0|h1|h2|h3
 ·rw[Qr h0.aE];split
  ·rename_i hk;have hf:=BW h hk;exact .inr (.inr (.inl (B9 (.inl h0.aF) (.inl h0.cQ) hf.fin hf.Px hf.le)))
  ·exact .inl h0
 ·rw[Qr h1.aE];split
  ·rename_i hk;have hf:=BW h hk;exact .inr (.inr (.inl (B9 (.inr h1.aF) h1.cQ hf.fin hf.Px hf.le)))
  ·exact .inr (.inl h1)
 ·rw[Qs (by rw[h2.aE];decide),Qr h2.aE]
  have:=KZ h h2;exact .inr (.inr (.inl (N9 h2 this.1 this.2.1 this.2.2.1)))
 ·rw[Qs (by rw[h3.aE];decide),Qs (by rw[h3.aE];decide)]
  exact .inr (.inr (.inr h3))
theorem PO{m:ab}(h:aW m)(hk:(jM m).2.2.1=true):1<=(jM m).1/\(jM m).1<=(jM m).2.1/\(jM m).2.1<=1000/\yX m m.aa.Value (jM m).1 (jM m).2.1=true:=by
 unfold jM wh at hk ⊢;split at hk
 ·rename_i n hn;have hnb:=tq h _ n (List.mem_reverse.1 (List.mem_of_find?_eq_some hn));have hs:=List.find?_some hn;simp only;refine⟨wm _ _ _ (fun x hx=>(tq h _ x (List.mem_reverse.1 hx)).1) hnb.1,oF _ _ _,hnb.2,?_⟩
  rcases wj (fun x=>yX m m.aa.Value x n) (bV (aO m) m.aa.Value).reverse n with e|⟨e,_⟩
  ·rw[e];exact hs
  ·exact e
 ·cases hk
theorem MB{m:ab}(h:aW m)(h2:P2 m)(hk:(jM m).2.2.1=true):P3 (CP m (jM m).1 (jM m).2.1):=by
 obtain⟨g1,g2,g3,_⟩:=PO h hk;unfold CP;exact⟨rfl,⟨by simp only;omega,g3,h2.aF.2.2.1,h2.aF.2.2.2⟩,rfl,rfl,rfl,⟨g1,g2,g3⟩⟩
theorem Iw{m:ab}(h:aW m):aW (gR m):=by
 refine xd h (rj m).all ?_;unfold gR;split
 ·rename_i hc;rcases h.body with h0|h1|h2|h3
  ·have:=h0.aE;have:=hc.1;omega
  ·have:=h1.aE;have:=hc.1;omega
  ·exact .inr (.inr (.inr (MB h h2 hc.2)))
  ·have:=h3.aE;have:=hc.1;omega
 ·exact h.body
theorem N0{z:af}:∀{l:List af},l≠[]->Gv z l∈l
 |[],h=>absurd rfl h
 |x::l,_=>by
  show l.foldl (fun a y=>if a8 a y=true then y else a) x∈x::l
  suffices key:∀(l:List af) (a:af),l.foldl (fun a y=>if a8 a y=true then y else a) a=a\/l.foldl (fun a y=>if a8 a y=true then y else a) a∈l by
   rcases key l x with e|e
   ·rw[e];exact Qx
   ·exact Qy _ e
  intro l
  induction l with
  |nil=>intro a;exact .inl rfl
  |cons y l ih=>
   intro a;rw[QU];rcases ih (if a8 a y=true then y else a)with e|e
   ·rw[e];split
    ·exact .inr Qx
    ·exact .inl rfl
   ·exact .inr (Qy _ e)
theorem TJ{t:aq}(h:kh t){s:Nat}(hs:∀k,k<10->s.testBit k=true):jK s t=true:=by
 have hn:∀x:Int,0<=x->x<10->gd s x=true:=by
  intro x h0 h1;unfold gd eD;rw[Qg h0,Qg h1,hs _ (by omega)]
  rfl
 have hc:t.bu.countP (gd s)=t.bu.length:=List.countP_eq_length.2 fun x hx=>hn x (h.nodes x hx).1 (h.nodes x hx).2
 have hi:qx s t.aS=t.aS.length:=by
  rcases h.inner with e|⟨x,h0,h1,e⟩
  ·rw[e];rfl
  ·rw[e]
   have:jK s ⟨1,[x],[]⟩=true:=by
    rw[Cw];simp[List.countP_cons,hn x h0 h1,qx]
   simp[qx,this]
 rw[Cw,hc,hi,Qi];have:=h.th.2;omega
theorem OD{m:ab}(h:aW m){n:Int}(ha:gM m n=true):∃e∈m.aB,n<eZ e:=by
 refine Classical.byContradiction fun hno=> ?_
 have hz:yL m n=0:=by
  refine yr fun k=> ?_
  unfold yL;rw[mP,Nat.zero_testBit,List.any_eq_false];intro e he;have:¬n<eZ e:=fun hlt=>hno ⟨e,he,hlt⟩
  simp[this]
 unfold gM tr at ha;rw[hz,Qm]at ha
 have hown:kq (fh m.ar.toNat m.ae (aO m)) m.ar.toNat=m.ae:=by
  unfold kq;rw[AS h.ev.az.2 m.ae (aO m) h.ev.az.2,Qr rfl];rfl
 rw[hown,TJ h.aY (fun k hk=>by rw[uZ (by omega)];simp[hk])]at ha
 cases ha.2
theorem Mo{m:ab}(h:aW m)(h1:m.aA=1)(hc:m.au=bm\/bX m.au)(hh:m.aB≠[]\/m.bj≠gC\/m.au≠bm):1<=(di m).size/\(di m).size<=200:=by
 unfold di;split
 ·rename_i hz;rcases hc with e|e
  ·rw[e,br]at hz;cases hz
  ·exact e.2.2
 ·rename_i hz;have hz:aD m.au=true:=by simpa using hz
  rw[Qs (fun h=>h h1)]
  split
  ·rename_i hp;refine⟨?_,h.qB⟩;rcases Nat.eq_zero_or_pos m.bj.size with e|e
   ·exfalso;apply hp;have:m.bj.data=#[]:=Array.eq_empty_of_size_eq_zero e
    cases hm:m.bj with
    |mk d=>rw[hm]at this;simp only at this;rw[this];rfl
   ·exact e
  ·rename_i hp
   have hne:m.aB≠[]:=by
    rcases hh with e|e|e
    ·exact e
    ·exact absurd e hp
    ·exact absurd (mM.1 hz) e
   have hm:=N0 (z:=bm) (l:=m.aB.map (·.aa)) (by simpa using hne)
   obtain⟨e,he,heq⟩:=QP.1 hm;rw[<-heq];exact Dv (h.hv e he).1
theorem P4{e:ai}(hv:ba e=true):1<=eZ e/\(eZ e<=1000\/eZ e=1000000):=by
 unfold eZ;split
 ·exact⟨by decide,.inr rfl⟩
 ·rename_i h3;have hv':=hv;unfold ba mn at hv';rw[Qm,Qm]at hv';have hb:=hv'.2
  have gof:∀{b:af},finite b=true->1<=b.aj/\b.aj<=1000:=by
   intro b hb;unfold finite at hb;rw[Qm,Qi]at hb;have:=(MS hb.1 hb.2);exact⟨this.1,this.2.1⟩
  by_cases h1:e.bQ=1
  ·rw[Qr h1]at hb;unfold fo at hb;simp only[Qm]at hb;have:=gof hb.1.1.1.1.1.1.1.1;exact⟨this.1,.inl this.2⟩
  ·rw[Qs h1]at hb
   by_cases h2:e.bQ=2
   ·rw[Qr h2]at hb;unfold wu at hb;simp only[Qm]at hb;have:=gof hb.1.1.1.1.1;exact⟨this.1,.inl this.2⟩
   ·rw[Qs h2,Qs h3]at hb;cases hb
theorem Q6(m:ab):eV m=1000000\/(m.aa.aj<eV m/\eV m<1000000/\gM m (eV m)=false/\∃e∈m.aB,eV m=eZ e):=by
 unfold eV
 suffices key:∀(l:List ai),(∀e∈l,e∈m.aB)->∀s,(s=1000000\/(m.aa.aj<s/\s<1000000/\gM m s=false/\∃e∈m.aB,s=eZ e))->
   (l.foldl (jB m) s=1000000\/(m.aa.aj<l.foldl (jB m) s/\l.foldl (jB m) s<1000000/\gM m (l.foldl (jB m) s)=false/\∃e∈m.aB,l.foldl (jB m) s=eZ e))from key _ (fun e he=>he) _ (.inl rfl)
 intro l
 induction l with
 |nil=>intro _ s hs;exact hs
 |cons x l ih=>
  intro hm s hs;rw[QU];refine ih (fun e he=>hm e (Qy _ he)) _ ?_
  unfold jB;split
  ·rename_i hc;exact .inr ⟨hc.1,by rcases hs with e|e<;>omega,hc.2.2,x,hm x Qx,rfl⟩
  ·exact hs
theorem Cb{m:ab}(h:aW m)(hb:0<=m.aa.aj/\m.aa.aj<=1000):m.aa.aj<=bl m.aa.aj (dD (eV m) 1000)/\bl m.aa.aj (dD (eV m) 1000)<=1000/\1<=bl m.aa.aj (dD (eV m) 1000)/\
  (bl m.aa.aj (dD (eV m) 1000)=m.aa.aj->m.aa.aj=1000)/\bl m.aa.aj (dD (eV m) 1000)=dD (eV m) 1000:=by
 have hmin:dD (eV m) 1000<=1000/\1<=dD (eV m) 1000/\(m.aa.aj<dD (eV m) 1000\/dD (eV m) 1000=1000):=by
  rcases Q6 m with e|⟨g1,g2,_,x,hx,g4⟩
  ·rw[e];exact⟨by decide,by decide,.inr (by decide)⟩
  ·have hc:=P4 (h.hv x hx).1;rw[<-g4]at hc;have:eV m<=1000:=by omega
   have e:dD (eV m) 1000=eV m:=by unfold dD;split<;>omega
   rw[e];omega
 unfold bl;split<;>omega
theorem Hv{m:ab}(h:aW m)(h1:P0 m\/P1 m)(ha:gM m m.aa.aj=true):P1 (dL m):=by
 have hph:m.aA=1:=by rcases h1 with h|h<;>exact h.aE
 have hbc:0<=m.aa.aj/\m.aa.aj<=1000:=by
  rcases h1 with h|h
  ·rw[h.aF];decide
  ·have:=h.aF;exact⟨by have:=this.1;omega,this.2.1⟩
 obtain⟨c1,c2,c3,_⟩:=Cb h hbc;obtain⟨e0,he0,_⟩:=OD h ha
 have hconf:m.au=bm\/bX m.au:=by
  rcases h1 with h|h
  ·exact .inl h.dz
  ·exact h.dz.imp id (·.1)
 have hv:=Mo h hph hconf (.inl (List.ne_nil_of_mem he0));unfold dL;rw[Qs (by rw[hph,ha];decide)]
 have hnv:jn m=di m:=Qr hph;rw[hnv];generalize hn:bl m.aa.aj (dD (eV m) 1000)=n at c1 c2 c3 ⊢
 have hpo:mD m.al m.aw:=by
  rcases h1 with h|h
  ·exact⟨.inl h.cQ,.inl h.bG⟩
  ·exact h.fo
 refine⟨hph,⟨c3,c2,hv.1,hv.2⟩,hpo.1,hpo.2,?_,?_,?_,?_⟩
 ·rcases h1 with h|h
  ·exact .inl h.dz
  ·exact h.dz
 ·show a8 ⟨n,di m⟩ m.au=false;rcases hconf with e|e
  ·rw[e]
   cases hl:a8 ⟨n,di m⟩ bm with
   |false=>rfl
   |true=>have:=fT hl;have h0:(bm:af).aj=0:=rfl;simp only at this;omega
  ·have hvc:di m=m.au.Value:=by unfold di;rw[Qr e.nz]
   rw[zy (show(⟨n,di m⟩:af).Value=m.au.Value from hvc),Qj]
   rcases h1 with h|h
   ·exact absurd h.dz (qK e)
   ·have:=Eu h.up;simp only;omega
 ·rcases h1 with h|h<;>exact h.bP
 ·show(if di m=m.aa.Value then m.aN else 0)=0\/(1<=(if di m=m.aa.Value then m.aN else 0)/\_<=_/\ma m.al m.aw (di m) (if di m=m.aa.Value then m.aN else 0)=false)
  split
  ·rename_i hve;rcases h1 with h|h
   ·exact .inl h.low
   ·rcases h.low with e|⟨g1,g2,g3⟩
    ·exact .inl e
    ·refine .inr ⟨g1,?_,by rw[hve];exact g3⟩
     have:ez {m with aN:=m.aN,aa:=⟨n,di m⟩}=ez m:=by
      unfold ez bw;simp only[hve]
     show m.aN<=ez {m with aN:=m.aN,aa:=⟨n,di m⟩}
     rw[this];exact g2
  ·exact .inl rfl
theorem MA{m:ab}(h:aW m)(h2:P2 m):P2 (dL m):=by
 unfold dL;split
 ·exact h2
 ·obtain⟨c1,c2,c3,_⟩:=Cb h ⟨by have:=h2.aF.1;omega,h2.aF.2.1⟩
  have hnv:jn m=m.aa.Value:=Qs (by rw[h2.aE];decide)
  rw[hnv,Qr rfl];exact⟨h2.aE,⟨c3,c2,h2.aF.2.2⟩,h2.cQ,h2.bG,h2.dz,h2.range⟩
theorem Iv{m:ab}(h:aW m):aW (dL m):=by
 have hid:m.aA=3\/gM m m.aa.aj=false->dL m=m:=fun hc=>Qr hc
 cases ha:gM m m.aa.aj with
 |false=>rw[hid (.inr ha)];exact h
 |true=>
  refine xd h (w6 m).all ?_;rcases h.body with h0|h1|h2|h3
  ·exact .inr (.inl (Hv h (.inl h0) ha))
  ·exact .inr (.inl (Hv h (.inr h1) ha))
  ·exact .inr (.inr (.inl (MA h h2)))
  ·rw[hid (.inl h3.aE)];exact .inr (.inr (.inr h3))
end Go.Proofs.YtkgenianmdfmdaaGreat
end
