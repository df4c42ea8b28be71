/-
  Texts made small by a program (see NOTES). Conditions: those that each theorem names.
-/
import Derived.Test.YtgjpkadjihpddaaGreatWaitsMd
set_option linter.unusedVariables false
set_option linter.unusedSimpArgs false
set_option linter.unusedSectionVars false
set_option maxHeartbeats 2000000
noncomputable section
namespace Go.TQ
@[simp] theorem bc {σ ρ:Type} (j:σ->Option ρ) (f:(σ->Option ρ)->Option ρ):bb j f=f j:=rfl
@[simp] theorem uk {α:Type} (b:Bool) (x y:α):(bif b then some x else some y)=some (bif b then x else y):=by cases b<;>rfl
@[simp] theorem aib {α:Type} (b:Bool) (x:α):(bif b then x else x)=x:=by cases b<;>rfl
theorem Ip{α:Type}(p:Prop)[Decidable p](x y:α):(bif decide p then x else y)=if p then x else y:=by
 by_cases h:p<;>simp[h]
theorem E8{α:Type}(p:Prop)[Decidable p](x y:α):(if p then some x else some y)=some (if p then x else y):=by split<;>rfl
@[simp] theorem VR {α:Type} (b:Bool) (x y:α):(bif !b then x else y)=bif b then y else x:=by cases b<;>rfl
@[simp] theorem CV (a b:Int) (s t:ByteArray):nR false a b s t=(decide (a=b)&&decide (s=t)):=by simp[nR]
@[simp] theorem ah5 (a b:Int) (s t:ByteArray):nR true a b s t= !(decide (a=b)&&decide (s=t)):=by simp[nR]
def Yd{α:Type}(o:Option α)(p:α->Prop):Prop:=∃x,o=some x/\p x
theorem Yd.bind{α β:Type}{o:Option α}{p:α->Prop}{f:α->Option β}{q:β->Prop}(h:Yd o p)(k:∀x,p x->Yd (f x) q):Yd (o.bind f) q:=by
 obtain⟨x,rfl,hx⟩:=h;exact k x hx
theorem Yd.mono{α:Type}{o:Option α}{p q:α->Prop}(h:Yd o p)(k:∀x,p x->q x):Yd o q:=by
 obtain⟨x,h1,hx⟩:=h;exact⟨x,h1,k x hx⟩
theorem Yd.some{α:Type}{x:α}{p:α->Prop}(h:p x):Yd (Option.some x) p:=⟨x,rfl,h⟩
theorem Yd.of_eq{α:Type}{o:Option α}{x:α}{p:α->Prop}(h:o=Option.some x)(hp:p x):Yd o p:=⟨x,h,hp⟩
theorem Yd.cond{α:Type}{b:Bool}{x y:Option α}{p:α->Prop}(h1:b=true->Yd x p)(h2:b=false->Yd y p):Yd (bif b then x else y) p:=by
 cases b
 ·exact h2 rfl
 ·exact h1 rfl
theorem Yd.map{α β:Type}{o:Option α}{f:α->β}{p:β->Prop}(h:Yd o fun x=>p (f x)):Yd (o.map f) p:=by
 obtain⟨x,rfl,hx⟩:=h;exact⟨f x,rfl,hx⟩
theorem Yd.eq_true{o:Option Bool}(h:Yd o (·=true)):o=Option.some true:=by
 obtain⟨x,h1,rfl⟩:=h;exact h1
theorem wrap64{n:Int}(h1: -9223372036854775808<=n)(h2:n<=9223372036854775807):IntKind.i64.wrap n=n:=i64_in h1 h2
theorem bN{a b:Int}(h1: -9223372036854775808<=a+b)(h2:a+b<=9223372036854775807):aq .i64 a b=a+b:=wrap64 h1 h2
theorem jA{a b:Int}(h1: -9223372036854775808<=a - b)(h2:a - b<=9223372036854775807):da .i64 a b=a - b:=wrap64 h1 h2
theorem aP{α:Type}(l:List α)(i:Nat):idx l (i:Int)=l[i]?:=by simp[idx]
theorem Mw{α:Type}(l:List α){n:Int}(h:0<=n):idx l n=l[n.toNat]?:=by simp[idx,h]
@[simp] theorem afI (n:Nat) (h:n<256):bz .i64 (n:Int)=n:=wrap64 (by omega) (by omega)
@[simp] theorem ba {bytes n:Nat} (h:n*bytes<=140737488355328/\n<=1000000):aX bytes n=true:=by
 simp only[aX,Qm,Qi];exact⟨h.1,QK h.2 (by simp[maxLen])⟩
theorem tV(a:Nat)(h:a<2 ^ 62):(BitVec.ofInt 64 (a:Int)).toNat=a:=by
 grind
theorem Bu(n:Nat)(h:n<2 ^ 62):IntKind.i64.wrap (n:Int)=n:=wrap64 (by omega) (by omega)
theorem kv(a b:Nat)(ha:a<2 ^ 62)(hb:b<2 ^ 62):bp .i64 (a:Int) (b:Int)=((a&&&b:Nat):Int):=by
 show IntKind.i64.wrap (((BitVec.ofInt 64 (a:Int)&&&BitVec.ofInt 64 (b:Int)).toNat:Nat):Int)=_;rw[BitVec.toNat_and,tV a ha,tV b hb];exact Bu _ (Nat.lt_of_le_of_lt Nat.and_le_left ha)
theorem H5(a b:Nat)(ha:a<2 ^ 62)(hb:b<2 ^ 62):ka .i64 (a:Int) (b:Int)=((a|||b:Nat):Int):=by
 show IntKind.i64.wrap (((BitVec.ofInt 64 (a:Int)|||BitVec.ofInt 64 (b:Int)).toNat:Nat):Int)=_
 rw[BitVec.toNat_or,tV a ha,tV b hb];exact Bu _ (Nat.or_lt_two_pow ha hb)
theorem aek(s k:Nat):s&&&2 ^ k=if s.testBit k then 2 ^ k else 0:=by
 refine Nat.eq_of_testBit_eq fun i=> ?_
 grind
theorem mE(k:Nat)(h:k<=60):cg .i64 1 (k:Int)=((2 ^ k:Nat):Int):=by
 show IntKind.i64.wrap (1*2 ^ min (k:Int).toNat 64)=_;rw[QV,show min k 64=k from Nat.min_eq_left (by omega),Int.one_mul]
 have:=Bu (2 ^ k) (Nat.pow_lt_pow_right (by omega) (by omega))
 simpa using this
theorem Rp(a k:Nat)(h:k<=60):cm .i64 (a:Int) (k:Int)=((a>>>k:Nat):Int):=by
 show(a:Int).fdiv (2 ^ min (k:Int).toNat 64)=_;rw[QV,show min k 64=k from Nat.min_eq_left (by omega),Nat.shiftRight_eq_div_pow]
 grind
theorem ct{σ ρ:Type}{step:σ->Option (σ⊕ρ)}{s:σ}{r:ρ}(h:step s=some (.inr r)):ax step s=some r:=by rw[jJ,h]
theorem cD{σ ρ:Type}{step:σ->Option (σ⊕ρ)}{s s':σ}(h:step s=some (.inl s')):ax step s=ax step s':=by rw[jJ,h]
theorem WO{σ ρ:Type}{step:σ->Option (σ⊕ρ)}{s:σ}(h:step s=none):ax step s=none:=by rw[jJ,h]
theorem Yd.loop{σ ρ:Type}{step:σ->Option (σ⊕ρ)}{s:σ}{p:ρ->Prop}(h:Yd (step s) fun y=>match y with| .inl s'=>Yd (ax step s') p| .inr r=>p r):Yd (ax step s) p:=by
 obtain⟨y,h1,h2⟩:=h
 cases y with
 |inl s'=>rw[cD h1];exact h2
 |inr r=>exact⟨r,ct h1,h2⟩
theorem Yd.join{σ ρ:Type}{j:σ->Option ρ}{f:(σ->Option ρ)->Option ρ}{p:ρ->Prop}(inv:σ->Prop)(h1:∀v,inv v->Yd (j v) p)(h2:∀j':σ->Option ρ,(∀v,inv v->Yd (j' v) p)->Yd (f j') p):Yd (bb j f) p:=h2 j h1
theorem Yd.inr{σ ρ:Type}{o:Option ρ}{p:σ⊕ρ->Prop}(h:Yd o fun r=>p (.inr r)):Yd (Option.map Sum.inr o) p:=h.map
def ew{α σ ρ:Type}(g:α->σ->Option (σ⊕ρ))(fin:σ->Option ρ):List α->σ->Option ρ
 |[],s=>fin s
 |x::l,s=>match g x s with
  |none=>none
  |some (.inr r)=>some r
  |some (.inl s')=>ew g fin l s'
theorem WQ{α σ τ ρ:Type}(l:List α)(mk:Int->σ->τ){step:τ->Option (τ⊕ρ)}(g:α->σ->Option (σ⊕ρ))(fin:σ->Option ρ)
  (h1:∀(i:Nat) (x:α) (s:σ),i<l.length->l[i]?=some x->step (mk i s)=match g x s with|none=>none|some (.inr r)=>some (.inr r)|some (.inl s')=>some (.inl (mk (i+1:Nat) s')))
  (h2:∀s,step (mk l.length s)=(fin s).map Sum.inr) (s:σ):ax step (mk 0 s)=ew g fin l s:=by
 suffices h:∀(k:Nat) (i:Nat) (s:σ),i+k=l.length->ax step (mk i s)=ew g fin (l.drop i) s by
  have:=h l.length 0 s (by omega)
  simpa using this
 intro k
 induction k with
 |zero=>
  intro i s hi;obtain rfl:i=l.length:=by omega
  rw[Qq65,ew,jJ,h2];cases fin s<;>rfl
 |succ k ih=>
  intro i s hi;have hlt:i<l.length:=by omega
  rw[QM hlt,ew,jJ,h1 i l[i] s hlt (Qv hlt)]
  cases hg:g l[i] s with
  |none=>rfl
  |some y=>
   cases y with
   |inr r=>rfl
   |inl s'=>exact ih (i+1) s' (by omega)
theorem gJ{α σ τ ρ:Type}(l:List α)(hl:l.length<=9223372036854775807)(mk:Int->σ->τ){step:τ->Option (τ⊕ρ)}(g:α->σ->Option (σ⊕ρ))(fin:σ->Option ρ)
  (h1:∀(i:Nat) (x:α) (s:σ),decide ((i:Int)<(l.length:Int))=true->idx l (i:Int)=some x->aq .i64 (i:Int) 1=((i+1:Nat):Int)->step (mk i s)=match g x s with|none=>none|some (.inr r)=>some (.inr r)|some (.inl s')=>some (.inl (mk (i+1:Nat) s')))
  (h2:∀s,decide ((l.length:Int)<(l.length:Int))=false->step (mk l.length s)=(fin s).map Sum.inr) (s:σ):ax step (mk 0 s)=ew g fin l s:=
 WQ l mk g fin (fun i x s hi hx=>h1 i x s (Qg (Int.ofNat_lt.2 hi)) (by rw[aP];exact hx) (bN (by omega) (by omega))) (fun s=>h2 s (Qh (Qq63 _))) s
end Go.TQ
namespace Go.Proofs.YtgjpkadjihpddaaGreat
open Go.TQ
section
def gY:ByteArray:=⟨#[]⟩
def aT(b:ai):Bool:=decide (b.ah=0)&&decide (b.Value=gY)
def dS(a b:ByteArray):Bool:=if a.size=b.size then jV a b else decide (a.size<b.size)
def bD(a b:ai):Bool:=if a.ah=b.ah then dS a.Value b.Value else decide (a.ah<b.ah)
def cI(a b:ai):Bool:=decide (a.Value=b.Value)
def km(p b:ai):Bool:= !aT p&&cI p b&&decide (b.ah<=p.ah)
def dY(p q b:ai):Bool:=km p b||km q b||(!aT q&&bD b q)
def eS(p b:ai):Bool:= !aT p&& !cI p b&&bD b p
def dB(b:ai):Bool:=(decide (1<=b.ah)&&decide (b.ah<=1000)||decide (b.ah=1000000))&&decide (1<=b.Value.size)&&decide (b.Value.size<=200)
theorem O5:∀x:List UInt8,Op.bytesLess x x=false
 |[]=>rfl
 |a::l=>by simp[Op.bytesLess,O5 l]
theorem TP:∀{x y:List UInt8},x≠y->Op.bytesLess x y=true\/Op.bytesLess y x=true
 |[],[],h=>absurd rfl h
 |[],_::_,_=> .inl rfl
 |_::_,[],_=> .inr rfl
 |a::l,b::m,h=>by
  simp only[Op.bytesLess]
  by_cases hab:a=b
  ·subst hab;have:l≠m:=fun e=>h (by rw[e])
   simpa using TP this
  ·rcases Nat.lt_or_gt_of_ne (fun e=>hab (UInt8.toNat_inj.1 e))with h1|h1
   ·have h2:a<b:=h1;simp[h2]
   ·have h2:b<a:=h1;simp[h2]
theorem Ro(a:ByteArray):jV a a=false:=O5 _
@[simp] theorem qx (b:ai):dF b=some (aT b):=by unfold dF aT;rw[CV];rfl
@[simp] theorem dy (b:ai):bI b=some (aT b):=by unfold bI aT;rw[CV];rfl
@[simp] theorem oG (a b:ai):fC a b=some (cI a b):=rfl
@[simp] theorem fS (a b:ai):cO a b=some (cI a b):=rfl
@[simp] theorem wX (b:ai):iS b=some (dB b):=by
 have h1:decide ((1:Int)<=(b.Value.size:Nat))=decide (1<=b.Value.size):=by rw[decide_eq_decide];omega
 have h2:decide (((b.Value.size:Nat):Int)<=200)=decide (b.Value.size<=200):=by rw[decide_eq_decide];omega
 simp only[iS,dB,h1,h2,uk,Qa,Bool.cond_false_right,Bool.cond_true_left]
@[simp] theorem HJ (b:ai):kJ b=some (dB b):=wX b
@[simp] theorem yu (a b:ByteArray):mS a b=some (dS a b):=by
 simp only[mS,dS,VR,Int.ofNat_inj,Int.ofNat_lt,Ip,E8]
@[simp] theorem jo (a b:ai):eZ a b=some (bD a b):=by
 simp[eZ,bD,Ip,E8]
@[simp] theorem AW (a b:ai):lz a b=some (km a b):=by simp[lz,km]
@[simp] theorem X0 (a b:ai):oa a b=some (km a b):=by simp[oa,km]
@[simp] theorem s8 (p q b:ai):iJ p q b=some (dY p q b):=by simp[iJ,dY]
@[simp] theorem AX (p b:ai):fT p b=some (eS p b):=by simp[fT,eS]
def vA(a b:Int):Int:=if a<b then -1 else if b<a then 1 else 0
def TJ(a b:ByteArray):Int:=if jV a b then -1 else if jV a b||decide (a=b)then 0 else 1
def DT:List Int->Int
 |[]=>0
 |x::l=>if x=0 then DT l else x
@[simp] theorem sf (a b:Int):db a b=some (vA a b):=by
 simp[db,tL,vA,Ip,E8]
@[simp] theorem Ud (a b:ByteArray):kI a b=some (TJ a b):=by
 simp only[kI,pG,TJ];cases h1:jV a b<;>by_cases h2:a=b<;>simp[h2]
theorem yD(l:List Int)(hl:l.length<=1000000):iO l=some (DT l):=by
 unfold iO;rw[gJ l (by omega) (fun i (_:Unit)=>(i,())) (fun x _=>some (if x=0 then .inl ()else .inr x)) (fun _=>some 0) (fun i x s hd hx hw=> ?_) (fun s hd=> ?_) ()]
 ·induction l with
  |nil=>rfl
  |cons x l ih=>
   grind [ew,DT]
 ·grind
 ·simp only[hd,Ql]
@[simp] theorem KO (a b:Int):iO [a,b]=some (if a=0 then b else a):=by
 rw[yD _ (by simp)]
 simp only[DT]
 by_cases h:a=0<;>by_cases h':b=0<;>simp[h,h']
def Fj(a b:ByteArray):Int:=if vA a.size b.size=0 then TJ a b else vA a.size b.size
def Xr(a b:ai):Int:=if vA a.ah b.ah=0 then Fj a.Value b.Value else vA a.ah b.ah
@[simp] theorem PO (a b:ByteArray):kZ a b=some (Fj a b):=by simp[kZ,Fj]
@[simp] theorem XV (a b:ai):qy a b=some (Xr a b):=by simp[qy,Xr]
theorem ui(a b:Int):vA a b=0↔a=b:=by unfold vA;split<;>(try split)<;>omega
theorem B4(a b:Int):vA a b<0↔a<b:=by unfold vA;split<;>(try split)<;>omega
theorem abf(a b:ByteArray):TJ a b<0↔jV a b=true:=by
 grind [TJ]
theorem TI(a b:ByteArray):decide (Fj a b<0)=dS a b:=by
 grind [Fj,dS,ui,abf,B4]
theorem abh(a b:ai):decide (Xr a b<0)=bD a b:=by
 grind [Xr,bD,ui,TI,B4]
@[simp] theorem I5 (a b:ai):nF a b=some (bD a b):=by simp[nF,abh]
@[simp] theorem xk (p q b:ai):mi p q b=some (dY p q b):=by simp[mi,dY]
@[simp] theorem F4 (p b:ai):jN p b=some (eS p b):=by simp[jN,eS]
def finite(b:ai):Bool:=dB b&&decide (b.ah<=1000)
@[simp] theorem Ei (b:ai):mg b=some (finite b):=by simp[mg,finite]
@[simp] theorem Cr (b:ai):kH b=some (aT b||dB b):=by simp[kH]
@[simp] theorem I4 (e:aj) (n:Int):vn e n=some ⟨n,e.af.Value⟩:=rfl
end
section
theorem Ej{rec:(aa×Unit)->Option Int}{t:aa}(hl:t.aG.length<=9223372036854775807):
  fM rec t=ew (fun u m=>(rec (u,())).map fun r=> .inl (bP m r)) (fun m=>some (aq .i64 m 1)) t.aG 0:=by
 unfold fM;rw[gJ t.aG hl (fun i (m:Int)=>(m,i,())) (fun u m=>(rec (u,())).map fun r=> .inl (bP m r)) (fun m=>some (aq .i64 m 1)) (fun i x s hd hx hw=> ?_) (fun s hd=> ?_) 0]
 ·simp only[hd,hx,hw,Qk,Qa,etas];cases rec (x,())<;>rfl
 ·simp only[hd,Ql]
theorem HL{rec:(aa×Unit)->Option Int}{t:aa}(hl:t.aG.length<=9223372036854775807):
  gC rec t=ew (fun u m=>(rec (u,())).map fun r=> .inl (aq .i64 m r)) (fun m=>some m) t.aG (aq .i64 t.au.length t.aG.length):=by
 unfold gC;rw[gJ t.aG hl (fun i (m:Int)=>(m,i,())) (fun u m=>(rec (u,())).map fun r=> .inl (aq .i64 m r)) (fun m=>some m) (fun i x s hd hx hw=> ?_) (fun s hd=> ?_) (aq .i64 t.au.length t.aG.length)]
 ·simp only[hd,hx,hw,Qk,Qa,etas];cases rec (x,())<;>rfl
 ·simp only[hd,Ql]
theorem Ov(t:aa):AM t=gQ t:=rfl
theorem Rz(t:aa):Cl t=iG t:=rfl
def fl(x:Int):Bool:=decide (0<=x)&&decide (x<10)
def yY(s x:Int):Bool:=decide (0<=s)&&decide (s<1024)&&fl x&&s.toNat.testBit x.toNat
theorem Eg(s:Int):dz s=some (decide (0<=s)&&decide (s<1024)):=by
 have:cg .i64 1 10=1024:=mE 10 (by omega)
 simp[dz,kG,this]
theorem TY{s x:Int}(h1:0<=s)(h2:s<1024)(h3:0<=x)(h4:x<10):(bp .i64 s (cg .i64 1 x)=0)=(s.toNat.testBit x.toNat=false):=by
 obtain⟨n,rfl⟩:=Int.eq_ofNat_of_zero_le h1;obtain⟨j,rfl⟩:=Int.eq_ofNat_of_zero_le h3;have hj:2 ^ j<=2 ^ 10:=Nat.pow_le_pow_right (by omega) (by omega)
 rw[mE j (by omega),kv n (2 ^ j) (by omega) (by omega),aek]
 grind
@[simp] theorem lF (s x:Int):jF s x=some (yY s x):=by
 unfold jF yY fl;rw[Eg]
 by_cases h1:0<=s
 ·by_cases h2:s<1024
  ·by_cases h3:0<=x
   ·by_cases h4:x<10
    ·have h5:¬x<0:=by omega
     have:=TY h1 h2 h3 h4;simp[h1,h2,h3,h4,h5,this]
    ·simp[h1,h2,h3,h4]
   ·simp[h1,h2,h3]
  ·simp[h1,h2]
 ·simp[h1]
theorem Ui{s x:Int}(h1:0<=s)(h2:s<1024)(h3:0<=x)(h4:x<10):(bp .i64 (cm .i64 s x) 1=1)=(s.toNat.testBit x.toNat=true):=by
 obtain⟨n,rfl⟩:=Int.eq_ofNat_of_zero_le h1;obtain⟨j,rfl⟩:=Int.eq_ofNat_of_zero_le h3;have hle:n>>>j<=n:=by rw[Nat.shiftRight_eq_div_pow];exact Nat.div_le_self _ _
 rw[Rp n j (by omega),show(1:Int)=((1:Nat):Int)from rfl,kv _ 1 (by omega) (by omega)]
 simp only[QV,Int.ofNat_inj,Nat.testBit,eq_iff_iff];rw[Nat.and_comm];simp
@[simp] theorem jQ (s x:Int):iT s x=some (yY s x):=by
 unfold iT dh yY fl
 by_cases h1:0<=s
 ·by_cases h2:s<1024
  ·have h2':s<=1023:=by omega
   by_cases h3:0<=x
   ·by_cases h4:x<10
    ·have h5:¬x<0:=by omega
     have:=Ui h1 h2 h3 h4;simp[h1,h2,h2',h3,h4,h5,this]
    ·simp[h1,h2,h2',h3,h4]
   ·simp[h1,h2,h2',h3]
  ·have h2':¬s<=1023:=by omega
   simp[h1,h2,h2']
 ·simp[h1]
theorem qF{s:Nat}{x:Int}(h1:s<1024)(h3:0<=x)(h4:x<10):ka .i64 (s:Int) (cg .i64 1 x)=((s|||2 ^ x.toNat:Nat):Int):=by
 obtain⟨j,rfl⟩:=Int.eq_ofNat_of_zero_le h3;have hj:2 ^ j<=2 ^ 9:=Nat.pow_le_pow_right (by omega) (by omega)
 rw[mE j (by omega)]
 exact H5 s (2 ^ j) (by omega) (by omega)
theorem EM{s:Nat}{x:Int}(h1:s<1024)(h4:x<10):s|||2 ^ x.toNat<1024:=by
 have hj:2 ^ x.toNat<=2 ^ 9:=Nat.pow_le_pow_right (by omega) (by omega)
 exact Nat.or_lt_two_pow (n:=10) h1 (by omega)
def td(s:Nat):List Int->Int×Int×Unit
 |[]=>(s,0,())
 |x::l=>if fl x then(if s.testBit x.toNat then(0,6,())else td (s|||2 ^ x.toNat) l)else(0,5,())
theorem Vd(g:Int->Int->Option (Int⊕(Int×Int×Unit)))
  (hg:∀x (s:Nat),s<1024->g x s=some (if fl x then(if s.testBit x.toNat then .inr (0,6,())else .inl ((s|||2 ^ x.toNat:Nat):Int))else .inr (0,5,()))):
  ∀(l:List Int) (s:Nat),s<1024->ew g (fun s=>some (s,0,())) l s=some (td s l)
 |[],s,_=>rfl
 |x::l,s,hs=>by
  rw[ew,hg x s hs,td]
  cases h1:fl x with
  |false=>simp
  |true=>
   cases h2:s.testBit x.toNat with
   |true=>simp
   |false=>
    simp only[Qt,Qq,Qu];have h3:x<10:=by simp[fl]at h1;omega
    exact Vd g hg l _ (EM hs h3)
theorem C4(l:List Int)(hl:l.length<=9223372036854775807):q8 l=some (td 0 l):=by
 unfold q8;rw[gJ l hl (fun i (s:Int)=>(s,i,())) (fun x s=>if fl x then(if yY s x then some (.inr (0,6,()))else some (.inl (ka .i64 s (cg .i64 1 x))))else some (.inr (0,5,()))) (fun s=>some (s,0,())) (fun i x s hd hx hw=> ?_) (fun s hd=> ?_) 0]
 ·refine Vd _ (fun x s hs=> ?_) l 0 (by omega)
  grind [fl,yY,qF]
 ·grind [lF,fl,yY]
 ·simp only[hd,Ql]
theorem PM(l:List Int)(hl:l.length<=9223372036854775807):yB l=some (td 0 l):=by
 have:yB l=q8 l:=by
  unfold yB q8;simp only[jQ,lF]
 rw[this,C4 l hl]
@[simp] theorem vY (x:Int):k9 x=some (!fl x):=by simp[k9,nV,fl]
theorem I6(l:List Int)(hl:l.length<=9223372036854775807):fK l=some (l.any fun x=> !fl x):=by
 have key:∀(i:Nat) (k:Nat),i+k=l.length->Yd (ax (fun(v1:Int×Unit)=>bif (decide (v1.1<((List.length l:Nat):Int)))then Option.bind (idx l v1.1) fun x2=>Option.bind (k9 x2) fun r3=>bif r3 then Option.map Sum.inr (some v1.1)else some (Sum.inl ((aq .i64 v1.1 (1:Int)),()))else Option.map Sum.inr (some (-1:Int))) ((i:Int),())) fun r=>decide (0<=r)=(l.drop i).any fun x=> !fl x:=by
  intro i k
  induction k generalizing i with
  |zero=>
   intro hi;refine⟨-1,ct ?_,?_⟩
   ·grind
   ·rw[List.drop_eq_nil_of_le (by omega)];rfl
  |succ k ih=>
   intro hi;have hlt:i<l.length:=by omega
   have hd:decide ((i:Int)<(l.length:Int))=true:=Qg (Int.ofNat_lt.2 hlt);have hx:idx l (i:Int)=some l[i]:=by rw[aP];exact Qv hlt
   have hw:aq .i64 (i:Int) 1=((i+1:Nat):Int):=bN (by omega) (by omega)
   rw[QM hlt,List.any_cons]
   cases h:fl l[i]with
   |true=>
    rw[cD (s':=(((i+1:Nat):Int),())) (by simp only[hd,hx,hw,Qk,Qa,vY,h];rfl)]
    exact(ih (i+1) (by omega)).mono fun r hr=>by simpa using hr
   |false=>
    refine⟨i,ct (by simp only[hd,hx,Qk,Qa,vY,h];rfl),?_⟩
    simp
 obtain⟨r,h1,h2⟩:=key 0 l.length (by omega)
 unfold fK jY;simp only[Int.natCast_zero]at h1;rw[h1];simpa using h2
def oU(rec:aa->Option Int)(t:aa):Option Int:=
 if t.ar<1\/aq .i64 t.au.length t.aG.length<t.ar then some 4
 else if(t.au.any fun x=> !fl x)then some 5
 else if(td 0 t.au).2.1=0 then ew (fun u (_:Unit)=>(rec u).map fun r=>if r=0 then .inl ()else .inr r) (fun _=>some 0) t.aG ()
 else some (td 0 t.au).2.1
theorem zy{rec:(aa×Unit)->Option Int}{t:aa}(hn:t.au.length<=9223372036854775807)(hl:t.aG.length<=9223372036854775807):eK rec t=oU (fun u=>rec (u,())) t:=by
 unfold eK oU;rw[I6 _ hn,C4 _ hn];rw[gJ t.aG hl (fun i (_:Unit)=>(i,())) (fun u (_:Unit)=>(rec (u,())).map fun r=>if r=0 then .inl ()else .inr r) (fun _=>some 0) (fun i x s hd hx hw=> ?_) (fun s hd=> ?_) ()]
 ·grind
 ·simp only[hd,hx,hw,Qk,Qa,etas]
  cases rec (x,())with
  |none=>rfl
  |some r=>by_cases h:r=0<;>simp[h]
 ·simp only[hd,Ql]
theorem N9{rec:(aa×Unit)->Option Int}{t:aa}(hn:t.au.length<=9223372036854775807)(hl:t.aG.length<=9223372036854775807):mN rec t=oU (fun u=>rec (u,())) t:=by
 unfold mN oU;rw[gJ t.au hn (fun i (_:Unit)=>(i,())) (fun x (_:Unit)=>some (if fl x then .inl ()else .inr 5)) (fun _=>if(td 0 t.au).2.1=0 then ew (fun u (_:Unit)=>(rec (u,())).map fun r=>if r=0 then .inl ()else .inr r) (fun _=>some 0) t.aG ()else some (td 0 t.au).2.1) (fun i x s hd hx hw=> ?_) (fun s hd=> ?_) ()]
 ·by_cases h1:t.ar<1
  ·simp[h1]
  ·by_cases h2:aq .i64 t.au.length t.aG.length<t.ar
   ·simp[h1,h2]
   ·simp only[h1,h2,decide_false,Ql,Qa,or_self,Qu]
    have:∀(l:List Int) (fin:Unit->Option Int),ew (fun x (_:Unit)=>some (if fl x then .inl ()else .inr 5)) fin l ()=if(l.any fun x=> !fl x)then some 5 else fin ():=by
     intro l fin
     induction l with
     |nil=>rfl
     |cons x l ih=>
      grind [ew,fl]
    exact this _ _
 ·grind [fl]
 ·simp only[hd,Ql];rw[PM _ hn,Qa];rw[gJ t.aG hl (fun i (_:Unit)=>(i,())) (fun u (_:Unit)=>(rec (u,())).map fun r=>if r=0 then .inl ()else .inr r) (fun _=>some 0) (fun i x s hd hx hw=> ?_) (fun s hd=> ?_) ()]
  ·grind
  ·simp only[hd,hx,hw,Qk,Qa,etas]
   cases rec (x,())with
   |none=>rfl
   |some r=>by_cases h:r=0<;>simp[h]
  ·simp only[hd,Ql]
structure cn (t:aa):Prop where
 nodes:∀x∈t.au,0<=x/\x<10
 nodup:t.au.Nodup
 len:t.au.length<=10
 inner:t.aG=[]\/∃x,0<=x/\x<10/\t.aG=[⟨1,[x],[]⟩]
 th:1<=t.ar/\t.ar<=t.au.length+t.aG.length
theorem A9:∀(l:List Int) (s:Nat),(∀x∈l,0<=x/\x<10)->l.Nodup->(∀x∈l,s.testBit x.toNat=false)->(td s l).2.1=0
 |[],s,_,_,_=>rfl
 |x::l,s,h1,h2,h3=>by
  rw[List.nodup_cons]at h2;have hx:=h1 x (by simp)
  have:fl x=true:=by simp[fl];omega
  rw[td,this,h3 x (by simp)]
  simp only[Qt,Qq,Qu];refine A9 l _ (fun y hy=>h1 y (by simp[hy])) h2.2 fun y hy=> ?_
  have hy1:=h1 y (by simp[hy])
  rw[Nat.testBit_or,h3 y (by simp[hy]),Nat.testBit_two_pow]
  have:x.toNat≠y.toNat:=fun e=>by
   have:x=y:=by omega
   subst this;exact h2.1 hy
  simp[this]
theorem KM{l:List Int}(h:∀x∈l,0<=x/\x<10):(l.any fun x=> !fl x)=false:=by
 grind [fl]
theorem De{rec:aa->Option Int}{x:Int}(h0:0<=x)(h1:x<10):oU rec ⟨1,[x],[]⟩=some 0:=by
 have h2:aq .i64 (1:Nat) (0:Nat)=1:=rfl
 grind [td,A9,fl,KM,oU,ew]
theorem EW{t:aa}(h:cn t){rec:aa->Option Int}(hr:∀x,0<=x->x<10->rec ⟨1,[x],[]⟩=some 0):oU rec t=some 0:=by
 have hil:t.aG.length<=1:=by rcases h.inner with e|⟨x,_,_,e⟩<;>rw[e]<;>simp
 have hlen:=h.len;have h2:aq .i64 t.au.length t.aG.length=t.au.length+t.aG.length:=bN (by omega) (by omega)
 have h3:(td 0 t.au).2.1=0:=A9 _ 0 h.nodes h.nodup (by simp)
 have h4:=KM h.nodes;have h5:=h.th;unfold oU;rw[h2,Qs (by omega),h4,h3]
 simp only[Qq,Qu,Qt];rcases h.inner with e|⟨x,hx0,hx1,e⟩
 ·rw[e];rfl
 ·rw[e,ew,hr x hx0 hx1];rfl
theorem F9(t:aa):∃n,SizeOf.sizeOf t=n+1:=by
 have:1<=SizeOf.sizeOf t:=by
  cases t;simp only[aa.mk.sizeOf_spec];omega
 exact⟨SizeOf.sizeOf t - 1,by omega⟩
theorem ML(n:Nat)(th:Int)(l:List Int):gP (n+1) (⟨th,l,[]⟩,())=some 1:=by
 show fM _ _=_;rw[Ej (by simp)]
 rfl
theorem size_leaf(n:Nat)(th:Int)(l:List Int):iF (n+1) (⟨th,l,[]⟩,())=some (aq .i64 l.length (0:Nat)):=by
 show gC _ _=_;rw[HL (by simp)]
 rfl
theorem MM{t:aa}(h:cn t):∃d,gQ t=some d/\d<=2:=by
 obtain⟨n,hn⟩:=F9 t;have hil:t.aG.length<=1:=by rcases h.inner with e|⟨x,_,_,e⟩<;>rw[e]<;>simp
 unfold gQ;rw[hn];show∃d,fM (gP (n+1)) t=some d/\d<=2;rw[Ej (by omega)]
 rcases h.inner with e|⟨x,_,_,e⟩
 ·rw[e];exact⟨1,rfl,by omega⟩
 ·rw[e,ew,ML n 1 [x]];exact⟨2,rfl,by omega⟩
theorem Og{t:aa}(h:cn t):∃d,iG t=some d/\d<=200:=by
 obtain⟨n,hn⟩:=F9 t;have hil:t.aG.length<=1:=by rcases h.inner with e|⟨x,_,_,e⟩<;>rw[e]<;>simp
 have hlen:=h.len;unfold iG;rw[hn];show∃d,gC (iF (n+1)) t=some d/\d<=200;rw[HL (by omega),bN (by omega) (by omega)]
 rcases h.inner with e|⟨x,_,_,e⟩
 ·rw[e];exact⟨_,rfl,by simp;omega⟩
 ·rw[e,ew,size_leaf n 1 [x]];have h1:aq .i64 (([x]:List Int).length:Nat) (0:Nat)=1:=rfl;rw[h1];refine⟨_,rfl,?_⟩
  grind [bN]
theorem lS{t:aa}(h:cn t):bW t=some 0:=by
 obtain⟨d,h1,h2⟩:=MM h;obtain⟨z,h3,h4⟩:=Og h;obtain⟨n,hn⟩:=F9 t;have hil:t.aG.length<=1:=by rcases h.inner with e|⟨x,_,_,e⟩<;>rw[e]<;>simp
 have hlen:=h.len
 have h5:ji t=some 0:=by
  unfold ji;rw[hn];show eK (dn (n+1)) t=some 0;rw[zy (by omega) (by omega)]
  refine EW h fun x hx0 hx1=> ?_
  show eK (dn n) ⟨1,[x],[]⟩=some 0
  grind [zy,De]
 have h6:¬4<d:=by omega
 have h7:¬200<z:=by omega
 simp[bW,h1,h3,h5,h6,h7]
theorem gl{t:aa}(h:cn t):cy t=some 0:=by
 obtain⟨d,h1,h2⟩:=MM h;obtain⟨z,h3,h4⟩:=Og h;obtain⟨n,hn⟩:=F9 t;have hil:t.aG.length<=1:=by rcases h.inner with e|⟨x,_,_,e⟩<;>rw[e]<;>simp
 have hlen:=h.len
 have h5:sM t=some 0:=by
  unfold sM;rw[hn];show mN (oM (n+1)) t=some 0;rw[N9 (by omega) (by omega)]
  refine EW h fun x hx0 hx1=> ?_
  show mN (oM n) ⟨1,[x],[]⟩=some 0
  grind [N9,De]
 have h6:¬4<d:=by omega
 have h7:¬200<z:=by omega
 simp[cy,Ov,Rz,h1,h3,h5,h6,h7]
end
section
structure gO (s:cv):Prop where
 len:s.L.length<=800
 lo:0<=s.At
 hi:s.At<=800
theorem af2(l:List Int):Yd (Bp l) fun s=>gO s:=by
 have h:fm (l.length:Int) 800=((min l.length 800:Nat):Int):=by unfold fm;split<;>omega
 have h2:eA 0 ((min l.length 800:Nat):Int) l.length=true:=by
  grind [eA]
 unfold Bp;rw[h,h2];refine Yd.some ⟨?_,by simp,by simp⟩
 grind
theorem acB(x n:Int)(hn:1<=n): -n<x.tmod n/\x.tmod n<n:=by
 have h2:=Int.emod_nonneg x (show n≠0 by omega)
 have h3:=Int.emod_lt_of_pos x (show 0<n by omega)
 rw[Int.tmod_eq_emod];split
 ·omega
 ·rw[Int.natAbs_of_nonneg (by omega)];omega
theorem jy{s:cv}(h:gO s){n:Int}(hn:n<=1000000000):Yd (bA s n) fun p=>gO p.2/\0<=p.1/\(1<=n->p.1<n)/\(n<1->p.1=0):=by
 unfold bA;simp only[bc];refine Yd.cond (fun h1=> ?_) (fun h1=> ?_)
 ·grind [Yd.some]
 ·simp only[Qj,Int.not_le]at h1;refine Yd.cond (fun h2=> ?_) (fun h2=> ?_)
  ·grind [Yd.some]
  ·simp only[Qj,Int.not_lt]at h2;obtain⟨hl,hlo,hhi⟩:=h;have e1:aq .i64 s.At 1=s.At+1:=bN (by omega) (by omega)
   have e2:da .i64 (s.At+1) 1=s.At:=by rw[jA (by omega) (by omega)];omega
   rw[e1,e2];have hlt:s.At.toNat<s.L.length:=by omega
   rw[Mw _ hlo,Qv hlt,Qa,Qs (by omega),Qs (by omega)]
   have hb:=acB s.L[s.At.toNat] n h2;have e3:Wi .i64 s.L[s.At.toNat] n=s.L[s.At.toNat].tmod n:=rfl;rw[e3];generalize s.L[s.At.toNat].tmod n=y at hb;have e4:aq .i64 y n=y+n:=bN (by omega) (by omega)
   rw[e4];have h5:Wi .i64 (y+n) n=(y+n) % n:=Int.tmod_eq_emod_of_nonneg (by omega)
   rw[h5];exact Yd.some ⟨⟨hl,by simp;omega,by simp;omega⟩,Int.emod_nonneg _ (by omega),fun _=>Int.emod_lt_of_pos _ (by omega),fun _=>by omega⟩
theorem mH{s:cv}(h:gO s){a b:Int}(h1:0<=a)(h2:a<=b+1)(h3:b<=1000000):Yd (cQ s a b) fun p=>gO p.2/\a<=p.1/\(a<=b->p.1<=b)/\(b<a->p.1=a):=by
 unfold cQ;have e1:da .i64 b a=b - a:=jA (by omega) (by omega)
 have e2:aq .i64 (b - a) 1=b - a+1:=bN (by omega) (by omega)
 rw[e1,e2];refine(jy h (by omega)).bind fun p ⟨h4,h5,h6,h7⟩=> ?_
 grind [aq,bN,Yd.some]
theorem VY{s:cv}(h:gO s){l:List ByteArray}(h1:1<=l.length)(h2:l.length<=1000):Yd (mA s l) fun p=>gO p.2/\p.1∈l:=by
 unfold mA;refine(jy h (by omega)).bind fun p ⟨h4,h5,h6,_⟩=> ?_
 grind [Mw,Yd.some]
def Pb(v:ByteArray):Prop:=v∈[(ByteArray.mk #[97]),(ByteArray.mk #[98]),(ByteArray.mk #[99]),(ByteArray.mk #[97,97])]
theorem Pb.size{v:ByteArray}(h:Pb v):1<=v.size/\v.size<=2:=by
 simp only[Pb,QA,QR,or_false]at h;rcases h with rfl|rfl|rfl|rfl<;>exact⟨by decide,by decide⟩
theorem Cc{s:cv}(h:gO s):Yd (iM s) fun p=>gO p.2/\Pb p.1:=by
 unfold iM;exact(VY h (by simp) (by simp)).bind fun p hp=>Yd.some hp
theorem ZZ{s:cv}(h:gO s):Yd (q7 s) fun p=>gO p.2/\1<=p.1.ah/\p.1.ah<=6/\Pb p.1.Value:=by
 unfold q7;refine(mH h (by omega) (by omega) (by omega)).bind fun p ⟨h1,h2,h3,_⟩=> ?_
 refine(Cc h1).bind fun q ⟨h4,h5⟩=> ?_
 exact Yd.some ⟨h4,h2,h3 (by omega),h5⟩
theorem KN{s:cv}(h:gO s){n:Nat}(hn1:1<=n)(hn:n<=10):Yd (lB s n) fun p=>gO p.2/\cn p.1/\(∀x∈p.1.au,x<n)/\p.1.au≠[]:=by
 unfold lB;simp only[bc]
 let I (i:Nat) (s:cv) (t:aa) (ns:List Int) (is:List aa):Prop:=gO s/\t.ar=0/\(∀x∈ns,0<=x/\x<i)/\ns.Nodup/\ns.length<=i/\is=[]
 suffices key:∀(k i:Nat) (s:cv) (t:aa) (ns:List Int) (is:List aa),i+k=n->I i s t ns is->Yd (ax _ ((i:Int),s,t,ns,is,())) _ from key n 0 s _ _ _ (by omega) ⟨h,rfl,by simp,by simp,by simp,rfl⟩
 intro k
 induction k with
 |zero=>
  intro i s t ns is hi ⟨h1,h2,h3,h4,h5,h6⟩;obtain rfl:i=n:=by omega
  subst h6;have hd:decide ((i:Int)<(i:Int))=false:=Qh (Qq63 _);refine Yd.loop ?_;simp only[hd,Ql];refine Yd.inr ?_
  have fin:∀(s:cv) (ns:List Int) (is:List aa) (th:Int),gO s->(∀x∈ns,0<=x/\x<i)->ns.Nodup->ns.length<=10->ns≠[]->(is=[]\/∃x,0<=x/\x<10/\is=[⟨1,[x],[]⟩])->1<=th->th<=ns.length+is.length->
    gO s/\cn ⟨th,ns,is⟩/\(∀x∈ns,x<(i:Int))/\ns≠[]:=by
   intro s ns is th a1 a2 a3 a4 a5 a6 a7 a8;exact⟨a1,⟨fun x hx=>by have:=a2 x hx;exact⟨this.1,by omega⟩,a3,a4,a6,a7,a8⟩,fun x hx=>(a2 x hx).2,a5⟩
  have tail:∀(s:cv) (ns:List Int) (is:List aa),gO s->(∀x∈ns,0<=x/\x<i)->ns.Nodup->ns.length<=10->ns≠[]->(is=[]\/∃x,0<=x/\x<10/\is=[⟨1,[x],[]⟩])->
    Yd (Option.bind (cQ s (JM .i64 (aq .i64 (aq .i64 ((List.length ns:Nat):Int) ((List.length is:Nat):Int)) (1:Int)) (2:Int)) (aq .i64 ((List.length ns:Nat):Int) ((List.length is:Nat):Int))) fun p9=>
     Option.bind (bA p9.2 (6:Int)) fun p12=>
     bif (decide (p12.1=(5:Int)))then some ((aa.mk (1:Int) ns is),p12.2)else some ((aa.mk p9.1 ns is),p12.2)) fun p=>gO p.2/\cn p.1/\(∀x∈p.1.au,x<(i:Int))/\p.1.au≠[]:=by
   intro s ns is a1 a2 a3 a4 a5 a6;have hp:1<=ns.length:=by cases ns with|nil=>exact absurd rfl a5|cons x l=>simp
   have hil:is.length<=1:=by rcases a6 with e|⟨x,_,_,e⟩<;>rw[e]<;>simp
   have e1:aq .i64 ((List.length ns:Nat):Int) ((List.length is:Nat):Int)=ns.length+is.length:=bN (by omega) (by omega)
   have e2:aq .i64 ((ns.length:Int)+is.length) 1=ns.length+is.length+1:=bN (by omega) (by omega)
   have e3:JM .i64 ((ns.length:Int)+is.length+1) 2=(ns.length+is.length+1) / 2:=by
    show IntKind.i64.wrap (Int.tdiv _ _)=_;rw[Int.tdiv_eq_ediv_of_nonneg (by omega)]
    exact wrap64 (by omega) (by omega)
   rw[e1,e2,e3];refine(mH a1 (by omega) (by omega) (by omega)).bind fun p ⟨b1,b2,b3,_⟩=> ?_
   refine(jy b1 (by omega)).bind fun q ⟨c1,_⟩=> ?_
   have b4:=b3 (by omega)
   refine Yd.cond (fun _=>Yd.some (fin q.2 ns is 1 c1 a2 a3 a4 a5 a6 (by omega) (by omega))) (fun _=>Yd.some (fin q.2 ns is p.1 c1 a2 a3 a4 a5 a6 (by omega) (by omega)))
  have mid:∀(s:cv) (ns:List Int),gO s->(∀x∈ns,0<=x/\x<i)->ns.Nodup->ns.length<=10->ns≠[]->
    Yd (Option.bind (bA s (4:Int)) fun p13=>
     bif (decide (p13.1=(3:Int)))then
     Option.bind (bA p13.2 (i:Int)) fun p14=>
     bif aX 56 (List.length ([]:List aa)+List.length [(aa.mk (1:Int) [p14.1] ([]:List aa))])then
     (Option.bind (cQ p14.2 (JM .i64 (aq .i64 (aq .i64 ((List.length ns:Nat):Int) ((List.length (([]:List aa)++[(aa.mk (1:Int) [p14.1] ([]:List aa))]):Nat):Int)) (1:Int)) (2:Int)) (aq .i64 ((List.length ns:Nat):Int) ((List.length (([]:List aa)++[(aa.mk (1:Int) [p14.1] ([]:List aa))]):Nat):Int))) fun p9=>
     Option.bind (bA p9.2 (6:Int)) fun p12=>
     bif (decide (p12.1=(5:Int)))then some ((aa.mk (1:Int) ns (([]:List aa)++[(aa.mk (1:Int) [p14.1] ([]:List aa))])),p12.2)else some ((aa.mk p9.1 ns (([]:List aa)++[(aa.mk (1:Int) [p14.1] ([]:List aa))])),p12.2))
     else none
     else
     (Option.bind (cQ p13.2 (JM .i64 (aq .i64 (aq .i64 ((List.length ns:Nat):Int) ((List.length ([]:List aa):Nat):Int)) (1:Int)) (2:Int)) (aq .i64 ((List.length ns:Nat):Int) ((List.length ([]:List aa):Nat):Int))) fun p9=>
     Option.bind (bA p9.2 (6:Int)) fun p12=>
     bif (decide (p12.1=(5:Int)))then some ((aa.mk (1:Int) ns []),p12.2)else some ((aa.mk p9.1 ns []),p12.2))) fun p=>gO p.2/\cn p.1/\(∀x∈p.1.au,x<(i:Int))/\p.1.au≠[]:=by
   intro s ns a1 a2 a3 a4 a5;refine(jy a1 (by omega)).bind fun p ⟨b1,b2,b3,_⟩=> ?_
   refine Yd.cond (fun _=> ?_) (fun _=> ?_)
   ·refine(jy b1 (by omega)).bind fun q ⟨c1,c2,c3,_⟩=> ?_
    have c4:=c3 (by omega)
    rw[ba (by simp)]
    exact tail q.2 ns _ c1 a2 a3 a4 a5 (.inr ⟨q.1,c2,by omega,rfl⟩)
   ·exact tail p.2 ns [] b1 a2 a3 a4 a5 (.inl rfl)
  refine Yd.cond (fun hz=> ?_) (fun hz=> ?_)
  ·refine(jy h1 (by omega)).bind fun p ⟨b1,b2,b3,_⟩=> ?_
   have b4:=b3 (by omega)
   exact mid p.2 [p.1] b1 (by simp;omega) (by simp) (by simp) (by simp)
  ·grind
 |succ k ih=>
  intro i s t ns is hi ⟨h1,h2,h3,h4,h5,h6⟩;have hd:decide ((i:Int)<(n:Int))=true:=Qg (by omega)
  have hw:aq .i64 (i:Int) 1=((i+1:Nat):Int):=bN (by omega) (by omega)
  refine Yd.loop ?_;simp only[hd,Qk,hw];refine(jy h1 (by omega)).bind fun p ⟨b1,b2,b3,_⟩=> ?_
  refine Yd.cond (fun _=> ?_) (fun _=> ?_)
  ·rw[ba (by simp;omega)]
   refine Yd.some (ih (i+1) p.2 _ _ _ (by omega) ⟨b1,h2,?_,?_,by simp;omega,h6⟩)
   ·grind
   ·grind
  ·refine Yd.some (ih (i+1) p.2 _ _ _ (by omega) ⟨b1,h2,?_,h4,by omega,h6⟩)
   intro x hx;have:=h3 x hx;omega
end
section
inductive cJ:aa->Prop where
 |mk (t:aa) (h1:t.au.length<=1000000) (h2:t.aG.length<=1000000) (h3:∀u∈t.aG,cJ u):cJ t
theorem cJ.nodes{t:aa}:cJ t->t.au.length<=1000000| .mk _ h _ _=>h
theorem cJ.len{t:aa}:cJ t->t.aG.length<=1000000| .mk _ _ h _=>h
theorem cJ.inner{t:aa}:cJ t->∀u∈t.aG,cJ u| .mk _ _ _ h=>h
theorem iA{t u:aa}(h:u∈t.aG):SizeOf.sizeOf u<SizeOf.sizeOf t:=by
 have h1:=List.sizeOf_lt_of_mem h
 cases t with
 |mk th ns is=>
  grind
theorem cn.sm{t:aa}(h:cn t):cJ t:=by
 have:=h.len;refine .mk t (by omega) ?_ fun u hu=> ?_
 ·rcases h.inner with e|⟨x,_,_,e⟩<;>rw[e]<;>simp
 ·rcases h.inner with e|⟨x,_,_,e⟩
  ·rw[e]at hu;cases hu
  ·rw[e]at hu;simp only[Q4]at hu;subst hu;exact .mk _ (by simp) (by simp) (by simp)
@[simp] theorem abi (l:List Int) (h:l.length<=1000000):lT l=some l:=by
 unfold lT;rw[ba (by simp;omega)]
 cases l with
 |nil=>simp
 |cons x l=>simp
theorem zM{α σ ρ:Type}{g:α->σ->Option (σ⊕ρ)}{fin:σ->Option ρ}(hf:∀s,∃r,fin s=some r):∀(l:List α),(∀x∈l,∀s,∃y,g x s=some y)->∀s,∃r,ew g fin l s=some r
 |[],_,s=>hf s
 |x::l,h,s=>by
  obtain⟨y,hy⟩:=h x (by simp) s
  rw[ew,hy]
  cases y with
  |inr r=>exact⟨r,rfl⟩
  |inl s'=>exact zM hf l (fun x hx=>h x (by simp[hx])) s'
theorem Ju{α σ ρ:Type}{g g':α->σ->Option (σ⊕ρ)}{fin:σ->Option ρ}:∀(l:List α),(∀x∈l,∀s,g x s=g' x s)->∀s,ew g fin l s=ew g' fin l s
 |[],_,s=>rfl
 |x::l,h,s=>by
  rw[ew,ew,h x (by simp) s]
  cases g' x s with
  |none=>rfl
  |some y=>
   cases y with
   |inr r=>rfl
   |inl s'=>exact Ju l (fun x hx=>h x (by simp[hx])) s'
theorem Jz{n:Nat}:∀{t:aa},SizeOf.sizeOf t<n->cJ t->∃d,gP n (t,())=some d:=by
 induction n with
 |zero=>intro t h;omega
 |succ n ih=>
  intro t hs hm;show∃d,fM (gP n) t=some d;have hl:=hm.len;rw[Ej (by omega)]
  refine zM (fun s=>⟨_,rfl⟩) _ (fun u hu s=> ?_) _
  obtain⟨d,hd⟩:=ih (t:=u) (by have:=iA hu;omega) (hm.inner u hu)
  exact⟨_,by rw[hd];rfl⟩
theorem K4{n:Nat}:∀{t:aa},SizeOf.sizeOf t<n->cJ t->∃d,iF n (t,())=some d:=by
 induction n with
 |zero=>intro t h;omega
 |succ n ih=>
  intro t hs hm;show∃d,gC (iF n) t=some d;have hl:=hm.len;rw[HL (by omega)]
  refine zM (fun s=>⟨_,rfl⟩) _ (fun u hu s=> ?_) _
  obtain⟨d,hd⟩:=ih (t:=u) (by have:=iA hu;omega) (hm.inner u hu)
  exact⟨_,by rw[hd];rfl⟩
theorem GN{rec:aa->Option Int}{t:aa}(h:∀u∈t.aG,∃r,rec u=some r):∃r,oU rec t=some r:=by
 unfold oU;split
 ·exact⟨_,rfl⟩
 ·split
  ·exact⟨_,rfl⟩
  ·split
   ·refine zM (fun s=>⟨_,rfl⟩) _ (fun u hu s=> ?_) _
    obtain⟨r,hr⟩:=h u hu;exact⟨_,by rw[hr];rfl⟩
   ·exact⟨_,rfl⟩
theorem Si{rec rec':aa->Option Int}{t:aa}(h:∀u∈t.aG,rec u=rec' u):oU rec t=oU rec' t:=by
 grind [oU,Ju]
theorem Uv{n:Nat}:∀{t:aa},SizeOf.sizeOf t<n->cJ t->∃d,dn n (t,())=some d/\oM n (t,())=some d:=by
 induction n with
 |zero=>intro t h;omega
 |succ n ih=>
  intro t hs hm;show∃d,eK (dn n) t=some d/\mN (oM n) t=some d;have hl:=hm.len;have hn:=hm.nodes;rw[zy (by omega) (by omega),N9 (by omega) (by omega)]
  have hih:∀u∈t.aG,∃r,dn n (u,())=some r/\oM n (u,())=some r:=fun u hu=>ih (t:=u) (by have:=iA hu;omega) (hm.inner u hu)
  obtain⟨r,hr⟩:=GN (rec:=fun u=>dn n (u,())) (t:=t) fun u hu=>by obtain⟨r,h1,_⟩:=hih u hu;exact⟨r,h1⟩
  grind [Si]
theorem adq{n:Nat}:∀{t:aa},SizeOf.sizeOf t<n->cJ t->∃d,dn n (t,())=some d:=by
 induction n with
 |zero=>intro t h;omega
 |succ n ih=>
  intro t hs hm;show∃d,eK (dn n) t=some d;have hl:=hm.len;have hn:=hm.nodes;rw[zy (by omega) (by omega)]
  exact GN (rec:=fun u=>dn n (u,())) (t:=t) fun u hu=>ih (t:=u) (by have:=iA hu;omega) (hm.inner u hu)
theorem acy{t:aa}(h:cJ t):∃v,bW t=some v:=by
 obtain⟨d,hd⟩:∃d,gQ t=some d:=Jz (by omega) h
 obtain⟨z,hz⟩:∃z,iG t=some z:=K4 (by omega) h
 obtain⟨l,hl1⟩:∃l,ji t=some l:=adq (by omega) h
 simp[bW,hd,hz,hl1]
theorem V6{t:aa}(h:cJ t):∃v,bW t=some v/\cy t=some v:=by
 obtain⟨d,hd⟩:∃d,gQ t=some d:=Jz (by omega) h
 obtain⟨z,hz⟩:∃z,iG t=some z:=K4 (by omega) h
 obtain⟨l,hl1,hl2⟩:∃l,ji t=some l/\sM t=some l:=Uv (by omega) h
 simp[bW,cy,Ov,Rz,hd,hz,hl1,hl2]
 def C8(t:aa):Int:=(bW t).getD 1
theorem yK{t:aa}(h:cJ t):bW t=some (C8 t):=by
 grind [acy,C8]
theorem jH{t:aa}(h:cJ t):cy t=some (C8 t):=by
 grind [V6,C8]
theorem l5{t:aa}(h:cn t):C8 t=0:=by rw[C8,lS h];rfl
end
section
def at_(e:aj)(n:Int):ai:=⟨n,e.af.Value⟩
def DQ(e:aj):Bool:=aT e.aH||(!aT e.an&&bD e.aH e.an&& !cI e.aH e.an)
def gE(e:aj):Bool:=
 finite e.af&&(aT e.an||dB e.an)&&(aT e.aH||dB e.aH)&&DQ e&&decide (0<=e.bo)&&decide (e.bo<=e.bC)&&decide (e.bC<=e.af.ah)
  &&(decide (e.bC=0)||dY e.an e.aH (at_ e e.bC))&&(decide (e.bo=0)||(!eS e.an (at_ e e.bo)&& !eS e.aH (at_ e e.bo)))
def vO(e:aj):Bool:=decide (1<=e.bo)&&decide (e.bo<=e.bC)&&decide (e.bC<=1000)
def vU(e:aj):Bool:=finite e.af&&dB e.an&&cI e.an e.af&&aT e.aH&&vO e&&decide (e.bC<=e.an.ah)
def Bh(e:aj):Bool:=dB e.af&&aT e.an&&aT e.aH&&vO e
def D6(e:aj):Bool:=decide (0<=e.ao)&&decide (e.ao<10)&&decide (1<=e.aK)&&decide (e.aK<=1000000)&&decide (1<=e.aO)&&decide (e.aO<=1000000)
def lZ(tv:Int)(e:aj):Bool:=
 D6 e&&decide (tv=0)&&(if e.bu=1 then gE e else if e.bu=2 then vU e else if e.bu=3 then Bh e else false)
theorem dlt(a b:Int):decide (a<b)= !decide (b<=a):=by by_cases h:a<b<;>simp[h]<;>omega
theorem PN(e:aj):nk e=some (gE e):=by
 unfold nk gE DQ at_
 simp only[qx,I5,oG,Ei,Cr,I4,F4,xk,Qa,uk,bc,dlt,VR];cases finite e.af<;>cases (aT e.an||dB e.an)<;>cases (aT e.aH||dB e.aH)<;>simp
 grind
theorem Fz{e:aj}{tv:Int}(hT:bW e.ab=some tv):kN e=some (lZ tv e):=by
 unfold kN lZ D6;simp[PN,hT,dlt,vU,Bh,vO]
 grind
theorem Cj{e:aj}{tv:Int}(hT:cy e.ab=some tv):de e=some (lZ tv e):=by
 unfold de lZ D6;simp[hT,dlt,vU,Bh,vO,gE,finite,DQ,at_]
 have h9:decide (e.ao<=9)= !decide (10<=e.ao):=by by_cases h:e.ao<=9<;>simp[h]<;>omega
 rw[h9];generalize (decide (0<=e.ao)&& !decide (10<=e.ao)&&decide (1<=e.aK)&&decide (e.aK<=1000000)&&decide (1<=e.aO)&&decide (e.aO<=1000000)&&decide (tv=0))=hd
 by_cases k1:e.bu=1
 ·simp only[k1,decide_true,Qk,Qt]
  grind
 ·grind
def P5(e:aj)(v:ByteArray)(lo hi:Int):Bool:=decide (1<=lo)&&decide (lo<=hi)&&decide (e.af.Value=v)&&decide (e.bo<=lo)
def DB(e:aj)(v:ByteArray)(lo hi:Int):Bool:=P5 e v lo hi&&(!decide (e.bu=1)||(!decide (e.bo=0)&&decide (hi<=e.bC)))
def pM(e:aj)(v:ByteArray)(lo hi:Int):Bool:=P5 e v lo hi&&(decide (e.bu=3)||(decide (e.bu=2)&&decide (hi<=e.bC)))
def Bw(e:aj)(b:ai):Bool:= !aT b&&(if e.bu=1 then km e.af b else cI e.af b)
def iD(e:aj)(b:ai):Bool:= !aT b&&(if e.bu=1 then dY e.an e.aH b else if e.bu=2 then km e.an b else cI e.af b)
def iB(e:aj):Int:=if e.bu=3 then 1000000 else e.af.ah
def vJ(n:Nat):List Int:=(List.range n).map fun i:Nat=>(i:Int)
theorem Rf(n:Nat):vJ (n+1)=vJ n++[(n:Int)]:=by simp[vJ,List.range_succ]
@[simp] theorem age (n:Nat):(vJ n).length=n:=by simp[vJ]
theorem V1(n:Nat)(hn:n<=1000)(k:Int):sS n k=some ⟨k,vJ n,[]⟩:=by
 unfold sS
 suffices key:∀(m i:Nat) (t:aa),i+m=n->t.ar=k->t.aG=[]->ax (fun(v1:Int×aa×(List Int)×Unit)=>
   bif (decide (v1.1<(n:Int)))then
   bif aX 8 (List.length v1.2.2.1+List.length [v1.1])then
   some (Sum.inl ((aq .i64 v1.1 (1:Int)),(aa.mk v1.2.1.ar ([]:List Int) v1.2.1.aG),(v1.2.2.1++[v1.1]),()))
   else none
   else
   Option.map Sum.inr (some (aa.mk v1.2.1.ar v1.2.2.1 v1.2.1.aG))) ((i:Int),t,vJ i,())=some ⟨k,vJ n,[]⟩from key n 0 _ (by omega) rfl rfl
 intro m
 induction m with
 |zero=>
  grind [ct]
 |succ m ih=>
  intro i t hi h1 h2;have hd:decide ((i:Int)<(n:Int))=true:=Qg (by omega)
  have hw:aq .i64 (i:Int) 1=((i+1:Nat):Int):=bN (by omega) (by omega)
  rw[cD (s':=(((i+1:Nat):Int),⟨t.ar,[],t.aG⟩,vJ (i+1),()))]
  ·exact ih (i+1) _ (by omega) h1 h2
  ·simp only[hd,hw,Qk];rw[ba (by simp;omega)]
   simp[Rf]
theorem OR(n:Nat)(hn:n<=10)(k:Int)(h1:1<=k)(h2:k<=n):cn ⟨k,vJ n,[]⟩:=by
 refine⟨fun x hx=> ?_,?_,by simpa using hn,.inl rfl,h1,by simpa using h2⟩
 ·grind [vJ]
 ·show(vJ n).Nodup;exact List.Pairwise.map _ (fun a b h e=>h (by omega)) List.nodup_range
structure ahg (aJ bx n:Int) (e:aj):Prop where
 aJ:e.ao=aJ
 bx:e.aK=bx
 seq:1<=e.aO/\e.aO<=9
 aR:cn e.ab
 nodes:∀x∈e.ab.au,x<n
 ne:e.ab.au≠[]
 val:Pb e.af.Value
 valid:lZ 0 e=true
theorem X7{b:ai}(h1:1<=b.ah)(h2:b.ah<=1000)(h3:Pb b.Value):dB b=true:=by
 have:=h3.size
 grind [dB]
end
section
 def bj(e:aj):Bool:=lZ (C8 e.ab) e
theorem T4{e:aj}(h:cJ e.ab):kN e=some (bj e):=Fz (yK h)
theorem jk{e:aj}(h:cJ e.ab):de e=some (bj e):=Cj (jH h)
def dE(s:Nat)(x:Int):Bool:=fl x&&s.testBit x.toNat
theorem pL{s:Nat}(h:s<1024)(x:Int):yY s x=dE s x:=by
 grind [yY,dE]
mutual
def dC(s:Nat):aa->Bool
 |⟨th,ns,is⟩=>decide (th<=((ns.countP (dE s)+kU s is:Nat):Int))
def kU(s:Nat):List aa->Nat
 |[]=>0
 |t::l=>(if dC s t then 1 else 0)+kU s l
end
theorem DJ(s:Nat)(t:aa):dC s t=decide (t.ar<=((t.au.countP (dE s)+kU s t.aG:Nat):Int)):=by
 cases t;rw[dC]
theorem Fi(s:Nat)(hs:s<1024)(fin:Int->Option Bool):∀(l:List Int) (n:Nat),n+l.length<=9000000->
  ew (fun x (m:Int)=>some (.inl (if yY s x then aq .i64 m 1 else m))) fin l n=fin ((n+l.countP (dE s):Nat):Int)
 |[],n,_=>by simp[ew]
 |x::l,n,h=>by
  simp at h;rw[ew,pL hs,List.countP_cons]
  cases hx:dE s x with
  |false=>
   simp only[Qq,Qu,Nat.add_zero];exact Fi s hs fin l n (by omega)
  |true=>
   simp only[Qt];rw[bN (by omega) (by omega)]
   rw[show(n:Int)+1=((n+1:Nat):Int)by omega,Fi s hs fin l (n+1) (by omega)]
   congr 2;omega
theorem JI(s:Nat)(rec:aa->Option Bool)(fin:Int->Option Bool):∀(l:List aa) (n:Nat),n+l.length<=9000000->(∀u∈l,rec u=some (dC s u))->
  ew (fun u (m:Int)=>(rec u).map fun r=> .inl (if r then aq .i64 m 1 else m)) fin l n=fin ((n+kU s l:Nat):Int)
 |[],n,_,_=>by simp[ew,kU]
 |u::l,n,h,hr=>by
  simp at h;rw[ew,hr u (by simp),kU]
  cases hx:dC s u with
  |false=>
   simp only[Qe,Qq,Qu,Nat.zero_add];exact JI s rec fin l n (by omega) fun u hu=>hr u (by simp[hu])
  |true=>
   simp only[Qe,Qt];rw[bN (by omega) (by omega)]
   rw[show(n:Int)+1=((n+1:Nat):Int)by omega,JI s rec fin l (n+1) (by omega) fun u hu=>hr u (by simp[hu])]
   congr 2;omega
theorem ahh{rec:(aa×Int×Unit)->Option Bool}{t:aa}{s:Nat}(hs:s<1024)(hm:cJ t)(hr:∀u∈t.aG,rec (u,(s:Int),())=some (dC s u)):jj rec t s=some (dC s t):=by
 unfold jj;have hn:=hm.nodes;have hl:=hm.len;have hv:dh (s:Int)=some true:=by unfold dh;simp;omega
 rw[hv];simp only[Qa,Qo,Ql,bc];rw[gJ t.au (by omega) (fun i (m:Int)=>(m,i,())) (fun x (m:Int)=>some (.inl (if yY s x then aq .i64 m 1 else m))) (fun m=>ew (fun u (m:Int)=>(rec (u,(s:Int),())).map fun r=> .inl (if r then aq .i64 m 1 else m)) (fun m=>some (decide (t.ar<=m))) t.aG m) (fun i x m hd hx hw=> ?_) (fun m hd=> ?_) 0]
 ·rw[show(0:Int)=((0:Nat):Int)from rfl,Fi s hs _ t.au 0 (by omega)]
  rw[JI s (fun u=>rec (u,(s:Int),())) _ t.aG _ (by have:=List.countP_le_length (p:=dE s) (l:=t.au);omega) hr,DJ]
  simp
 ·grind [jQ,yY]
 ·simp only[hd,Ql];rw[gJ t.aG (by omega) (fun i (m:Int)=>(m,i,())) (fun u (m:Int)=>(rec (u,(s:Int),())).map fun r=> .inl (if r then aq .i64 m 1 else m)) (fun m=>some (decide (t.ar<=m))) (fun i x m hd hx hw=> ?_) (fun m hd=> ?_) m]
  ·simp only[hd,hx,hw,Qk,Qa,etas]
   cases rec (x,(s:Int),())with
   |none=>rfl
   |some r=>cases r<;>rfl
  ·simp only[hd,Ql]
theorem aha{s:Nat}(hs:s<1024){n:Nat}:∀{t:aa},SizeOf.sizeOf t<n->cJ t->qb n (t,(s:Int),())=some (dC s t):=by
 induction n with
 |zero=>intro t h;omega
 |succ n ih=>
  intro t hz hm;show jj (qb n) t s=some (dC s t);exact ahh hs hm fun u hu=>ih (t:=u) (by have:=iA hu;omega) (hm.inner u hu)
theorem oH{s:Nat}(hs:s<1024){t:aa}(hm:cJ t):fh t s=some (dC s t):=aha hs (by omega) hm
theorem Wo(t:aa)(s:Int):fh t s=fR t s:=by
 have hB:∀(rec:(aa×Int×Unit)->Option Bool) (t:aa) (s:Int),jj rec t s=mC rec t s:=by
  grind [jj,mC,dh,dz,Eg,jQ,lF]
 grind [fh,fR,qb,xi]
theorem Ce{s:Nat}(hs:s<1024){t:aa}(hm:cJ t):fR t s=some (dC s t):=by rw[<-Wo];exact oH hs hm
theorem OO{s s':Nat}(h:∀k,s.testBit k=true->s'.testBit k=true)(x:Int)(hx:dE s x=true):dE s' x=true:=by
 grind [dE]
mutual
theorem Ol{s s':Nat}(h:∀k,s.testBit k=true->s'.testBit k=true):∀(t:aa),dC s t=true->dC s' t=true
 |⟨th,ns,is⟩,ht=>by
  rw[dC,Qi]at ht ⊢;have h1:=Om h is;have h2:ns.countP (dE s)<=ns.countP (dE s'):=List.countP_mono_left fun x _ hx=>OO h x hx
  omega
theorem Om{s s':Nat}(h:∀k,s.testBit k=true->s'.testBit k=true):∀(l:List aa),kU s l<=kU s' l
 |[]=>by simp[kU]
 |t::l=>by
  have h1:=Om h l;have h2:=Ol h t;rw[kU,kU]
  cases hs:dC s t with
  |false=>simp;omega
  |true=>rw[h2 hs];simp;omega
end
end
section
theorem acM(s:Int):dh s=some (decide (0<=s)&&decide (s<1024)):=by
 unfold dh;simp;congr 1;rw[decide_eq_decide];omega
theorem oP{s:Nat}(h:s<1024):dz (s:Int)=some true:=by rw[Eg];simp;omega
theorem kc{s:Nat}(h:s<1024):dh (s:Int)=some true:=by rw[acM];simp;omega
theorem vW(a b:Nat)(ha:a<2 ^ 62)(hb:b<2 ^ 62):∃c:Nat,gn .i64 (a:Int) (b:Int)=(c:Int)/\c<=a/\∀k,c.testBit k=(a.testBit k&& !b.testBit k):=by
 refine⟨((BitVec.ofInt 64 (a:Int)&&& ~~~ BitVec.ofInt 64 (b:Int)).toNat),?_,?_,fun k=> ?_⟩
 ·have hle:(BitVec.ofInt 64 (a:Int)&&& ~~~ BitVec.ofInt 64 (b:Int)).toNat<=a:=by
   rw[BitVec.toNat_and,tV a ha];exact Nat.and_le_left
  show IntKind.i64.wrap (((BitVec.ofInt 64 (a:Int)&&& ~~~ BitVec.ofInt 64 (b:Int)).toNat:Nat):Int)=_;exact Bu _ (by omega)
 ·rw[BitVec.toNat_and,tV a ha];exact Nat.and_le_left
 ·have h1:∀i (x:Nat),x<2 ^ 62->(BitVec.ofInt 64 (x:Int)).getLsbD i=x.testBit i:=by
   intro i x hx;rw[<-BitVec.testBit_toNat,tV x hx]
  rw[BitVec.testBit_toNat,BitVec.getLsbD_and,BitVec.getLsbD_not,h1 k a ha,h1 k b hb]
  by_cases hk:k<64
  ·simp[hk]
  ·have:a.testBit k=false:=Nat.testBit_lt_two_pow (QJ ha (Nat.pow_le_pow_right (by omega) (by omega)))
   simp[this]
theorem qH{a b:Nat}(h:∀k,a.testBit k=b.testBit k):a=b:=Nat.eq_of_testBit_eq h
theorem HB{s k:Nat}(hs:s<1024)(hk:s.testBit k=true):k<10:=by
 rcases Nat.lt_or_ge k 10 with h|h
 ·exact h
 ·have:s.testBit k=false:=Nat.testBit_lt_two_pow (QJ hs (show 2 ^ 10<=2 ^ k from Nat.pow_le_pow_right (by omega) h))
  rw[this]at hk;cases hk
theorem Ic{s:Nat}(h:∀k,s.testBit k=true->k<10):s<1024:=by
 rcases Nat.lt_or_ge s 1024 with h1|h1
 ·exact h1
 ·obtain⟨k,hk1,hk2⟩:=Nat.exists_ge_and_testBit_of_ge_two_pow (n:=10) h1;have:=h k hk2;omega
theorem BY(s k:Nat):dE s (k:Int)=(decide (k<10)&&s.testBit k):=by
 have h1:decide ((k:Int)<10)=decide (k<10):=by rw[decide_eq_decide];omega
 have h2:decide (0<=(k:Int))=true:=Qg (by omega)
 simp only[dE,fl,h1,h2,Bool.true_and,QV]
def Ff(i:Nat)(s:Nat):List aA->Nat
 |[]=>s
 |m::l=>Ff (i+1) (if m.bX&&decide (i<10)then s|||2 ^ i else s) l
def iu(l:List aA):Nat:=Ff 0 0 l
theorem OY:∀(l:List aA) (i s k:Nat),(Ff i s l).testBit k=(s.testBit k||(decide (i<=k)&&decide (k<10)&&((l[k - i]?).any (·.bX))))
 |[],i,s,k=>by simp[Ff]
 |m::l,i,s,k=>by
  rw[Ff,OY l (i+1)]
  by_cases hk:k=i
  ·subst hk;have h1:¬(k+1<=k):=by omega
   cases hm:m.bX<;>by_cases hi:k<10<;>simp[hm,hi,h1,Nat.testBit_or]
  ·have h2:i<=k↔i+1<=k:=by omega
   have h3:∀b:Bool,(if(b&&decide (i<10))=true then s|||2 ^ i else s).testBit k=s.testBit k:=by
    intro b;split
    ·rw[Nat.testBit_or,Nat.testBit_two_pow];have:¬i=k:=fun e=>hk e.symm
     simp[this]
    ·rfl
   rw[h3]
   by_cases hik:i+1<=k
   ·have h4:(m::l)[k - i]?=l[k - (i+1)]?:=by
     rw[show k - i=(k - (i+1))+1 by omega,List.getElem?_cons_succ]
    rw[h4];have:i<=k:=by omega
    simp[this,hik]
   ·have:¬i<=k:=by omega
    simp[this,hik]
theorem xf(l:List aA)(k:Nat):(iu l).testBit k=(decide (k<10)&&((l[k]?).any (·.bX))):=by
 rw[iu,OY];simp
theorem za(l:List aA):iu l<1024:=Ic fun k hk=>by
 rw[xf]at hk;simp at hk;exact hk.1
theorem OX(step:(Int×Int×Unit)->Option ((Int×Int×Unit)⊕Int))(l:List aA)
  (h1:∀(i:Nat) (m:aA) (s:Nat),l[i]?=some m->s<1024->step ((s:Int),(i:Int),())=some (.inl (((if m.bX&&decide (i<10)then s|||2 ^ i else s:Nat):Int),((i+1:Nat):Int),())))
  (h2:∀s:Int,step (s,(l.length:Int),())=some (.inr s)):ax step (0,0,())=some ((iu l:Nat):Int):=by
 suffices key:∀(k i s:Nat),i+k=l.length->s<1024->ax step ((s:Int),(i:Int),())=some ((Ff i s (l.drop i):Nat):Int)by
  have:=key l.length 0 0 (by omega) (by omega)
  simpa[iu]using this
 intro k
 induction k with
 |zero=>
  intro i s hi hs;obtain rfl:i=l.length:=by omega
  rw[ct (h2 s),Qq65];rfl
 |succ k ih=>
  intro i s hi hs;have hlt:i<l.length:=by omega
  rw[QM hlt,Ff,cD (h1 i l[i] s (Qv hlt) hs)];refine ih (i+1) _ (by omega) ?_
  split
  ·rename_i hc;simp only[Qm,Qi]at hc;have:=EM (x:=(i:Int)) hs (by omega)
   simpa using this
  ·exact hs
theorem z7{c:av}(h:c.ay.length<=1000000):e8 c=some ((iu c.ay:Nat):Int):=by
 unfold e8;refine OX _ _ (fun i m s hm hs=> ?_) (fun s=> ?_)
 ·have hlt:i<c.ay.length:=(Qw.1 hm).1;have hd:decide ((i:Int)<(c.ay.length:Int))=true:=Qg (by omega)
  have hw:aq .i64 (i:Int) 1=((i+1:Nat):Int):=bN (by omega) (by omega)
  have hx:idx c.ay (i:Int)=some m:=by rw[aP];exact hm
  have h0:¬(i:Int)<0:=by omega
  simp only[hd,hx,hw,Qk,Qa,bc,h0,Qu]
  cases m.bX with
  |false=>simp
  |true=>
   by_cases h10:i<10
   ·have:(i:Int)<10:=by omega
    have ho:=qF (x:=(i:Int)) hs (by omega) (by omega)
    simp only[QV]at ho;simp[this,h10,ho]
   ·have:¬(i:Int)<10:=by omega
    simp[this,h10]
 ·have hd:decide ((c.ay.length:Int)<(c.ay.length:Int))=false:=Qh (Qq63 _);simp only[hd,Ql,Qe]
theorem qC{c:av}(h:c.ay.length<=1000000):gB c=some ((iu c.ay:Nat):Int):=by
 unfold gB;refine OX _ _ (fun i m s hm hs=> ?_) (fun s=> ?_)
 ·have hlt:i<c.ay.length:=(Qw.1 hm).1;have hd:decide ((i:Int)<(c.ay.length:Int))=true:=Qg (by omega)
  have hw:aq .i64 (i:Int) 1=((i+1:Nat):Int):=bN (by omega) (by omega)
  have hx:idx c.ay (i:Int)=some m:=by rw[aP];exact hm
  have h0:¬(i:Int)<0:=by omega
  simp only[hd,hx,hw,Qk,Qa,bc,h0,Qu]
  by_cases h10:i<10
  ·have:(i:Int)<10:=by omega
   have ho:=qF (x:=(i:Int)) hs (by omega) (by omega)
   simp only[QV]at ho;cases m.bX<;>simp[this,h10,ho]
  ·have:¬(i:Int)<10:=by omega
   cases m.bX<;>simp[this,h10]
 ·have hd:decide ((c.ay.length:Int)<(c.ay.length:Int))=false:=Qh (Qq63 _);simp only[hd,Ql,Qe]
structure qS (c:av):Prop where
 len:c.ay.length<=1000000
 aR:∀m∈c.ay,cJ m.ab
def kL(l:List aA)(k:Nat):aa:=((l[k]?).map (·.ab)).getD ⟨0,[],[]⟩
def oV(l:List aA)(k:Nat):Bool:=(iu l).testBit k
theorem uV{l:List aA}{k:Nat}(h:oV l k=true):k<10/\∃m,l[k]?=some m/\m.bX=true:=by
 rw[oV,xf]at h;simp only[Qm,Qi,Option.any_eq_true]at h;obtain⟨h1,m,h2,h3⟩:=h;exact⟨h1,m,h2,h3⟩
theorem lJ{l:List aA}{k:Nat}{m:aA}(h:l[k]?=some m):kL l k=m.ab:=by rw[kL,h];rfl
def DS(s v:Nat):Nat:=(1023^^^s)|||2 ^ v
def Ee(l:List aA)(v s:Nat):Bool:=oV l v&& !dC (DS s v) (kL l v)
theorem ago(k:Nat):(1023:Nat).testBit k=decide (k<10):=by
 rw[show(1023:Nat)=2 ^ 10 - 1 from rfl,Nat.testBit_two_pow_sub_one]
theorem EJ{s:Nat}(hs:s<1024)(v k:Nat):(DS s v).testBit k=(decide (k<10)&& !s.testBit k||decide (v=k)):=by
 rw[DS,Nat.testBit_or,Nat.testBit_xor,ago,Nat.testBit_two_pow]
 by_cases hk:k<10
 ·simp[hk]
 ·have:s.testBit k=false:=by
   cases h:s.testBit k with
   |false=>rfl
   |true=>exact absurd (HB hs h) hk
  simp[hk,this]
theorem YQ{s v:Nat}(hs:s<1024)(hv:v<10):DS s v<1024:=Ic fun k hk=>by
 rw[EJ hs]at hk;simp at hk;omega
theorem WH{s v:Nat}(hs:s<1024)(hv:v<10):ka .i64 (da .i64 1023 (s:Int)) (cg .i64 1 (v:Int))=((DS s v:Nat):Int):=by
 have h1:da .i64 1023 (s:Int)=((1023 - s:Nat):Int):=by rw[jA (by omega) (by omega)];omega
 rw[h1,mE v (by omega),H5 _ (2 ^ v) (by omega) (Nat.pow_lt_pow_right (by omega) (by omega))]
 congr 1;refine qH fun k=> ?_
 rw[EJ hs,Nat.testBit_or,Nat.testBit_two_pow]
 have h2:(1023 - s).testBit k=(decide (k<10)&& !s.testBit k):=by
  have:=Nat.testBit_two_pow_sub_succ (x:=s) (n:=10) (by omega) k
  rw[show 2 ^ 10 - (s+1)=1023 - s by omega]at this
  exact this
 rw[h2]
theorem Li{c:av}(hc:qS c){v s:Nat}(hs:s<1024):nD c v s=some (Ee c.ay v s):=by
 unfold nD Ee;rw[kc hs,qC hc.len];simp only[Qa,Qo,Ql,jQ,pL (za _),BY]
 cases hd:oV c.ay v with
 |false=>
  have:(decide (v<10)&&(iu c.ay).testBit v)=false:=by
   rw[show(iu c.ay).testBit v=oV c.ay v from rfl,hd];simp
  simp[this]
 |true=>
  obtain⟨h10,m,hm,hdm⟩:=uV hd
  have:(decide (v<10)&&(iu c.ay).testBit v)=true:=by
   rw[show(iu c.ay).testBit v=oV c.ay v from rfl,hd];simp[h10]
  rw[aP,hm,WH hs h10];have h0:¬(v:Int)<0:=by omega
  have hmem:m∈c.ay:=Q7 hm;simp only[this,Qo,Ql,Qa,h0,Qu,etas,oH (YQ hs h10) (hc.aR m hmem),lJ hm,Bool.true_and]
end
section
def mQ(s:Nat):List Int:=(vJ 10).filter (dE s)
theorem ado{n:Nat}{x:Int}:x∈vJ n↔∃k:Nat,k<n/\x=k:=by
 grind [vJ]
theorem uP{s:Nat}{x:Int}:x∈mQ s↔∃k:Nat,k<10/\x=k/\s.testBit k=true:=by
 grind [mQ,ado,BY]
theorem LF(step:(Int×List Int×Unit)->Option ((Int×List Int×Unit)⊕List Int))(s:Nat)
  (h1:∀(i:Nat) (acc:List Int),i<10->acc.length<=i->step ((i:Int),acc,())=some (.inl (((i+1:Nat):Int),(if dE s i then acc++[(i:Int)]else acc),())))
  (h2:∀acc,step (((10:Nat):Int),acc,())=some (.inr acc)):ax step (0,[],())=some (mQ s):=by
 suffices key:∀(k i:Nat) (acc:List Int),i+k=10->acc=(vJ i).filter (dE s)->ax step ((i:Int),acc,())=some (mQ s)from key 10 0 [] rfl rfl
 intro k
 induction k with
 |zero=>
  intro i acc hi ha;obtain rfl:i=10:=by omega
  rw[ct (h2 acc),ha];rfl
 |succ k ih=>
  intro i acc hi ha;have hlen:acc.length<=i:=by rw[ha];exact QK (List.length_filter_le _ _) (by simp)
  rw[cD (h1 i acc (by omega) hlen)]
  refine ih (i+1) _ (by omega) ?_
  rw[Rf,List.filter_append,<-ha];cases hh:dE s i<;>simp[hh]
theorem abw{s:Nat}(hs:s<1024):pD (s:Int)=some (mQ s):=by
 grind [pD,LF,aq,bN,bc,lF,pL,ba,dE]
theorem Gv{s:Nat}(hs:s<1024):mM (s:Int)=some (mQ s):=by
 grind [mM,LF,aq,bN,bc,jQ,pL,ba,dE]
def vX(l:List aA)(s r:Nat):Prop:=∀k,r.testBit k=true->s.testBit k=true/\oV l k=true/\dC r (kL l k)=true
structure wS (l:List aA) (s q:Nat):Prop where
 inside:vX l s q
 max:∀r,vX l s r->∀k,r.testBit k=true->q.testBit k=true
theorem wS.unique{l:List aA}{s q q':Nat}(h:wS l s q)(h':wS l s q'):q=q':=by
 refine qH fun k=> ?_
 rw[QW];exact⟨h'.max q h.inside k,h.max q' h'.inside k⟩
theorem wS.lt{l:List aA}{s q:Nat}(h:wS l s q):q<1024:=Ic fun k hk=>(uV (h.inside k hk).2.1).1
def mD(l:List aA)(s:Nat):Option Int:=(mQ s).find? fun x=> !dC s (kL l x.toNat)
theorem wb{l:List aA}{s:Nat}{x:Int}(h:mD l s=some x):∃k:Nat,x=k/\k<10/\s.testBit k=true/\dC s (kL l k)=false:=by
 have h1:=List.mem_of_find?_eq_some h;have h2:=List.find?_some h;obtain⟨k,hk,rfl,hb⟩:=uP.1 h1;simp at h2;exact⟨k,rfl,hk,hb,h2⟩
theorem FB{l:List aA}{s:Nat}(hs:s<1024)(h:mD l s=none):∀k,s.testBit k=true->dC s (kL l k)=true:=by
 intro k hk;have:=List.find?_eq_none.1 h (k:Int) (uP.2 ⟨k,HB hs hk,rfl,hk⟩);simpa using this
theorem acC:∀s,s<1024->∀k,k<10->s.testBit k=true->s - 2 ^ k=s^^^2 ^ k:=by decide+kernel
theorem DG{s k:Nat}(hs:s<1024)(hk:s.testBit k=true):2 ^ k<=s/\∀j,(s - 2 ^ k).testBit j=(s.testBit j&& !decide (k=j)):=by
 have hle:2 ^ k<=s:=Nat.ge_two_pow_of_testBit hk;refine⟨hle,?_⟩;have hx:s - 2 ^ k=s^^^2 ^ k:=acC s hs k (HB hs hk) hk
 grind
structure nG (l:List aA) (s0 s:Nat):Prop where
 lt:s<1024
 sub:∀k,s.testBit k=true->s0.testBit k=true/\oV l k=true
 max:∀r,vX l s0 r->∀k,r.testBit k=true->s.testBit k=true
theorem nG.first(l:List aA){s:Nat}(hs:s<1024):nG l s (s&&&iu l):=by
 refine⟨Nat.lt_of_le_of_lt Nat.and_le_left hs,fun k hk=> ?_,fun r hr k hk=> ?_⟩
 ·rw[Nat.testBit_and,Qm]at hk;exact hk
 ·rw[Nat.testBit_and,Qm];exact⟨(hr k hk).1,(hr k hk).2.1⟩
theorem nG.next{l:List aA}{s0 s k:Nat}(h:nG l s0 s)(hk:s.testBit k=true)(hu:dC s (kL l k)=false):nG l s0 (s - 2 ^ k):=by
 obtain⟨h1,h2⟩:=DG h.lt hk;refine⟨Nat.lt_of_le_of_lt (Nat.sub_le _ _) h.lt,fun j hj=> ?_,fun r hr j hj=> ?_⟩
 ·rw[h2]at hj;simp at hj;exact h.sub j hj.1
 ·rw[h2,h.max r hr j hj]
  have:k≠j:=by
   intro e;subst e;have:=Ol (fun i hi=>h.max r hr i hi) _ (hr k hj).2.2
   rw[hu]at this;cases this
  simp[this]
theorem nG.done{l:List aA}{s0 s:Nat}(h:nG l s0 s)(hn:mD l s=none):wS l s0 s:=
 ⟨fun k hk=>⟨(h.sub k hk).1,(h.sub k hk).2,FB h.lt hn k hk⟩,h.max⟩
theorem OS{l:List Int}{ρ:Type}{f:Int->Bool}{hit:Int->ρ}{fin:Unit->Option ρ}{g:Int->Unit->Option (Unit⊕ρ)}(hg:∀x∈l,∀s,g x s=some (if f x then .inr (hit x)else .inl ())):
  ew g fin l ()=match l.find? f with|some x=>some (hit x)|none=>fin ():=by
 induction l with
 |nil=>rfl
 |cons x l ih=>
  grind [ew]
theorem Bb(s:Nat):(mQ s).length<=10:=QK (List.length_filter_le _ _) (by simp)
theorem KU{c:av}(hc:qS c){s:Nat}(hs:s<1024)(hsub:∀k,s.testBit k=true->oV c.ay k=true):
  kO c s=some (match mD c.ay s with|some x=>(x,true,())|none=>(0,false,())):=by
 unfold kO;rw[abw hs,Qa];have hlen:=Bb s;rw[gJ (mQ s) (by omega) (fun i (_:Unit)=>(i,())) (fun x (_:Unit)=>(mU c x s).map fun r=>if r then .inl ()else .inr (x,true,())) (fun _=>some (0,false,())) (fun i x u hd hx hw=> ?_) (fun u hd=> ?_) ()]
 ·rw[OS (f:=fun x=> !dC s (kL c.ay x.toNat)) (hit:=fun x=>(x,true,()))]
  ·grind [mD,mQ]
  ·intro x hx u;obtain⟨k,hk,rfl,hb⟩:=uP.1 hx;obtain⟨_,m,hm,_⟩:=uV (hsub k hb);unfold mU;rw[aP,hm];simp only[Qa,etas,Ce hs (hc.aR m (Q7 hm)),Qe,QV,lJ hm];cases dC s m.ab<;>rfl
 ·simp only[hd,hx,hw,Qk,Qa]
  cases mU c x s with
  |none=>rfl
  |some r=>cases r<;>rfl
 ·simp only[hd,Ql]
theorem XH{s k:Nat}(hs:s<1024)(hk:s.testBit k=true):gn .i64 (s:Int) (cg .i64 1 (k:Int))=((s - 2 ^ k:Nat):Int):=by
 have h10:=HB hs hk;obtain⟨c,h1,_,h3⟩:=vW s (2 ^ k) (by omega) (Nat.pow_lt_pow_right (by omega) (by omega))
 rw[mE k (by omega),h1]
 congr 1;refine qH fun j=> ?_
 rw[h3,(DG hs hk).2,Nat.testBit_two_pow]
theorem UP{c:av}(hc:qS c){s:Nat}(hs:s<1024):Yd (jS c s) fun q=>∃n:Nat,q=n/\wS c.ay s n:=by
 unfold jS s9;rw[oP hs,z7 hc.len];simp only[Qa,Qo,Ql];have hdl:=za c.ay;rw[kv s (iu c.ay) (by omega) (by omega)]
 suffices key:∀(n t:Nat) (out:List Int),t<n->nG c.ay s t->out.length+t<=1024->Yd (ax (fun(v3:Int×(List Int)×Unit)=>
   Option.bind (kO c v3.1) fun r4=>
   bif (!r4.2.1)then
   Option.map Sum.inr (some (v3.1,v3.2.1,()))
   else
   bif aX 8 (List.length v3.2.1+List.length [r4.1])then
   if r4.1<0 then none else
   some (Sum.inl ((gn .i64 v3.1 (cg .i64 (1:Int) r4.1)),(v3.2.1++[r4.1]),()))
   else none) ((t:Int),out,())) fun p=>∃n:Nat,p.1=n/\wS c.ay s n by
  have hfirst:=nG.first c.ay hs
  have hb:=hfirst.lt;refine(key 1024 (s&&&iu c.ay) [] hb hfirst (by simp;omega)).bind fun p hp=>Yd.some hp
 intro n
 induction n with
 |zero=>intro t out h;omega
 |succ n ih=>
  intro t out ht hinv hout;refine Yd.loop ?_;rw[KU hc hinv.lt fun k hk=>(hinv.sub k hk).2]
  simp only[Qa]
  cases hu:mD c.ay t with
  |none=>exact Yd.some ⟨t,rfl,hinv.done hu⟩
  |some x=>
   obtain⟨k,rfl,hk10,hkb,hks⟩:=wb hu;have h0:¬(k:Int)<0:=by omega
   have hlb:=(DG hinv.lt hkb).1;have hp:0<2 ^ k:=Nat.pow_pos (by omega)
   simp only[Qo,Ql];rw[ba (by simp;omega),Qs h0,XH hinv.lt hkb]
   exact Yd.some (ih (t - 2 ^ k) _ (by omega) (hinv.next hkb hks) (by simp;omega))
theorem Zo{c:av}(hc:qS c){s:Nat}(hs:s<1024):∃q,wS c.ay s q:=by
 suffices key:∀(n t:Nat),t<n->nG c.ay s t->∃q,wS c.ay s q from key _ _ (Nat.lt_succ_self _) (nG.first c.ay hs)
 intro n
 induction n with
 |zero=>intro t h;omega
 |succ n ih=>
  intro t ht hinv
  cases hu:mD c.ay t with
  |none=>exact⟨t,hinv.done hu⟩
  |some x=>
   obtain⟨k,rfl,_,hkb,hks⟩:=wb hu;have hp:0<2 ^ k:=Nat.pow_pos (by omega)
   have:=(DG hinv.lt hkb).1;exact ih (t - 2 ^ k) (by omega) (hinv.next hkb hks)
open Classical in
 def gq(l:List aA)(s:Nat):Nat:=if h:∃q,wS l s q then Classical.choose h else 0
theorem Bf{c:av}(hc:qS c){s:Nat}(hs:s<1024):wS c.ay s (gq c.ay s):=by
 grind [Zo,gq]
theorem UQ{c:av}(hc:qS c){s:Nat}(hs:s<1024):jS c s=some ((gq c.ay s:Nat):Int):=by
 obtain⟨q,h1,n,rfl,h2⟩:=UP hc hs;rw[h1,h2.unique (Bf hc hs)]
def vK(s:Nat):List Int->Nat
 |[]=>s
 |x::l=>vK (s - 2 ^ x.toNat) l
theorem KY(s:Nat):∀(l:List Int) (x:Int),vK s (l++[x])=vK s l - 2 ^ x.toNat
 |[],x=>rfl
 |y::l,x=>by rw[List.cons_append,vK,KY _ l x,vK]
def Ir(s:Nat):List Int->Prop
 |[]=>True
 |x::l=>(∃k:Nat,x=k/\k<10/\2 ^ k<=s)/\Ir (s - 2 ^ x.toNat) l
theorem Pc{s:Nat}:∀{l:List Int} {k:Nat},Ir s l->k<10->2 ^ k<=vK s l->Ir s (l++[(k:Int)])
 |[],k,_,h1,h2=>⟨⟨k,rfl,h1,h2⟩,trivial⟩
 |_::_,_,h,h1,h2=>⟨h.1,Pc h.2 h1 h2⟩
theorem Rm{t k:Nat}(hk:k<10)(h:2 ^ k<=t)(ht:t<1024):da .i64 (t:Int) (cg .i64 1 (k:Int))=((t - 2 ^ k:Nat):Int):=by
 grind [mE,jA]
theorem aez{c:av}(hc:qS c){s:Nat}(hs:s<1024):Yd (oi c s) fun out=>Ir (s&&&iu c.ay) out/\wS c.ay s (vK (s&&&iu c.ay) out)/\out.length<=1024:=by
 unfold oi;rw[kc hs,qC hc.len];simp only[Qa,Qo,Ql];have hdl:=za c.ay;rw[kv s (iu c.ay) (by omega) (by omega)]
 generalize hs0:s&&&iu c.ay=s0
 suffices key:∀(n t:Nat) (b:Bool) (out:List Int),t<n->nG c.ay s t->(b=false->mD c.ay t=none)->out.length+t<=1024->Ir s0 out->vK s0 out=t->
   Yd (ax (fun(v3:Int×Bool×(List Int)×Unit)=>
    bif v3.2.1 then
    Option.bind (mM v3.1) fun r4=>
    ax (fun(v5:Int×Bool×Int×(List Int)×Unit)=>
    bif (decide (v5.2.2.1<((List.length r4:Nat):Int)))then
    Option.bind (idx r4 v5.2.2.1) fun x6=>
    Option.bind (idx c.ay x6) fun x7=>
    Option.bind (fh (aa.mk x7.ab.ar x7.ab.au x7.ab.aG) v5.1) fun r8=>
    bif (!r8)then
    if x6<0 then none else
    bif aX 8 (List.length v5.2.2.2.1+List.length [x6])then
    Option.map Sum.inr (some (Sum.inl ((da .i64 v5.1 (cg .i64 (1:Int) x6)),true,(v5.2.2.2.1++[x6]),())))
    else none
    else
    some (Sum.inl (v5.1,v5.2.1,(aq .i64 v5.2.2.1 (1:Int)),v5.2.2.2.1,()))
    else
    Option.map Sum.inr (some (Sum.inl (v5.1,v5.2.1,v5.2.2.2.1,())))) (v3.1,false,(0:Int),v3.2.2.1,())
    else
    Option.map Sum.inr (some v3.2.2.1)) ((t:Int),b,out,())) fun out=>Ir s0 out/\wS c.ay s (vK s0 out)/\out.length<=1024 by
  have hfirst:=nG.first c.ay hs
  rw[hs0]at hfirst;have hb:=hfirst.lt;exact key 1024 s0 true [] hb hfirst (fun h=>by cases h) (by simp;omega) trivial rfl
 intro n
 induction n with
 |zero=>intro t b out h;omega
 |succ n ih=>
  intro t b out ht hinv hb hout hso hsub;refine Yd.loop ?_
  cases b with
  |false=>
   simp only[Ql];refine Yd.inr (Yd.some ⟨hso,?_,by omega⟩)
   rw[hsub];exact hinv.done (hb rfl)
  |true=>
   simp only[Qk];rw[Gv hinv.lt,Qa];have hlen:=Bb t;rw[gJ (mQ t) (by omega) (fun i (_:Unit)=>((t:Int),false,i,out,())) (fun x (_:Unit)=>some (if !dC t (kL c.ay x.toNat)then .inr (Sum.inl ((da .i64 (t:Int) (cg .i64 (1:Int) x)),true,(out++[x]),()))else .inl ())) (fun _=>some (Sum.inl ((t:Int),false,out,()))) (fun i x u hd hx hw=> ?_) (fun u hd=> ?_) ()]
   ·rw[OS (f:=fun x=> !dC t (kL c.ay x.toNat)) (hit:=fun x=>Sum.inl ((da .i64 (t:Int) (cg .i64 (1:Int) x)),true,(out++[x]),())) (fun x hx u=>rfl)]
    cases hu:mD c.ay t with
    |none=>
     rw[mD]at hu;rw[hu];refine Yd.some ?_;refine Yd.loop ?_;simp only[Ql];refine Yd.inr (Yd.some ⟨hso,?_,by omega⟩)
     rw[hsub];exact hinv.done hu
    |some x=>
     obtain⟨k,rfl,hk10,hkb,hks⟩:=wb hu;rw[mD]at hu;rw[hu];have hlb:=(DG hinv.lt hkb).1;have hp:0<2 ^ k:=Nat.pow_pos (by omega)
     simp only;rw[Rm hk10 hlb hinv.lt];refine Yd.some (ih (t - 2 ^ k) true _ (by omega) (hinv.next hkb hks) (fun h=>by cases h) (by simp;omega) (Pc hso hk10 (by rw[hsub];exact hlb)) (by rw[KY,hsub];rfl))
   ·have hmem:x∈mQ t:=by
     rw[aP]at hx;exact Q7 hx
    obtain⟨k,hk10,rfl,hkb⟩:=uP.1 hmem;obtain⟨_,m,hm,_⟩:=uV (hinv.sub k hkb).2;have h0:¬(k:Int)<0:=by omega
    simp only[hd,hx,hw,Qk,Qa,aP c.ay,hm,etas,oH hinv.lt (hc.aR m (Q7 hm)),h0,Qu,QV,lJ hm];rw[ba (by simp;omega)]
    cases dC t m.ab<;>rfl
   ·simp only[hd,Ql]
theorem xx{c:av}(hc:qS c){s:Nat}(hs:s<1024):iK c s=some ((gq c.ay s:Nat):Int):=by
 unfold iK;rw[kc hs,qC hc.len];simp only[Qa,Qo,Ql];have hdl:=za c.ay;rw[kv s (iu c.ay) (by omega) (by omega)]
 obtain⟨out,h1,h2,h3,h4⟩:=aez hc hs;rw[h1,Qa];rw[gJ out (by omega) (fun i (t:Int)=>(t,i,())) (fun x (t:Int)=>if x<0 then none else some (.inl (da .i64 t (cg .i64 1 x)))) (fun t=>some t) (fun i x u hd hx hw=> ?_) (fun u hd=> ?_) _]
 ·rw[<-h3.unique (Bf hc hs)];have hlt:s&&&iu c.ay<1024:=Nat.lt_of_le_of_lt Nat.and_le_left hs;generalize s&&&iu c.ay=t at h2 hlt;clear h1 h3 h4
  induction out generalizing t with
  |nil=>rfl
  |cons x l ih=>
   obtain⟨⟨k,rfl,hk,hle⟩,h2⟩:=h2
   grind [ew,Rm,vK]
 ·grind
 ·simp only[hd,Ql]
end
section
structure Av (l:List aj):Prop where
 len:l.length<=100000
 aR:∀e∈l,cJ e.ab
theorem l7{e:aj}(h:bj e=true):0<=e.ao/\e.ao<10:=by
 simp only[bj,lZ,D6,Qm,Qi]at h;exact⟨h.1.1.1.1.1.1.1,h.1.1.1.1.1.1.2⟩
def iw:aA:=⟨false,⟨0,[],[]⟩⟩
 def ed(ms:List aA)(e:aj):List aA:=
 if bj e&& !((ms[e.ao.toNat]?).any (·.bX))then ms.set e.ao.toNat ⟨true,e.ab⟩else ms
 def jU(aJ:Nat)(t:aa)(l:List aj):List aA:=l.foldl ed ((List.replicate 10 iw).set aJ ⟨true,t⟩)
theorem By(ms:List aA)(e:aj):(ed ms e).length=ms.length:=by
 unfold ed;split
 ·rw[QX]
 ·rfl
theorem DC:∀(l:List aj) (ms:List aA),(l.foldl ed ms).length=ms.length
 |[],_=>rfl
 |e::l,ms=>by rw[QU,DC l,By]
theorem X5(aJ:Nat)(t:aa)(l:List aj):(jU aJ t l).length=10:=by
 rw[jU,DC,QX,List.length_replicate]
theorem ab4{ms:List aA}(hl:ms.length=10){n:Int}(h0:0<=n)(h1:n<10):∃m,ms[n.toNat]?=some m/\idx ms n=some m:=by
 have:n.toNat<ms.length:=by omega
 exact⟨ms[n.toNat],Qv this,by rw[Mw _ h0];exact Qv this⟩
theorem yN{aJ:Nat}(hn:aJ<10){t:aa}{l:List aj}(hl:Av l):iI aJ t l=some ⟨jU aJ t l⟩:=by
 unfold iI
 have h1:(decide ((10:Int)<=10)&&decide ((0:Int)<=10)&&aX 64 (Int.toNat 10))=true:=by
  rw[ba (by decide)];rfl
 have h2:¬(aJ:Int)<0:=by omega
 have h3:¬(9:Int)<aJ:=by omega
 rw[h1];simp only[Qk,h2,h3,decide_false,Ql,Qa,etas,bc];obtain⟨m,hm1,hm2⟩:=ab4 (ms:=List.replicate 10 iw) (by simp) (n:=(aJ:Int)) (by omega) (by omega)
 have e10:List.replicate (Int.toNat 10) (aA.mk false (aa.mk 0 [] []))=List.replicate 10 iw:=rfl;rw[e10,hm2,hm1,Qa,Qa];have hlen:=hl.len
 suffices key:∀(k i:Nat) (ms:List aA) (c:av),i+k=l.length->ms.length=10->ax _ ((i:Int),c,ms,())=some (av.mk ((l.drop i).foldl ed ms))by
  have:=key l.length 0 ((List.replicate 10 iw).set aJ ⟨true,t⟩) ⟨[]⟩ (by omega) (by simp)
  simpa[jU]using this
 intro k
 induction k with
 |zero=>
  intro i ms c hi hms;obtain rfl:i=l.length:=by omega
  refine ct ?_;have hd:decide ((l.length:Int)<(l.length:Int))=false:=Qh (Qq63 _);simp only[hd,Ql,Qq65,List.foldl_nil]
 |succ k ih=>
  intro i ms c hi hms;have hlt:i<l.length:=by omega
  have hd:decide ((i:Int)<(l.length:Int))=true:=Qg (by omega)
  have hw:aq .i64 (i:Int) 1=((i+1:Nat):Int):=bN (by omega) (by omega)
  have hx:idx l (i:Int)=some l[i]:=by rw[aP];exact Qv hlt
  have hsm:=hl.aR _ (QZ hlt);rw[QM hlt,QU];refine Eq.trans (cD (s':=(((i+1:Nat):Int),⟨[]⟩,ed ms l[i],())) ?_) (ih (i+1) _ _ (by omega) (by rw[By];exact hms))
  simp only[hd,hx,hw,Qk,Qa,jk hsm];unfold ed
  cases hv:bj l[i]with
  |false=>simp
  |true=>
   obtain⟨h4,h5⟩:=l7 hv;obtain⟨m,hm1,hm2⟩:=ab4 hms h4 h5;simp only[Qk,hm1,hm2,Qa,Option.any_some,Bool.true_and];cases m.bX<;>simp
theorem tO{aJ:Nat}{t:aa}(ht:cJ t){l:List aj}(hl:Av l):qS ⟨jU aJ t l⟩:=by
 refine⟨by rw[X5];omega,?_⟩
 have key:∀(l:List aj) (ms:List aA),(∀e∈l,cJ e.ab)->(∀m∈ms,cJ m.ab)->∀m∈l.foldl ed ms,cJ m.ab:=by
  intro l
  induction l with
  |nil=>intro ms _ h;exact h
  |cons e l ih=>
   intro ms he h;rw[QU];refine ih _ (fun e' h'=>he e' (by simp[h'])) fun m hm=> ?_
   unfold ed at hm;split at hm
   ·rcases List.mem_or_eq_of_mem_set hm with hm|rfl
    ·exact h m hm
    ·exact he e (by simp)
   ·exact h m hm
 refine key l _ hl.aR fun m hm=> ?_
 rcases List.mem_or_eq_of_mem_set hm with hm|rfl
 ·rw[List.eq_of_mem_replicate hm];exact .mk _ (by simp[iw]) (by simp[iw]) (by simp[iw])
 ·exact ht
 def eD(l:List aj):List aj:=l.filter bj
def jr(p:aj->Bool):List aj->Nat
 |[]=>0
 |e::l=>(if p e then 2 ^ e.ao.toNat else 0)|||jr p l
theorem El(p:aj->Bool)(k:Nat):∀(l:List aj),(jr p l).testBit k=l.any fun e=>p e&&decide (e.ao.toNat=k)
 |[]=>by simp[jr]
 |e::l=>by
  rw[jr,Nat.testBit_or,El p k l,List.any_cons];cases p e<;>simp[Nat.testBit_two_pow]
def Iv(l:List aj):Prop:=∀e∈l,0<=e.ao/\e.ao<10
theorem Ab(l:List aj):Iv (eD l):=fun _ he=>l7 (List.mem_filter.1 he).2
theorem uI{p:aj->Bool}{l:List aj}(h:Iv l):jr p l<1024:=Ic fun k hk=>by
 rw[El,List.any_eq_true]at hk;obtain⟨e,he,h1⟩:=hk;simp only[Qm,Qi]at h1;have:=h e he;omega
 def Bg(ms:List aA)(v gV accepts:Nat):Bool:=Ee ms v accepts||(gq ms (gV|||accepts)).testBit v
 def pI(aJ:Nat)(t:aa)(l:List aj)(b:ai):Bool:=
 Bg (jU aJ t l) aJ (jr (fun e=>Bw e b||iD e b) (eD l)) (jr (iD · b) (eD l))
 def nJ(aJ:Nat)(t:aa)(l:List aj)(b:ai):Bool:=
 (gq (jU aJ t l) (jr (iD · b) (eD l))).testBit aJ
end
section
 def DV(l:List aj)(k:Nat):Option aj:=l.find? fun e=>bj e&&decide (e.ao.toNat=k)
theorem Oc:∀(l:List aj) (ms:List aA),ms.length=10->(∀m∈ms,m.bX=false->m=iw)->∀k,k<10->(l.foldl ed ms)[k]?=some (match ms[k]? with
  |some m=>if m.bX then m else(match DV l k with
   |some e=>⟨true,e.ab⟩
   |none=>iw)
  |none=>iw)
 |[],ms,hl,hn,k,hk=>by
  have hk':k<ms.length:=by omega
  rw[List.foldl_nil,Qv hk']
  cases hd:ms[k].bX with
  |true=>simp[hd]
  |false=>
   have:=hn _ (QZ hk') hd;simp[DV,this]
 |e::l,ms,hl,hn,k,hk=>by
  have hk':k<ms.length:=by omega
  rw[QU];have hlen:(ed ms e).length=10:=by rw[By];exact hl
  have hn':∀m∈ed ms e,m.bX=false->m=iw:=by
   unfold ed;split
   ·intro m hm hd;rcases List.mem_or_eq_of_mem_set hm with hm|rfl
    ·exact hn m hm hd
    ·cases hd
   ·exact hn
  rw[Oc l (ed ms e) hlen hn' k hk];congr 1
  have hof:DV (e::l) k=if(bj e&&decide (e.ao.toNat=k))=true then some e else DV l k:=by
   unfold DV;rw[List.find?_cons];cases bj e&&decide (e.ao.toNat=k)<;>rfl
  rw[hof];unfold ed
  by_cases hv:bj e=true
  ·have hnode:=l7 hv;have hi:e.ao.toNat<ms.length:=by omega
   rw[hv,Bool.true_and,Bool.true_and]
   by_cases hke:e.ao.toNat=k
   ·subst hke;rw[Qv hi]
    cases hd:ms[e.ao.toNat].bX with
    |true=>simp[hd,Qv hi]
    |false=>simp[hd,hi]
   ·have hne:decide (e.ao.toNat=k)=false:=Qh hke
    have hset:∀c:Bool,(if c=true then ms.set e.ao.toNat ⟨true,e.ab⟩else ms)[k]?=ms[k]?:=fun c=>by
     cases c
     ·rfl
     ·rw[Qr rfl,List.getElem?_set_ne hke]
    rw[hne,hset];simp
  ·have hv':bj e=false:=by simpa using hv
   simp[hv']
theorem X4{aJ:Nat}(hn:aJ<10)(t:aa)(l:List aj){k:Nat}(hk:k<10):(jU aJ t l)[k]?=some (if k=aJ then⟨true,t⟩else match DV l k with
  |some e=>⟨true,e.ab⟩
  |none=>iw):=by
 rw[jU,Oc l _ (by simp) (fun m hm hd=> ?_) k hk]
 ·by_cases h:k=aJ
  ·subst h;simp[hn]
  ·rw[List.getElem?_set_ne (fun e=>h e.symm),List.getElem?_replicate,Qr hk]
   simp[h,iw]
 ·rcases List.mem_or_eq_of_mem_set hm with hm|rfl
  ·exact(List.mem_replicate.1 hm).2
  ·cases hd
end
section
theorem ZO{τ ρ:Type}(n:Nat)(mk:Int->τ){step:τ->Option (τ⊕ρ)}{fin:Option ρ}(h1:∀i:Nat,i<n->step (mk (i:Int))=some (.inl (mk ((i+1:Nat):Int))))(h2:step (mk (n:Int))=Option.map Sum.inr fin):ax step (mk 0)=fin:=by
 suffices key:∀(k i:Nat),i+k=n->ax step (mk (i:Int))=fin from key n 0 (by omega)
 intro k
 induction k with
 |zero=>
  intro i hi;obtain rfl:i=n:=by omega
  rw[jJ,h2];cases fin<;>rfl
 |succ k ih=>exact fun i hi=>(cD (h1 i (by omega))).trans (ih (i+1) (by omega))
theorem Yj{ρ:Type}(n:Nat)(hn:n<=1000000){fin:Option ρ}{step:Int×Unit->Option ((Int×Unit)⊕ρ)}
  (h1:∀i:Nat,i<n->decide ((i:Int)<((n:Nat):Int))=true->aq .i64 (i:Int) 1=((i+1:Nat):Int)->step ((i:Int),())=some (.inl (((i+1:Nat):Int),())))
  (h2:decide (((n:Nat):Int)<((n:Nat):Int))=false->step ((n:Int),())=Option.map Sum.inr fin):ax step (0,())=fin:=
 ZO n (fun i=>(i,())) (fun i hi=>h1 i hi (Qg (by omega)) (bN (by omega) (by omega))) (h2 (Qh (Qq63 _)))
end
section
def Fc:List UInt8->Nat
 |[]=>0
 |a::l=>a.toNat*256 ^ l.length+Fc l
theorem Ik:∀l:List UInt8,Fc l<256 ^ l.length
 |[]=>by simp[Fc]
 |a::l=>by
  have h1:=Ik l;have h2:a.toNat<256:=a.toNat_lt;rw[Fc,QE,Nat.pow_succ];have h3:(a.toNat+1)*256 ^ l.length<=256*256 ^ l.length:=Qq62 _ h2;rw[Qq72,Nat.one_mul,Nat.mul_comm 256]at h3;omega
theorem ZL:∀{x y:List UInt8},x.length=y.length->Op.bytesLess x y=true->Fc x<Fc y
 |[],[],_,h=>by simp[Op.bytesLess]at h
 |[],_::_,hl,_=>by simp at hl
 |_::_,[],hl,_=>by simp at hl
 |a::x,b::y,hl,h=>by
  simp only[QE,Nat.add_right_cancel_iff]at hl;simp only[Op.bytesLess,Qn,Qi,Qm,beq_iff_eq]at h;rw[Fc,Fc,hl];rcases h with h|⟨rfl,h⟩
  ·have h1:=Ik x;rw[hl]at h1;have h2:a.toNat<b.toNat:=UInt8.lt_iff_toNat_lt.1 h;have h3:(a.toNat+1)*256 ^ y.length<=b.toNat*256 ^ y.length:=Qq62 _ h2;rw[Qq72,Nat.one_mul]at h3;omega
  ·have:=ZL hl h;omega
def WV:Nat:=256 ^ 201
def N0(v:ByteArray):Nat:=v.size*256 ^ 200+Fc v.toList
theorem toList_len(v:ByteArray):v.toList.length=v.size:=by
 rw[Lib.toList_data];cases v;simp[ByteArray.size]
theorem Yy{a b:Nat}(h:a<=b):(256:Nat) ^ a<=256 ^ b:=Nat.pow_le_pow_right (by omega) h
theorem VD{v:ByteArray}(h:v.size<=200):N0 v<WV:=by
 have h1:=Ik v.toList;rw[toList_len]at h1;have h2:=Yy h;have h3:v.size*256 ^ 200<=200*256 ^ 200:=Qq62 _ h;have h4:WV=256*256 ^ 200:=by rw[WV,Nat.pow_succ,Nat.mul_comm]
 unfold N0;rw[h4];generalize (256:Nat) ^ 200=Z at*;omega
theorem Zb{a b:ByteArray}(hb:b.size<=200)(h:dS a b=true):N0 a<N0 b:=by
 unfold dS at h;unfold N0
 by_cases hs:a.size=b.size
 ·rw[Qr hs]at h;have:=ZL (x:=a.toList) (y:=b.toList) (by rw[toList_len,toList_len,hs]) h
  rw[hs];omega
 ·rw[Qs hs,Qi]at h;have h1:=Ik a.toList;rw[toList_len]at h1;have h2:=Yy (show a.size<=200 by omega)
  have h3:(a.size+1)*256 ^ 200<=b.size*256 ^ 200:=Qq62 _ h;rw[Qq72,Nat.one_mul]at h3;generalize (256:Nat) ^ 200=Z at*;omega
def Sm(b:ai):Prop:=0<=b.ah/\b.ah<=1000/\b.Value.size<=200
def nb(b:ai):Nat:=b.ah.toNat*WV+N0 b.Value
def WB:Nat:=1001*WV
theorem oL{b:ai}(h:Sm b):nb b<WB:=by
 obtain⟨h1,h2,h3⟩:=h;have h4:=VD h3;unfold nb WB;have h5:b.ah.toNat*WV<=1000*WV:=Qq62 _ (by omega)
 generalize WV=Z at*;omega
theorem tZ{a b:ai}(ha:Sm a)(hb:Sm b)(h:bD a b=true):nb a<nb b:=by
 unfold bD at h;unfold nb
 by_cases hc:a.ah=b.ah
 ·rw[Qr hc]at h;have:=Zb hb.2.2 h;rw[hc];omega
 ·rw[Qs hc,Qi]at h;have h1:=VD ha.2.2;have h2:=ha.1;have h3:(a.ah.toNat+1)*WV<=b.ah.toNat*WV:=Qq62 _ (by omega)
  rw[Qq72,Nat.one_mul]at h3;generalize WV=Z at*;omega
theorem Yd.down{σ ρ:Type}{step:σ->Option (σ⊕ρ)}{p:ρ->Prop}(inv:σ->Prop)(μ:σ->Nat)(h:∀s,inv s->Yd (step s) fun y=>match y with| .inl s'=>inv s'/\μ s'<μ s| .inr r=>p r){s:σ}(hs:inv s):Yd (ax step s) p:=by
 suffices key:∀(n:Nat) (s:σ),μ s<n->inv s->Yd (ax step s) p from key _ s (Nat.lt_succ_self _) hs
 intro n
 induction n with
 |zero=>intro s h0;omega
 |succ n ih=>
  intro s hn hi;refine Yd.loop ((h s hi).mono fun y hy=> ?_)
  cases y with
  |inl s'=>exact ih s' (by have:=hy.2;omega) hy.1
  |inr r=>exact hy
end
section
def cq:ai:=⟨0,gY⟩
def fc(m:ae):Int:=if(!aT m.aw&&cI m.aw m.af)=true then m.aw.ah else 0
def df(m:ae):aj:=
 if m.aY=1 then⟨m.ao,m.aK,m.aO,m.ab,m.aY,m.af,m.an,m.aH,m.bo,fc m⟩
 else if m.aY=2 then⟨m.ao,m.aK,m.aO,m.ab,m.aY,m.af,m.an,cq,m.bo,m.bC⟩
 else⟨m.ao,m.aK,m.aO,m.ab,m.aY,m.af,cq,cq,m.bo,m.bC⟩
theorem Hm(m:ae):(df m).ao=m.ao:=by unfold df;split<;>(try split)<;>rfl
theorem OU(m:ae):(df m).aK=m.aK:=by unfold df;split<;>(try split)<;>rfl
theorem Tn(m:ae):(df m).aO=m.aO:=by unfold df;split<;>(try split)<;>rfl
theorem oW(m:ae):(df m).ab=m.ab:=by unfold df;split<;>(try split)<;>rfl
theorem Zr(m:ae):(df m).bu=m.aY:=by unfold df;split<;>(try split)<;>rfl
theorem xW(m:ae):gA m=some (df m):=by
 unfold gA df fc;simp only[bc,etas,dy,fS,Qa]
 by_cases h1:m.aY=1
 ·rw[Qg h1,Qr h1];cases aT m.aw<;>cases cI m.aw m.af<;>rfl
 ·rw[Qh h1,Qs h1]
  by_cases h2:m.aY=2
  ·rw[Qg h2,Qr h2];rfl
  ·rw[Qh h2,Qs h2];rfl
def iv(m:ae):aj:={df m with aO:=bP (df m).aO 1}
def xT(e:aj):List aj->List aj
 |[]=>[e]
 |x::l=>if e.ao<x.ao then e::x::l else x::xT e l
theorem G9(e:aj):∀l,(xT e l).Perm (l++[e])
 |[]=> .refl _
 |x::l=>by
  unfold xT;split
  ·exact(List.perm_append_singleton e (x::l)).symm
  ·exact(G9 e l).cons x
def cr(m:ae):List aj:=if aT m.af=true then m.aI else xT (iv m) m.aI
theorem M1{m:ae}(h:m.aI.length<=1000):ke m=some (cr m):=by
 unfold ke cr;simp only[etas,dy,xW,Qa]
 cases aT m.af with
 |true=>rfl
 |false=>
  simp only[Ql,Qq,Qu];have hown:aj.mk (df m).ao (df m).aK (bP (df m).aO 1) (df m).ab (df m).bu (df m).af (df m).an (df m).aH (df m).bo (df m).bC=iv m:=rfl;have hnode:(df m).ao=(iv m).ao:=rfl;rw[hown,hnode];generalize iv m=e
  suffices key:∀(k i:Nat) (b:Bool) (o:List aj),i+k=m.aI.length->o.length<=i+(bif b then 1 else 0)->ax _ (b,(i:Int),o,())=some (o++if b=true then m.aI.drop i else xT e (m.aI.drop i))from(key m.aI.length 0 false [] (by omega) (by simp)).trans (by simp)
  intro k
  induction k with
  |zero=>
   intro i b o hi ho;obtain rfl:i=m.aI.length:=by omega
   have hd:decide ((m.aI.length:Int)<(m.aI.length:Int))=false:=Qh (Qq63 _);refine ct ?_;rw[Qq65];simp only[hd,Ql,bc]
   cases b with
   |true=>simp
   |false=>
    simp only[Ql]at ho;rw[ba (by simp;omega)]
    simp[xT]
  |succ k ih=>
   intro i b o hi ho;have hlt:i<m.aI.length:=by omega
   have hd:decide ((i:Int)<(m.aI.length:Int))=true:=Qg (by omega)
   have hw:aq .i64 (i:Int) 1=((i+1:Nat):Int):=bN (by omega) (by omega)
   have hx:idx m.aI (i:Int)=some m.aI[i]:=by rw[aP];exact Qv hlt
   rw[QM hlt]
   cases b with
   |true=>
    simp only[Qk]at ho;have:=ih (i+1) true (o++[m.aI[i]]) (by omega) (by simp;omega)
    simp only[Qt]at this ⊢;rw[show o++m.aI[i]::m.aI.drop (i+1)=(o++[m.aI[i]])++m.aI.drop (i+1)by simp]
    refine Eq.trans (cD ?_) this;simp only[hd,hx,hw,Qk,bc,Qa,Qo,Ql];rw[ba (by simp;omega),Qk]
   |false=>
    simp only[Ql]at ho
    by_cases hn:e.ao<m.aI[i].ao
    ·have:=ih (i+1) true (o++[e]++[m.aI[i]]) (by omega) (by simp;omega)
     simp only[Qt,Qq,Qu]at this ⊢;rw[xT,Qr hn,show o++e::m.aI[i]::m.aI.drop (i+1)=(o++[e]++[m.aI[i]])++m.aI.drop (i+1)by simp]
     refine Eq.trans (cD ?_) this;simp only[hd,hx,hw,Qk,bc,Qa,Qp,Qg hn];rw[ba (by simp;omega),Qk,ba (by simp;omega),Qk]
    ·have:=ih (i+1) false (o++[m.aI[i]]) (by omega) (by simp;omega)
     simp only[Qq,Qu]at this ⊢;rw[xT,Qs hn,show o++m.aI[i]::xT e (m.aI.drop (i+1))=(o++[m.aI[i]])++xT e (m.aI.drop (i+1))by simp]
     refine Eq.trans (cD ?_) this;simp only[hd,hx,hw,Qk,bc,Qa,Qp,Qh hn,Ql];rw[ba (by simp;omega),Qk]
def Ev(a b:ai):Bool:=decide (a.ah=b.ah)&&decide (a.Value=b.Value)
theorem On{a b:ai}:Ev a b=true↔a=b:=by
 cases a;cases b;simp[Ev]
def Cy(a b:ae):Bool:=decide (a.aY=b.aY)&&Ev a.af b.af&&Ev a.an b.an&&Ev a.aH b.aH&&Ev a.aw b.aw&&decide (a.bo=b.bo)&&decide (a.bC=b.bC)
theorem abe(a b:Bool):(bif a then b else false)=(a&&b):=by cases a<;>rfl
theorem aeP(a b:ae):me a b=some (Cy a b):=by
 unfold me Cy Ev;simp only[CV,Qa,uk,abe]
end
section
def zz(v:ByteArray)(n:Int)(x:ai):Int:=
 if(dB x&&eS x ⟨n,v⟩)=true then(if eS x ⟨x.ah,v⟩=true then x.ah+1 else x.ah)else n
def qI(v:ByteArray)(n:Int)(p q:ai):Int:=zz v (zz v (bP n 1) p) q
theorem Sf(v:ByteArray)(n:Int)(p q:ai):qW v n p q=some (qI v n p q):=by
 unfold qW qI;generalize bP n 1=k
 have hst:∀(i:Nat) (x:ai) (k:Int),i<2->[p,q][i]?=some x->
   (fun(v1:Int×Int×Unit)=>
    bif (decide (v1.2.1<(2:Int)))then
    bb (fun(v2:Int×Unit)=>some (Sum.inl (v2.1,(aq .i64 v1.2.1 (1:Int)),v2.2))) fun j3=>
    Option.bind (idx [p,q] v1.2.1) fun x4=>
    Option.bind (iS x4) fun r5=>
    Option.bind (bif r5 then Option.bind (fT x4 (ai.mk v1.1 v)) fun r6=>some r6 else some false) fun b7=>
    bif b7 then Option.bind (fT x4 (ai.mk x4.ah v)) fun r8=>
     bif r8 then j3 ((aq .i64 x4.ah (1:Int)),())else j3 (x4.ah,())
    else j3 (v1.1,())
    else(Option.map Sum.inr (some v1.1):Option ((Int×Int×Unit)⊕Int))) (k,(i:Int),())=some (Sum.inl (zz v k x,((i+1:Nat):Int),())):=by
  intro i x k hi hx;have hd:decide ((i:Int)<2)=true:=Qg (by omega)
  have hw:aq .i64 (i:Int) 1=((i+1:Nat):Int):=bN (by omega) (by omega)
  have hx':idx [p,q] (i:Int)=some x:=by rw[aP];exact hx
  simp only[hd,hw,hx',Qk,bc,Qa,wX,AX];unfold zz
  cases hv:dB x with
  |false=>simp
  |true=>
   have hc:aq .i64 x.ah 1=x.ah+1:=by
    have:1<=x.ah/\x.ah<=1000000:=by
     simp only[dB,Qm,Qn,Qi]at hv;omega
    exact bN (by omega) (by omega)
   cases h1:eS x ⟨k,v⟩with
   |false=>simp
   |true=>cases h2:eS x ⟨x.ah,v⟩<;>simp[hc]
 refine(cD (hst 0 p k (by omega) rfl)).trans ((cD (hst 1 q _ (by omega) rfl)).trans (ct ?_))
 rfl
theorem aa4(b:ai):qU b=some (if 1000<b.ah then⟨1000,b.Value⟩else b):=by
 unfold qU
 by_cases h:1000<b.ah
 ·simp[h]
 ·simp[h]
end
section
theorem WR{lo k:Int}{v:ByteArray}{p:ai}(h:lo<=k)(hl:bD ⟨k,v⟩ p=true):bD ⟨lo,v⟩ p=true:=by
 unfold bD at hl ⊢;simp only at hl ⊢
 by_cases h1:lo=k
 ·rw[h1];exact hl
 ·have h2:lo<p.ah:=by
   split at hl
   ·omega
   ·simp only[Qi]at hl;omega
  rw[Qs (by omega)]
  simpa using h2
theorem UO{lo k:Int}{v:ByteArray}{p:ai}(h:lo<=k)(ha:eS p ⟨lo,v⟩=false):eS p ⟨k,v⟩=false:=by
 cases hk:eS p ⟨k,v⟩with
 |false=>rfl
 |true=>
  simp only[eS,Qm,cI]at hk;simp only[eS,cI,hk.1.1,hk.1.2,WR h hk.2]at ha;cases ha
theorem kl(p b:ai):km p b=true↔aT p=false/\p.Value=b.Value/\b.ah<=p.ah:=by
 simp[km,cI,and_assoc]
theorem LQ{b:ai}(h:1<=b.ah):aT b=false:=by
 have:¬b.ah=0:=by omega
 simp[aT,this]
end
section
theorem acg{n:Nat}(h:n<1000000):bz .u64 (n:Int)=n:=by
 unfold bz IntKind.wrap;simp[IntKind.signed,IntKind.bits];omega
def vE(b p:ai)(j:Nat)(t:aa):aj:=⟨j,1,1,t,1,b,p,⟨0,bE⟩,0,0⟩
structure Ua (b:ai):Prop where
 lo:1<=b.ah
 hi:b.ah<=6
 val:Pb b.Value
theorem Ua.valid{b:ai}(h:Ua b):dB b=true:=X7 h.lo (by have:=h.hi;omega) h.val
theorem Ua.nz{b:ai}(h:Ua b):aT b=false:=LQ h.lo
theorem Wg{l:List aj}(h:∀e∈l,bj e=true):eD l=l:=List.filter_eq_self.2 h
end
section
theorem Bx:∀(l:List aj) (ms:List aA) (k:Nat) (m:aA),ms[k]?=some m->
  (l.foldl ed ms)[k]?=some (if m.bX then m else match(eD l).find? (fun e=>decide (e.ao.toNat=k))with|some e=>⟨true,e.ab⟩|none=>m)
 |[],ms,k,m,h=>by simp[eD,h]
 |e::l,ms,k,m,h=>by
  rw[QU]
  by_cases hv:bj e=true
  ·have hr:eD (e::l)=e::eD l:=by simp[eD,hv]
   rw[hr,List.find?_cons]
   by_cases hk:e.ao.toNat=k
   ·have hstep:(ed ms e)[k]?=some (if m.bX then m else⟨true,e.ab⟩):=by
     unfold ed;rw[hv,hk,h]
     cases hm:m.bX with
     |true=>simp[hm,h]
     |false=>
      have hlt:k<ms.length:=(Qw.1 h).1;simp[hm,hlt]
    rw[Bx l _ k _ hstep]
    cases hm:m.bX with
    |true=>simp[hm]
    |false=>simp[hk]
   ·have hstep:(ed ms e)[k]?=some m:=by
     unfold ed;split
     ·rw[List.getElem?_set_ne hk];exact h
     ·exact h
    rw[Bx l _ k m hstep];simp[hk]
  ·have hv':bj e=false:=by simpa using hv
   have hr:eD (e::l)=eD l:=by simp[eD,hv']
   have hstep:ed ms e=ms:=by simp[ed,hv']
   rw[hr,hstep];exact Bx l ms k m h
theorem X6{aJ:Nat}{t:aa}{l:List aj}{k:Nat}(hk:k<10)(hn:aJ<10):
  (jU aJ t l)[k]?=some (if k=aJ then⟨true,t⟩else match(eD l).find? (fun e=>decide (e.ao.toNat=k))with|some e=>⟨true,e.ab⟩|none=>iw):=by
 unfold jU
 by_cases h:k=aJ
 ·subst h;rw[Bx l _ k ⟨true,t⟩ (by simp[hk])]
  simp
 ·rw[Bx l _ k iw (by
   rw[List.getElem?_set_ne (fun e=>h e.symm),List.getElem?_replicate,Qr hk])]
  simp[h,iw]
theorem OJ{l:List aA}{k:Nat}{m:aA}(hk:k<10)(h:l[k]?=some m)(hd:m.bX=true):oV l k=true:=by
 rw[oV,xf,h];simp[hk,hd]
theorem X3{aJ:Nat}(hn:aJ<10){t:aa}{l:List aj}(T:Nat->aa)(ht:T aJ=t)(hT:∀e∈eD l,e.ab=T e.ao.toNat){k:Nat}(hk:k<10)(hs:k=aJ\/∃e∈eD l,e.ao.toNat=k):
  oV (jU aJ t l) k=true/\kL (jU aJ t l) k=T k:=by
 have hg:=X6 (t:=t) (l:=l) hk hn
 by_cases h:k=aJ
 ·rw[Qr h]at hg;exact⟨OJ hk hg rfl,by rw[lJ hg,h,ht]⟩
 ·rw[Qs h]at hg;obtain⟨e,he,hek⟩:=hs.resolve_left h
  cases hf:(eD l).find? (fun e=>decide (e.ao.toNat=k))with
  |none=>
   have:=List.find?_eq_none.1 hf e he;simp[hek]at this
  |some e'=>
   rw[hf]at hg;have h1:=List.mem_of_find?_eq_some hf;have h2:=List.find?_some hf;simp only[Qi]at h2;exact⟨OJ hk hg rfl,by rw[lJ hg,<-h2];exact hT e' h1⟩
def yF(b p:ai)(ts:List aa)(q n:Nat)(l:List aj):Prop:=
 l.length<=n/\(∀e∈l,∃i t,i<n/\q.testBit i=true/\ts[i]?=some t/\e=vE b p i t)/\∀i t,i<n->q.testBit i=true->ts[i]?=some t->vE b p i t∈l
theorem yF.nil(b p:ai)(ts:List aa)(q:Nat):yF b p ts q 0 []:=⟨by simp,by simp,fun i t h=>by omega⟩
theorem yF.skip{b p:ai}{ts:List aa}{q n:Nat}{l:List aj}(h:yF b p ts q n l)(hq:q.testBit n=false):yF b p ts q (n+1) l:=by
 obtain⟨h1,h2,h3⟩:=h;refine⟨by omega,fun e he=> ?_,fun i t hi hb ht=> ?_⟩
 ·obtain⟨i,t,a,b,c⟩:=h2 e he;exact⟨i,t,by omega,b,c⟩
 ·rcases Nat.lt_or_ge i n with h|h
  ·exact h3 i t h hb ht
  ·obtain rfl:i=n:=by omega
   rw[hq]at hb;cases hb
theorem yF.take{b p:ai}{ts:List aa}{q n:Nat}{l:List aj}(h:yF b p ts q n l)(hq:q.testBit n=true){t:aa}(ht:ts[n]?=some t):yF b p ts q (n+1) (l++[vE b p n t]):=by
 obtain⟨h1,h2,h3⟩:=h;refine⟨by simp;omega,fun e he=> ?_,fun i t' hi hb ht'=> ?_⟩
 ·rcases Qz.1 he with he|he
  ·obtain⟨i,t,a,b,c⟩:=h2 e he;exact⟨i,t,by omega,b,c⟩
  ·simp only[Q4]at he;exact⟨n,t,by omega,hq,ht,he⟩
 ·rcases Nat.lt_or_ge i n with h|h
  ·exact Qz.2 (.inl (h3 i t' h hb ht'))
  ·obtain rfl:i=n:=by omega
   rw[ht]at ht';injection ht' with ht'
   subst ht';exact Qz.2 (.inr (by simp))
section
variable {b p : ai} (hb : Ua b) (hp : aT p = true \/ dB p = true) {ts : List aa} (hts : ∀ t ∈ ts, cn t) {q : Nat} {l : List aj} (hlen : ts.length <= 5) (hc : yF b p ts q ts.length l)
 include hb hp hts hlen hc
end
end
section
section
variable {α : Type}
structure SWO (lt:α->α->Bool):Prop where
 asymm:∀x y,lt x y=true->lt y x=false
 trans:∀x y z,lt y x=false->lt z y=false->lt z x=false
end
end
section
section
variable {α : Type}
variable [DecidableEq α]
variable {eq ne : α -> α -> Bool} {z : α}
end
end
section
 def l8(v:ByteArray)(e:aj):Bool:=bj e&&decide (e.af.Value=v)&& !decide (e.bo=0)
 def ends(v:ByteArray)(l:List aj):List Int:=l.flatMap fun e=>if l8 v e then[e.bo,e.bC]else[]
theorem Tp(v:ByteArray):∀l,(ends v l).length<=2*l.length
 |[]=>by simp[ends]
 |e::l=>by
  have:=Tp v l;rw[ends,List.flatMap_cons,QB,QE];rw[ends]at this;split<;>simp only[QE,QY]<;>omega
theorem JV{v:ByteArray}{l:List aj}{x:Int}:x∈ends v l↔∃e∈l,l8 v e=true/\(x=e.bo\/x=e.bC):=by
 simp only[ends,QQ];constructor
 ·rintro⟨e,he,hx⟩;split at hx
  ·rename_i h;exact⟨e,he,h,by simpa using hx⟩
  ·cases hx
 ·rintro⟨e,he,h,hx⟩;exact⟨e,he,by rw[Qr h];simpa using hx⟩
end
section
 def oZ(aJ:Nat)(t:aa)(l:List aj)(val:ByteArray)(lo hi:Int):Bool:=
 Bg (jU aJ t l) aJ (jr (fun e=>DB e val lo hi||pM e val lo hi) (eD l)) (jr (pM · val lo hi) (eD l))
 def zf(aJ:Nat)(t:aa)(l:List aj)(val:ByteArray)(lo hi:Int):Bool:=
 (gq (jU aJ t l) (jr (pM · val lo hi) (eD l))).testBit aJ
def eC(q:Int->Bool):List Int->Int->Int
 |[],lo=>lo
 |e::l,lo=>if lo<=e then eC q l lo else if q e then eC q l e else lo
def flat(n:Nat)(k:Int):aa:=⟨k,vJ n,[]⟩
theorem aac(s n:Nat)(k:Int):dC s (flat n k)=decide (k<=(((vJ n).countP (dE s):Nat):Int)):=by
 rw[DJ];simp[flat,kU]
theorem Xp{s s':Nat}(h:∀k,s.testBit k=true->s'.testBit k=true)(l:List Int):l.countP (dE s)<=l.countP (dE s'):=List.countP_mono_left fun x _ hx=>OO h x hx
structure yh (n:Nat) (k:Int) (l:List aj):Prop where
 n10:n<=10
 k1:1<=k
 kn:k<=n
 valid:∀e∈l,bj e=true
 aR:∀e∈l,e.ab=flat n k
 few:l.length<=1000
 all:∀i,i<n->∃e∈l,e.ao.toNat=i
theorem yh.eH{n:Nat}{k:Int}{l:List aj}(h:yh n k l):cn (flat n k):=OR n h.n10 k h.k1 h.kn
theorem yh.sm{n:Nat}{k:Int}{l:List aj}(h:yh n k l):Av l:=⟨by have:=h.few;omega,fun e he=>by rw[h.aR e he];exact h.eH.sm⟩
theorem yh.eD{n:Nat}{k:Int}{l:List aj}(h:yh n k l):Go.Proofs.YtgjpkadjihpddaaGreat.eD l=l:=Wg h.valid
theorem yh.ahT{n:Nat}{k:Int}{l:List aj}(h:yh n k l){i j:Nat}(hi:i<n)(hj:j<n):oV (jU i (flat n k) l) j=true/\kL (jU i (flat n k) l) j=flat n k:=by
 have h10:=h.n10;refine X3 (by omega) (fun _=>flat n k) rfl (fun e he=> ?_) (by omega) (.inr ?_)
 ·rw[h.eD]at he;exact h.aR e he
 ·obtain⟨e,he,hn⟩:=h.all j hj;exact⟨e,by rw[h.eD];exact he,hn⟩
theorem yh.no{n:Nat}{k:Int}{l:List aj}(h:yh n k l){i:Nat}(hi:i<n){s:Nat}(hs:s<1024)(hc:(((vJ n).countP (dE s):Nat):Int)<k):(gq (jU i (flat n k) l) s).testBit i=false:=by
 have hg:=Bf (tO (aJ:=i) h.eH.sm h.sm) hs
 cases hb:(gq (jU i (flat n k) l) s).testBit i with
 |false=>rfl
 |true=>
  have h1:=(hg.inside i hb).2.2;rw[(h.ahT hi hi).2,aac]at h1;have h1:=of_decide_eq_true h1;have h2:=Xp (s':=s) (fun j hj=>(hg.inside j hj).1) (vJ n)
  omega
def cE(n:Nat)(k:Int)(c:Int)(v:ByteArray)(lo hi:Nat->Int)(i:Nat):aj:=⟨i,1,1,flat n k,2,⟨c,v⟩,⟨c,v⟩,⟨0,bE⟩,lo i,hi i⟩
end
section
def Hg(b:List Int)(sure:Int->Int->Bool):Int×Int×Bool×Unit:=
 match b.reverse.find? (fun e=>sure e e)with
 |some e=>(eC (fun x=>sure x e) b.reverse e,e,true,())
 |none=>(0,0,false,())
section
variable {n : Nat} {k c : Int} {v : ByteArray} {lo hi : Nat -> Int} (h : yh n k ((List.range n).map (cE n k c v lo hi))) {i : Nat} (hi' : i < n)
 include h hi'
end
end
section
section
variable {α : Type}
structure Aw (lt:α->α->Bool):Prop where
 irrefl:∀x,lt x x=false
 trans:∀x y z,lt x y=true->lt y z=true->lt x z=true
 total:∀x y,lt x y=false->lt y x=false->x=y
variable {lt : α -> α -> Bool}
theorem Aw.asymm(h:Aw lt){x y:α}(hxy:lt x y=true):lt y x=false:=by
 cases hc:lt y x with
 |false=>rfl
 |true=>have:=h.trans x y x hxy hc;rw[h.irrefl]at this;cases this
theorem Aw.ntrans(h:Aw lt){x y z:α}(h1:lt x y=false)(h2:lt y z=false):lt x z=false:=by
 cases hc:lt x z with
 |false=>rfl
 |true=>
  cases hyx:lt y x with
  |false=>rw[h.total x y h1 hyx,h2]at hc;cases hc
  |true=>have:=h.trans y x z hyx hc;rw[h2]at this;cases this
theorem Aw.own(h:Aw lt):SWO lt:=⟨fun _ _=>h.asymm,fun _ _ _ h1 h2=>h.ntrans h2 h1⟩
theorem Aw.flip(h:Aw lt):Aw fun a b=>lt b a:=⟨h.irrefl,fun x y z h1 h2=>h.trans z y x h2 h1,fun x y h1 h2=>h.total x y h2 h1⟩
theorem Aw.unique(h:Aw lt):∀{a b:List α},a.Pairwise (fun x y=>lt x y=true)->b.Pairwise (fun x y=>lt x y=true)->(∀x,x∈a↔x∈b)->a=b
 |[],[],_,_,_=>rfl
 |[],y::b,_,_,h'=>by have:=(h' y).2 (by simp);cases this
 |x::a,[],_,_,h'=>by have:=(h' x).1 (by simp);cases this
 |x::a,y::b,ha,hb,h'=>by
  rw[Q3]at ha hb
  have hxy:x=y:=by
   have h1:=(h' x).1 (by simp)
   have h2:=(h' y).2 (by simp)
   rcases QA.1 h1 with h1|h1
   ·exact h1
   ·rcases QA.1 h2 with h2|h2
    ·exact h2.symm
    ·have q1:=ha.1 y h2;have q2:=hb.1 x h1;rw[h.asymm q1]at q2;cases q2
  subst hxy;congr 1;refine h.unique ha.2 hb.2 fun z=>⟨fun hz=> ?_,fun hz=> ?_⟩
  ·rcases QA.1 ((h' z).1 (by simp[hz]))with e|e
   ·subst e;have:=ha.1 z hz;rw[h.irrefl]at this;cases this
   ·exact e
  ·rcases QA.1 ((h' z).2 (by simp[hz]))with e|e
   ·subst e;have:=hb.1 z hz;rw[h.irrefl]at this;cases this
   ·exact e
end
theorem UX:Aw fun a b:Int=>decide (a<b):=
 ⟨fun x=>Qh (Qq63 x),fun x y z h1 h2=>by simp only[Qi]at*;omega,fun x y h1 h2=>by simp only[Qj]at*;omega⟩
theorem TO:∀{x y z:List UInt8},Op.bytesLess x y=true->Op.bytesLess y z=true->Op.bytesLess x z=true
 |[],[],_,h,_=>by simp[Op.bytesLess]at h
 |_::_,[],_,h,_=>by simp[Op.bytesLess]at h
 |[],_::_,[],_,h=>by simp[Op.bytesLess]at h
 |[],_::_,_::_,_,_=>rfl
 |_::_,_::_,[],_,h=>by simp[Op.bytesLess]at h
 |a::x,b::y,c::z,h,h'=>by
  simp only[Op.bytesLess,Qn,Qi,Qm,beq_iff_eq]at h h' ⊢;rcases h with h|⟨rfl,h⟩
  ·rcases h' with h'|⟨rfl,h'⟩
   ·exact .inl (UInt8.lt_trans h h')
   ·exact .inl h
  ·rcases h' with h'|⟨rfl,h'⟩
   ·exact .inl h'
   ·exact .inr ⟨rfl,TO h h'⟩
theorem Ug{a b c:ByteArray}(h:jV a b=true)(h':jV b c=true):jV a c=true:=TO h h'
theorem Uh{a b:ByteArray}(h:a≠b):jV a b=true\/jV b a=true:=
 TP fun e=>h (by
  rw[Lib.toList_data,Lib.toList_data]at e;cases a;cases b;rename_i x y;cases x;cases y
  simp_all)
theorem uL:Aw dS:=by
 refine⟨fun x=>by rw[dS,Qr rfl,Ro],fun x y z h1 h2=> ?_,fun x y h1 h2=> ?_⟩
 ·unfold dS at*
  by_cases e1:x.size=y.size
  ·rw[Qr e1]at h1
   by_cases e2:y.size=z.size
   ·rw[Qr e2]at h2;rw[Qr (e1.trans e2)];exact Ug h1 h2
   ·rw[Qs e2]at h2;rw[Qs (by omega),e1]
    exact h2
  ·rw[Qs e1,Qi]at h1
   by_cases e2:y.size=z.size
   ·rw[Qs (by omega),<-e2]
    exact Qg h1
   ·rw[Qs e2,Qi]at h2;rw[Qs (by omega)]
    exact Qg (by omega)
 ·unfold dS at*
  by_cases e1:x.size=y.size
  ·rw[Qr e1]at h1;rw[Qr e1.symm]at h2;refine Classical.byContradiction fun hne=> ?_
   rcases Uh hne with h|h
   ·rw[h]at h1;cases h1
   ·rw[h]at h2;cases h2
  ·rw[Qs e1,Qj]at h1;rw[Qs (fun e=>e1 e.symm),Qj]at h2
   omega
theorem HS:Aw bD:=by
 refine⟨fun x=>by rw[bD,Qr rfl,uL.irrefl],fun x y z h1 h2=> ?_,fun x y h1 h2=> ?_⟩
 ·unfold bD at*
  by_cases e1:x.ah=y.ah
  ·rw[Qr e1]at h1
   by_cases e2:y.ah=z.ah
   ·rw[Qr e2]at h2;rw[Qr (e1.trans e2)];exact uL.trans _ _ _ h1 h2
   ·rw[Qs e2]at h2;rw[Qs (by omega),e1]
    exact h2
  ·rw[Qs e1,Qi]at h1
   by_cases e2:y.ah=z.ah
   ·rw[Qs (by omega),<-e2]
    exact Qg h1
   ·rw[Qs e2,Qi]at h2;rw[Qs (by omega)]
    exact Qg (by omega)
 ·unfold bD at*
  by_cases e1:x.ah=y.ah
  ·rw[Qr e1]at h1;rw[Qr e1.symm]at h2;have:=uL.total _ _ h1 h2;cases x;cases y
   simp_all
  ·rw[Qs e1,Qj]at h1;rw[Qs (fun e=>e1 e.symm),Qj]at h2
   omega
end
section
structure M3 (n:Nat) (l:List aj):Prop where
 of:∀e∈l,∃i:Nat,i<n/\ahg i 1 n e
 asc:l.Pairwise fun a b=>a.ao<b.ao
 len:l.length<=n
theorem M3.valid{n:Nat}{l:List aj}(h:M3 n l):∀e∈l,bj e=true:=fun e he=>by
 obtain⟨i,_,hi⟩:=h.of e he;rw[bj,l5 hi.aR];exact hi.valid
theorem M3.sm{n:Nat}{l:List aj}(h:M3 n l)(hn:n<=1000):Av l:=⟨by have:=h.len;omega,fun e he=>by
 obtain⟨i,_,hi⟩:=h.of e he
 exact hi.aR.sm⟩
theorem vX.mono{l:List aA}{s s' r:Nat}(h:∀k,s.testBit k=true->s'.testBit k=true)(hi:vX l s r):vX l s' r:=fun k hk=>⟨h k (hi k hk).1,(hi k hk).2⟩
section
variable {aJ : Nat} {t : aa} (ht : cJ t) {l : List aj} (hl : Av l) {v : ByteArray} {lo hi k : Int} (h1 : lo <= k) (h2 : k <= hi)
 include ht hl h1 h2
end
end
section
instance:Inhabited ai:=⟨⟨0,bE⟩⟩
instance:DecidableEq ai:=fun a b=>decidable_of_iff (a.ah=b.ah/\a.Value=b.Value) (by cases a;cases b;simp)
 def said(e:aj):List ai:=if bj e then(if e.bu=1 then[e.af,e.an,e.aH]else if e.bu=2 then[e.an,at_ e 1000000]else[at_ e 1000000])else[]
theorem Kt{α β:Type}(f:α->List β)(hf:∀x,(f x).length<=3):∀l:List α,(l.flatMap f).length<=3*l.length
 |[]=>by simp
 |x::l=>by
  have:=Kt f hf l;have:=hf x;rw[List.flatMap_cons,QB,QE];omega
section
variable {α : Type} [DecidableEq α] {lt : α -> α -> Bool}
def eo(lt:α->α->Bool)(x:α):List α->List α
 |[]=>[x]
 |y::l=>if lt y x then y::eo lt x l else if y=x then y::l else x::y::l
theorem ET(x:α):∀(l:List α) (z:α),z∈eo lt x l↔z=x\/z∈l
 |[],z=>by simp[eo]
 |y::l,z=>by
  rw[eo];split
  ·rw[QA,ET x l z,QA];constructor
   ·rintro(h|h|h)
    ·exact .inr (.inl h)
    ·exact .inl h
    ·exact .inr (.inr h)
   ·rintro(h|h|h)
    ·exact .inr (.inl h)
    ·exact .inl h
    ·exact .inr (.inr h)
  ·split
   ·rename_i h;rw[QA];constructor
    ·exact .inr
    ·rintro(h1|h1)
     ·exact .inl (h1.trans h.symm)
     ·exact h1
   ·rw[QA]
theorem Aw.eo(h:Aw lt)(x:α):∀{l:List α},l.Pairwise (fun a b=>lt a b=true)->(Go.Proofs.YtgjpkadjihpddaaGreat.eo lt x l).Pairwise (fun a b=>lt a b=true)
 |[],_=>by rw[Go.Proofs.YtgjpkadjihpddaaGreat.eo];exact List.pairwise_singleton _ _
 |y::l,hp=>by
  rw[Q3]at hp;rw[Go.Proofs.YtgjpkadjihpddaaGreat.eo];split
  ·rename_i hy;rw[Q3];refine⟨fun z hz=> ?_,h.eo x hp.2⟩
   rcases(ET x l z).1 hz with rfl|hz
   ·exact hy
   ·exact hp.1 z hz
  ·rename_i hy;split
   ·exact Q3.2 hp
   ·rename_i hne
    have hxy:lt x y=true:=by
     cases hc:lt x y with
     |true=>rfl
     |false=>exact absurd (h.total y x (by simpa using hy) hc) hne
    rw[Q3,Q3];refine⟨fun z hz=> ?_,hp⟩
    rcases QA.1 hz with rfl|hz
    ·exact hxy
    ·exact h.trans _ _ _ hxy (hp.1 z hz)
theorem uc(x:α):∀l:List α,(eo lt x l).length<=l.length+1
 |[]=>by simp[eo]
 |y::l=>by
  have:=uc x l;rw[eo];split
  ·simp;omega
  ·split<;>simp
theorem Vt(x:α):∀(l:List α) (i:Nat),(∀j,j<i->∃y,l[j]?=some y/\lt y x=true)->(∀y,l[i]?=some y->lt y x=false)->eo lt x l=if l[i]?=some x then l else l.take i++x::l.drop i
 |[],i,h1,h2=>by
  cases i with
  |zero=>simp[eo]
  |succ i=>obtain⟨y,hy,_⟩:=h1 0 (by omega);simp at hy
 |y::l,i,h1,h2=>by
  cases i with
  |zero=>
   have hy:=h2 y rfl;rw[eo,hy,Qs (by simp)]
   by_cases h:y=x
   ·simp[h]
   ·simp[h]
  |succ i=>
   obtain⟨y',hy',hlt⟩:=h1 0 (by omega)
   simp only[List.getElem?_cons_zero,Qf]at hy';subst hy'
   rw[eo,Qr hlt,Vt x l i (fun j hj=>by
    obtain⟨z,hz,h⟩:=h1 (j+1) (by omega)
    exact⟨z,by simpa using hz,h⟩) (fun z hz=>h2 z (by simpa using hz))]
   simp only[List.getElem?_cons_succ,List.take_succ_cons,List.drop_succ_cons];split<;>simp
theorem Mu(h:Aw lt):∀(xs l:List α),l.Pairwise (fun a b=>lt a b=true)->(xs.foldl (fun l x=>eo lt x l) l).Pairwise (fun a b=>lt a b=true)/\∀z,z∈xs.foldl (fun l x=>eo lt x l) l↔z∈xs\/z∈l
 |[],l,hp=>⟨hp,by simp⟩
 |x::xs,l,hp=>by
  obtain⟨h1,h2⟩:=Mu h xs _ (h.eo x hp);rw[QU];refine⟨h1,fun z=> ?_⟩
  rw[h2,ET,QA];constructor
  ·rintro(a|a|a)
   ·exact .inl (.inr a)
   ·exact .inl (.inl a)
   ·exact .inr a
  ·rintro((a|a)|a)
   ·exact .inr (.inl a)
   ·exact .inl a
   ·exact .inr (.inr a)
theorem Be:∀(xs l:List α),(xs.foldl (fun l x=>eo lt x l) l).length<=l.length+xs.length
 |[],l=>by simp
 |x::xs,l=>by
  have:=Be xs (eo lt x l);have:=uc (lt:=lt) x l;rw[QU,QE];omega
end
theorem uK{α:Type}(l:List α)(i:Nat):(l.take (Int.toNat (i:Int))).drop (Int.toNat (0:Int))=l.take i:=by simp
theorem yL{α:Type}(l:List α)(i:Nat):(l.take (Int.toNat (l.length:Int))).drop (Int.toNat (i:Int))=l.drop i:=by simp
theorem tP{i n:Nat}(h:i<=n):eA (0:Int) (i:Int) n=true:=by
 simp only[eA,Qm,Qi];omega
theorem tQ{i n:Nat}(h:i<=n):eA (i:Int) (n:Int) n=true:=by
 simp only[eA,Qm,Qi];omega
theorem iz{bytes n:Nat}(h:bytes<=200)(hn:n<=1000000):aX bytes n=true:=
 ba ⟨QK (Nat.mul_le_mul hn h) (by decide),hn⟩
theorem Rb{α ρ:Type}(l:List α)(hl:l.length<=1000000)(P:α->Bool){step:Int×Unit->Option ((Int×Unit)⊕ρ)}{r:Nat->Option ρ}
  (h1:∀(i:Nat) (y:α),l[i]?=some y->decide ((i:Int)<(l.length:Int))=true->idx l (i:Int)=some y->P y=true->aq .i64 (i:Int) 1=((i+1:Nat):Int)->step ((i:Int),())=some (.inl (((i+1:Nat):Int),())))
  (h2:∀(i:Nat) (y:α),l[i]?=some y->decide ((i:Int)<(l.length:Int))=true->idx l (i:Int)=some y->P y=false->step ((i:Int),())=Option.map Sum.inr (r i))
  (h3:decide ((l.length:Int)<(l.length:Int))=false->step ((l.length:Int),())=Option.map Sum.inr (r l.length)):
  ∃i,i<=l.length/\(∀j,j<i->∃y,l[j]?=some y/\P y=true)/\(∀y,l[i]?=some y->P y=false)/\ax step ((0:Int),())=r i:=by
 suffices key:∀(k i:Nat),i+k=l.length->(∀j,j<i->∃y,l[j]?=some y/\P y=true)->∃m,m<=l.length/\(∀j,j<m->∃y,l[j]?=some y/\P y=true)/\(∀y,l[m]?=some y->P y=false)/\ax step ((i:Int),())=r m from key l.length 0 (by omega) (fun j hj=>absurd hj (Nat.not_lt_zero _))
 intro k
 induction k with
 |zero=>
  intro i hi hj;obtain rfl:i=l.length:=by omega
  refine⟨l.length,QI _,hj,fun y hy=>by simp at hy,?_⟩
  rw[jJ,h3 (Qh (Qq63 _))];cases r l.length<;>rfl
 |succ k ih=>
  intro i hi hj;have hx:l[i]?=some l[i]:=Qv (by omega)
  have hd:decide ((i:Int)<(l.length:Int))=true:=Qg (by omega)
  cases hP:P l[i]with
  |true=>
   rw[cD (h1 i _ hx hd (by rw[aP];exact hx) hP (bN (by omega) (by omega)))]
   refine ih (i+1) (by omega) fun j hj'=> ?_
   rcases Nat.lt_or_ge j i with h|h
   ·exact hj j h
   ·obtain rfl:j=i:=by omega
    exact⟨_,hx,hP⟩
  |false=>
   refine⟨i,by omega,hj,fun y hy=> ?_,?_⟩
   ·rw[hx]at hy;injection hy with hy
    rw[<-hy];exact hP
   ·rw[jJ,h2 i _ hx hd (by rw[aP];exact hx) hP]
    cases r i<;>rfl
theorem G8{α ρ:Type}[DecidableEq α]{lt:α->α->Bool}(l:List α)(hl:l.length<=1000000)(x:α){step:Int×Unit->Option ((Int×Unit)⊕ρ)}{k:List α->Option ρ}
  (h1:∀(i:Nat) (y:α),decide ((i:Int)<(l.length:Int))=true->idx l (i:Int)=some y->lt y x=true->aq .i64 (i:Int) 1=((i+1:Nat):Int)->step ((i:Int),())=some (.inl (((i+1:Nat):Int),())))
  (h2:∀(i:Nat) (y:α),i<l.length->decide ((i:Int)<(l.length:Int))=true->decide ((i:Int)=(l.length:Int))=false->idx l (i:Int)=some y->lt y x=false->step ((i:Int),())=Option.map Sum.inr (k (if y=x then l else l.take i++x::l.drop i)))
  (h3:decide ((l.length:Int)<(l.length:Int))=false->decide ((l.length:Int)=(l.length:Int))=true->step ((l.length:Int),())=Option.map Sum.inr (k (l++[x]))):ax step ((0:Int),())=k (eo lt x l):=by
 obtain⟨i,hi,g1,g2,g3⟩:=Rb l hl (fun y=>lt y x) (step:=step) (r:=fun i=>k (if l[i]?=some x then l else l.take i++x::l.drop i)) (fun i y hy hd hx hP hw=>h1 i y hd hx hP hw) (fun i y hy hd hx hP=>by
   have hlt:=(Qw.1 hy).1;rw[h2 i y hlt hd (Qh (by omega)) hx hP,hy]
   by_cases hyx:y=x
   ·simp[hyx]
   ·have:¬(some y=some x):=fun h=>hyx (by injection h)
    rw[Qs hyx,Qs this]) (fun hd=>by
   rw[h3 hd (Qg rfl),Qs (by simp),Q9,Qq65])
 rw[g3,Vt x l i g1 g2]
theorem adA(l:List ai)(hl:l.length<=900000)(b:ai):uA l b=some (if aT b then l else eo (fun x y=>bD y x) b l):=by
 unfold uA;rw[dy,Qa]
 cases hz:aT b with
 |true=>rfl
 |false=>
  simp only[Ql,bc]
  have he:∀y:ai,(decide (y.ah=b.ah)&&decide (y.Value=b.Value))=decide (y=b):=fun y=>by
   rw[QW];cases y;cases b;simp
  refine G8 (lt:=fun x y=>bD y x) l (by omega) b (k:=fun t=>some t) (fun i y hd hx hlt hw=> ?_) (fun i y hi hd hde hx hlt=> ?_) (fun hd hde=> ?_)
  ·simp only[hd,hx,hw,Qk,Qa,jo,hlt]
  ·have e1:=uK l i;have e2:=yL l i;simp only[hd,hx,Qk,Qa,jo,hlt,Ql,CV,e1,e2,tP (show i<=l.length by omega),tQ (show i<=l.length by omega),he]
   rw[iz (by omega) (by simp;omega),iz (by omega) (by simp;omega),iz (by omega) (by simp;omega)]
   by_cases hyb:y=b<;>simp[hyb]
  ·have e1:=uK l l.length;have e2:=yL l l.length;simp only[hd,Ql,e1,e2,tP (QI l.length),tQ (QI l.length),Qk];rw[iz (by omega) (by simp;omega),iz (by omega) (by simp;omega),iz (by omega) (by simp;omega)]
   simp
theorem CU{α σ ρ:Type}(l:List α)(hl:l.length<=1000000)(f:σ->α->σ)(Inv:Nat->σ->Prop){step:σ×Int×Unit->Option ((σ×Int×Unit)⊕ρ)}{fin:σ->Option ρ}
  (hI:∀i s x,x∈l->Inv i s->Inv (i+1) (f s x))
  (h1:∀(i:Nat) (x:α) (s:σ),Inv i s->i<=l.length->x∈l->decide ((i:Int)<(l.length:Int))=true->idx l (i:Int)=some x->aq .i64 (i:Int) 1=((i+1:Nat):Int)->step (s,(i:Int),())=some (.inl (f s x,((i+1:Nat):Int),())))
  (h2:∀s,decide ((l.length:Int)<(l.length:Int))=false->step (s,(l.length:Int),())=Option.map Sum.inr (fin s)) (s:σ) (hs:Inv 0 s):ax step (s,(0:Int),())=fin (l.foldl f s):=by
 suffices key:∀(k i:Nat) (s:σ),i+k=l.length->Inv i s->ax step (s,(i:Int),())=fin ((l.drop i).foldl f s)from key l.length 0 s (by omega) hs
 intro k
 induction k with
 |zero=>
  intro i s hi hs;obtain rfl:i=l.length:=by omega
  rw[jJ,h2 s (Qh (Qq63 _)),Qq65,List.foldl_nil];cases fin s<;>rfl
 |succ k ih=>
  intro i s hi hs;have hlt:i<l.length:=by omega
  rw[cD (h1 i l[i] s hs (by omega) (QZ hlt) (Qg (by omega)) (by rw[aP];exact Qv hlt) (bN (by omega) (by omega))),ih (i+1) _ (by omega) (hI i s _ (QZ hlt) hs),QM hlt,QU]
 def mW(e:aj):List ai:=if bj e then(if e.bu=1 then[e.af,e.an,e.aH]else[e.an,at_ e 1000000])else[]
theorem La{e:aj}{x:ai}(hz:aT x=false):x∈mW e↔x∈said e:=by
 unfold mW said
 cases hv:bj e with
 |false=>simp
 |true=>
  by_cases k1:e.bu=1
  ·simp[k1]
  ·by_cases k2:e.bu=2
   ·simp[k2]
   ·have hp:aT e.an=true:=by
     unfold bj lZ at hv;rw[Qm,Qs k1,Qs k2]at hv;have h:=hv.2
     by_cases k3:e.bu=3
     ·rw[Qr k3]at h;simp only[Bh,Qm]at h;exact h.1.1.2
     ·rw[Qs k3]at h;cases h
    simp only[Qt,k1,k2,Qu,QA,QR,or_false];constructor
    ·rintro(h|h)
     ·rw[h,hp]at hz;cases hz
     ·exact h
    ·exact .inr
def uW(l:List ai)(b:ai):List ai:=if aT b then l else eo (fun x y=>bD y x) b l
theorem Js:∀(xs l:List ai),xs.foldl uW l=(xs.filter fun b=> !aT b).foldl (fun l x=>eo (fun x y=>bD y x) x l) l
 |[],l=>rfl
 |x::xs,l=>by
  rw[QU,Js xs,List.filter_cons];cases hz:aT x<;>simp[uW,hz]
theorem OL(l:List ai)(b:ai):(uW l b).length<=l.length+1:=by
 unfold uW;split
 ·omega
 ·exact uc b l
 def gw(l:List aj):List ai:=l.foldl (fun s e=>(mW e).foldl uW s) []
section
variable {l : List aj} (hl : ∀ e ∈ l, cJ e.ab) (hlen : l.length <= 1000)
 include hl hlen
theorem Dc:kE l=some (gw l):=by
 have hfold:∀xs:List ai,xs.length<=3->∀s:List ai,(xs.foldl uW s).length<=s.length+xs.length:=by
  intro xs _
  induction xs with
  |nil=>intro s;simp
  |cons x xs ih=>
   intro s;have:=ih (by simp at*;omega) (uW s x)
   have:=OL s x;rw[QU,QE];omega
 have hr3:∀e,(mW e).length<=3:=fun e=>by
  unfold mW;split
  ·split<;>simp
  ·simp
 have hF:kE l=some (l.foldl (fun s e=>(mW e).foldl uW s) []):=by
  unfold kE;refine CU l (by omega) (fun s e=>(mW e).foldl uW s) (fun i s=>s.length<=3*i) (fin:=fun s=>some s) (fun i s x _ hs=> ?_) (fun i e s hs hi he hd hx hw=> ?_) (fun s hd=> ?_) [] (by simp)
  ·have:=hfold (mW x) (hr3 x) s;have:=hr3 x;show(List.foldl uW s (mW x)).length<=3*(i+1);omega
  ·simp only[hd,hx,hw,Qk,bc,Qa,etas,jk (hl e he)]
   have inner:∀L:List ai,L.length<=3->ax (fun(v8:(List ai)×Int×Unit)=>
     bif (decide (v8.2.1<((List.length L:Nat):Int)))then Option.bind (idx L v8.2.1) fun x9=>Option.bind (uA v8.1 x9) fun r10=>some (Sum.inl (r10,(aq .i64 v8.2.1 (1:Int)),()))
     else Option.map Sum.inr (some (Sum.inl (v8.1,((i+1:Nat):Int),()):((List ai)×Int×Unit)⊕(List ai)))) (s,(0:Int),())=some (Sum.inl (L.foldl uW s,((i+1:Nat):Int),())):=by
    intro L hL;refine CU L (by omega) uW (fun k t=>t.length<=s.length+k) (fin:=fun t=>some (Sum.inl (t,((i+1:Nat):Int),()))) (fun k t x _ ht=> ?_) (fun k x t ht hk hx' hd' hxx hw'=> ?_) (fun t hd'=> ?_) s (by simp)
    ·have:=OL t x;omega
    ·simp only[hd',hxx,hw',Qk,Qa,adA t (by omega)]
     rfl
    ·simp only[hd',Ql]
   cases hv:bj e with
   |false=>simp[mW,hv]
   |true=>
    by_cases k1:e.bu=1
    ·have i3:=inner [e.af,e.an,e.aH] (by simp)
     simp only[Qo,Ql,k1,decide_true,i3,mW,hv,Qt]
    ·have i2:=inner [e.an,⟨1000000,e.af.Value⟩] (by simp)
     simp only[Qo,Qp,Ql,Qk,k1,decide_false,i2,mW,hv,Qt,Qu,at_]
  ·simp only[hd,Ql]
 exact hF
theorem vV:kE l=some (gw l)/\(gw l).Pairwise (fun x y=>bD y x=true)/\(gw l).length<=3000/\∀x,x∈gw l↔∃e∈l,x∈said e/\aT x=false:=by
 have hr3:∀e,(mW e).length<=3:=fun e=>by
  unfold mW;split
  ·split<;>simp
  ·simp
 have hflat:gw l=(l.flatMap mW).foldl uW []:=by rw[List.foldl_flatMap];rfl
 refine⟨Dc hl hlen,?_⟩;rw[hflat,Js];obtain⟨h5,h6⟩:=Mu HS.flip ((l.flatMap mW).filter fun b=> !aT b) [] .nil
 refine⟨h5,?_,fun x=> ?_⟩
 ·have:=Be (lt:=fun x y=>bD y x) ((l.flatMap mW).filter fun b=> !aT b) []
  have:=List.length_filter_le (fun b=> !aT b) (l.flatMap mW)
  have:=Kt mW hr3 l;simp only[QY]at*;omega
 rw[h6];simp only[List.mem_filter,QQ,QR,or_false,Bool.not_eq_true'];constructor
 ·rintro⟨⟨e,he,hx⟩,hz⟩;exact⟨e,he,(La hz).1 hx,hz⟩
 ·rintro⟨e,he,hx,hz⟩;exact⟨⟨e,he,(La hz).2 hx⟩,hz⟩
end
 def gm(l:List aj):List ByteArray:=l.foldl (fun s e=>if bj e then eo dS e.af.Value s else s) []
 def bF(l:List aj)(v:ByteArray):List Int:=l.foldl (fun s e=>if l8 v e then eo (fun a b=>decide (a<b)) e.bC (eo (fun a b=>decide (a<b)) e.bo s)else s) []
section
variable {l : List aj} (hl : ∀ e ∈ l, cJ e.ab) (hlen : l.length <= 1000)
 include hl hlen
theorem Lf:nC l=some (gm l):=by
 have hF:nC l=some (l.foldl (fun s e=>if bj e then eo dS e.af.Value s else s) []):=by
  unfold nC;refine CU l (by omega) (fun s e=>if bj e then eo dS e.af.Value s else s) (fun i s=>s.length<=i) (fin:=fun s=>some s) (fun i s x _ hs=> ?_) (fun i e s hs hi he hd hx hw=> ?_) (fun s hd=> ?_) [] (by simp)
  ·show(if bj x then eo dS x.af.Value s else s).length<=i+1
   have:=uc (lt:=dS) x.af.Value s;split<;>omega
  ·simp only[hd,hx,hw,Qk,bc,Qa,etas,jk (hl e he)]
   cases hv:bj e with
   |false=>simp
   |true=>
    simp only[Qo,Ql,Qt];refine G8 (lt:=dS) s (by omega) e.af.Value (k:=fun t=>some (Sum.inl (t,((i+1:Nat):Int),()))) (fun j y hd' hx' hlt hw'=> ?_) (fun j y hj hd' hde hx' hlt=> ?_) (fun hd' hde=> ?_)
    ·simp only[hd',hx',hw',Qk,Qa,yu,hlt]
    ·have e1:=uK s j;have e2:=yL s j;simp only[hd',hx',hde,Qk,Ql,Qa,yu,hlt,e1,e2,tP (show j<=s.length by omega),tQ (show j<=s.length by omega)]
     rw[iz (by omega) (by simp;omega),iz (by omega) (by simp;omega),iz (by omega) (by simp;omega)]
     by_cases hyx:y=e.af.Value<;>simp[hyx]
    ·have e1:=uK s s.length;have e2:=yL s s.length;simp only[hd',Qk,Ql,e1,e2,tP (QI s.length),tQ (QI s.length)];rw[iz (by omega) (by simp;omega),iz (by omega) (by simp;omega),iz (by omega) (by simp;omega)]
     simp
  ·simp only[hd,Ql]
 exact hF
theorem AZ:nC l=some (gm l)/\(gm l).Pairwise (fun x y=>dS x y=true)/\(gm l).length<=3000/\∀x,x∈gm l↔∃e∈l,bj e=true/\x=e.af.Value:=by
 have hflat:gm l=(l.flatMap fun e=>if bj e then[e.af.Value]else[]).foldl (fun l x=>eo dS x l) []:=by
  rw[List.foldl_flatMap];unfold gm;congr 1
  funext s e
  split<;>rfl
 refine⟨Lf hl hlen,?_⟩;rw[hflat];obtain⟨h5,h6⟩:=Mu uL (l.flatMap fun e=>if bj e then[e.af.Value]else[]) [] .nil
 refine⟨h5,?_,fun x=> ?_⟩
 ·have:=Be (lt:=dS) (l.flatMap fun e=>if bj e then[e.af.Value]else[]) []
  have:=Kt (fun e:aj=>if bj e then[e.af.Value]else[]) (fun e=>by split<;>simp) l
  simp only[QY]at*;omega
 rw[h6];simp only[QQ,QR,or_false];constructor
 ·rintro⟨e,he,hx⟩;split at hx
  ·rename_i hv;exact⟨e,he,hv,by simpa using hx⟩
  ·cases hx
 ·rintro⟨e,he,hv,hx⟩;exact⟨e,he,by rw[Qr hv];simpa using hx⟩
theorem uN(v:ByteArray):gL l v=some (bF l v):=by
 have hF:gL l v=some (l.foldl (fun s e=>if l8 v e then eo (fun a b=>decide (a<b)) e.bC (eo (fun a b=>decide (a<b)) e.bo s)else s) []):=by
  unfold gL;refine CU l (by omega) (fun s e=>if l8 v e then eo (fun a b=>decide (a<b)) e.bC (eo (fun a b=>decide (a<b)) e.bo s)else s) (fun i s=>s.length<=2*i) (fin:=fun s=>some s) (fun i s x _ hs=> ?_) (fun i e s hs hi he hd hx hw=> ?_) (fun s hd=> ?_) [] (by simp)
  ·show(if l8 v x then eo (fun a b=>decide (a<b)) x.bC (eo (fun a b=>decide (a<b)) x.bo s)else s).length<=2*(i+1)
   have h1:=uc (lt:=fun a b:Int=>decide (a<b)) x.bo s
   have h2:=uc (lt:=fun a b:Int=>decide (a<b)) x.bC (eo (fun a b=>decide (a<b)) x.bo s)
   split<;>omega
  ·simp only[hd,hx,hw,Qk,bc,Qa,etas,jk (hl e he)]
   have inner:∀(t:List Int) (x:Int) (z:Int),t.length<=3000->ax (fun(v12:Int×Unit)=>
     Option.bind (bif (decide (v12.1<((List.length t:Nat):Int)))then Option.bind (idx t v12.1) fun x13=>some (decide (x13<x))else some false) fun b14=>
     bif b14 then some (Sum.inl ((aq .i64 v12.1 (1:Int)),()))else
     Option.map Sum.inr (Option.bind (bif (decide (v12.1=((List.length t:Nat):Int)))then some true else Option.bind (idx t v12.1) fun x15=>some (!decide (x15=x))) fun b16=>
     bif b16 then
     bif eA (0:Int) v12.1 (List.length t)then
     bif aX 8 (List.length ((t.take (Int.toNat v12.1)).drop (Int.toNat (0:Int))))then
     bif aX 8 (List.length ((t.take (Int.toNat v12.1)).drop (Int.toNat (0:Int)))+List.length [x])then
     bif eA v12.1 (t.length:Int) (List.length t)then
     bif aX 8 (List.length (((t.take (Int.toNat v12.1)).drop (Int.toNat (0:Int)))++[x])+List.length ((t.take (Int.toNat (t.length:Int))).drop (Int.toNat v12.1)))then
     some (Sum.inl (((((t.take (Int.toNat v12.1)).drop (Int.toNat (0:Int)))++[x])++((t.take (Int.toNat (t.length:Int))).drop (Int.toNat v12.1))),z,()):((List Int)×Int×Unit)⊕(((List Int)×Int×Unit)⊕(List Int)))
     else none else none else none else none else none
     else some (Sum.inl (t,z,())))) ((0:Int),())=some (Sum.inl (eo (fun a b=>decide (a<b)) x t,z,())):=by
    intro t x z ht;refine G8 (lt:=fun a b:Int=>decide (a<b)) t (by omega) x (k:=fun t=>some (Sum.inl (t,z,()))) (fun j y hd' hx' hlt hw'=> ?_) (fun j y hj hd' hde hx' hlt=> ?_) (fun hd' hde=> ?_)
    ·simp only[hd',hx',hw',Qk,Qa,hlt]
    ·have e1:=uK t j;have e2:=yL t j;simp only[hd',hx',hde,Qk,Ql,Qa,hlt,e1,e2,tP (show j<=t.length by omega),tQ (show j<=t.length by omega)]
     rw[iz (by omega) (by simp;omega),iz (by omega) (by simp;omega),iz (by omega) (by simp;omega)]
     by_cases hyx:y=x<;>simp[hyx]
    ·have e1:=uK t t.length;have e2:=yL t t.length;simp only[hd',Qk,Ql,Qa,e1,e2,tP (QI t.length),tQ (QI t.length)];rw[iz (by omega) (by simp;omega),iz (by omega) (by simp;omega),iz (by omega) (by simp;omega)]
     simp
   have hw1:aq .i64 (0:Int) 1=1:=rfl;have hw2:aq .i64 (1:Int) 1=2:=rfl;have hd0:decide ((0:Int)<2)=true:=rfl;have hd1:decide ((1:Int)<2)=true:=rfl;have hd2:decide ((2:Int)<2)=false:=rfl;have hx0:idx [e.bo,e.bC] 0=some e.bo:=rfl;have hx1:idx [e.bo,e.bC] 1=some e.bC:=rfl;have hl1:=uc (lt:=fun a b:Int=>decide (a<b)) e.bo s
   unfold l8
   cases hv:bj e with
   |false=>simp
   |true=>
    by_cases hvv:e.af.Value=v
    ·by_cases hlo:e.bo=0
     ·simp[hvv,hlo]
     ·simp only[Qo,Ql,hvv,decide_true,hlo,decide_false,Bool.and_self,Qp,Qa,Qt];refine(cD (s':=(eo (fun a b=>decide (a<b)) e.bo s,(1:Int),())) ?_).trans ((cD (s':=(eo (fun a b=>decide (a<b)) e.bC (eo (fun a b=>decide (a<b)) e.bo s),(2:Int),())) ?_).trans (ct ?_))
      ·simp only[hd0,hx0,hw1,Qk,Qa];exact inner s e.bo 1 (by omega)
      ·simp only[hd1,hx1,hw2,Qk,Qa];exact inner _ e.bC 2 (by omega)
      ·simp only[hd2,Ql,Qe]
    ·simp[hvv]
  ·simp only[hd,Ql]
 exact hF
theorem o7(v:ByteArray):gL l v=some (bF l v)/\(bF l v).Pairwise (·<·)/\(bF l v).length<=3000/\∀x,x∈bF l v↔x∈ends v l:=by
 have hflat:bF l v=(ends v l).foldl (fun l x=>eo (fun a b=>decide (a<b)) x l) []:=by
  rw[ends,List.foldl_flatMap];unfold bF;congr 1
  funext s e
  split<;>rfl
 refine⟨uN hl hlen v,?_⟩;rw[hflat];obtain⟨h5,h6⟩:=Mu UX (ends v l) [] .nil;refine⟨h5.imp fun h=>of_decide_eq_true h,?_,fun x=> ?_⟩
 ·have:=Be (lt:=fun a b:Int=>decide (a<b)) (ends v l) []
  have:=Tp v l;simp only[QY]at*;omega
 rw[h6];simp
end
end
section
section
variable {α : Type}
variable {p : α -> Option Bool} {q : α -> Bool} (hp : ∀ x, p x = some (q x)) {z : α}
 include hp
end
end
section
theorem adp{e:aj}(hv:bj e=true):e.bu=1/\0<=e.bo/\e.bo<=e.bC\/e.bu≠1/\1<=e.bo/\e.bo<=e.bC:=by
 unfold bj lZ at hv;rw[Qm]at hv;have h:=hv.2
 by_cases k1:e.bu=1
 ·rw[Qr k1]at h;simp only[gE,Qm,Qi]at h;omega
 ·rw[Qs k1]at h
  by_cases k2:e.bu=2
  ·rw[Qr k2]at h;simp only[vU,vO,Qm,Qi]at h;omega
  ·rw[Qs k2]at h
   by_cases k3:e.bu=3
   ·rw[Qr k3]at h;simp only[Bh,vO,Qm,Qi]at h;omega
   ·rw[Qs k3]at h;cases h
end
section
def OH:ai:=⟨0,gY⟩
theorem MH{α τ:Type}(l:List α)(hl:l.length<=1000000)(mk:Int->τ)(P:α->Bool)(z:α){step:τ->Option (τ⊕α)}
  (h1:∀(i:Nat) (x:α),decide ((i:Int)<(l.length:Int))=true->idx l (i:Int)=some x->aq .i64 (i:Int) 1=((i+1:Nat):Int)->step (mk (i:Int))=some (bif P x then .inr x else .inl (mk ((i+1:Nat):Int))))
  (h2:decide ((l.length:Int)<(l.length:Int))=false->step (mk (l.length:Int))=some (.inr z)):ax step (mk 0)=some ((l.find? P).getD z):=by
 suffices key:∀(k i:Nat),i+k=l.length->ax step (mk (i:Int))=some (((l.drop i).find? P).getD z)from key l.length 0 (by omega)
 intro k
 induction k with
 |zero=>
  intro i hi;obtain rfl:i=l.length:=by omega
  rw[ct (h2 (Qh (Qq63 _))),Qq65];rfl
 |succ k ih=>
  intro i hi;have hlt:i<l.length:=by omega
  have hs:=h1 i l[i] (Qg (by omega)) (by rw[aP];exact Qv hlt) (bN (by omega) (by omega))
  rw[QM hlt,List.find?_cons]
  cases hP:P l[i]with
  |true=>rw[hP]at hs;rw[ct hs];rfl
  |false=>rw[hP]at hs;rw[cD hs];exact ih (i+1) (by omega)
def xe(b:ai):ai:=if 1000<=b.ah then⟨1000000,b.Value⟩else b
theorem RL{e:aj}(h:cJ e.ab)(b:ai):lV e b=some (bj e&&iD e b):=by
 simp only[lV,etas,jk h,Qa,dy,fS,s8]
 cases hv:bj e with
 |false=>simp
 |true=>
  cases hz:aT b with
  |true=>simp[iD,hz]
  |false=>
   by_cases k1:e.bu=1
   ·simp[iD,hz,k1]
   ·by_cases k3:e.bu=3
    ·simp[iD,hz,k3]
    ·by_cases k2:e.bu=2
     ·have hp:aT e.aH=true:=by
       unfold bj lZ at hv;rw[Qm,Qs k1,Qr k2]at hv;simp only[vU,Qm]at hv;exact hv.2.1.1.2
      simp[iD,hz,k2,dY,km,hp]
     ·unfold bj lZ at hv;rw[Qs k1,Qs k2,Qs k3]at hv;simp at hv
end
section
theorem Hz{l:List aj}(hl:Av l)(hlen:l.length<=1000)(v:ByteArray):∀x∈bF l v,1<=x/\x<=1000:=by
 obtain⟨_,_,_,h⟩:=o7 hl.aR hlen v;intro x hx;obtain⟨e,he,hb,hy⟩:=JV.1 ((h x).1 hx);simp only[l8,Qm,Bool.not_eq_true',Qj]at hb;have hv:=hb.1.1;have h0:=hb.2;unfold bj lZ at hv;rw[Qm]at hv;have hv:=hv.2
 by_cases k1:e.bu=1
 ·rw[Qr k1]at hv;simp only[gE,finite,Qm,Qi]at hv;omega
 ·rw[Qs k1]at hv
  by_cases k2:e.bu=2
  ·rw[Qr k2]at hv;simp only[vU,vO,Qm,Qi]at hv;omega
  ·rw[Qs k2]at hv
   by_cases k3:e.bu=3
   ·rw[Qr k3]at hv;simp only[Bh,vO,Qm,Qi]at hv;omega
   ·rw[Qs k3]at hv;cases hv
def qR(p q:ai)(v:ByteArray)(n:Int):Bool:=eS p ⟨n,v⟩||eS q ⟨n,v⟩
 def Kv(b:List Int)(ready:Int->Int->Bool)(low eX:Int):Int×Int:=
 match b.reverse.find? (fun n=>decide (eX<n)&&ready n n)with
 |none=>(eC (fun x=>ready x eX) b.reverse low,eX)
 |some n=>
  let bottom:=eC (fun x=>ready x n) b.reverse n
  (eC (fun x=>ready x n) b.reverse (if eX<bottom - 1\/bottom<low then bottom else low),n)
end
section
end
section
theorem kinds{e:aj}(hv:bj e=true):e.bu=1\/e.bu=2\/e.bu=3:=by
 unfold bj lZ at hv;rw[Qm]at hv;have h:=hv.2
 by_cases k1:e.bu=1
 ·exact .inl k1
 ·by_cases k2:e.bu=2
  ·exact .inr (.inl k2)
  ·by_cases k3:e.bu=3
   ·exact .inr (.inr k3)
   ·rw[Qs k1,Qs k2,Qs k3]at h;cases h
theorem Wm{e:aj}(h:cJ e.ab)(b:ai):nh e b=some (bj e&&Bw e b):=by
 simp only[nh,etas,jk h,Qa,dy,fS,AW]
 cases hv:bj e with
 |false=>simp
 |true=>
  cases hz:aT b with
  |true=>simp[Bw,hz]
  |false=>by_cases k1:e.bu=1<;>simp[Bw,hz,k1]
theorem RM{e:aj}(h:cJ e.ab)(v:ByteArray)(lo hi:Int):mw e v lo hi=some (bj e&&pM e v lo hi):=by
 simp only[mw,etas,jk h,Qa,uk,pM,P5]
 cases hv:bj e with
 |false=>simp
 |true=>
  have hk:=kinds hv
  by_cases a1:lo<1<;>by_cases a2:hi<lo<;>by_cases a3:e.af.Value=v<;>by_cases a4:lo<e.bo<;>by_cases k1:e.bu=1<;>by_cases k3:e.bu=3<;>simp_all<;>grind
theorem Wn{e:aj}(h:cJ e.ab)(v:ByteArray)(lo hi:Int):oh e v lo hi=some (bj e&&DB e v lo hi):=by
 simp only[oh,etas,jk h,Qa,uk,DB,P5]
 cases hv:bj e with
 |false=>simp
 |true=>
  have hl:=adp hv
  by_cases a1:lo<1<;>by_cases a2:hi<lo<;>by_cases a3:e.af.Value=v<;>by_cases a4:lo<e.bo<;>by_cases k1:e.bu=1<;>by_cases a5:e.bo=0<;>simp_all<;>grind
theorem vI(p:aj->Bool):∀l:List aj,jr (fun e=>bj e&&p e) l=jr p (eD l)
 |[]=>rfl
 |e::l=>by
  have ih:=vI p l;rw[jr,ih];cases hv:bj e<;>simp[eD,hv,jr]
theorem zn(l:List aj)(hlen:l.length<=1000)(p:aj->Bool)(hp:∀e∈l,p e=true->0<=e.ao/\e.ao<10):fD l (l.map p)=some ((jr p l:Nat):Int):=by
 unfold fD
 suffices key:∀(k i s:Nat),i+k=l.length->s<1024->ax _ ((s:Int),(i:Int),())=some ((s|||jr p (l.drop i):Nat):Int)by
  have:=key l.length 0 0 (by omega) (by omega)
  rw[Nat.zero_or,List.drop_zero]at this;exact this
 intro k
 induction k with
 |zero=>
  intro i s hi hs;obtain rfl:i=l.length:=by omega
  have hd:decide ((l.length:Int)<(l.length:Int))=false:=Qh (Qq63 _);rw[ct (r:=(s:Int)) (by simp only[hd,Ql,Qe]),Qq65,jr]
  simp
 |succ k ih=>
  intro i s hi hs;have hlt:i<l.length:=by omega
  have hd:decide ((i:Int)<(l.length:Int))=true:=Qg (by omega)
  have hd2:decide ((i:Int)<(((l.map p).length:Nat):Int))=true:=Qg (by rw[QC];omega)
  have hw:aq .i64 (i:Int) 1=((i+1:Nat):Int):=bN (by omega) (by omega)
  have hx:idx l (i:Int)=some l[i]:=by rw[aP];exact Qv hlt
  have hx2:idx (l.map p) (i:Int)=some (p l[i]):=by rw[aP,QT,Qv hlt];rfl
  rw[QM hlt,jr]
  cases hpe:p l[i]with
  |false=>
   rw[cD (s':=((s:Int),((i+1:Nat):Int),())) (by simp only[hd,hd2,hx,hx2,hw,hpe,Qk,Ql,bc,Qa]),ih (i+1) s (by omega) hs]
   simp
  |true=>
   obtain⟨h0,h1⟩:=hp _ (QZ hlt) hpe
   have hc:bz .u64 l[i].ao=l[i].ao:=by
    obtain⟨n,hn⟩:∃n:Nat,l[i].ao=n:=⟨l[i].ao.toNat,by omega⟩
    rw[hn];exact acg (by omega)
   have hn0:¬l[i].ao<0:=by omega
   have d1:decide ((0:Int)<=l[i].ao)=true:=Qg h0;have d2:decide (l[i].ao<=(9:Int))=true:=Qg (by omega)
   rw[cD (s':=(((s|||2 ^ l[i].ao.toNat:Nat):Int),((i+1:Nat):Int),())) (by
    simp only[hd,hd2,hx,hx2,hw,hpe,Qk,bc,Qa,d1,d2,hc,hn0,Qu]
    rw[qF hs h0 h1]),ih (i+1) _ (by omega) (EM hs h1)]
   simp[Nat.or_assoc]
theorem Ri{ρ:Type}(l:List aj)(hl:l.length<=1000)(p q:aj->Bool){step:Int×List Bool×List Bool×Unit->Option ((Int×List Bool×List Bool×Unit)⊕ρ)}{fin:List Bool->List Bool->Option ρ}
  (h1:∀(i:Nat) (e:aj) (vs as_:List Bool),e∈l->decide ((i:Int)<(l.length:Int))=true->idx l (i:Int)=some e->aq .i64 (i:Int) 1=((i+1:Nat):Int)->(∀x:Bool,aX 1 (vs.length+[x].length)=true)->(∀x:Bool,aX 1 (as_.length+[x].length)=true)->step ((i:Int),vs,as_,())=some (.inl (((i+1:Nat):Int),vs++[p e],as_++[q e],())))
  (h2:∀vs as_,decide ((l.length:Int)<(l.length:Int))=false->step ((l.length:Int),vs,as_,())=Option.map Sum.inr (fin vs as_)):ax step ((0:Int),[],[],())=fin (l.map p) (l.map q):=by
 suffices key:∀(k i:Nat),i+k=l.length->ax step ((i:Int),(l.take i).map p,(l.take i).map q,())=fin (l.map p) (l.map q)from key l.length 0 (by omega)
 intro k
 induction k with
 |zero=>
  intro i hi;obtain rfl:i=l.length:=by omega
  rw[jJ,h2 _ _ (Qh (Qq63 _)),Q9];cases fin (l.map p) (l.map q)<;>rfl
 |succ k ih=>
  intro i hi;have hlt:i<l.length:=by omega
  rw[cD (h1 i l[i] _ _ (QZ hlt) (Qg (by omega)) (by rw[aP];exact Qv hlt) (bN (by omega) (by omega)) (fun x=>iz (by omega) (by simp;omega)) (fun x=>iz (by omega) (by simp;omega))),<-ih (i+1) (by omega),Q6 hlt,List.map_append,List.map_append]
  rfl
theorem Em{p:aj->Bool}{l:List aj}:∀e∈l,(bj e&&p e)=true->0<=e.ao/\e.ao<10:=fun e _ h=>by
 rw[Qm]at h;exact l7 h.1
section
variable {l : List aj} (hl : ∀ e ∈ l, cJ e.ab) (hlen : l.length <= 1000)
 include hl hlen
theorem Oi(b:ai):uz l b=some (((jr (fun e=>Bw e b||iD e b) (eD l):Nat):Int),((jr (iD · b) (eD l):Nat):Int),()):=by
 unfold uz;refine(Ri l hlen (fun e=>bj e&&(Bw e b||iD e b)) (fun e=>bj e&&iD e b) (fin:=fun vs as_=>Option.bind (fD l vs) fun r6=>Option.bind (fD l as_) fun r7=>some (r6,r7,())) (fun i e vs as_ he hd hx hw o1 o2=> ?_) (fun vs as_ hd=> ?_)).trans ?_
 ·simp only[hd,hx,hw,Qk,Qa,etas,RL (hl e he),Wm (hl e he),uk,o1,o2];cases bj e<;>cases Bw e b<;>cases iD e b<;>rfl
 ·simp only[hd,Ql]
 ·rw[zn l hlen _ Em,zn l hlen _ Em,Qa,Qa,vI,vI]
theorem Oh(v:ByteArray)(lo hi:Int):uw l v lo hi=some (((jr (fun e=>DB e v lo hi||pM e v lo hi) (eD l):Nat):Int),((jr (pM · v lo hi) (eD l):Nat):Int),()):=by
 unfold uw;refine(Ri l hlen (fun e=>bj e&&(DB e v lo hi||pM e v lo hi)) (fun e=>bj e&&pM e v lo hi) (fin:=fun vs as_=>Option.bind (fD l vs) fun r6=>Option.bind (fD l as_) fun r7=>some (r6,r7,())) (fun i e vs as_ he hd hx hw o1 o2=> ?_) (fun vs as_ hd=> ?_)).trans ?_
 ·simp only[hd,hx,hw,Qk,Qa,etas,RM (hl e he),Wn (hl e he),uk,o1,o2];cases bj e<;>cases DB e v lo hi<;>cases pM e v lo hi<;>rfl
 ·simp only[hd,Ql]
 ·rw[zn l hlen _ Em,zn l hlen _ Em,Qa,Qa,vI,vI]
end
theorem yM{c:av}(hc:qS c){v a b:Nat}(hv:v<10)(h1:a<1024)(h2:b<1024):my c v a b=some (Bg c.ay v a b):=by
 unfold my Bg;have h3:a|||b<1024:=Nat.or_lt_two_pow (n:=10) h1 h2
 rw[kc h1,kc h2,Li hc h2,H5 a b (by omega) (by omega),xx hc h3]
 simp[pL (Bf hc h3).lt,BY,hv]
theorem xt{c:av}(hc:qS c){v b:Nat}(hv:v<10)(h2:b<1024):lA c v b=some ((gq c.ay b).testBit v):=by
 unfold lA;rw[xx hc h2];simp[pL (Bf hc h2).lt,BY,hv]
end
section
theorem Ym(b:ai):ly b=some (xe b):=by
 unfold ly xe;simp only[bc,Ip,E8]
def H8(x:ai->Bool)(p q:ai)(v:ByteArray)(b:ai):Bool:=(decide (v=gY)||decide (b.Value=v))&& !dY (xe p) (xe q) b&&x b
def Ii(y:ai->Bool)(a b:ai):Bool:=bD a b&&decide (b.ah<=1000)&&y b
section
variable {aJ : Int} {t : aa} {l : List aj} (hl : Av l) (hlen : l.length <= 1000) {c : av} {x y : ai -> Bool}
 include hl hlen
theorem aag(hx:∀b,pw aJ t l b=some (x b))(p q:ai)(v:ByteArray):qV aJ t l p q v=some (((gw l).find? (H8 x p q v)).getD OH):=by
 obtain⟨h1,_,h3,_⟩:=vV hl.aR hlen;unfold qV;simp only[etas,Dc hl.aR hlen,Qa];refine MH (gw l) (by omega) (fun i=>(i,ai.mk (0:Int) bE,())) (H8 x p q v) OH (fun i b hd hx' hw=> ?_) (fun hd=> ?_)
 ·simp only[hd,hx',hw,Qk,bc,Qa,Ym,s8,hx];unfold H8 gY;cases decide (v=bE)<;>cases decide (b.Value=v)<;>cases dY (xe p) (xe q) b<;>cases x b<;>simp
 ·simp only[hd,Ql,Qe];rfl
theorem aah(hy:∀b,nX aJ t l b=some (y b))(a:ai):mu aJ t l a=some (((gw l).find? (Ii y a)).getD OH):=by
 obtain⟨h1,_,h3,_⟩:=vV hl.aR hlen;unfold mu;simp only[etas,Dc hl.aR hlen,Qa];refine MH (gw l) (by omega) (fun i=>(i,ai.mk (0:Int) bE,())) (Ii y a) OH (fun i b hd hx' hw=> ?_) (fun hd=> ?_)
 ·simp only[hd,hx',hw,Qk,Qa,jo,hy];unfold Ii;cases bD a b<;>cases decide (b.ah<=1000)<;>cases y b<;>simp
 ·simp only[hd,Ql,Qe];rfl
end
end
section
def iU{A ρ:Type}(g:A->Int->A⊕ρ)(fin:A->Option ρ):List Int->A->Option ρ
 |[],a=>fin a
 |x::l,a=>match g a x with
  | .inl a'=>iU g fin l a'
  | .inr r=>some r
theorem xA{A σ ρ:Type}(b:List Int)(hb:b.length<=1000000)(st:A->Int->σ)(g:A->Int->A⊕ρ)(fin:A->Option ρ){step:σ->Option (σ⊕ρ)}
  (h1:∀(i:Nat) (x:Int) (a:A),idx b (i:Int)=some x->decide ((0:Int)<=(i:Int))=true->da .i64 (i:Int) 1=(i:Int) - 1->step (st a (i:Int))=some (match g a x with| .inl a'=> .inl (st a' ((i:Int) - 1))| .inr r=> .inr r))
  (h2:∀a,decide ((0:Int)<=(-1:Int))=false->step (st a (-1))=Option.map Sum.inr (fin a)):∀n:Nat,n<=b.length->∀a:A,ax step (st a ((n:Int) - 1))=iU g fin (b.take n).reverse a
 |0,_,a=>by
  rw[show((0:Nat):Int) - 1= -1 by omega,jJ,h2 a rfl,List.take_zero,List.reverse_nil,iU]
  cases fin a<;>rfl
 |n+1,hn,a=>by
  have hlt:n<b.length:=by omega
  have hs:=h1 n b[n] a (by rw[aP];exact Qv hlt) (Qg (by omega)) (jA (by omega) (by omega))
  rw[show((n+1:Nat):Int) - 1=(n:Int)by omega,Q6 hlt,List.reverse_append,List.reverse_singleton,List.singleton_append,iU]
  cases hg:g a b[n]with
  |inl a'=>rw[hg]at hs;rw[cD hs,xA b hb st g fin h1 h2 n (by omega) a']
  |inr r=>rw[hg]at hs;rw[ct hs]
theorem HR(b:List Int)(hb:b.length<=1000000):da .i64 (b.length:Int) 1=(b.length:Int) - 1:=jA (by omega) (by omega)
theorem Cz{ρ:Type}(q:Int->Bool)(f:Int->ρ):∀(l:List Int) (lo:Int),iU (fun lo x=>if lo<=x then .inl lo else if q x then .inl x else .inr (f lo)) (fun lo=>some (f lo)) l lo=some (f (eC q l lo))
 |[],lo=>rfl
 |x::l,lo=>by
  rw[iU,eC]
  by_cases h1:lo<=x
  ·rw[Qr h1,Qr h1];exact Cz q f l lo
  ·rw[Qs h1,Qs h1]
   cases hq:q x with
   |true=>rw[Qr rfl,Qr rfl];exact Cz q f l x
   |false=>rw[Qs (by simp),Qs (by simp)]
theorem Oq{A ρ:Type}(s:A)(c p:Int->Bool)(f:Int->ρ)(d:ρ)(g:A->Int->A⊕ρ)(fin:A->Option ρ)(hg:∀z,g s z=if c z then(if p z then .inr (f z)else .inl s)else .inr d)(hfin:fin s=some d)(hc:∀a b,b<a->c b=true->c a=true):
  ∀r:List Int,r.Pairwise (fun a b=>b<a)->iU g fin r s=some (match r.find? (fun n=>c n&&p n)with|some n=>f n|none=>d)
 |[],_=>hfin
 |z::r,h=>by
  rw[iU,hg,List.find?_cons];rw[Q3]at h
  cases hz:c z with
  |false=>
   have:r.find? (fun n=>c n&&p n)=none:=by
    rw[List.find?_eq_none];intro n hn hcn;rw[Qm]at hcn;rw[hc z n (h.1 n hn) hcn.1]at hz;cases hz
   simp[this]
  |true=>
   cases hp:p z with
   |true=>simp
   |false=>
    simp only[Qt,Bool.true_and];exact Oq s c p f d g fin hg hfin hc r h.2
theorem K8{ρ:Type}(q:Int->Bool)(f:Int->ρ):∀(r:List Int) (lo:Int),(∀z∈r,z<lo)->r.Pairwise (fun a b=>b<a)->iU (fun lo z=>if q z then .inl z else .inr (f lo)) (fun lo=>some (f lo)) r lo=some (f (eC q r lo))
 |[],lo,_,_=>rfl
 |z::r,lo,h,hs=>by
  rw[Q3]at hs;have hz:=h z (by simp)
  have h0:¬lo<=z:=by omega
  rw[iU,eC,Qs h0]
  cases hq:q z with
  |true=>rw[Qr rfl,Qr rfl];exact K8 q f r z hs.1 hs.2
  |false=>rw[Qs (by simp),Qs (by simp)]
theorem MG{α B ρ:Type}(l:List α)(hl:l.length<=1000000)(f:B->α->B){step:Int×B×Unit->Option ((Int×B×Unit)⊕ρ)}{fin:B->Option ρ}
  (h1:∀(i:Nat) (x:α) (b:B),x∈l->decide ((i:Int)<(l.length:Int))=true->idx l (i:Int)=some x->aq .i64 (i:Int) 1=((i+1:Nat):Int)->step ((i:Int),b,())=some (.inl (((i+1:Nat):Int),f b x,())))
  (h2:∀b,decide ((l.length:Int)<(l.length:Int))=false->step ((l.length:Int),b,())=Option.map Sum.inr (fin b)) (b:B):ax step ((0:Int),b,())=fin (l.foldl f b):=by
 suffices key:∀(k i:Nat) (b:B),i+k=l.length->ax step ((i:Int),b,())=fin ((l.drop i).foldl f b)from key l.length 0 b (by omega)
 intro k
 induction k with
 |zero=>
  intro i b hi;obtain rfl:i=l.length:=by omega
  rw[jJ,h2 b (Qh (Qq63 _)),Qq65,List.foldl_nil];cases fin b<;>rfl
 |succ k ih=>
  intro i b hi;have hlt:i<l.length:=by omega
  rw[cD (h1 i l[i] b (QZ hlt) (Qg (by omega)) (by rw[aP];exact Qv hlt) (bN (by omega) (by omega))),ih (i+1) _ (by omega),QM hlt,QU]
theorem Jy(q:Int->Bool):∀(l r:List Int) (lo:Int),(∀x∈l,lo<=x)->eC q (l++r) lo=eC q r lo
 |[],r,lo,_=>rfl
 |x::l,r,lo,h=>by
  rw[List.cons_append,eC,Qr (h x (by simp))]
  exact Jy q l r lo fun y hy=>h y (by simp[hy])
theorem Kz(q:Int->Bool):∀(r:List Int) (lo:Int),(∀x∈r,0<=x/\x<=1000000)->0<=lo/\lo<=1000000->0<=eC q r lo/\eC q r lo<=1000000
 |[],lo,_,h=>h
 |x::r,lo,hx,h=>by
  rw[eC];split
  ·exact Kz q r lo (fun y hy=>hx y (by simp[hy])) h
  ·split
   ·exact Kz q r x (fun y hy=>hx y (by simp[hy])) (hx x (by simp))
   ·exact h
 def gN(x:ByteArray->Int->Int->Bool)(p q:ai)(v:ByteArray)(s:Bool×ai)(n:Int):Bool×ai:=
 if bD s.2 ⟨n,v⟩&& !qR p q v n&&x v n n then(true,⟨n,v⟩)else s
 def gH(x:ByteArray->Int->Int->Bool)(l:List aj)(p q:ai):Bool×ai:=
 (gm l).foldl (fun s v=>(bF l v).foldl (gN x p q v) s) (false,⟨0,gY⟩)
 def ue(x:ByteArray->Int->Int->Bool)(l:List aj)(p q:ai)(s:Bool×ai):ByteArray×Int×Int×Bool×Unit:=
 if s.1 then(s.2.Value,eC (fun n=> !qR p q s.2.Value n&&x s.2.Value n s.2.ah) (bF l s.2.Value).reverse s.2.ah,s.2.ah,true,())else(gY,0,0,false,())
 def Cx(x:ByteArray->Int->Int->Bool)(p q:ai)(v:ByteArray)(s:ai)(n:Int):ai:=if bD s ⟨n,v⟩&& !qR p q v n&&x v n n then⟨n,v⟩else s
theorem TR{x:ByteArray->Int->Int->Bool}{p q:ai}(v:ByteArray):∀(b:List Int),(∀n∈b,1<=n)->∀s:Bool×ai,s.1= !aT s.2->
  (b.foldl (gN x p q v) s).2=b.foldl (Cx x p q v) s.2/\(b.foldl (gN x p q v) s).1= !aT (b.foldl (gN x p q v) s).2
 |[],_,s,h=>⟨rfl,h⟩
 |n::b,hb,s,h=>by
  rw[QU,QU];have hn:=hb n (by simp)
  have h1:(gN x p q v s n).2=Cx x p q v s.2 n:=by unfold gN Cx;split<;>rfl
  have h2:(gN x p q v s n).1= !aT (gN x p q v s n).2:=by
   unfold gN;split
   ·have:decide (n=0)=false:=Qh (by omega)
    simp[aT,this]
   ·exact h
  rw[<-h1];exact TR v b (fun n hn=>hb n (by simp[hn])) _ h2
theorem TS{x:ByteArray->Int->Int->Bool}{p q:ai}{l:List aj}(hl:Av l)(hlen:l.length<=1000):∀(vs:List ByteArray) (s:Bool×ai),s.1= !aT s.2->
  (vs.foldl (fun s v=>(bF l v).foldl (gN x p q v) s) s).2=vs.foldl (fun s v=>(bF l v).foldl (Cx x p q v) s) s.2/\(vs.foldl (fun s v=>(bF l v).foldl (gN x p q v) s) s).1= !aT (vs.foldl (fun s v=>(bF l v).foldl (gN x p q v) s) s).2
 |[],s,h=>⟨rfl,h⟩
 |v::vs,s,h=>by
  rw[QU,QU];obtain⟨h1,h2⟩:=TR (x:=x) (p:=p) (q:=q) v (bF l v) (fun n hn=>(Hz hl hlen v n hn).1) s h
  rw[<-h1];exact TS hl hlen vs _ h2
section
variable {aJ : Int} {t : aa} {l : List aj} (hl : Av l) (hlen : l.length <= 1000) {x y : ByteArray -> Int -> Int -> Bool} (hx : ∀ v lo hi, jn aJ t l v lo hi = some (x v lo hi)) (hy : ∀ v lo hi, lx aJ t l v lo hi = some (y v lo hi))
 include hl hlen
section
 include hx
theorem aam(v:ByteArray)(lo hi:Int):uy aJ t l v lo hi=some (eC (fun z=>x v z hi) (bF l v).reverse lo):=by
 obtain⟨_,_,h3,_⟩:=o7 hl.aR hlen v;unfold uy;simp only[etas,uN hl.aR hlen,Qa,HR _ (by omega:(bF l v).length<=1000000),bc]
 refine(xA (bF l v) (by omega) (fun lo i=>(lo,i,())) (fun lo z=>if lo<=z then .inl lo else if x v z hi then .inl z else .inr lo) (fun lo=>some lo) (fun i z a hi' hd hs=> ?_) (fun a hd=> ?_) (bF l v).length (QI _) lo).trans ?_
 ·simp only[hi',hd,hs,Qk,Qa,hx]
  by_cases h1:a<=z
  ·simp[h1]
  ·cases x v z hi<;>simp[h1]
 ·simp only[hd,Ql]
 ·rw[Q9];exact Cz (fun z=>x v z hi) (fun lo=>lo) _ _
theorem aas(v:ByteArray)(low eX:Int):nB aJ t l v low eX=some ((Kv (bF l v) (x v) low eX).1,(Kv (bF l v) (x v) low eX).2,()):=by
 obtain⟨_,h2,h3,_⟩:=o7 hl.aR hlen v;have hin:=Hz hl hlen v;unfold nB;simp only[etas,uN hl.aR hlen,aam hl hlen hx,Qa,HR _ (by omega:(bF l v).length<=1000000),bc]
 refine(xA (bF l v) (by omega) (fun(s:Int×Int) i=>(s.1,s.2,i,()))
  (fun s z=>if s.2<z then(if x v z z then .inr (eC (fun w=>x v w z) (bF l v).reverse (if s.2<eC (fun w=>x v w z) (bF l v).reverse z - 1\/eC (fun w=>x v w z) (bF l v).reverse z<s.1 then eC (fun w=>x v w z) (bF l v).reverse z else s.1),z,())else .inl s)
   else .inr (eC (fun w=>x v w s.2) (bF l v).reverse s.1,s.2,()))
  (fun s=>some (eC (fun w=>x v w s.2) (bF l v).reverse s.1,s.2,())) (fun i z s hi' hd hs=> ?_) (fun s hd=> ?_) (bF l v).length (QI _) (low,eX)).trans ?_
 ·have hz:z∈bF l v:=by rw[aP]at hi';exact Q7 hi'
  have hb9:=Kz (fun w=>x v w z) (bF l v).reverse z (fun w hw=>by have:=hin w (by simpa using hw);omega) (by have:=hin z hz;omega)
  simp only[hi',hd,hs,Qk,Qa,hx]
  by_cases h1:s.2<z
  ·simp only[h1,decide_true,Qk,Qt]
   cases hxz:x v z z with
   |false=>simp
   |true=>
    generalize eC (fun w=>x v w z) (bF l v).reverse z=bt at*
    have e3:da .i64 bt 1=bt - 1:=jA (by omega) (by omega)
    simp only[Qo,Ql,e3,Qt]
    by_cases h4:s.2<bt - 1
    ·simp[h4]
    ·by_cases h5:bt<s.1
     ·simp[h4,h5,fm]
     ·simp[h4,h5,fm]
  ·simp[h1]
 ·simp only[hd,Ql,Qa]
 ·rw[Q9]
  refine(Oq (low,eX) (fun z=>decide (eX<z)) (fun z=>x v z z) (fun z=>(eC (fun w=>x v w z) (bF l v).reverse (if eX<eC (fun w=>x v w z) (bF l v).reverse z - 1\/eC (fun w=>x v w z) (bF l v).reverse z<low then eC (fun w=>x v w z) (bF l v).reverse z else low),z,()))
   (eC (fun w=>x v w eX) (bF l v).reverse low,eX,()) _ _ (fun z=> ?_) rfl (fun a b h h'=> ?_) _ (List.pairwise_reverse.2 h2)).trans ?_
  ·by_cases h4:eX<z<;>simp[h4]
  ·simp only[Qi]at h' ⊢;omega
  ·unfold Kv;cases (bF l v).reverse.find? (fun n=>decide (eX<n)&&x v n n)<;>rfl
 omit hl hlen hx in
theorem VB(p q:ai)(n:Int)(v:ByteArray):ux p q n v=some (!qR p q v n):=by
  simp only[ux,AX,Qa,qR];cases eS p ⟨n,v⟩<;>cases eS q ⟨n,v⟩<;>rfl
theorem acV(p q:ai):oN aJ t l p q=some (ue x l p q (gH x l p q)):=by
 obtain⟨_,_,h3,_⟩:=AZ hl.aR hlen;obtain⟨e1,e2⟩:=TS (x:=x) (p:=p) (q:=q) hl hlen (gm l) (false,⟨0,gY⟩) rfl;unfold oN;simp only[etas,Lf hl.aR hlen,Qa];refine(MG (gm l) (by omega) (fun s v=>(bF l v).foldl (Cx x p q v) s) (fin:=fun s=>some (ue x l p q (!aT s,s))) (fun i v b hv hd hx' hw=> ?_) (fun b hd=> ?_) ⟨0,bE⟩).trans ?_
 ·obtain⟨_,_,g3,_⟩:=o7 hl.aR hlen v;simp only[hd,hx',hw,Qk,Qa,uN hl.aR hlen];refine(MG (bF l v) (by omega) (Cx x p q v) (fin:=fun s=>some (Sum.inl (((i+1:Nat):Int),s,()))) (fun i' n b' hv' hd' hx'' hw'=> ?_) (fun b' hd'=> ?_) b)
  ·simp only[hd',hx'',hw',Qk,bc,Qa,jo,VB,hx,uk];unfold Cx;cases bD b' ⟨n,v⟩<;>cases qR p q v n<;>cases x v n n<;>simp
  ·simp only[hd',Ql]
 ·obtain⟨_,_,g3,_⟩:=o7 hl.aR hlen b.Value;simp only[hd,Ql,dy,Qa];unfold ue
  cases aT b with
  |true=>rfl
  |false=>
   simp only[Qp,Qt,Ql,uN hl.aR hlen,Qa,bc,HR _ (by omega:(bF l b.Value).length<=1000000)]
   refine congrArg (Option.map Sum.inr) ((xA (bF l b.Value) (by omega) (fun lo i=>(lo,i,())) (fun lo z=>if lo<=z then .inl lo else if !qR p q b.Value z&&x b.Value z b.ah then .inl z else .inr (b.Value,lo,b.ah,true,())) (fun lo=>some (b.Value,lo,b.ah,true,())) (fun i z a hi' hd hs=> ?_) (fun a hd=> ?_) (bF l b.Value).length (QI _) b.ah).trans ?_)
   ·simp only[hi',hd,hs,Qk,Qa,hx,VB]
    by_cases h1:a<=z
    ·simp[h1]
    ·cases qR p q b.Value z<;>cases x b.Value z b.ah<;>simp[h1]
   ·simp only[hd,Ql]
   ·rw[Q9];exact Cz (fun z=> !qR p q b.Value z&&x b.Value z b.ah) (fun lo=>(b.Value,lo,b.ah,true,())) _ _
 ·unfold gH;rw[show(gm l).foldl (fun s v=>(bF l v).foldl (Cx x p q v) s) ⟨0,bE⟩=((gm l).foldl (fun s v=>(bF l v).foldl (gN x p q v) s) (false,⟨0,gY⟩)).2 from e1.symm,<-e2]
end
section
 include hy
theorem acX(v:ByteArray):oO aJ t l v=some (Hg (bF l v) (y v)):=by
 obtain⟨_,h2,h3,_⟩:=o7 hl.aR hlen v;unfold oO;simp only[etas,uN hl.aR hlen,Qa,HR _ (by omega:(bF l v).length<=1000000),bc]
 unfold Hg;generalize bF l v=b at*
 suffices key:∀n:Nat,n<=b.length->ax _ (((n:Nat):Int) - 1,())=some (match(b.take n).reverse.find? (fun e=>y v e e)with|some e=>(eC (fun z=>y v z e) b.reverse e,e,true,())|none=>(0,0,false,()))by
  have:=key b.length (QI _);rw[Q9]at this;exact this
 intro n
 induction n with
 |zero=>
  intro _;rw[show((0:Nat):Int) - 1= -1 by omega]
  have hd:decide ((0:Int)<= -1)=false:=rfl;exact ct (by simp only[hd,Ql,Qe,List.take_zero,List.reverse_nil,List.find?_nil])
 |succ n ih=>
  intro hn;have hlt:n<b.length:=by omega
  have hxn:idx b (n:Int)=some b[n]:=by rw[aP];exact Qv hlt
  have hd:decide ((0:Int)<=(n:Int))=true:=Qg (by omega)
  have hs:da .i64 (n:Int) 1=(n:Int) - 1:=jA (by omega) (by omega)
  rw[show((n+1:Nat):Int) - 1=(n:Int)by omega,Q6 hlt,List.reverse_append,List.reverse_singleton,List.singleton_append,List.find?_cons]
  cases hyn:y v b[n] b[n]with
  |false=>
   rw[cD (s':=((n:Int) - 1,())) (by simp only[hd,hxn,hs,hy,hyn,Qk,Qa,Qp])]
   exact ih (by omega)
  |true=>
   have hb:b=b.take n++b[n]::b.drop (n+1):=by rw[<-QM hlt,List.take_append_drop]
   have hp:(b.take n++b[n]::b.drop (n+1)).Pairwise (·<·):=hb▸h2;rw[Qq68,Q3]at hp;obtain⟨p1,⟨p2,p3⟩,p4⟩:=hp;refine ct ?_;simp only[hd,hxn,hs,hy,hyn,Qk,Ql,Qa,Qo];refine(xA b (by omega) (fun lo i=>(lo,i,())) (fun lo z=>if y v z b[n]then .inl z else .inr (.inr (lo,b[n],true,()))) (fun lo=>some (.inr (lo,b[n],true,()))) (fun i z a hi' hd' hs'=> ?_) (fun a hd'=> ?_) n (by omega) b[n]).trans ?_
   ·simp only[hi',hd',hs',Qk,Qa];cases y v z b[n]<;>simp
   ·simp only[hd',Ql,Qe]
   ·rw[K8 (fun z=>y v z b[n]) (fun lo=>Sum.inr (lo,b[n],true,())) _ _ (fun z hz=>p4 z (List.mem_reverse.1 hz) _ (Qx ..)) (List.pairwise_reverse.2 p1)]
    have:eC (fun z=>y v z b[n]) b.reverse b[n]=eC (fun z=>y v z b[n]) (b.take n).reverse b[n]:=by
     have hr:b.reverse=((b.drop (n+1)).reverse++[b[n]])++(b.take n).reverse:=by
      rw[<-List.reverse_cons,<-List.reverse_append,<-hb]
     rw[hr];refine Jy _ _ _ _ fun z hz=> ?_
     rw[Qz,List.mem_reverse,Q4]at hz;rcases hz with hz|rfl
     ·exact Int.le_of_lt (p2 z hz)
     ·exact Int.le_refl _
    rw[this]
end
end
end
section
section
variable {aJ : Nat} (hn : aJ < 10) {t : aa} (ht : cJ t) {l : List aj} (hl : Av l) (hlen : l.length <= 1000)
 include hn ht hl hlen
theorem ae1(b:ai):pw aJ t l b=some (pI aJ t l b):=by
 have hin:=Ab l;have hsm:=tO (aJ:=aJ) ht hl;simp only[pw,etas,Oi hl.aR hlen,yN hn hl,Qa,yM hsm hn (uI hin) (uI hin)];rfl
theorem acY(b:ai):nX aJ t l b=some (nJ aJ t l b):=by
 have hin:=Ab l;have hsm:=tO (aJ:=aJ) ht hl;simp only[nX,etas,Oi hl.aR hlen,yN hn hl,Qa,xt hsm hn (uI hin)];rfl
 def CE(aJ:Nat)(t:aa)(l:List aj)(p q:ai)(v:ByteArray):ai:=((gw l).find? (H8 (pI aJ t l) p q v)).getD OH
 def CR(aJ:Nat)(t:aa)(l:List aj)(a:ai):ai:=((gw l).find? (Ii (nJ aJ t l) a)).getD OH
theorem acS(p q:ai)(v:ByteArray):qV aJ t l p q v=some (CE aJ t l p q v):=aag hl hlen (ae1 hn ht hl hlen) p q v
theorem acT(a:ai):mu aJ t l a=some (CR aJ t l a):=aah hl hlen (acY hn ht hl hlen) a
end
end
section
theorem Lo{α ρ:Type}(l:List α)(hl:l.length<=1000000)(p:α->Bool){step:Int×Unit->Option ((Int×Unit)⊕ρ)}{fin:Option ρ}{f:Nat->α->Option ρ}
  (h1:∀(i:Nat) (x:α),i<l.length->l[i]?=some x->decide ((i:Int)<(l.length:Int))=true->idx l (i:Int)=some x->aq .i64 (i:Int) 1=((i+1:Nat):Int)->step ((i:Int),())=bif p x then Option.map Sum.inr (f i x)else some (.inl (((i+1:Nat):Int),())))
  (h2:(∀x∈l,p x=false)->decide ((l.length:Int)<(l.length:Int))=false->step ((l.length:Int),())=Option.map Sum.inr fin):
  ax step ((0:Int),())=match l.findIdx? p with|some i=>(l[i]?).bind (f i)|none=>fin:=by
 suffices key:∀(k i:Nat),i+k=l.length->(∀x∈l.take i,p x=false)->ax step ((i:Int),())=match(l.drop i).findIdx? p with|some j=>(l[i+j]?).bind (f (i+j))|none=>fin by
  have:=key l.length 0 (by omega) (by simp)
  rw[List.drop_zero]at this;simp only[Nat.zero_add]at this;exact this
 intro k
 induction k with
 |zero=>
  intro i hi hpre;obtain rfl:i=l.length:=by omega
  rw[Q9]at hpre;rw[jJ,h2 hpre (Qh (Qq63 _)),Qq65];cases fin<;>rfl
 |succ k ih=>
  intro i hi hpre;have hlt:i<l.length:=by omega
  have hx:l[i]?=some l[i]:=Qv hlt;have hs:=h1 i l[i] hlt hx (Qg (by omega)) (by rw[aP];exact hx) (bN (by omega) (by omega))
  rw[QM hlt,List.findIdx?_cons]
  cases hp:p l[i]with
  |true=>
   rw[hp]at hs;rw[jJ,hs];simp only[Qk,Qt,Nat.add_zero,hx,Qa];cases f i l[i]<;>rfl
  |false=>
   rw[hp]at hs
   rw[cD hs,ih (i+1) (by omega) (fun x hx=>by
    rw[Q6 hlt,Qz,Q4]at hx;rcases hx with hx|rfl
    ·exact hpre x hx
    ·exact hp)]
   simp only[Qq,Qu]
   cases (l.drop (i+1)).findIdx? p with
   |none=>rfl
   |some j=>
    simp only[Qe];rw[show i+1+j=i+(j+1)by omega]
def MY(l:List aj)(e:aj):Nat:=(l.findIdx? fun x=>decide (e.ao<x.ao)).getD l.length
 def yQ(l:List aj)(e:aj):List aj×Bool×Unit:=
 if bj e then
  match l.findIdx? fun x=>decide (x.ao=e.ao)with
  |some i=>if e.aO<=((l[i]?).getD e).aO then(l,false,())else(l.set i e,true,())
  |none=>(l.take (MY l e)++[e]++l.drop (MY l e),true,())
 else(l,false,())
end
section
section
variable {l : List aj} (hlen : l.length <= 1000)
 include hlen
theorem Gx(e:aj){a b:Nat}(ha:a<=b)(hb:b<=l.length):eA (0:Int) (a:Int) l.length=true/\aX 176 (List.length ((l.take (Int.toNat (a:Int))).drop (Int.toNat (0:Int))))=true/\
  aX 176 (List.length ((l.take (Int.toNat (a:Int))).drop (Int.toNat (0:Int)))+List.length [e])=true/\eA (b:Int) (l.length:Int) l.length=true/\
  aX 176 (List.length (((l.take (Int.toNat (a:Int))).drop (Int.toNat (0:Int)))++[e])+List.length ((l.take (Int.toNat (l.length:Int))).drop (Int.toNat (b:Int))))=true/\
  (((l.take (Int.toNat (a:Int))).drop (Int.toNat (0:Int)))++[e])++((l.take (Int.toNat (l.length:Int))).drop (Int.toNat (b:Int)))=l.take a++[e]++l.drop b:=by
 refine⟨by simp[eA];omega,iz (by omega) (by simp;omega),iz (by omega) (by simp;omega),by simp[eA];omega,iz (by omega) (by simp;omega),?_⟩
 simp only[QV,Int.toNat_zero,List.drop_zero,Q9]
end
theorem FO{α:Type}{p q:α->Bool}:∀{l:List α},(∀x∈l,p x=q x)->l.findIdx? p=l.findIdx? q
 |[],_=>rfl
 |x::l,h=>by rw[List.findIdx?_cons,List.findIdx?_cons,h x (by simp),FO fun y hy=>h y (by simp[hy])]
theorem acR{l:List aj}(hl:∀x∈l,cJ x.ab)(hlen:l.length<=1000){e:aj}(he:cJ e.ab):zW l e=some (yQ l e):=by
 unfold zW;simp only[etas,jk he,Qa,bc];unfold yQ
 cases bj e with
 |false=>rfl
 |true=>
  simp only[Qo,Ql,Qt];refine(Lo l (by omega) (fun x=>decide (x.ao=e.ao)) (f:=fun i x=>if e.aO<=x.aO then some (l,false,())else some (l.take i++[e]++l.drop (i+1),true,())) (fin:=some (l.take (MY l e)++[e]++l.drop (MY l e),true,())) (fun i x hi hx0 hd hx hw=> ?_) (fun hall hd=> ?_)).trans ?_
  ·simp only[hd,hx,hw,Qk,Qa]
   cases decide (x.ao=e.ao)with
   |false=>rfl
   |true=>
    simp only[Qk];obtain⟨f1,f2,f3,f4,f5,f6⟩:=Gx hlen e (show i<=i+1 by omega) (show i+1<=l.length by omega)
    simp only[f1,f2,f3,f4,f5,f6,Qk]
    by_cases hs:e.aO<=x.aO<;>simp[hs]
  ·simp only[hd,Ql];refine congrArg (Option.map Sum.inr) ?_
   have hcg:(l.findIdx? fun x=> !decide (x.ao<e.ao))=l.findIdx? fun x=>decide (e.ao<x.ao):=FO fun x hx=>by
    have:=hall x hx;have hne:x.ao≠e.ao:=of_decide_eq_false this
    by_cases h:x.ao<e.ao
    ·have h':¬e.ao<x.ao:=by omega
     simp[h,h']
    ·have h':e.ao<x.ao:=by omega
     simp[h,h']
   refine(Lo l (by omega) (fun x=> !decide (x.ao<e.ao)) (f:=fun i x=>some (l.take i++[e]++l.drop i,true,())) (fin:=some (l.take l.length++[e]++l.drop l.length,true,())) (fun i x hi hx0 hd hx hw=> ?_) (fun _ hd=> ?_)).trans ?_
   ·simp only[hd,hx,hw,Qk,Qa]
    cases decide (x.ao<e.ao)with
    |true=>rfl
    |false=>
     simp only[Ql,Qp,Qk];obtain⟨f1,f2,f3,f4,f5,f6⟩:=Gx hlen e (QI i) (show i<=l.length by omega)
     simp only[f1,f2,f3,f4,f5,f6,Qk]
   ·simp only[hd,Ql];obtain⟨f1,f2,f3,f4,f5,f6⟩:=Gx hlen e (QI l.length) (QI _);simp only[f1,f2,f3,f4,f5,f6,Qk]
   ·rw[hcg];unfold MY
    cases h:l.findIdx? fun x=>decide (e.ao<x.ao)with
    |none=>rfl
    |some i=>
     have hi:=(List.findIdx?_eq_some_iff_getElem.1 h).1;simp only[Qv hi,Qa,Q2]
  ·cases h:l.findIdx? fun x=>decide (x.ao=e.ao)with
   |none=>rfl
   |some i=>
    have hi:=(List.findIdx?_eq_some_iff_getElem.1 h).1;simp only[Qv hi,Qa,Q2]
    by_cases hs:e.aO<=l[i].aO
    ·simp[hs]
    ·simp only[hs,Qu];rw[List.set_eq_take_append_cons_drop,Qr hi];simp
end
section
structure wa (m:ae):Prop where
 n0:0<=m.ao
 n1:m.ao<10
 aR:cJ m.ab
 len:m.aI.length<=100
 sm:∀e∈m.aI,cJ e.ab
 valid:∀e∈m.aI,bj e=true
theorem Fu{m:ae}{e:aj}(h:e∈cr m):e∈m.aI\/(aT m.af=false/\e=iv m):=by
 unfold cr at h;split at h
 ·exact .inl h
 ·rename_i hz;rw[(G9 _ _).mem_iff,Qz,Q4]at h;rcases h with h|h
  ·exact .inl h
  ·exact .inr ⟨by simpa using hz,h⟩
theorem abt(m:ae):(cr m).length<=m.aI.length+1:=by
 unfold cr;split
 ·omega
 ·rw[(G9 _ _).length_eq,QB,Q5];omega
theorem EI(m:ae):(iv m).ab=m.ab:=oW m
theorem wa.vL{m:ae}(h:wa m):Av (cr m)/\(cr m).length<=1000:=by
 have h1:=abt m;have h2:=h.len;refine⟨⟨by omega,fun e he=> ?_⟩,by omega⟩
 rcases Fu he with he|⟨_,rfl⟩
 ·exact h.sm e he
 ·rw[EI];exact h.aR
theorem wa.aJ{m:ae}(h:wa m):((m.ao.toNat:Nat):Int)=m.ao/\m.ao.toNat<10:=by
 have:=h.n0;have:=h.n1;omega
def iZ(b:ai):ai:=if 1000<b.ah then⟨1000,b.Value⟩else b
theorem ag2(b:ai):qU b=some (iZ b):=aa4 b
def hU(p q b:ai):ai×ai:=
 if aT b=true then(p,q)else if aT p=true then(b,q)else if bD p b=true then(if cI p b=true then(b,if cI q b=true then cq else q)else(b,p))
 else if(bD b p&& !cI b p&&(aT q||bD q b))=true then(p,b)else(p,q)
theorem afg(p q b:ai):yr p q b=some ((hU p q b).1,(hU p q b).2,()):=by
 unfold yr hU;simp only[dy,jo,fS,Qa,bc];cases aT b<;>cases aT p<;>cases bD p b<;>cases cI p b<;>cases cI q b<;>cases bD b p<;>cases cI b p<;>cases aT q<;>cases bD q b<;>rfl
def KQ(m:ae):ByteArray:=if m.aY=2 then m.af.Value else gY
 def fP(m:ae):ai:=CE m.ao.toNat m.ab (cr m) m.an m.aH (KQ m)
def vu(m:ae)(p q:ai):Int:=
 if m.aY=1/\m.bo≠0 then(if fc m<qI m.af.Value m.bo p q then 0 else qI m.af.Value m.bo p q)else m.bo
 def eB(m:ae):ae:=
 if m.aY=3\/aT m.af=true then m else
  {m with an:=(hU m.an m.aH (iZ (fP m))).1,aH:=(hU m.an m.aH (iZ (fP m))).2,bo:=vu m (hU m.an m.aH (iZ (fP m))).1 (hU m.an m.aH (iZ (fP m))).2}
theorem aeU{m:ae}(h:wa m)(p q:ai)(v:ByteArray):qV m.ao m.ab (cr m) p q v=some (CE m.ao.toNat m.ab (cr m) p q v):=by
 have:=acS h.aJ.2 h.aR h.vL.1 h.vL.2 p q v
 rwa [h.aJ.1]at this
theorem aeX{m:ae}(h:wa m)(a:ai):mu m.ao m.ab (cr m) a=some (CR m.ao.toNat m.ab (cr m) a):=by
 have:=acT h.aJ.2 h.aR h.vL.1 h.vL.2 a
 rwa [h.aJ.1]at this
theorem WD{m:ae}(h:wa m):rV m=some (eB m):=by
 have hl:m.aI.length<=1000:=by have:=h.len;omega
 unfold rV eB;simp only[etas,dy,M1 hl,aeU h,ag2,afg,xW,Sf,Qa,bc]
 by_cases h3:m.aY=3
 ·rw[Qg h3,Qr (.inl h3)];rfl
 ·rw[Qh h3]
  cases hz:aT m.af with
  |true=>rw[Qr (.inr rfl)];rfl
  |false=>
   rw[Qs (by simp[h3])]
   simp only[Ql,Qa]
   by_cases h2:m.aY=2
   ·have h1:¬m.aY=1:=by omega
    simp only[Qg h2,Qk,vu,KQ,fP,Qr h2,h1,false_and,Qu];rfl
   ·simp only[Qh h2,Ql];have hv:bE=KQ m:=by simp only[KQ,Qs h2];rfl
    rw[hv];have hn:CE m.ao.toNat m.ab (cr m) m.an m.aH (KQ m)=fP m:=rfl;simp only[hn]
    by_cases h1:m.aY=1
    ·have hh:∀p q:ai,(df {m with an:=p,aH:=q}).bC=fc m:=fun p q=>by unfold df;rw[Qr (show({m with an:=p,aH:=q}:ae).aY=1 from h1)];rfl
     simp only[Qg h1,Qk,Qa]
     by_cases hL:m.bo=0
     ·rw[Qg hL];unfold vu;rw[Qs (fun h=>h.2 hL)]
      rfl
     ·rw[Qh hL];unfold vu;rw[Qr ⟨h1,hL⟩];simp only[Qp,Qk];rw[show(df (ae.mk m.ao m.aK m.aO m.ab m.aY m.af (hU m.an m.aH (iZ (fP m))).1 (hU m.an m.aH (iZ (fP m))).2 m.aw m.bo m.bC m.bQ m.aI)).bC=fc m from hh _ _]
      by_cases hlt:fc m<qI m.af.Value m.bo (hU m.an m.aH (iZ (fP m))).1 (hU m.an m.aH (iZ (fP m))).2
      ·rw[Qg hlt,Qr hlt];rfl
      ·rw[Qh hlt,Qs hlt];rfl
    ·rw[Qh h1];unfold vu;rw[Qs (fun h=>h1 h.1)]
     rfl
 def kV(m:ae):ai:=CR m.ao.toNat m.ab (cr m) m.aw
def BZ(m:ae)(b:ai):ae:=
 if bD m.af b=true then{m with aw:=b,af:=b,bo:=if cI m.af b=true then m.bo else 0}else{m with aw:=b}
def ru(m:ae)(b:ai):ae:=
 if m.bo=0/\cI m.af b=true/\qI b.Value m.af.ah m.an m.aH<=b.ah then{m with bo:=qI b.Value m.af.ah m.an m.aH}else m
 def jl(m:ae):ae:=
 if m.aY≠1\/aT m.af=true\/aT (kV m)=true then m else ru (BZ m (kV m)) (kV m)
theorem M8(m:ae)(b:ai){α:Type}(j:ae->Option α):
  ((bif decide (m.bo=(0:Int))then some (cI m.af b)else some false).bind fun x=>bif x then(bif decide (qI b.Value m.af.ah m.an m.aH<=b.ah)then j {m with bo:=qI b.Value m.af.ah m.an m.aH}else j m)else j m)=j (ru m b):=by
 unfold ru
 by_cases hL:m.bo=0
 ·rw[Qg hL]
  cases hc:cI m.af b with
  |true=>
   by_cases hle:qI b.Value m.af.ah m.an m.aH<=b.ah
   ·rw[Qr ⟨hL,rfl,hle⟩,Qg hle];rfl
   ·rw[Qs (fun h=>hle h.2.2),Qh hle];rfl
  |false=>
   rw[Qs (fun h=>by cases h.2.1)];rfl
 ·rw[Qh hL,Qs (fun h=>hL h.1)];rfl
theorem UK{m:ae}(h:wa m):qf m=some (jl m):=by
 have hl:m.aI.length<=1000:=by have:=h.len;omega
 unfold qf jl;simp only[etas,dy,M1 hl,aeX h,Sf,Qa,bc,fS,jo];have hb:CR m.ao.toNat m.ab (cr m) m.aw=kV m:=rfl;simp only[hb]
 by_cases h1:m.aY=1
 ·rw[Qg h1]
  cases hz:aT m.af with
  |true=>rw[Qr (.inr (.inl rfl))];rfl
  |false=>
   cases hzb:aT (kV m)with
   |true=>rw[Qr (.inr (.inr rfl))];rfl
   |false=>
    rw[Qs (by simp[h1])]
    simp only[Qo,Ql,Qa];unfold BZ
    cases hlt:bD m.af (kV m)with
    |true=>
     cases hcp:cI m.af (kV m)with
     |true=>simp only[Qk,Qo,Ql,Qt];exact M8 {m with aw:=kV m,af:=kV m} (kV m) some
     |false=>simp only[Qk,Qp,Qt,Qq,Qu];exact M8 {m with aw:=kV m,af:=kV m,bo:=0} (kV m) some
    |false=>simp only[Ql,Qq,Qu];exact M8 {m with aw:=kV m} (kV m) some
 ·rw[Qh h1,Qr (.inl h1)];rfl
section
variable {aJ : Nat} (hn : aJ < 10) {t : aa} (ht : cJ t) {l : List aj} (hl : Av l) (hlen : l.length <= 1000)
 include hn ht hl hlen
theorem U6(v:ByteArray)(lo hi:Int):jn aJ t l v lo hi=some (oZ aJ t l v lo hi):=by
 have hin:=Ab l;have hsm:=tO (aJ:=aJ) ht hl;simp only[jn,etas,Oh hl.aR hlen,yN hn hl,Qa,yM hsm hn (uI hin) (uI hin)];rfl
theorem aau(v:ByteArray)(lo hi:Int):lx aJ t l v lo hi=some (zf aJ t l v lo hi):=by
 have hin:=Ab l;have hsm:=tO (aJ:=aJ) ht hl;simp only[lx,etas,Oh hl.aR hlen,yN hn hl,Qa,xt hsm hn (uI hin)];rfl
theorem aar(p q:ai):oN aJ t l p q=some (ue (oZ aJ t l) l p q (gH (oZ aJ t l) l p q)):=acV hl hlen (U6 hn ht hl hlen) p q
theorem aeZ(v:ByteArray)(low eX:Int):nB aJ t l v low eX=some ((Kv (bF l v) (oZ aJ t l v) low eX).1,(Kv (bF l v) (oZ aJ t l v) low eX).2,()):=aas hl hlen (U6 hn ht hl hlen) v low eX
theorem aeY(v:ByteArray):oO aJ t l v=some (Hg (bF l v) (zf aJ t l v)):=acX hl hlen (aau hn ht hl hlen) v
end
 def gD(m:ae):ByteArray->Int->Int->Bool:=oZ m.ao.toNat m.ab (cr m)
 def KX(m:ae):ByteArray->Int->Int->Bool:=zf m.ao.toNat m.ab (cr m)
 def ll(m:ae):ByteArray×Int×Int×Bool×Unit:=ue (gD m) (cr m) m.an m.aH (gH (gD m) (cr m) m.an m.aH)
 def eM(m:ae):Int×Int:=Kv (bF (cr m) m.af.Value) (gD m m.af.Value) m.bo m.bC
 def oC(m:ae):Int×Int×Bool×Unit:=Hg (bF (cr m) m.af.Value) (KX m m.af.Value)
theorem acW{m:ae}(h:wa m):oN m.ao m.ab (cr m) m.an m.aH=some (ll m):=by
 have:=aar h.aJ.2 h.aR h.vL.1 h.vL.2 m.an m.aH
 rwa [h.aJ.1]at this
theorem agu{m:ae}(h:wa m):nB m.ao m.ab (cr m) m.af.Value m.bo m.bC=some ((eM m).1,(eM m).2,()):=by
 have:=aeZ h.aJ.2 h.aR h.vL.1 h.vL.2 m.af.Value m.bo m.bC
 rwa [h.aJ.1]at this
theorem agt{m:ae}(h:wa m):oO m.ao m.ab (cr m) m.af.Value=some (oC m):=by
 have:=aeY h.aJ.2 h.aR h.vL.1 h.vL.2 m.af.Value
 rwa [h.aJ.1]at this
def N2(m:ae)(v:ByteArray)(lo hi:Int):ae:=
 {m with af:=if(!cI m.af ⟨hi,v⟩||bD m.af ⟨hi,v⟩)=true then⟨bP m.af.ah hi,v⟩else m.af,an:=if km m.an ⟨hi,v⟩=true then m.an else⟨hi,v⟩,aY:=2,bo:=lo,bC:=hi,aw:=⟨hi,v⟩,aH:=cq}
def AV(m:ae)(lo hi:Int):ae:=
 {m with af:=⟨bP m.af.ah hi,m.af.Value⟩,an:=⟨bP m.an.ah hi,m.an.Value⟩,aw:=⟨bP m.aw.ah hi,m.af.Value⟩,bo:=lo,bC:=hi}
 def ir(m:ae):ae:=
 if m.aY=1 then(if(ll m).2.2.2.1=true then N2 m (ll m).1 (ll m).2.1 (ll m).2.2.1 else m)
 else if m.aY=2 then AV m (eM m).1 (eM m).2 else m
theorem UL{m:ae}(h:wa m):qg m=some (ir m):=by
 have hl:m.aI.length<=1000:=by have:=h.len;omega
 unfold qg ir;simp only[etas,M1 hl,acW h,agu h,Qa,bc,fS,jo,AW]
 by_cases h1:m.aY=1
 ·rw[Qg h1,Qr h1]
  cases hk:(ll m).2.2.2.1 with
  |false=>simp only[Qk,Qp,Qq,Qu]
  |true=>
   simp only[Qk,Qo,Ql,Qt];unfold N2;cases cI m.af ⟨(ll m).2.2.1,(ll m).1⟩<;>cases bD m.af ⟨(ll m).2.2.1,(ll m).1⟩<;>cases km m.an ⟨(ll m).2.2.1,(ll m).1⟩<;>rfl
 ·rw[Qh h1,Qs h1]
  by_cases h2:m.aY=2
  ·rw[Qg h2,Qr h2];rfl
  ·rw[Qh h2,Qs h2];rfl
def MK(m:ae)(lo hi:Int):ae:={m with aY:=3,bo:=lo,bC:=hi,af:=⟨hi,m.af.Value⟩,an:=cq,aH:=cq,aw:=cq}
 def lL(m:ae):ae:=if m.aY=2/\(oC m).2.2.1=true then MK m (oC m).1 (oC m).2.1 else m
theorem adU{m:ae}(h:wa m):wA m=some (lL m):=by
 have hl:m.aI.length<=1000:=by have:=h.len;omega
 unfold wA lL;simp only[etas,M1 hl,agt h,Qa]
 by_cases h2:m.aY=2
 ·rw[Qg h2]
  cases hk:(oC m).2.2.1 with
  |false=>rw[Qs (fun h=>by cases h.2)];rfl
  |true=>rw[Qr ⟨h2,rfl⟩];rfl
 ·rw[Qh h2,Qs (fun h=>h2 h.1)];rfl
end
section
theorem Hs{α β ρ:Type}(l:List α)(hl:l.length<=1000)(f:α->β){step:Int×List β×Unit->Option ((Int×List β×Unit)⊕ρ)}{fin:List β->Option ρ}
  (h1:∀(i:Nat) (e:α) (s:List β),s.length<=1000->e∈l->decide ((i:Int)<(l.length:Int))=true->idx l (i:Int)=some e->aq .i64 (i:Int) 1=((i+1:Nat):Int)->step ((i:Int),s,())=some (.inl (((i+1:Nat):Int),s++[f e],())))
  (h2:∀s,decide ((l.length:Int)<(l.length:Int))=false->step ((l.length:Int),s,())=Option.map Sum.inr (fin s)):ax step ((0:Int),[],())=fin (l.map f):=by
 suffices key:∀(k i:Nat) (s:List β),i+k=l.length->s.length=i->ax step ((i:Int),s,())=fin (s++(l.drop i).map f)by
  have:=key l.length 0 [] (by omega) rfl
  simpa using this
 intro k
 induction k with
 |zero=>
  intro i s hi hs;obtain rfl:i=l.length:=by omega
  have hd:decide ((l.length:Int)<(l.length:Int))=false:=Qh (Qq63 _);have h:=h2 s hd;rw[Qq65,QO,List.append_nil]
  cases hf:fin s with
  |none=>rw[hf]at h;exact WO h
  |some r=>rw[hf]at h;exact ct h
 |succ k ih=>
  intro i s hi hs;have hlt:i<l.length:=by omega
  rw[cD (h1 i l[i] s (by omega) (QZ hlt) (Qg (by omega)) (by rw[aP];exact Qv hlt) (bN (by omega) (by omega))),ih (i+1) (s++[f l[i]]) (by omega) (by simp;omega),
   QM hlt,QD,QL]
  rfl
def ME(z:ai):List ai->ai
 |[]=>z
 |x::l=>l.foldl (fun a y=>if bD a y=true then y else a) x
theorem Xa(l:List ai)(hl:l.length<=1000000)(z:ai){step:Int×ai×Unit->Option ((Int×ai×Unit)⊕ai)}
  (h1:∀(i:Nat) (x s:ai),decide ((i:Int)<(l.length:Int))=true->idx l (i:Int)=some x->aq .i64 (i:Int) 1=((i+1:Nat):Int)->step ((i:Int),s,())=some (.inl (((i+1:Nat):Int),(if i=0 then x else if bD s x=true then x else s),())))
  (h2:∀s,decide ((l.length:Int)<(l.length:Int))=false->step ((l.length:Int),s,())=some (.inr s)):ax step ((0:Int),z,())=some (ME z l):=by
 have hd:decide ((l.length:Int)<(l.length:Int))=false:=Qh (Qq63 _)
 have key:∀(k i:Nat) (s:ai),i+k=l.length->1<=i->ax step ((i:Int),s,())=some ((l.drop i).foldl (fun a y=>if bD a y=true then y else a) s):=by
  intro k
  induction k with
  |zero=>
   intro i s hi h1i;obtain rfl:i=l.length:=by omega
   rw[Qq65];exact ct (h2 s hd)
  |succ k ih=>
   intro i s hi h1i;have hlt:i<l.length:=by omega
   rw[cD (h1 i l[i] s (Qg (by omega)) (by rw[aP];exact Qv hlt) (bN (by omega) (by omega))),ih (i+1) _ (by omega) (by omega),QM hlt,QU,Qs (by omega:¬i=0)]
 cases l with
 |nil=>exact ct (h2 z hd)
 |cons x l=>
  have hx:=h1 0 x z (Qg (by simp)) (by rw[aP];rfl) (bN (by omega) (by omega))
  rw[Qr rfl]at hx;exact(cD hx).trans (key l.length 1 x (by simp;omega) (by omega))
theorem adF(l:List ai)(hl:l.length<=1000000):nY l=some (ME cq l):=by
 unfold nY;refine Xa l hl cq (fun i x s hd hx hw=> ?_) (fun s hd=> ?_)
 ·simp only[hd,hx,hw,Qk,bc,Qa,jo]
  by_cases hi:i=0
  ·subst hi;rfl
  ·have:decide ((i:Int)=0)=false:=Qh (by omega)
   rw[this,Qs hi];cases bD s x<;>rfl
 ·simp only[hd,Ql,Qe]
def ei(m:ae):ByteArray:=
 if aT m.aw=false then m.aw.Value else if m.aY≠1 then m.af.Value else if m.bQ≠gY then m.bQ else(ME cq (m.aI.map (·.af))).Value
theorem M9{m:ae}(h:wa m):mJ m=some (ei m):=by
 have hl:m.aI.length<=1000:=by have:=h.len;omega
 unfold mJ ei;simp only[dy,Qa]
 cases hz:aT m.aw with
 |false=>rfl
 |true=>
  simp only[Qo,Ql,Bool.true_eq_false,Qu]
  by_cases h1:m.aY=1
  ·rw[Qg h1,Qs (fun h=>h h1)]
   simp only[Qo,Ql]
   by_cases hp:m.bQ=gY
   ·have hp':decide (m.bQ=bE)=true:=Qg hp;rw[hp',Qs (fun h=>h hp)]
    simp only[Qo,Ql]
    rw[Hs m.aI hl (·.af) (fin:=fun s=>Option.bind (nY s) fun r=>some r.Value) (fun i e s hs he hd hx hw=>by
     simp only[hd,hx,hw,Qk,Qa]
     rw[ba (by simp;omega),Qk]) (fun s hd=>by simp only[hd,Ql]),adF _ (by simp;omega)]
    rfl
   ·have hp':decide (m.bQ=bE)=false:=Qh hp;rw[hp',Qr hp];rfl
  ·rw[Qh h1,Qr h1];rfl
theorem EC{e:aj}(h:cJ e.ab)(hv:bj e=true):kD e=some (iB e):=by
 simp only[kD,etas,jk h,Qa,hv,iB]
 by_cases h3:e.bu=3
 ·rw[Qg h3,Qr h3];rfl
 ·rw[Qh h3,Qs h3];rfl
def HG(m:ae)(n:Int):Nat:=jr (fun e=>decide (n<iB e)) m.aI
 def kx(m:ae)(n:Int):Bool:=Ee (jU m.ao.toNat m.ab (cr m)) m.ao.toNat (HG m n)
theorem wa.Vu{m:ae}(h:wa m):Iv m.aI:=fun e he=>l7 (h.valid e he)
theorem ZR{m:ae}(h:wa m)(n:Int):HG m n<1024:=uI h.Vu
theorem ael{m:ae}(h:wa m)(n:Int):sE m n=some (kx m n):=by
 have hl:m.aI.length<=1000:=by have:=h.len;omega
 unfold sE
 rw[Hs m.aI hl (fun e=>decide (n<iB e)) (fin:=fun s=>Option.bind (ke m) fun r4=>Option.bind (iI m.ao m.ab r4) fun r5=>Option.bind (fD m.aI s) fun r6=>Option.bind (nD r5 m.ao r6) fun r7=>some r7)
  (fun i e s hs he hd hx hw=>by
   simp only[hd,hx,hw,Qk,Qa,etas,EC (h.sm e he) (h.valid e he)]
   rw[ba (by simp;omega),Qk])
  (fun s hd=>by simp only[hd,Ql,etas])]
 have hv:=yN h.aJ.2 (t:=m.ab) h.vL.1;have hb:=Li (tO (aJ:=m.ao.toNat) h.aR h.vL.1) (v:=m.ao.toNat) (ZR h n);rw[h.aJ.1]at hv hb;rw[M1 hl,Qa,hv,Qa,zn m.aI hl _ (fun e he _=>h.Vu e he),Qa,show jr (fun e=>decide (n<iB e)) m.aI=HG m n from rfl,hb]
 rfl
 def nv(m:ae)(Fm:Int)(e:aj):Int:=
 if m.af.ah<iB e/\iB e<Fm/\kx m (iB e)=false then iB e else Fm
 def iC(m:ae):Int:=m.aI.foldl (nv m) 1000000
 def tW(m:ae):ByteArray:=if m.aY=1 then ei m else m.af.Value
 def fX(m:ae):ae:=
 if m.aY=3\/kx m m.af.ah=false then m
 else{m with bo:=if tW m=m.af.Value then m.bo else 0,af:=⟨bP m.af.ah (fm (iC m) 1000),tW m⟩}
open Classical in
theorem abl{m:ae}(h:wa m){ρ:Type}{step:Int×Int×Unit->Option ((Int×Int×Unit)⊕ρ)}{fin:Int->Option ρ}
  (h1:∀(i:Nat) (e:aj) (s:Int),e∈m.aI->decide ((i:Int)<(m.aI.length:Int))=true->idx m.aI (i:Int)=some e->aq .i64 (i:Int) 1=((i+1:Nat):Int)->step (s,(i:Int),())=some (.inl (nv m s e,((i+1:Nat):Int),())))
  (h2:∀s,decide ((m.aI.length:Int)<(m.aI.length:Int))=false->step (s,(m.aI.length:Int),())=Option.map Sum.inr (fin s)):ax step ((1000000:Int),(0:Int),())=fin (iC m):=by
 have hl:=h.len
 have key:=gJ m.aI (by omega) (fun i s=>(s,i,())) (fun e s=>if e∈m.aI then some (.inl (nv m s e))else none) fin (step:=step) (fun i x s hd hx hw=>by
  have hm:x∈m.aI:=by rw[aP]at hx;exact Q7 hx
  rw[h1 i x s hm hd hx hw,Qr hm]) (fun s hd=>h2 s hd) 1000000
 refine key.trans ?_;unfold iC
 suffices h3:∀(l:List aj),(∀e∈l,e∈m.aI)->∀s,ew (fun e s=>if e∈m.aI then some (Sum.inl (β:=ρ) (nv m s e))else none) fin l s=fin (l.foldl (nv m) s)from h3 _ (fun e he=>he) _
 intro l
 induction l with
 |nil=>intro _ s;rfl
 |cons x l ih=>
  intro hx s;rw[ew,Qr (hx x Qx),QU];exact ih (fun e he=>hx e (Qy _ he)) _
theorem abk{m:ae}(h:wa m):vj m=some (fX m):=by
 unfold vj fX;simp only[etas,ael h,M9 h,Qa]
 by_cases h3:m.aY=3
 ·rw[Qg h3,Qr (.inl h3)];rfl
 ·rw[Qh h3]
  cases ha:kx m m.af.ah with
  |false=>rw[Qr (.inr rfl)];rfl
  |true=>
   rw[Qs (by simp[h3])]
   simp only[Ql,Qo];refine(abl h (fin:=fun c=>some {m with bo:=if tW m=m.af.Value then m.bo else 0,af:=⟨bP m.af.ah (fm c 1000),tW m⟩}) (fun i e s he hd hx hw=> ?_) (fun s hd=> ?_)).trans rfl
   ·simp only[hd,hx,hw,Qk,bc,Qa,EC (h.sm e he) (h.valid e he)];unfold nv
    by_cases c1:m.af.ah<iB e
    ·by_cases c2:iB e<s
     ·rw[Qg c1,Qg c2]
      cases c3:kx m (iB e)with
      |true=>rw[Qs (by simp)];rfl
      |false=>rw[Qr ⟨c1,c2,rfl⟩];rfl
     ·rw[Qg c1,Qh c2,Qs (fun h=>c2 h.2.1)];rfl
    ·rw[Qh c1,Qs (fun h=>c1 h.1)];rfl
   ·simp only[hd,Ql,bc];unfold tW
    by_cases h1:m.aY=1
    ·rw[Qg h1,Qr h1]
     by_cases hv:ei m=m.af.Value
     ·simp only[Qk,Qg hv,Qo,Ql,Qr hv]
     ·simp only[Qk,Qh hv,Qp,Qs hv]
    ·rw[Qh h1,Qs h1];simp only[Ql,decide_true,Qo,Qt]
end
section
def dm(b:ai):Prop:=1<=b.ah/\b.ah<=1000/\1<=b.Value.size/\b.Value.size<=200
theorem dm.valid{b:ai}(h:dm b):dB b=true:=by
 obtain⟨h1,h2,h3,h4⟩:=h;simp only[dB,Qm,Qn,Qi];exact⟨⟨.inl ⟨h1,h2⟩,h3⟩,h4⟩
theorem dm.finite{b:ai}(h:dm b):finite b=true:=by
 unfold Go.Proofs.YtgjpkadjihpddaaGreat.finite;rw[h.valid,Qg h.2.1];rfl
theorem VC{b:ai}(h:dB b=true)(hc:b.ah<=1000):dm b:=by
 simp only[dB,Qm,Qn,Qi]at h;obtain⟨⟨h1,h2⟩,h3⟩:=h;exact⟨by omega,hc,h2,h3⟩
theorem dm.nz{b:ai}(h:dm b):aT b=false:=LQ h.1
theorem dm.ne{b:ai}(h:dm b):b.Value≠gY:=by
 intro e;have:=h.2.2.1;rw[e]at this;exact absurd this (by decide)
theorem Cs{b:ai}:aT b=true↔b=cq:=by
 obtain⟨c,v⟩:=b;simp[aT,cq]
theorem cp:aT cq=true:=Cs.2 rfl
structure P1 (m:ae):Prop where
 bf:m.aY=1
 bl:dm m.af
 dH:m.an=cq\/dm m.an
 dJ:m.aH=cq\/(dm m.aH/\dm m.an/\bD m.aH m.an=true/\cI m.aH m.an=false)
 dQ:m.aw=cq\/(dm m.aw/\dY m.an m.aH m.aw=true)
 up:bD m.af m.aw=false
 eX:m.bC=0
 low:m.bo=0\/(1<=m.bo/\m.bo<=fc m/\qR m.an m.aH m.af.Value m.bo=false)
structure P2 (m:ae):Prop where
 bf:m.aY=2
 bl:dm m.af
 dH:dm m.an/\m.an.Value=m.af.Value
 dJ:m.aH=cq
 dQ:m.aw=cq\/(dm m.aw/\m.aw.Value=m.af.Value)
 range:1<=m.bo/\m.bo<=m.bC/\m.bC<=m.an.ah
structure P3 (m:ae):Prop where
 bf:m.aY=3
 bl:dm m.af
 dH:m.an=cq
 dJ:m.aH=cq
 dQ:m.aw=cq
 range:1<=m.bo/\m.bo<=m.bC/\m.bC<=1000
structure P0 (m:ae):Prop where
 bf:m.aY=1
 bl:m.af=cq
 dH:m.an=cq
 dJ:m.aH=cq
 dQ:m.aw=cq
 low:m.bo=0
 eX:m.bC=0
structure bH (m:ae):Prop where
 n0:0<=m.ao
 n1:m.ao<10
 bx:1<=m.aK/\m.aK<=1000000
 seq:0<=m.aO/\m.aO<=1000000
 aR:cn m.ab
 vt:m.bQ.size<=200
 hv:∀e∈m.aI,bj e=true/\cn e.ab/\e.aK=m.aK/\e.ao≠m.ao
 gX:m.aI.Pairwise (fun a b=>a.ao<b.ao)
 body:P0 m\/P1 m\/P2 m\/P3 m
theorem K3:∀(l:List aj) (k:Nat),k<=10->(∀e∈l,(k:Int)<=e.ao/\e.ao<10)->l.Pairwise (fun a b=>a.ao<b.ao)->l.length+k<=10
 |[],k,hk,_,_=>by simpa using hk
 |x::l,k,hk,h,hp=>by
  rw[Q3]at hp;have hx:=h x Qx;have:=K3 l (k+1) (by omega) (fun e he=>⟨by have:=hp.1 e he;omega,(h e (Qy _ he)).2⟩) hp.2
  rw[QE];omega
theorem bH.len{m:ae}(h:bH m):m.aI.length<=10:=by
 have:=K3 m.aI 0 (by omega) (fun e he=>by have:=l7 (h.hv e he).1;omega) h.gX
 omega
theorem bH.ev{m:ae}(h:bH m):wa m:=
 ⟨h.n0,h.n1,h.aR.sm,by have:=h.len;omega,fun e he=>(h.hv e he).2.1.sm,fun e he=>(h.hv e he).1⟩
theorem Mz{m:ae}(h:P1 m):0<=fc m/\fc m<=m.af.ah/\(fc m=0\/(dm m.aw/\m.aw.Value=m.af.Value/\fc m=m.aw.ah)):=by
 unfold fc;split
 ·rename_i hc;simp only[Qm,Bool.not_eq_true',cI,Qi]at hc;rcases h.dQ with e|⟨hf,_⟩
  ·rw[e,cp]at hc;cases hc.1
  ·have hup:=h.up;unfold bD at hup;split at hup
   ·rename_i e;exact⟨by have:=hf.1;omega,by omega,.inr ⟨hf,hc.2,rfl⟩⟩
   ·simp only[Qj]at hup;exact⟨by have:=hf.1;omega,by omega,.inr ⟨hf,hc.2,rfl⟩⟩
 ·exact⟨Int.le_refl _,by have:=h.bl.1;omega,.inl rfl⟩
theorem OD{m:ae}(h:bH m)(hz:aT m.af=false):bj (iv m)=true:=by
 have hseq:1<=(iv m).aO/\(iv m).aO<=1000000:=by
  have h1:(iv m).aO=bP m.aO 1:=by show bP (df m).aO 1=_;rw[Tn]
  have:=h.seq;rw[h1];unfold bP;split<;>omega
 have hnode:(iv m).ao=m.ao:=Hm m;have hslot:(iv m).aK=m.aK:=OU m
 have hhead:D6 (iv m)=true:=by
  unfold D6;rw[hnode,hslot];simp only[Qm,Qi];exact⟨⟨⟨⟨⟨h.n0,h.n1⟩,h.bx.1⟩,h.bx.2⟩,hseq.1⟩,hseq.2⟩
 unfold bj;rw[EI,l5 h.aR];unfold lZ;rw[hhead];have hkind:(iv m).bu=m.aY:=Zr m;rw[hkind];rcases h.body with h0|h1|h2|h3
 ·rw[h0.bl,cp]at hz;cases hz
 ·rw[Qr h1.bf];have hh:=Mz h1;have e:iv m=⟨m.ao,m.aK,bP (df m).aO 1,m.ab,m.aY,m.af,m.an,m.aH,m.bo,fc m⟩:=by unfold iv df;rw[Qr h1.bf]
  have hp:(aT m.an||dB m.an)=true:=by
   rcases h1.dH with e|hf
   ·rw[e,cp];rfl
   ·rw[hf.valid,Bool.or_true]
  have hq:(aT m.aH||dB m.aH)=true:=by
   rcases h1.dJ with e|hf
   ·rw[e,cp];rfl
   ·rw[hf.1.valid,Bool.or_true]
  have hpo:DQ (iv m)=true:=by
   rw[e];unfold DQ;rcases h1.dJ with e|⟨_,hf,hl,hc⟩
   ·simp only[e,cp,Bool.true_or]
   ·simp only[hf.nz,hl,hc,Qp,Bool.and_self,Bool.or_true]
  have hhp:(decide (fc m=0)||dY m.an m.aH ⟨fc m,m.af.Value⟩)=true:=by
   rcases hh.2.2 with e|⟨hf,hv,e⟩
   ·rw[Qg e];rfl
   ·rw[e,<-hv];rcases h1.dQ with e2|⟨_,hp⟩
    ·have:=hf.nz;rw[e2,cp]at this;cases this
    ·rw[hp,Bool.or_true]
  have hlow:0<=m.bo/\m.bo<=fc m/\(decide (m.bo=0)||(!eS m.an ⟨m.bo,m.af.Value⟩&& !eS m.aH ⟨m.bo,m.af.Value⟩))=true:=by
   rcases h1.low with e|⟨h5,h6,h7⟩
   ·rw[e];exact⟨Int.le_refl _,hh.1,rfl⟩
   ·refine⟨by omega,h6,?_⟩
    unfold qR at h7;rw[Qq73]at h7;rw[h7.1,h7.2];simp
  unfold gE;rw[hpo];rw[e];unfold at_
  simp only[h1.bl.finite,hp,hq,Qg hlow.1,Qg hlow.2.1,Qg hh.2.1,hhp,hlow.2.2,Bool.and_self,decide_true]
 ·rw[Qs (by rw[h2.bf];decide),Qr h2.bf]
  have e:iv m=⟨m.ao,m.aK,bP (df m).aO 1,m.ab,m.aY,m.af,m.an,cq,m.bo,m.bC⟩:=by unfold iv df;rw[Qs (by rw[h2.bf];decide),Qr h2.bf]
  have hc:m.bC<=1000:=by have:=h2.range.2.2;have:=h2.dH.1.2.1;omega
  unfold vU vO;rw[e];simp only[h2.bl.finite,h2.dH.1.valid,cI,Qg h2.dH.2,cp,Qg h2.range.1,Qg h2.range.2.1,Qg h2.range.2.2,Qg hc,Bool.and_self,decide_true]
 ·rw[Qs (by rw[h3.bf];decide),Qs (by rw[h3.bf];decide),Qr h3.bf]
  have e:iv m=⟨m.ao,m.aK,bP (df m).aO 1,m.ab,m.aY,m.af,cq,cq,m.bo,m.bC⟩:=by unfold iv df;rw[Qs (by rw[h3.bf];decide),Qs (by rw[h3.bf];decide)]
  unfold Bh vO;rw[e];simp only[h3.bl.valid,cp,Qg h3.range.1,Qg h3.range.2.1,Qg h3.range.2.2,Bool.and_self,decide_true]
theorem bH.CZ{m:ae}(h:bH m):∀e∈cr m,bj e=true:=by
 intro e he;rcases Fu he with he|⟨hz,rfl⟩
 ·exact(h.hv e he).1
 ·exact OD h hz
theorem bH.adb{m:ae}(h:bH m){e:aj}(he:e∈cr m)(hn:e.ao.toNat=m.ao.toNat):aT m.af=false/\e=iv m:=by
 rcases Fu he with he|⟨hz,rfl⟩
 ·have h1:=(h.hv e he).2.2.2;have h2:=l7 (h.hv e he).1;have:=h.n0;omega
 ·exact⟨hz,rfl⟩
end
section
theorem xa(a b:ai):bD a b=true↔a.ah<b.ah\/(a.ah=b.ah/\dS a.Value b.Value=true):=by
 unfold bD;split
 ·rename_i e;rw[e];simp
 ·rename_i e;simp only[Qi];constructor
  ·exact .inl
  ·rintro(h|h)
   ·exact h
   ·exact absurd h.1 e
theorem lM{a b c:ai}(h:bD a b=true)(h':bD b c=true):bD a c=true:=HS.trans _ _ _ h h'
theorem Zc(a:ai):bD a a=false:=HS.irrefl a
theorem GO{a b:ai}(h:bD a b=false)(h':a≠b):bD b a=true:=by
 cases h1:bD b a with
 |true=>rfl
 |false=>exact absurd (HS.total a b h h1) h'
theorem iq{a b:ai}(h:bD a b=true):a.ah<=b.ah:=by
 rw[xa]at h;omega
theorem JT{a b:ai}(h:bD a b=false):b.ah<=a.ah:=by
 rcases Int.lt_or_le a.ah b.ah with h1|h1
 ·rw[(xa a b).2 (.inl h1)]at h;cases h
 ·exact h1
theorem Za(v:ByteArray):dS v v=false:=uL.irrefl v
theorem LR{a b:ai}(hv:a.Value=b.Value):bD a b=decide (a.ah<b.ah):=by
 unfold bD;split
 ·rename_i e;rw[hv,Za,e];simp
 ·rfl
theorem Hq{p x:ai}(h:km p x=true):bD p x=false:=by
 obtain⟨_,h2,h3⟩:=(kl p x).1 h;rw[LR h2,Qj];omega
theorem O0{p x q:ai}(h:km p x=true)(hq:bD p q=true):bD x q=true:=by
 by_cases e:x=p
 ·rw[e];exact hq
 ·exact lM (GO (Hq h) (fun h=>e h.symm)) hq
theorem kp{a b:ai}:cI a b=true↔a.Value=b.Value:=decide_eq_true_iff
theorem ju{a b:ai}:cI a b=false↔a.Value≠b.Value:=Qj
theorem BH(p q x:ai):dY p q x=true↔km p x=true\/km q x=true\/(aT q=false/\bD x q=true):=by
 unfold dY;simp only[Qn,Qm,Bool.not_eq_true'];exact⟨fun h=>by rcases h with(h|h)|h<;>simp[h],fun h=>by rcases h with h|h|h<;>simp[h]⟩
def sw(p q:ai):Prop:=(p=cq\/dm p)/\(q=cq\/(dm q/\dm p/\bD q p=true/\cI q p=false))
theorem P1.gE{m:ae}(h:P1 m):sw m.an m.aH:=⟨h.dH,h.dJ⟩
theorem Ku{b:ai}(h:dm b):b≠cq:=fun e=>by have:=h.nz;rw[e,cp]at this;cases this
inductive vd (p q b:ai):ai->ai->Prop where
 |same:vd p q b p q
 |first (hp:p=cq) (hq:q=cq):vd p q b b cq
 |up (hp:dm p) (hl:bD p b=true) (hc:p.Value=b.Value):vd p q b b q
 |Dd (hp:dm p) (hl:bD p b=true) (hc:p.Value≠b.Value):vd p q b b p
 |under (hp:dm p) (hl:bD b p=true) (hc:b.Value≠p.Value) (hq:q=cq\/bD q b=true):vd p q b p b
theorem adw{p q b:ai}(h:sw p q)(hb:b=cq\/dm b):vd p q b (hU p q b).1 (hU p q b).2:=by
 unfold hU;rcases hb with rfl|hb
 ·rw[Qr cp];exact .same
 rw[Qs (by rw[hb.nz];decide)]
 rcases h.1 with rfl|hp
 ·have hq:q=cq:=by
   rcases h.2 with e|⟨_,e,_⟩
   ·exact e
   ·exact absurd rfl (Ku e)
  rw[Qr cp,hq];exact .first rfl rfl
 rw[Qs (by rw[hp.nz];decide)]
 by_cases hl:bD p b=true
 ·rw[Qr hl]
  by_cases hc:cI p b=true
  ·rw[Qr hc]
   have hcq:cI q b=false:=by
    rw[kp]at hc;rw[ju];rcases h.2 with rfl|⟨_,_,_,e⟩
    ·exact fun e=>hb.ne e.symm
    ·rw[ju]at e;rw[<-hc];exact e
   rw[Qs (by rw[hcq];decide)]
   exact .up hp hl (kp.1 hc)
  ·rw[Qs hc];exact .Dd hp hl (ju.1 (by simpa using hc))
 ·rw[Qs hl];split
  ·rename_i hu;simp only[Qm,Qn,Bool.not_eq_true']at hu;refine .under hp hu.1.1 (ju.1 hu.1.2) ?_;rcases hu.2 with e|e
   ·exact .inl (Cs.1 e)
   ·exact .inr e
  ·exact .same
theorem vd.ok{p q b p' q':ai}(h:sw p q)(hb:b=cq\/dm b)(hj:vd p q b p' q'):sw p' q':=by
 have hbf:∀{x:ai},bD x b=true\/dm b\/(dm x/\bD b x=true)->True:=fun _=>trivial
 cases hj with
 |same=>exact h
 |first hp hq=>exact⟨hb,.inl rfl⟩
 |up hp hl hc=>
  have hb':dm b:=by
   rcases hb with rfl|hb
   ·have h1:=iq hl;have h2:=hp.1;have:(cq:ai).ah=0:=rfl;omega
   ·exact hb
  refine⟨.inr hb',?_⟩;rcases h.2 with e|⟨h1,h2,h3,h4⟩
  ·exact .inl e
  ·refine .inr ⟨h1,hb',lM h3 hl,?_⟩;rw[ju]at h4 ⊢;rw[<-hc];exact h4
 |Dd hp hl hc=>
  have hb':dm b:=by
   rcases hb with rfl|hb
   ·have h1:=iq hl;have h2:=hp.1;have:(cq:ai).ah=0:=rfl;omega
   ·exact hb
  exact⟨.inr hb',.inr ⟨hp,hb',hl,ju.2 hc⟩⟩
 |under hp hl hc hq=>
  refine⟨.inr hp,?_⟩;rcases hb with e|hb
  ·exact .inl e
  ·exact .inr ⟨hb,hp,hl,ju.2 hc⟩
theorem vd.mono{p q b p' q':ai}(h:sw p q)(hj:vd p q b p' q'){x:ai}(hx:dY p q x=true):dY p' q' x=true:=by
 rw[BH]at hx ⊢
 have hqp:aT q=false->bD q p=true:=fun hz=>by
  rcases h.2 with e|⟨_,_,e,_⟩
  ·rw[e,cp]at hz;cases hz
  ·exact e
 have hcq:km q x=true->aT q=false:=fun hc=>((kl q x).1 hc).1
 cases hj with
 |same=>exact hx
 |first hp hq=>
  subst hp hq;rcases hx with hx|hx|hx
  ·have:=((kl _ _).1 hx).1;rw[cp]at this;cases this
  ·have:=((kl _ _).1 hx).1;rw[cp]at this;cases this
  ·rw[cp]at hx;cases hx.1
 |up hp hl hc=>
  rcases hx with hx|hx|hx
  ·obtain⟨h1,h2,h3⟩:=(kl _ _).1 hx;refine .inl ((kl _ _).2 ⟨?_,hc.symm.trans h2,Int.le_trans h3 (iq hl)⟩);have:=hp.1;have:=iq hl;exact LQ (by omega)
  ·exact .inr (.inl hx)
  ·exact .inr (.inr hx)
 |Dd hp hl hc=>
  rcases hx with hx|hx|hx
  ·exact .inr (.inl hx)
  ·exact .inr (.inr ⟨hp.nz,O0 hx (hqp (hcq hx))⟩)
  ·exact .inr (.inr ⟨hp.nz,lM hx.2 (hqp hx.1)⟩)
 |under hp hl hc hq=>
  have hbz:aT q=false->bD q b=true:=fun hz=>by
   rcases hq with e|e
   ·rw[e,cp]at hz;cases hz
   ·exact e
  have hbn:aT q=false->aT b=false:=fun hz=>by
   have h1:=iq (hbz hz);rcases h.2 with e|⟨e,_⟩
   ·rw[e,cp]at hz;cases hz
   ·have:=e.1;exact LQ (by omega)
  rcases hx with hx|hx|hx
  ·exact .inl hx
  ·exact .inr (.inr ⟨hbn (hcq hx),O0 hx (hbz (hcq hx))⟩)
  ·exact .inr (.inr ⟨hbn hx.1,lM hx.2 (hbz hx.1)⟩)
theorem ZU{p:ai}{v:ByteArray}{n k:Int}(h:eS p ⟨n,v⟩=false)(hk:n<=k):eS p ⟨k,v⟩=false:=UO hk h
theorem Rn{v:ByteArray}{n:Int}{x:ai}(hx:x=cq\/dB x=true):n<=zz v n x/\eS x ⟨zz v n x,v⟩=false:=by
 unfold zz;split
 ·rename_i hc;rw[Qm]at hc;have ha:=hc.2;unfold eS at ha;rw[Qm,Qm]at ha;have hle:n<=x.ah:=iq ha.2;split
  ·refine⟨by omega,?_⟩
   unfold eS;rw[Bool.and_eq_false_iff];right
   cases hl:bD ⟨x.ah+1,v⟩ x with
   |false=>rfl
   |true=>have:=iq hl;simp only at this;omega
  ·rename_i hn;exact⟨hle,by simpa using hn⟩
 ·rename_i hc;refine⟨Int.le_refl _,?_⟩;rcases hx with rfl|hv
  ·unfold eS;rw[cp];rfl
  ·rw[hv,Bool.true_and]at hc;simpa using hc
theorem Vq{v:ByteArray}{n:Int}{p q:ai}(hp:p=cq\/dB p=true)(hq:q=cq\/dB q=true):n<=qI v n p q/\1<=qI v n p q/\qR p q v (qI v n p q)=false:=by
 unfold qI;obtain⟨h1,h2⟩:=Rn (v:=v) (n:=bP n 1) hp;obtain⟨h3,h4⟩:=Rn (v:=v) (n:=zz v (bP n 1) p) hq;have hm:n<=bP n 1/\1<=bP n 1:=by unfold bP;split<;>omega
 refine⟨by omega,by omega,?_⟩
 unfold qR;rw[h4,Bool.or_false];exact ZU h2 h3
theorem KZ{v:ByteArray}{n:Int}{x:ai}(h:eS x ⟨n,v⟩=false):zz v n x=n:=by
 unfold zz;rw[h,Bool.and_false];rfl
theorem Y5{v:ByteArray}{n:Int}{p q:ai}(h1:1<=n)(h:qR p q v n=false):qI v n p q=n:=by
 unfold qR at h;rw[Qq73]at h;have hm:bP n 1=n:=by unfold bP;split<;>omega
 unfold qI;rw[hm,KZ h.1,KZ h.2]
theorem sw.valid{p q:ai}(h:sw p q):(p=cq\/dB p=true)/\(q=cq\/dB q=true):=
 ⟨h.1.imp id dm.valid,h.2.imp id fun h=>h.1.valid⟩
theorem Wd{e:aj}(hv:bj e=true){x:ai}(hx:x∈said e)(hz:aT x=false):dB x=true:=by
 have hv':=hv;unfold bj lZ at hv';unfold said at hx;rw[Qr hv]at hx;rw[Qm,Qm]at hv';have hb:=hv'.2
 by_cases h1:e.bu=1
 ·rw[Qr h1]at hb hx;unfold gE at hb;simp only[Qm,Qn]at hb;obtain⟨⟨⟨⟨⟨⟨⟨⟨hf,hp⟩,hq⟩,_⟩,_⟩,_⟩,_⟩,_⟩,_⟩:=hb;simp only[QA,QR,or_false]at hx;rcases hx with rfl|rfl|rfl
  ·unfold finite at hf;rw[Qm]at hf;exact hf.1
  ·rcases hp with hp|hp
   ·rw[hp]at hz;cases hz
   ·exact hp
  ·rcases hq with hq|hq
   ·rw[hq]at hz;cases hz
   ·exact hq
 ·rw[Qs h1]at hb hx
  have hinf:∀{b:ai},dB b=true->dB ⟨1000000,b.Value⟩=true:=by
   intro b hb;simp only[dB,Qm,Qn,Qi]at hb ⊢;exact⟨⟨.inr trivial,hb.1.2⟩,hb.2⟩
  by_cases h2:e.bu=2
  ·rw[Qr h2]at hb hx;unfold vU at hb;simp only[Qm]at hb;obtain⟨⟨⟨⟨⟨hf,hp⟩,hc⟩,_⟩,_⟩,_⟩:=hb;simp only[QA,QR,or_false]at hx;rcases hx with rfl|rfl
   ·exact hp
   ·unfold finite at hf;rw[Qm]at hf;exact hinf hf.1
  ·rw[Qs h2]at hb hx;simp only[QA,QR,or_false]at hx;subst hx
   by_cases h3:e.bu=3
   ·rw[Qr h3]at hb;unfold Bh at hb;simp only[Qm]at hb;exact hinf hb.1.1.1
   ·rw[Qs h3]at hb;cases hb
theorem I7{e:aj}(hv:bj e=true):1<=e.af.Value.size/\e.af.Value.size<=200:=by
 have hv':=hv;unfold bj lZ at hv';rw[Qm,Qm]at hv';have hb:=hv'.2
 have go:∀{b:ai},dB b=true->1<=b.Value.size/\b.Value.size<=200:=by
  intro b hb;simp only[dB,Qm,Qn,Qi]at hb;exact⟨hb.1.2,hb.2⟩
 have gof:∀{b:ai},finite b=true->1<=b.Value.size/\b.Value.size<=200:=by
  intro b hb;unfold finite at hb;rw[Qm]at hb;exact go hb.1
 by_cases h1:e.bu=1
 ·rw[Qr h1]at hb;unfold gE at hb;simp only[Qm]at hb;exact gof hb.1.1.1.1.1.1.1.1
 ·rw[Qs h1]at hb
  by_cases h2:e.bu=2
  ·rw[Qr h2]at hb;unfold vU at hb;simp only[Qm]at hb;exact gof hb.1.1.1.1.1
  ·rw[Qs h2]at hb
   by_cases h3:e.bu=3
   ·rw[Qr h3]at hb;unfold Bh at hb;simp only[Qm]at hb;exact go hb.1.1.1
   ·rw[Qs h3]at hb;cases hb
theorem aeg{b:ai}(h:dB b=true):dm (iZ b):=by
 simp only[dB,Qm,Qn,Qi]at h;obtain⟨⟨h1,h2⟩,h3⟩:=h;unfold iZ;split
 ·exact⟨(by decide:(1:Int)<=1000),(by decide:(1000:Int)<=1000),h2,h3⟩
 ·exact⟨by omega,by omega,h2,h3⟩
theorem Tk{α:Type}{l:List α}{p:α->Bool}{z:α}:(l.find? p).getD z=z\/((l.find? p).getD z∈l/\p ((l.find? p).getD z)=true):=by
 cases h:l.find? p with
 |none=>exact .inl rfl
 |some x=>exact .inr ⟨List.mem_of_find?_eq_some h,List.find?_some h⟩
theorem FP{m:ae}(h:bH m){x:ai}(hx:x∈gw (cr m)):dB x=true:=by
 obtain⟨e,he,h1,h2⟩:=((vV h.ev.vL.1.aR h.ev.vL.2).2.2.2 x).1 hx;exact Wd (h.CZ e he) h1 h2
theorem OE{m:ae}(h:bH m):fP m=cq\/(dB (fP m)=true/\(KQ m=gY\/(fP m).Value=KQ m)/\dY (xe m.an) (xe m.aH) (fP m)=false/\pI m.ao.toNat m.ab (cr m) (fP m)=true):=by
 unfold fP CE;rcases Tk (l:=gw (cr m)) (p:=H8 (pI m.ao.toNat m.ab (cr m)) m.an m.aH (KQ m)) (z:=OH)with e|⟨h1,h2⟩
 ·exact .inl e
 ·right;unfold H8 at h2;simp only[Qm,Qn,Bool.not_eq_true',Qi]at h2;exact⟨FP h h1,h2.1.1,h2.1.2,h2.2⟩
theorem xX{m:ae}(h:bH m):iZ (fP m)=cq\/dm (iZ (fP m)):=by
 rcases OE h with e|⟨h1,_⟩
 ·left;rw[e];decide
 ·exact .inr (aeg h1)
theorem H0{m:ae}(h:bH m)(h1:sw m.an m.aH):vd m.an m.aH (iZ (fP m)) (hU m.an m.aH (iZ (fP m))).1 (hU m.an m.aH (iZ (fP m))).2:=adw h1 (xX h)
theorem P2.gE{m:ae}(h:P2 m):sw m.an m.aH:=⟨.inr h.dH.1,.inl h.dJ⟩
theorem ac7{m:ae}(h:bH m)(h1:P1 m):P1 (eB m):=by
 unfold eB;rw[Qs (by rw[h1.bf,h1.bl.nz];decide)]
 have hj:=H0 h h1.gE;generalize (hU m.an m.aH (iZ (fP m))).1=p at hj;generalize (hU m.an m.aH (iZ (fP m))).2=q at hj;have hok:=hj.ok h1.gE (xX h);refine⟨h1.bf,h1.bl,hok.1,hok.2,?_,h1.up,h1.eX,?_⟩
 ·rcases h1.dQ with e|⟨hf,hp⟩
  ·exact .inl e
  ·exact .inr ⟨hf,hj.mono h1.gE hp⟩
 ·show vu m p q=0\/(1<=vu m p q/\vu m p q<=fc m/\qR p q m.af.Value (vu m p q)=false);unfold vu
  by_cases hL:m.bo=0
  ·rw[Qs (fun h=>h.2 hL)];exact .inl hL
  ·rw[Qr ⟨h1.bf,hL⟩];split
   ·exact .inl rfl
   ·rename_i hlt;obtain⟨h2,h3,h4⟩:=Vq (v:=m.af.Value) (n:=m.bo) hok.valid.1 hok.valid.2;exact .inr ⟨h3,by omega,h4⟩
theorem U9{m:ae}(h:bH m)(h2:P2 m):P2 (eB m)/\m.an.ah<=(eB m).an.ah/\(eB m).aH=cq:=by
 unfold eB;rw[Qs (by rw[h2.bf,h2.bl.nz];decide)]
 have hv:iZ (fP m)=cq\/(iZ (fP m)).Value=m.af.Value:=by
  rcases OE h with e|⟨h3,h4,_⟩
  ·left;rw[e];decide
  ·right;have hc:(iZ (fP m)).Value=(fP m).Value:=by unfold iZ;split<;>rfl
   have hvo:KQ m=m.af.Value:=Qr h2.bf;rw[hvo]at h4;rw[hc];exact h4.resolve_left h2.bl.ne
 have hj:=H0 h h2.gE;have hlow:∀p q,vu m p q=m.bo:=fun p q=>Qs (fun h=>by have:=h.1;rw[h2.bf]at this;cases this)
 simp only[hlow];have hok:=hj.ok h2.gE (xX h);generalize (hU m.an m.aH (iZ (fP m))).1=p at hj hok;generalize (hU m.an m.aH (iZ (fP m))).2=q at hj hok;generalize hb:iZ (fP m)=b at hj hv
 have key:dm p/\p.Value=m.af.Value/\m.an.ah<=p.ah/\q=cq:=by
  cases hj with
  |same=>exact⟨h2.dH.1,h2.dH.2,Int.le_refl _,h2.dJ⟩
  |first hp hq=>exact absurd hp (Ku h2.dH.1)
  |up hp hl hc=>exact⟨hok.1.resolve_left (fun e=>by have:=iq hl;rw[e]at this;have h9:=h2.dH.1.1;have:(cq:ai).ah=0:=rfl;omega),hc.symm.trans h2.dH.2,iq hl,h2.dJ⟩
  |Dd hp hl hc=>
   exfalso;rcases hv with e|e
   ·have:=iq hl;rw[e]at this;have h9:=h2.dH.1.1;have:(cq:ai).ah=0:=rfl;omega
   ·exact hc (h2.dH.2.trans e.symm)
  |under hp hl hc hq=>
   rcases hv with e|e
   ·exact⟨h2.dH.1,h2.dH.2,Int.le_refl _,e⟩
   ·exact absurd (e.trans h2.dH.2.symm) hc
 exact⟨⟨h2.bf,h2.bl,⟨key.1,key.2.1⟩,key.2.2.2,h2.dQ,⟨h2.range.1,h2.range.2.1,Int.le_trans h2.range.2.2 key.2.2.1⟩⟩,key.2.2.1,key.2.2.2⟩
theorem YG{m:ae}(h:bH m):bH (eB m):=by
 have hid:m.aY=3\/aT m.af=true->eB m=m:=fun hc=>Qr hc
 have mk:(P0 (eB m)\/P1 (eB m)\/P2 (eB m)\/P3 (eB m))->bH (eB m):=by
  intro hb;unfold eB at hb ⊢;split at hb
  ·rename_i hc;rw[Qr hc];exact h
  ·rename_i hc;rw[Qs hc];exact⟨h.n0,h.n1,h.bx,h.seq,h.aR,h.vt,h.hv,h.gX,hb⟩
 rcases h.body with h0|h1|h2|h3
 ·rw[hid (.inr (by rw[h0.bl];exact cp))];exact h
 ·exact mk (.inr (.inl (ac7 h h1)))
 ·exact mk (.inr (.inr (.inl (U9 h h2).1)))
 ·rw[hid (.inl h3.bf)];exact h
end
section
end
section
theorem ug(q:Int->Bool):∀(r:List Int) (lo:Int),eC q r lo<=lo
 |[],lo=>Int.le_refl _
 |e::r,lo=>by
  rw[eC];split
  ·exact ug q r lo
  ·split
   ·exact Int.le_trans (ug q r e) (by omega)
   ·exact Int.le_refl _
theorem B1(q:Int->Bool):∀(r:List Int) (lo:Int),eC q r lo=lo\/q (eC q r lo)=true/\eC q r lo∈r
 |[],lo=> .inl rfl
 |e::r,lo=>by
  rw[eC];split
  ·exact(B1 q r lo).imp id fun h=>⟨h.1,by simp[h.2]⟩
  ·split
   ·rename_i hq;rcases B1 q r e with h|h
    ·exact .inr ⟨by rw[h];exact hq,by rw[h];simp⟩
    ·exact .inr ⟨h.1,by simp[h.2]⟩
   ·exact .inl rfl
theorem B2(q:Int->Bool)(r:List Int)(lo:Int)(h:∀x∈r,1<=x)(h1:1<=lo):1<=eC q r lo:=by
 rcases B1 q r lo with e|⟨_,e⟩
 ·omega
 ·exact h _ e
section
variable {aJ : Nat} {t : aa} {l : List aj} (p q : ai)
end
end
end Go.Proofs.YtgjpkadjihpddaaGreat
end
