/-
  Texts made small by a program (see NOTES). Conditions: those that each theorem names.
-/
import Derived.Test.YtjbfdglebjnelaaGreatSlotSaysMd
set_option linter.unusedVariables false
set_option linter.unusedSimpArgs false
set_option linter.unusedSectionVars false
set_option maxHeartbeats 2000000
noncomputable section
namespace Go.TQ
@[simp] theorem aN {σ ρ:Type} (j:σ->Option ρ) (f:(σ->Option ρ)->Option ρ):aX j f=f j:=rfl
@[simp] theorem lL {α:Type} (b:Bool) (x y:α):(bif b then some x else some y)=some (bif b then x else y):=by cases b<;>rfl
@[simp] theorem aiV {α:Type} (b:Bool) (x:α):(bif b then x else x)=x:=by cases b<;>rfl
theorem FZ{α:Type}(p:Prop)[Decidable p](x y:α):(bif decide p then x else y)=if p then x else y:=by
 by_cases h:p<;>simp[h]
theorem Dz{α:Type}(p:Prop)[Decidable p](x y:α):(if p then some x else some y)=some (if p then x else y):=by split<;>rfl
@[simp] theorem FY {α:Type} (b:Bool) (x y:α):(bif !b then x else y)=bif b then y else x:=by cases b<;>rfl
@[simp] theorem BR (a b:Int) (s t:ByteArray):mh false a b s t=(decide (a=b)&&decide (s=t)):=by simp[mh]
@[simp] theorem ab7 (a b:Int) (s t:ByteArray):mh true a b s t= !(decide (a=b)&&decide (s=t)):=by simp[mh]
def Yd{α:Type}(o:Option α)(p:α->Prop):Prop:=∃x,o=some x/\p x
theorem Yd.bind{α β:Type}{o:Option α}{p:α->Prop}{f:α->Option β}{q:β->Prop}(h:Yd o p)(k:∀x,p x->Yd (f x) q):Yd (o.bind f) q:=by
 obtain⟨x,rfl,hx⟩:=h;exact k x hx
theorem Yd.mono{α:Type}{o:Option α}{p q:α->Prop}(h:Yd o p)(k:∀x,p x->q x):Yd o q:=by
 obtain⟨x,h1,hx⟩:=h;exact⟨x,h1,k x hx⟩
theorem Yd.some{α:Type}{x:α}{p:α->Prop}(h:p x):Yd (Option.some x) p:=⟨x,rfl,h⟩
theorem Yd.of_eq{α:Type}{o:Option α}{x:α}{p:α->Prop}(h:o=Option.some x)(hp:p x):Yd o p:=⟨x,h,hp⟩
theorem Yd.cond{α:Type}{b:Bool}{x y:Option α}{p:α->Prop}(h1:b=true->Yd x p)(h2:b=false->Yd y p):Yd (bif b then x else y) p:=by
 cases b
 ·exact h2 rfl
 ·exact h1 rfl
theorem Yd.map{α β:Type}{o:Option α}{f:α->β}{p:β->Prop}(h:Yd o fun x=>p (f x)):Yd (o.map f) p:=by
 obtain⟨x,rfl,hx⟩:=h;exact⟨f x,rfl,hx⟩
theorem Yd.eq_true{o:Option Bool}(h:Yd o (·=true)):o=Option.some true:=by
 obtain⟨x,h1,rfl⟩:=h;exact h1
theorem wrap64{n:Int}(h1: -9223372036854775808<=n)(h2:n<=9223372036854775807):IntKind.i64.wrap n=n:=i64_in h1 h2
theorem bD{a b:Int}(h1: -9223372036854775808<=a+b)(h2:a+b<=9223372036854775807):aA .i64 a b=a+b:=wrap64 h1 h2
theorem qH{a b:Int}(h1: -9223372036854775808<=a - b)(h2:a - b<=9223372036854775807):dh .i64 a b=a - b:=wrap64 h1 h2
theorem bd{α:Type}(l:List α)(i:Nat):idx l (i:Int)=l[i]?:=by simp[idx]
theorem Oh{α:Type}(l:List α){n:Int}(h:0<=n):idx l n=l[n.toNat]?:=by simp[idx,h]
@[simp] theorem agH (n:Nat) (h:n<256):bA .i64 (n:Int)=n:=wrap64 (by omega) (by omega)
@[simp] theorem bn {bytes n:Nat} (h:n*bytes<=140737488355328/\n<=1000000):bc bytes n=true:=by
 simp only[bc,Qm,Qi];exact⟨h.1,QK h.2 (by simp[maxLen])⟩
theorem u7(a:Nat)(h:a<2 ^ 62):(BitVec.ofInt 64 (a:Int)).toNat=a:=by
 grind
theorem C6(n:Nat)(h:n<2 ^ 62):IntKind.i64.wrap (n:Int)=n:=wrap64 (by omega) (by omega)
theorem DL(a b:Nat)(ha:a<2 ^ 62)(hb:b<2 ^ 62):Fc .i64 (a:Int) (b:Int)=((a&&&b:Nat):Int):=by
 show IntKind.i64.wrap (((BitVec.ofInt 64 (a:Int)&&&BitVec.ofInt 64 (b:Int)).toNat:Nat):Int)=_;rw[BitVec.toNat_and,u7 a ha,u7 b hb];exact C6 _ (Nat.lt_of_le_of_lt Nat.and_le_left ha)
theorem Fy(a b:Nat)(ha:a<2 ^ 62)(hb:b<2 ^ 62):qi .i64 (a:Int) (b:Int)=((a|||b:Nat):Int):=by
 show IntKind.i64.wrap (((BitVec.ofInt 64 (a:Int)|||BitVec.ofInt 64 (b:Int)).toNat:Nat):Int)=_
 rw[BitVec.toNat_or,u7 a ha,u7 b hb];exact C6 _ (Nat.or_lt_two_pow ha hb)
theorem afd(s k:Nat):s&&&2 ^ k=if s.testBit k then 2 ^ k else 0:=by
 refine Nat.eq_of_testBit_eq fun i=> ?_
 grind
theorem xZ(k:Nat)(h:k<=60):bS .i64 1 (k:Int)=((2 ^ k:Nat):Int):=by
 show IntKind.i64.wrap (1*2 ^ min (k:Int).toNat 64)=_;rw[QV,show min k 64=k from Nat.min_eq_left (by omega),Int.one_mul]
 have:=C6 (2 ^ k) (Nat.pow_lt_pow_right (by omega) (by omega))
 simpa using this
theorem abf(a k:Nat)(h:k<=60):lx .i64 (a:Int) (k:Int)=((a>>>k:Nat):Int):=by
 show(a:Int).fdiv (2 ^ min (k:Int).toNat 64)=_;rw[QV,show min k 64=k from Nat.min_eq_left (by omega),Nat.shiftRight_eq_div_pow]
 grind
theorem bx{σ ρ:Type}{step:σ->Option (σ⊕ρ)}{s:σ}{r:ρ}(h:step s=some (.inr r)):aC step s=some r:=by rw[ff,h]
theorem bh{σ ρ:Type}{step:σ->Option (σ⊕ρ)}{s s':σ}(h:step s=some (.inl s')):aC step s=aC step s':=by rw[ff,h]
theorem NM{σ ρ:Type}{step:σ->Option (σ⊕ρ)}{s:σ}(h:step s=none):aC step s=none:=by rw[ff,h]
theorem Yd.loop{σ ρ:Type}{step:σ->Option (σ⊕ρ)}{s:σ}{p:ρ->Prop}(h:Yd (step s) fun y=>match y with| .inl s'=>Yd (aC step s') p| .inr r=>p r):Yd (aC step s) p:=by
 obtain⟨y,h1,h2⟩:=h
 cases y with
 |inl s'=>rw[bh h1];exact h2
 |inr r=>exact⟨r,bx h1,h2⟩
theorem Yd.join{σ ρ:Type}{j:σ->Option ρ}{f:(σ->Option ρ)->Option ρ}{p:ρ->Prop}(inv:σ->Prop)(h1:∀v,inv v->Yd (j v) p)(h2:∀j':σ->Option ρ,(∀v,inv v->Yd (j' v) p)->Yd (f j') p):Yd (aX j f) p:=h2 j h1
theorem Yd.inr{σ ρ:Type}{o:Option ρ}{p:σ⊕ρ->Prop}(h:Yd o fun r=>p (.inr r)):Yd (Option.map Sum.inr o) p:=h.map
def fJ{α σ ρ:Type}(g:α->σ->Option (σ⊕ρ))(fin:σ->Option ρ):List α->σ->Option ρ
 |[],s=>fin s
 |x::l,s=>match g x s with
  |none=>none
  |some (.inr r)=>some r
  |some (.inl s')=>fJ g fin l s'
theorem Yt{α σ τ ρ:Type}(l:List α)(mk:Int->σ->τ){step:τ->Option (τ⊕ρ)}(g:α->σ->Option (σ⊕ρ))(fin:σ->Option ρ)
  (h1:∀(i:Nat) (x:α) (s:σ),i<l.length->l[i]?=some x->step (mk i s)=match g x s with|none=>none|some (.inr r)=>some (.inr r)|some (.inl s')=>some (.inl (mk (i+1:Nat) s')))
  (h2:∀s,step (mk l.length s)=(fin s).map Sum.inr) (s:σ):aC step (mk 0 s)=fJ g fin l s:=by
 suffices h:∀(k:Nat) (i:Nat) (s:σ),i+k=l.length->aC step (mk i s)=fJ g fin (l.drop i) s by
  have:=h l.length 0 s (by omega)
  simpa using this
 intro k
 induction k with
 |zero=>
  intro i s hi;obtain rfl:i=l.length:=by omega
  rw[Qq66,fJ,ff,h2];cases fin s<;>rfl
 |succ k ih=>
  intro i s hi;have hlt:i<l.length:=by omega
  rw[QM hlt,fJ,ff,h1 i l[i] s hlt (Qv hlt)]
  cases hg:g l[i] s with
  |none=>rfl
  |some y=>
   cases y with
   |inr r=>rfl
   |inl s'=>exact ih (i+1) s' (by omega)
theorem iI{α σ τ ρ:Type}(l:List α)(hl:l.length<=9223372036854775807)(mk:Int->σ->τ){step:τ->Option (τ⊕ρ)}(g:α->σ->Option (σ⊕ρ))(fin:σ->Option ρ)
  (h1:∀(i:Nat) (x:α) (s:σ),decide ((i:Int)<((l.length:Nat):Int))=true->idx l (i:Int)=some x->aA .i64 (i:Int) 1=((i+1:Nat):Int)->step (mk i s)=match g x s with|none=>none|some (.inr r)=>some (.inr r)|some (.inl s')=>some (.inl (mk (i+1:Nat) s')))
  (h2:∀s,decide (((l.length:Nat):Int)<((l.length:Nat):Int))=false->step (mk l.length s)=(fin s).map Sum.inr) (s:σ):aC step (mk 0 s)=fJ g fin l s:=
 Yt l mk g fin (fun i x s hi hx=>h1 i x s (Qg (Int.ofNat_lt.2 hi)) (by rw[bd];exact hx) (bD (by omega) (by omega))) (fun s=>h2 s (Qh (Qq64 _))) s
end Go.TQ
namespace Go.Proofs.YtjbfdglebjnelaaGreat
open Go.TQ
section
def fH:ByteArray:=⟨#[]⟩
def aF(b:af):Bool:=decide (b.ak=0)&&decide (b.Value=fH)
def bJ(a b:ByteArray):Bool:=if a.size=b.size then kJ a b else decide (a.size<b.size)
def bz(a b:af):Bool:=if a.ak=b.ak then bJ a.Value b.Value else decide (a.ak<b.ak)
def bM(a b:af):Bool:=decide (a.Value=b.Value)
def jM(p b:af):Bool:= !aF p&&bM p b&&decide (b.ak<=p.ak)
def dY(p q b:af):Bool:=jM p b||jM q b||(!aF q&&bz b q)
def eN(p b:af):Bool:= !aF p&& !bM p b&&bz b p
def cO(b:af):Bool:=(decide (1<=b.ak)&&decide (b.ak<=1000)||decide (b.ak=1000000))&&decide (1<=b.Value.size)&&decide (b.Value.size<=200)
theorem Sn:∀x:List UInt8,Op.bytesLess x x=false
 |[]=>rfl
 |a::l=>by simp[Op.bytesLess,Sn l]
theorem Vw:∀{x y:List UInt8},x≠y->Op.bytesLess x y=true\/Op.bytesLess y x=true
 |[],[],h=>absurd rfl h
 |[],_::_,_=> .inl rfl
 |_::_,[],_=> .inr rfl
 |a::l,b::m,h=>by
  simp only[Op.bytesLess]
  by_cases hab:a=b
  ·subst hab;have:l≠m:=fun e=>h (by rw[e])
   simpa using Vw this
  ·rcases Nat.lt_or_gt_of_ne (fun e=>hab (UInt8.toNat_inj.1 e))with h1|h1
   ·have h2:a<b:=h1;simp[h2]
   ·have h2:b<a:=h1;simp[h2]
theorem Da(a:ByteArray):kJ a a=false:=Sn _
@[simp] theorem cz (b:af):bw b=some (aF b):=by unfold bw aF;rw[BR];rfl
@[simp] theorem c7 (b:af):bI b=some (aF b):=by unfold bI aF;rw[BR];rfl
@[simp] theorem fS (a b:af):cg a b=some (bM a b):=rfl
@[simp] theorem gN (a b:af):cy a b=some (bM a b):=rfl
@[simp] theorem vQ (b:af):gZ b=some (cO b):=by
 have h1:decide ((1:Int)<=(b.Value.size:Nat))=decide (1<=b.Value.size):=by rw[decide_eq_decide];omega
 have h2:decide (((b.Value.size:Nat):Int)<=200)=decide (b.Value.size<=200):=by rw[decide_eq_decide];omega
 simp only[gZ,cO,h1,h2,lL,Qa,Bool.cond_false_right,Bool.cond_true_left]
@[simp] theorem DV (b:af):kM b=some (cO b):=vQ b
@[simp] theorem z7 (a b:ByteArray):oC a b=some (bJ a b):=by
 simp only[oC,bJ,FY,Int.ofNat_inj,Int.ofNat_lt,FZ,Dz]
@[simp] theorem kj (a b:af):fD a b=some (bz a b):=by
 simp[fD,bz,FZ,Dz]
@[simp] theorem Ct (a b:af):mR a b=some (jM a b):=by simp[mR,jM]
@[simp] theorem Zj (a b:af):kX a b=some (jM a b):=by simp[kX,jM]
@[simp] theorem uv (p q b:af):jq p q b=some (dY p q b):=by simp[jq,dY]
@[simp] theorem Cu (p b:af):gO p b=some (eN p b):=by simp[gO,eN]
def yv(a b:Int):Int:=if a<b then -1 else if b<a then 1 else 0
def MH(a b:ByteArray):Int:=if kJ a b then -1 else if kJ a b||decide (a=b)then 0 else 1
def orL:List Int->Int
 |[]=>0
 |x::l=>if x=0 then orL l else x
@[simp] theorem Hr (a b:Int):fe a b=some (yv a b):=by
 simp[fe,uO,yv,FZ,Dz]
@[simp] theorem VX (a b:ByteArray):lT a b=some (MH a b):=by
 simp only[lT,rC,MH];cases h1:kJ a b<;>by_cases h2:a=b<;>simp[h2]
theorem O4(l:List Int)(hl:l.length<=1000000):nI l=some (orL l):=by
 unfold nI;rw[iI l (by omega) (fun i (_:Unit)=>(i,())) (fun x _=>some (if x=0 then .inl ()else .inr x)) (fun _=>some 0) (fun i x s hd hx hw=> ?_) (fun s hd=> ?_) ()]
 ·induction l with
  |nil=>rfl
  |cons x l ih=>
   grind [fJ,orL]
 ·grind
 ·simp only[hd,Ql]
@[simp] theorem acK (a b:Int):nI [a,b]=some (if a=0 then b else a):=by
 rw[O4 _ (by simp)]
 simp only[orL]
 by_cases h:a=0<;>by_cases h':b=0<;>simp[h,h']
def vx(a b:ByteArray):Int:=if yv a.size b.size=0 then MH a b else yv a.size b.size
def Vq(a b:af):Int:=if yv a.ak b.ak=0 then vx a.Value b.Value else yv a.ak b.ak
@[simp] theorem Cg (a b:ByteArray):iq a b=some (vx a b):=by simp[iq,vx]
@[simp] theorem Zd (a b:af):oI a b=some (Vq a b):=by simp[oI,Vq]
theorem vz(a b:Int):yv a b=0↔a=b:=by unfold yv;split<;>(try split)<;>omega
theorem Hg(a b:Int):yv a b<0↔a<b:=by unfold yv;split<;>(try split)<;>omega
theorem acm(a b:ByteArray):MH a b<0↔kJ a b=true:=by
 grind [MH]
theorem tr(a b:ByteArray):decide (vx a b<0)=bJ a b:=by
 grind [vx,bJ,vz,acm,Hg]
theorem Vp(a b:af):decide (Vq a b<0)=bz a b:=by
 grind [Vq,bz,vz,tr,Hg]
@[simp] theorem jY (a b:af):eD a b=some (bz a b):=by simp[eD,Vp]
@[simp] theorem sR (p q b:af):il p q b=some (dY p q b):=by simp[il,dY]
@[simp] theorem ux (p b:af):eE p b=some (eN p b):=by simp[eE,eN]
def finite(b:af):Bool:=cO b&&decide (b.ak<=1000)
@[simp] theorem F4 (b:af):nG b=some (finite b):=by simp[nG,finite]
@[simp] theorem D3 (b:af):lS b=some (aF b||cO b):=by simp[lS]
@[simp] theorem Cv (e:ai) (n:Int):pw e n=some ⟨n,e.aa.Value⟩:=rfl
end
section
theorem Rg{rec:(ae×Unit)->Option Int}{t:ae}(hl:t.aM.length<=9223372036854775807):
  jZ rec t=fJ (fun u m=>(rec (u,())).map fun r=> .inl (bC m r)) (fun m=>some (aA .i64 m 1)) t.aM 0:=by
 unfold jZ;rw[iI t.aM hl (fun i (m:Int)=>(m,i,())) (fun u m=>(rec (u,())).map fun r=> .inl (bC m r)) (fun m=>some (aA .i64 m 1)) (fun i x s hd hx hw=> ?_) (fun s hd=> ?_) 0]
 ·simp only[hd,hx,hw,Qk,Qa,etas];cases rec (x,())<;>rfl
 ·simp only[hd,Ql]
theorem VV{rec:(ae×Unit)->Option Int}{t:ae}(hl:t.aM.length<=9223372036854775807):
  kY rec t=fJ (fun u m=>(rec (u,())).map fun r=> .inl (aA .i64 m r)) (fun m=>some m) t.aM (aA .i64 t.ba.length t.aM.length):=by
 unfold kY;rw[iI t.aM hl (fun i (m:Int)=>(m,i,())) (fun u m=>(rec (u,())).map fun r=> .inl (aA .i64 m r)) (fun m=>some m) (fun i x s hd hx hw=> ?_) (fun s hd=> ?_) (aA .i64 t.ba.length t.aM.length)]
 ·simp only[hd,hx,hw,Qk,Qa,etas];cases rec (x,())<;>rfl
 ·simp only[hd,Ql]
theorem Rz(t:ae):Cf t=jQ t:=rfl
theorem TR(t:ae):DW t=kR t:=rfl
def fO(x:Int):Bool:=decide (0<=x)&&decide (x<10)
def w5(s x:Int):Bool:=decide (0<=s)&&decide (s<1024)&&fO x&&s.toNat.testBit x.toNat
theorem Kh(s:Int):fA s=some (decide (0<=s)&&decide (s<1024)):=by
 have:bS .i64 1 10=1024:=xZ 10 (by omega)
 simp[fA,Ab,this]
theorem VC{s x:Int}(h1:0<=s)(h2:s<1024)(h3:0<=x)(h4:x<10):(Fc .i64 s (bS .i64 1 x)=0)=(s.toNat.testBit x.toNat=false):=by
 obtain⟨n,rfl⟩:=Int.eq_ofNat_of_zero_le h1;obtain⟨j,rfl⟩:=Int.eq_ofNat_of_zero_le h3;have hj:2 ^ j<=2 ^ 10:=Nat.pow_le_pow_right (by omega) (by omega)
 rw[xZ j (by omega),DL n (2 ^ j) (by omega) (by omega),afd]
 grind
@[simp] theorem mU (s x:Int):kO s x=some (w5 s x):=by
 unfold kO w5 fO;rw[Kh]
 by_cases h1:0<=s
 ·by_cases h2:s<1024
  ·by_cases h3:0<=x
   ·by_cases h4:x<10
    ·have h5:¬x<0:=by omega
     have:=VC h1 h2 h3 h4;simp[h1,h2,h3,h4,h5,this]
    ·simp[h1,h2,h3,h4]
   ·simp[h1,h2,h3]
  ·simp[h1,h2]
 ·simp[h1]
theorem V2{s x:Int}(h1:0<=s)(h2:s<1024)(h3:0<=x)(h4:x<10):(Fc .i64 (lx .i64 s x) 1=1)=(s.toNat.testBit x.toNat=true):=by
 obtain⟨n,rfl⟩:=Int.eq_ofNat_of_zero_le h1;obtain⟨j,rfl⟩:=Int.eq_ofNat_of_zero_le h3;have hle:n>>>j<=n:=by rw[Nat.shiftRight_eq_div_pow];exact Nat.div_le_self _ _
 rw[abf n j (by omega),show(1:Int)=((1:Nat):Int)from rfl,DL _ 1 (by omega) (by omega)]
 simp only[QV,Int.ofNat_inj,Nat.testBit,eq_iff_iff];rw[Nat.and_comm];simp
@[simp] theorem pn (s x:Int):kF s x=some (w5 s x):=by
 unfold kF fV w5 fO
 by_cases h1:0<=s
 ·by_cases h2:s<1024
  ·have h2':s<=1023:=by omega
   by_cases h3:0<=x
   ·by_cases h4:x<10
    ·have h5:¬x<0:=by omega
     have:=V2 h1 h2 h3 h4;simp[h1,h2,h2',h3,h4,h5,this]
    ·simp[h1,h2,h2',h3,h4]
   ·simp[h1,h2,h2',h3]
  ·have h2':¬s<=1023:=by omega
   simp[h1,h2,h2']
 ·simp[h1]
theorem nO{s:Nat}{x:Int}(h1:s<1024)(h3:0<=x)(h4:x<10):qi .i64 (s:Int) (bS .i64 1 x)=((s|||2 ^ x.toNat:Nat):Int):=by
 obtain⟨j,rfl⟩:=Int.eq_ofNat_of_zero_le h3;have hj:2 ^ j<=2 ^ 9:=Nat.pow_le_pow_right (by omega) (by omega)
 rw[xZ j (by omega)]
 exact Fy s (2 ^ j) (by omega) (by omega)
theorem Be{s:Nat}{x:Int}(h1:s<1024)(h4:x<10):s|||2 ^ x.toNat<1024:=by
 have hj:2 ^ x.toNat<=2 ^ 9:=Nat.pow_le_pow_right (by omega) (by omega)
 exact Nat.or_lt_two_pow (n:=10) h1 (by omega)
def wg(s:Nat):List Int->Int×Int×Unit
 |[]=>(s,0,())
 |x::l=>if fO x then(if s.testBit x.toNat then(0,6,())else wg (s|||2 ^ x.toNat) l)else(0,5,())
theorem Xb(g:Int->Int->Option (Int⊕(Int×Int×Unit)))
  (hg:∀x (s:Nat),s<1024->g x s=some (if fO x then(if s.testBit x.toNat then .inr (0,6,())else .inl ((s|||2 ^ x.toNat:Nat):Int))else .inr (0,5,()))):
  ∀(l:List Int) (s:Nat),s<1024->fJ g (fun s=>some (s,0,())) l s=some (wg s l)
 |[],s,_=>rfl
 |x::l,s,hs=>by
  rw[fJ,hg x s hs,wg]
  cases h1:fO x with
  |false=>simp
  |true=>
   cases h2:s.testBit x.toNat with
   |true=>simp
   |false=>
    simp only[Qt,Qq,Qu];have h3:x<10:=by simp[fO]at h1;omega
    exact Xb g hg l _ (Be hs h3)
theorem EE(l:List Int)(hl:l.length<=9223372036854775807):sM l=some (wg 0 l):=by
 unfold sM;rw[iI l hl (fun i (s:Int)=>(s,i,())) (fun x s=>if fO x then(if w5 s x then some (.inr (0,6,()))else some (.inl (qi .i64 s (bS .i64 1 x))))else some (.inr (0,5,()))) (fun s=>some (s,0,())) (fun i x s hd hx hw=> ?_) (fun s hd=> ?_) 0]
 ·refine Xb _ (fun x s hs=> ?_) l 0 (by omega)
  grind [fO,w5,nO]
 ·grind [mU,fO,w5]
 ·simp only[hd,Ql]
theorem S6(l:List Int)(hl:l.length<=9223372036854775807):Aa l=some (wg 0 l):=by
 have:Aa l=sM l:=by
  unfold Aa sM;simp only[pn,mU]
 rw[this,EE l hl]
@[simp] theorem xB (x:Int):mC x=some (!fO x):=by simp[mC,yz,fO]
theorem KT(l:List Int)(hl:l.length<=9223372036854775807):gF l=some (l.any fun x=> !fO x):=by
 have key:∀(i:Nat) (k:Nat),i+k=l.length->Yd (aC (fun(v1:Int×Unit)=>bif (decide (v1.1<((List.length l:Nat):Int)))then Option.bind (idx l v1.1) fun x2=>Option.bind (mC x2) fun r3=>bif r3 then Option.map Sum.inr (some v1.1)else some (Sum.inl ((aA .i64 v1.1 (1:Int)),()))else Option.map Sum.inr (some (-1:Int))) ((i:Int),())) fun r=>decide (0<=r)=(l.drop i).any fun x=> !fO x:=by
  intro i k
  induction k generalizing i with
  |zero=>
   intro hi;refine⟨-1,bx ?_,?_⟩
   ·grind
   ·rw[List.drop_eq_nil_of_le (by omega)];rfl
  |succ k ih=>
   intro hi;have hlt:i<l.length:=by omega
   have hd:decide ((i:Int)<((l.length:Nat):Int))=true:=Qg (Int.ofNat_lt.2 hlt);have hx:idx l (i:Int)=some l[i]:=by rw[bd];exact Qv hlt
   have hw:aA .i64 (i:Int) 1=((i+1:Nat):Int):=bD (by omega) (by omega)
   rw[QM hlt,List.any_cons]
   cases h:fO l[i]with
   |true=>
    rw[bh (s':=(((i+1:Nat):Int),())) (by simp only[hd,hx,hw,Qk,Qa,xB,h];rfl)]
    exact(ih (i+1) (by omega)).mono fun r hr=>by simpa using hr
   |false=>
    refine⟨i,bx (by simp only[hd,hx,Qk,Qa,xB,h];rfl),?_⟩
    simp
 obtain⟨r,h1,h2⟩:=key 0 l.length (by omega)
 unfold gF lC;simp only[Int.natCast_zero]at h1;rw[h1];simpa using h2
def ss(rec:ae->Option Int)(t:ae):Option Int:=
 if t.aJ<1\/aA .i64 t.ba.length t.aM.length<t.aJ then some 4
 else if(t.ba.any fun x=> !fO x)then some 5
 else if(wg 0 t.ba).2.1=0 then fJ (fun u (_:Unit)=>(rec u).map fun r=>if r=0 then .inl ()else .inr r) (fun _=>some 0) t.aM ()
 else some (wg 0 t.ba).2.1
theorem Kl{rec:(ae×Unit)->Option Int}{t:ae}(hn:t.ba.length<=9223372036854775807)(hl:t.aM.length<=9223372036854775807):iS rec t=ss (fun u=>rec (u,())) t:=by
 unfold iS ss;rw[KT _ hn,EE _ hn];rw[iI t.aM hl (fun i (_:Unit)=>(i,())) (fun u (_:Unit)=>(rec (u,())).map fun r=>if r=0 then .inl ()else .inr r) (fun _=>some 0) (fun i x s hd hx hw=> ?_) (fun s hd=> ?_) ()]
 ·grind
 ·simp only[hd,hx,hw,Qk,Qa,etas]
  cases rec (x,())with
  |none=>rfl
  |some r=>by_cases h:r=0<;>simp[h]
 ·simp only[hd,Ql]
theorem Rh{rec:(ae×Unit)->Option Int}{t:ae}(hn:t.ba.length<=9223372036854775807)(hl:t.aM.length<=9223372036854775807):ow rec t=ss (fun u=>rec (u,())) t:=by
 unfold ow ss;rw[iI t.ba hn (fun i (_:Unit)=>(i,())) (fun x (_:Unit)=>some (if fO x then .inl ()else .inr 5)) (fun _=>if(wg 0 t.ba).2.1=0 then fJ (fun u (_:Unit)=>(rec (u,())).map fun r=>if r=0 then .inl ()else .inr r) (fun _=>some 0) t.aM ()else some (wg 0 t.ba).2.1) (fun i x s hd hx hw=> ?_) (fun s hd=> ?_) ()]
 ·by_cases h1:t.aJ<1
  ·simp[h1]
  ·by_cases h2:aA .i64 t.ba.length t.aM.length<t.aJ
   ·simp[h1,h2]
   ·simp only[h1,h2,decide_false,Ql,Qa,or_self,Qu]
    have:∀(l:List Int) (fin:Unit->Option Int),fJ (fun x (_:Unit)=>some (if fO x then .inl ()else .inr 5)) fin l ()=if(l.any fun x=> !fO x)then some 5 else fin ():=by
     intro l fin
     induction l with
     |nil=>rfl
     |cons x l ih=>
      grind [fJ,fO]
    exact this _ _
 ·grind [fO]
 ·simp only[hd,Ql];rw[S6 _ hn,Qa];rw[iI t.aM hl (fun i (_:Unit)=>(i,())) (fun u (_:Unit)=>(rec (u,())).map fun r=>if r=0 then .inl ()else .inr r) (fun _=>some 0) (fun i x s hd hx hw=> ?_) (fun s hd=> ?_) ()]
  ·grind
  ·simp only[hd,hx,hw,Qk,Qa,etas]
   cases rec (x,())with
   |none=>rfl
   |some r=>by_cases h:r=0<;>simp[h]
  ·simp only[hd,Ql]
structure dQ (t:ae):Prop where
 nodes:∀x∈t.ba,0<=x/\x<10
 nodup:t.ba.Nodup
 len:t.ba.length<=10
 inner:t.aM=[]\/∃x,0<=x/\x<10/\t.aM=[⟨1,[x],[]⟩]
 th:1<=t.aJ/\t.aJ<=t.ba.length+t.aM.length
theorem GD:∀(l:List Int) (s:Nat),(∀x∈l,0<=x/\x<10)->l.Nodup->(∀x∈l,s.testBit x.toNat=false)->(wg s l).2.1=0
 |[],s,_,_,_=>rfl
 |x::l,s,h1,h2,h3=>by
  rw[List.nodup_cons]at h2;have hx:=h1 x (by simp)
  have:fO x=true:=by simp[fO];omega
  rw[wg,this,h3 x (by simp)]
  simp only[Qt,Qq,Qu];refine GD l _ (fun y hy=>h1 y (by simp[hy])) h2.2 fun y hy=> ?_
  have hy1:=h1 y (by simp[hy])
  rw[Nat.testBit_or,h3 y (by simp[hy]),Nat.testBit_two_pow]
  have:x.toNat≠y.toNat:=fun e=>by
   have:x=y:=by omega
   subst this;exact h2.1 hy
  simp[this]
theorem VB{l:List Int}(h:∀x∈l,0<=x/\x<10):(l.any fun x=> !fO x)=false:=by
 grind [fO]
theorem K9{rec:ae->Option Int}{x:Int}(h0:0<=x)(h1:x<10):ss rec ⟨1,[x],[]⟩=some 0:=by
 have h2:aA .i64 (1:Nat) (0:Nat)=1:=rfl
 grind [wg,GD,fO,VB,ss,fJ]
theorem NN{t:ae}(h:dQ t){rec:ae->Option Int}(hr:∀x,0<=x->x<10->rec ⟨1,[x],[]⟩=some 0):ss rec t=some 0:=by
 have hil:t.aM.length<=1:=by rcases h.inner with e|⟨x,_,_,e⟩<;>rw[e]<;>simp
 have hlen:=h.len;have h2:aA .i64 t.ba.length t.aM.length=t.ba.length+t.aM.length:=bD (by omega) (by omega)
 have h3:(wg 0 t.ba).2.1=0:=GD _ 0 h.nodes h.nodup (by simp)
 have h4:=VB h.nodes;have h5:=h.th;unfold ss;rw[h2,Qs (by omega),h4,h3]
 simp only[Qq,Qu,Qt];rcases h.inner with e|⟨x,hx0,hx1,e⟩
 ·rw[e];rfl
 ·rw[e,fJ,hr x hx0 hx1];rfl
theorem Fj(t:ae):∃n,SizeOf.sizeOf t=n+1:=by
 have:1<=SizeOf.sizeOf t:=by
  cases t;simp only[ae.mk.sizeOf_spec];omega
 exact⟨SizeOf.sizeOf t - 1,by omega⟩
theorem YO(n:Nat)(th:Int)(l:List Int):oB (n+1) (⟨th,l,[]⟩,())=some 1:=by
 show jZ _ _=_;rw[Rg (by simp)]
 rfl
theorem size_leaf(n:Nat)(th:Int)(l:List Int):pO (n+1) (⟨th,l,[]⟩,())=some (aA .i64 l.length (0:Nat)):=by
 show kY _ _=_;rw[VV (by simp)]
 rfl
theorem OE{t:ae}(h:dQ t):∃d,jQ t=some d/\d<=2:=by
 obtain⟨n,hn⟩:=Fj t;have hil:t.aM.length<=1:=by rcases h.inner with e|⟨x,_,_,e⟩<;>rw[e]<;>simp
 unfold jQ;rw[hn];show∃d,jZ (oB (n+1)) t=some d/\d<=2;rw[Rg (by omega)]
 rcases h.inner with e|⟨x,_,_,e⟩
 ·rw[e];exact⟨1,rfl,by omega⟩
 ·rw[e,fJ,YO n 1 [x]];exact⟨2,rfl,by omega⟩
theorem Rp{t:ae}(h:dQ t):∃d,kR t=some d/\d<=200:=by
 obtain⟨n,hn⟩:=Fj t;have hil:t.aM.length<=1:=by rcases h.inner with e|⟨x,_,_,e⟩<;>rw[e]<;>simp
 have hlen:=h.len;unfold kR;rw[hn];show∃d,kY (pO (n+1)) t=some d/\d<=200;rw[VV (by omega),bD (by omega) (by omega)]
 rcases h.inner with e|⟨x,_,_,e⟩
 ·rw[e];exact⟨_,rfl,by simp;omega⟩
 ·rw[e,fJ,size_leaf n 1 [x]];have h1:aA .i64 (([x]:List Int).length:Nat) (0:Nat)=1:=rfl;rw[h1];refine⟨_,rfl,?_⟩
  grind [bD]
theorem c5{t:ae}(h:dQ t):cj t=some 0:=by
 obtain⟨d,h1,h2⟩:=OE h;obtain⟨z,h3,h4⟩:=Rp h;obtain⟨n,hn⟩:=Fj t;have hil:t.aM.length<=1:=by rcases h.inner with e|⟨x,_,_,e⟩<;>rw[e]<;>simp
 have hlen:=h.len
 have h5:lX t=some 0:=by
  unfold lX;rw[hn];show iS (fN (n+1)) t=some 0;rw[Kl (by omega) (by omega)]
  refine NN h fun x hx0 hx1=> ?_
  show iS (fN n) ⟨1,[x],[]⟩=some 0
  grind [Kl,K9]
 have h6:¬4<d:=by omega
 have h7:¬200<z:=by omega
 simp[cj,h1,h3,h5,h6,h7]
theorem dE{t:ae}(h:dQ t):du t=some 0:=by
 obtain⟨d,h1,h2⟩:=OE h;obtain⟨z,h3,h4⟩:=Rp h;obtain⟨n,hn⟩:=Fj t;have hil:t.aM.length<=1:=by rcases h.inner with e|⟨x,_,_,e⟩<;>rw[e]<;>simp
 have hlen:=h.len
 have h5:tZ t=some 0:=by
  unfold tZ;rw[hn];show ow (qz (n+1)) t=some 0;rw[Rh (by omega) (by omega)]
  refine NN h fun x hx0 hx1=> ?_
  show ow (qz n) ⟨1,[x],[]⟩=some 0
  grind [Rh,K9]
 have h6:¬4<d:=by omega
 have h7:¬200<z:=by omega
 simp[du,Rz,TR,h1,h3,h5,h6,h7]
end
section
structure mB (s:dp):Prop where
 len:s.L.length<=800
 lo:0<=s.At
 hi:s.At<=800
theorem agT(l:List Int):Yd (CS l) fun s=>mB s:=by
 have h:de (l.length:Int) 800=((min l.length 800:Nat):Int):=by unfold de;split<;>omega
 have h2:cJ 0 ((min l.length 800:Nat):Int) l.length=true:=by
  grind [cJ]
 unfold CS;rw[h,h2];refine Yd.some ⟨?_,by simp,by simp⟩
 grind
theorem ady(x n:Int)(hn:1<=n): -n<x.tmod n/\x.tmod n<n:=by
 have h2:=Int.emod_nonneg x (show n≠0 by omega)
 have h3:=Int.emod_lt_of_pos x (show 0<n by omega)
 rw[Int.tmod_eq_emod];split
 ·omega
 ·rw[Int.natAbs_of_nonneg (by omega)];omega
theorem qt{s:dp}(h:mB s){n:Int}(hn:n<=1000000000):Yd (bR s n) fun p=>mB p.2/\0<=p.1/\(1<=n->p.1<n)/\(n<1->p.1=0):=by
 unfold bR;simp only[aN];refine Yd.cond (fun h1=> ?_) (fun h1=> ?_)
 ·grind [Yd.some]
 ·simp only[Qj,Int.not_le]at h1;refine Yd.cond (fun h2=> ?_) (fun h2=> ?_)
  ·grind [Yd.some]
  ·simp only[Qj,Int.not_lt]at h2;obtain⟨hl,hlo,hhi⟩:=h;have e1:aA .i64 s.At 1=s.At+1:=bD (by omega) (by omega)
   have e2:dh .i64 (s.At+1) 1=s.At:=by rw[qH (by omega) (by omega)];omega
   rw[e1,e2];have hlt:s.At.toNat<s.L.length:=by omega
   rw[Oh _ hlo,Qv hlt,Qa,Qs (by omega),Qs (by omega)]
   have hb:=ady s.L[s.At.toNat] n h2;have e3:X0 .i64 s.L[s.At.toNat] n=s.L[s.At.toNat].tmod n:=rfl;rw[e3];generalize s.L[s.At.toNat].tmod n=y at hb;have e4:aA .i64 y n=y+n:=bD (by omega) (by omega)
   rw[e4];have h5:X0 .i64 (y+n) n=(y+n) % n:=Int.tmod_eq_emod_of_nonneg (by omega)
   rw[h5];exact Yd.some ⟨⟨hl,by simp;omega,by simp;omega⟩,Int.emod_nonneg _ (by omega),fun _=>Int.emod_lt_of_pos _ (by omega),fun _=>by omega⟩
theorem pN{s:dp}(h:mB s){a b:Int}(h1:0<=a)(h2:a<=b+1)(h3:b<=1000000):Yd (cZ s a b) fun p=>mB p.2/\a<=p.1/\(a<=b->p.1<=b)/\(b<a->p.1=a):=by
 unfold cZ;have e1:dh .i64 b a=b - a:=qH (by omega) (by omega)
 have e2:aA .i64 (b - a) 1=b - a+1:=bD (by omega) (by omega)
 rw[e1,e2];refine(qt h (by omega)).bind fun p ⟨h4,h5,h6,h7⟩=> ?_
 grind [aA,bD,Yd.some]
theorem afo{s:dp}(h:mB s){l:List ByteArray}(h1:1<=l.length)(h2:l.length<=1000):Yd (uK s l) fun p=>mB p.2/\p.1∈l:=by
 unfold uK;refine(qt h (by omega)).bind fun p ⟨h4,h5,h6,_⟩=> ?_
 grind [Oh,Yd.some]
def Lr(v:ByteArray):Prop:=v∈[(ByteArray.mk #[97]),(ByteArray.mk #[98]),(ByteArray.mk #[99]),(ByteArray.mk #[97,97])]
theorem Lr.size{v:ByteArray}(h:Lr v):1<=v.size/\v.size<=2:=by
 simp only[Lr,QA,QR,or_false]at h;rcases h with rfl|rfl|rfl|rfl<;>exact⟨by decide,by decide⟩
theorem DO{s:dp}(h:mB s):Yd (js s) fun p=>mB p.2/\Lr p.1:=by
 unfold js;exact(afo h (by simp) (by simp)).bind fun p hp=>Yd.some hp
theorem aa4{s:dp}(h:mB s):Yd (sL s) fun p=>mB p.2/\1<=p.1.ak/\p.1.ak<=6/\Lr p.1.Value:=by
 unfold sL;refine(pN h (by omega) (by omega) (by omega)).bind fun p ⟨h1,h2,h3,_⟩=> ?_
 refine(DO h1).bind fun q ⟨h4,h5⟩=> ?_
 exact Yd.some ⟨h4,h2,h3 (by omega),h5⟩
theorem DP{s:dp}(h:mB s){n:Nat}(hn1:1<=n)(hn:n<=10):Yd (jt s n) fun p=>mB p.2/\dQ p.1/\(∀x∈p.1.ba,x<n)/\p.1.ba≠[]:=by
 unfold jt;simp only[aN]
 let I (i:Nat) (s:dp) (t:ae) (ns:List Int) (is:List ae):Prop:=mB s/\t.aJ=0/\(∀x∈ns,0<=x/\x<i)/\ns.Nodup/\ns.length<=i/\is=[]
 suffices key:∀(k i:Nat) (s:dp) (t:ae) (ns:List Int) (is:List ae),i+k=n->I i s t ns is->Yd (aC _ ((i:Int),s,t,ns,is,())) _ from key n 0 s _ _ _ (by omega) ⟨h,rfl,by simp,by simp,by simp,rfl⟩
 intro k
 induction k with
 |zero=>
  intro i s t ns is hi ⟨h1,h2,h3,h4,h5,h6⟩;obtain rfl:i=n:=by omega
  subst h6;have hd:decide ((i:Int)<(i:Int))=false:=Qh (Qq64 _);refine Yd.loop ?_;simp only[hd,Ql];refine Yd.inr ?_
  have fin:∀(s:dp) (ns:List Int) (is:List ae) (th:Int),mB s->(∀x∈ns,0<=x/\x<i)->ns.Nodup->ns.length<=10->ns≠[]->(is=[]\/∃x,0<=x/\x<10/\is=[⟨1,[x],[]⟩])->1<=th->th<=ns.length+is.length->
    mB s/\dQ ⟨th,ns,is⟩/\(∀x∈ns,x<(i:Int))/\ns≠[]:=by
   intro s ns is th a1 a2 a3 a4 a5 a6 a7 a8;exact⟨a1,⟨fun x hx=>by have:=a2 x hx;exact⟨this.1,by omega⟩,a3,a4,a6,a7,a8⟩,fun x hx=>(a2 x hx).2,a5⟩
  have tail:∀(s:dp) (ns:List Int) (is:List ae),mB s->(∀x∈ns,0<=x/\x<i)->ns.Nodup->ns.length<=10->ns≠[]->(is=[]\/∃x,0<=x/\x<10/\is=[⟨1,[x],[]⟩])->
    Yd (Option.bind (cZ s (T4 .i64 (aA .i64 (aA .i64 ((List.length ns:Nat):Int) ((List.length is:Nat):Int)) (1:Int)) (2:Int)) (aA .i64 ((List.length ns:Nat):Int) ((List.length is:Nat):Int))) fun p9=>
     Option.bind (bR p9.2 (6:Int)) fun p12=>
     bif (decide (p12.1=(5:Int)))then some ((ae.mk (1:Int) ns is),p12.2)else some ((ae.mk p9.1 ns is),p12.2)) fun p=>mB p.2/\dQ p.1/\(∀x∈p.1.ba,x<(i:Int))/\p.1.ba≠[]:=by
   intro s ns is a1 a2 a3 a4 a5 a6;have hp:1<=ns.length:=by cases ns with|nil=>exact absurd rfl a5|cons x l=>simp
   have hil:is.length<=1:=by rcases a6 with e|⟨x,_,_,e⟩<;>rw[e]<;>simp
   have e1:aA .i64 ((List.length ns:Nat):Int) ((List.length is:Nat):Int)=ns.length+is.length:=bD (by omega) (by omega)
   have e2:aA .i64 ((ns.length:Int)+is.length) 1=ns.length+is.length+1:=bD (by omega) (by omega)
   have e3:T4 .i64 ((ns.length:Int)+is.length+1) 2=(ns.length+is.length+1) / 2:=by
    show IntKind.i64.wrap (Int.tdiv _ _)=_;rw[Int.tdiv_eq_ediv_of_nonneg (by omega)]
    exact wrap64 (by omega) (by omega)
   rw[e1,e2,e3];refine(pN a1 (by omega) (by omega) (by omega)).bind fun p ⟨b1,b2,b3,_⟩=> ?_
   refine(qt b1 (by omega)).bind fun q ⟨c1,_⟩=> ?_
   have b4:=b3 (by omega)
   refine Yd.cond (fun _=>Yd.some (fin q.2 ns is 1 c1 a2 a3 a4 a5 a6 (by omega) (by omega))) (fun _=>Yd.some (fin q.2 ns is p.1 c1 a2 a3 a4 a5 a6 (by omega) (by omega)))
  have mid:∀(s:dp) (ns:List Int),mB s->(∀x∈ns,0<=x/\x<i)->ns.Nodup->ns.length<=10->ns≠[]->
    Yd (Option.bind (bR s (4:Int)) fun p13=>
     bif (decide (p13.1=(3:Int)))then
     Option.bind (bR p13.2 (i:Int)) fun p14=>
     bif bc 56 (List.length ([]:List ae)+List.length [(ae.mk (1:Int) [p14.1] ([]:List ae))])then
     (Option.bind (cZ p14.2 (T4 .i64 (aA .i64 (aA .i64 ((List.length ns:Nat):Int) ((List.length (([]:List ae)++[(ae.mk (1:Int) [p14.1] ([]:List ae))]):Nat):Int)) (1:Int)) (2:Int)) (aA .i64 ((List.length ns:Nat):Int) ((List.length (([]:List ae)++[(ae.mk (1:Int) [p14.1] ([]:List ae))]):Nat):Int))) fun p9=>
     Option.bind (bR p9.2 (6:Int)) fun p12=>
     bif (decide (p12.1=(5:Int)))then some ((ae.mk (1:Int) ns (([]:List ae)++[(ae.mk (1:Int) [p14.1] ([]:List ae))])),p12.2)else some ((ae.mk p9.1 ns (([]:List ae)++[(ae.mk (1:Int) [p14.1] ([]:List ae))])),p12.2))
     else none
     else
     (Option.bind (cZ p13.2 (T4 .i64 (aA .i64 (aA .i64 ((List.length ns:Nat):Int) ((List.length ([]:List ae):Nat):Int)) (1:Int)) (2:Int)) (aA .i64 ((List.length ns:Nat):Int) ((List.length ([]:List ae):Nat):Int))) fun p9=>
     Option.bind (bR p9.2 (6:Int)) fun p12=>
     bif (decide (p12.1=(5:Int)))then some ((ae.mk (1:Int) ns []),p12.2)else some ((ae.mk p9.1 ns []),p12.2))) fun p=>mB p.2/\dQ p.1/\(∀x∈p.1.ba,x<(i:Int))/\p.1.ba≠[]:=by
   intro s ns a1 a2 a3 a4 a5;refine(qt a1 (by omega)).bind fun p ⟨b1,b2,b3,_⟩=> ?_
   refine Yd.cond (fun _=> ?_) (fun _=> ?_)
   ·refine(qt b1 (by omega)).bind fun q ⟨c1,c2,c3,_⟩=> ?_
    have c4:=c3 (by omega)
    rw[bn (by simp)]
    exact tail q.2 ns _ c1 a2 a3 a4 a5 (.inr ⟨q.1,c2,by omega,rfl⟩)
   ·exact tail p.2 ns [] b1 a2 a3 a4 a5 (.inl rfl)
  refine Yd.cond (fun hz=> ?_) (fun hz=> ?_)
  ·refine(qt h1 (by omega)).bind fun p ⟨b1,b2,b3,_⟩=> ?_
   have b4:=b3 (by omega)
   exact mid p.2 [p.1] b1 (by simp;omega) (by simp) (by simp) (by simp)
  ·grind
 |succ k ih=>
  intro i s t ns is hi ⟨h1,h2,h3,h4,h5,h6⟩;have hd:decide ((i:Int)<(n:Int))=true:=Qg (by omega)
  have hw:aA .i64 (i:Int) 1=((i+1:Nat):Int):=bD (by omega) (by omega)
  refine Yd.loop ?_;simp only[hd,Qk,hw];refine(qt h1 (by omega)).bind fun p ⟨b1,b2,b3,_⟩=> ?_
  refine Yd.cond (fun _=> ?_) (fun _=> ?_)
  ·rw[bn (by simp;omega)]
   refine Yd.some (ih (i+1) p.2 _ _ _ (by omega) ⟨b1,h2,?_,?_,by simp;omega,h6⟩)
   ·grind
   ·grind
  ·refine Yd.some (ih (i+1) p.2 _ _ _ (by omega) ⟨b1,h2,?_,h4,by omega,h6⟩)
   intro x hx;have:=h3 x hx;omega
end
section
def at_(e:ai)(n:Int):af:=⟨n,e.aa.Value⟩
def CV(e:ai):Bool:=aF e.az||(!aF e.ao&&bz e.az e.ao&& !bM e.az e.ao)
def ic(e:ai):Bool:=
 finite e.aa&&(aF e.ao||cO e.ao)&&(aF e.az||cO e.az)&&CV e&&decide (0<=e.aS)&&decide (e.aS<=e.bl)&&decide (e.bl<=e.aa.ak)
  &&(decide (e.bl=0)||dY e.ao e.az (at_ e e.bl))&&(decide (e.aS=0)||(!eN e.ao (at_ e e.aS)&& !eN e.az (at_ e e.aS)))
def tM(e:ai):Bool:=decide (1<=e.aS)&&decide (e.aS<=e.bl)&&decide (e.bl<=1000)
def vw(e:ai):Bool:=finite e.aa&&cO e.ao&&bM e.ao e.aa&&aF e.az&&tM e&&decide (e.bl<=e.ao.ak)
def Bo(e:ai):Bool:=cO e.aa&&aF e.ao&&aF e.az&&tM e
def zL(e:ai):Bool:=decide (0<=e.an)&&decide (e.an<10)&&decide (1<=e.aY)&&decide (e.aY<=1000000)&&decide (1<=e.aE)&&decide (e.aE<=1000000)
def ib(tv:Int)(e:ai):Bool:=
 zL e&&decide (tv=0)&&(if e.bF=1 then ic e else if e.bF=2 then vw e else if e.bF=3 then Bo e else false)
theorem dlt(a b:Int):decide (a<b)= !decide (b<=a):=by by_cases h:a<b<;>simp[h]<;>omega
theorem S7(e:ai):oU e=some (ic e):=by
 unfold oU ic CV at_
 simp only[cz,jY,fS,F4,D3,Cv,ux,sR,Qa,lL,aN,dlt,FY];cases finite e.aa<;>cases (aF e.ao||cO e.ao)<;>cases (aF e.az||cO e.az)<;>simp
 grind
theorem Ag{e:ai}{tv:Int}(hT:cj e.aj=some tv):dy e=some (ib tv e):=by
 unfold dy ib zL;simp[S7,hT,dlt,vw,Bo,tM]
 grind
theorem tE{e:ai}{tv:Int}(hT:du e.aj=some tv):dg e=some (ib tv e):=by
 unfold dg ib zL;simp[hT,dlt,vw,Bo,tM,ic,finite,CV,at_]
 have h9:decide (e.an<=9)= !decide (10<=e.an):=by by_cases h:e.an<=9<;>simp[h]<;>omega
 rw[h9];generalize (decide (0<=e.an)&& !decide (10<=e.an)&&decide (1<=e.aY)&&decide (e.aY<=1000000)&&decide (1<=e.aE)&&decide (e.aE<=1000000)&&decide (tv=0))=hd
 by_cases k1:e.bF=1
 ·simp only[k1,decide_true,Qk,Qt]
  grind
 ·grind
def J9(e:ai)(v:ByteArray)(lo hi:Int):Bool:=decide (1<=lo)&&decide (lo<=hi)&&decide (e.aa.Value=v)&&decide (e.aS<=lo)
def tK(e:ai)(v:ByteArray)(lo hi:Int):Bool:=J9 e v lo hi&&(!decide (e.bF=1)||(!decide (e.aS=0)&&decide (hi<=e.bl)))
def fR(e:ai)(v:ByteArray)(lo hi:Int):Bool:=J9 e v lo hi&&(decide (e.bF=3)||(decide (e.bF=2)&&decide (hi<=e.bl)))
def qF(e:ai)(b:af):Bool:= !aF b&&(if e.bF=1 then jM e.aa b else bM e.aa b)
def dn(e:ai)(b:af):Bool:= !aF b&&(if e.bF=1 then dY e.ao e.az b else if e.bF=2 then jM e.ao b else bM e.aa b)
def eJ(e:ai):Int:=if e.bF=3 then 1000000 else e.aa.ak
@[simp] theorem Ff (r:bH) (v:ByteArray) (lo hi:Int):jf r v lo hi=some (tK r.aI v lo hi):=by
 simp[jf,kG,tK,J9]
@[simp] theorem vR (r:bH) (v:ByteArray) (lo hi:Int):iH r v lo hi=some (fR r.aI v lo hi):=by
 simp[iH,kG,fR,J9]
@[simp] theorem D4 (r:bH) (b:af):jb r b=some (qF r.aI b):=by
 simp only[jb,qF];cases hz:aF b<;>by_cases h:r.aI.bF=1<;>simp[h,hz]
@[simp] theorem uP (r:bH) (b:af):iB r b=some (dn r.aI b):=by
 simp only[iB,dn];cases hz:aF b<;>by_cases h:r.aI.bF=1<;>by_cases h2:r.aI.bF=2<;>simp[h,h2,hz]
@[simp] theorem acL (r:bH):mw r=some (eJ r.aI):=by
 simp[mw,eJ,FZ,Dz]
section
variable {e : ai} {tv : Int} (hT : cj e.aj = some tv)
 include hT
theorem VT:kq e=some (if ib tv e then eJ e else 0):=by
 simp only[kq,etas,Ag hT,Qa];cases ib tv e<;>simp
end
def wM(n:Nat):List Int:=(List.range n).map fun i:Nat=>(i:Int)
theorem Tw(n:Nat):wM (n+1)=wM n++[(n:Int)]:=by simp[wM,List.range_succ]
@[simp] theorem ag6 (n:Nat):(wM n).length=n:=by simp[wM]
theorem afr(n:Nat)(hn:n<=1000)(k:Int):xC n k=some ⟨k,wM n,[]⟩:=by
 unfold xC
 suffices key:∀(m i:Nat) (t:ae),i+m=n->t.aJ=k->t.aM=[]->aC (fun(v1:Int×ae×(List Int)×Unit)=>
   bif (decide (v1.1<(n:Int)))then
   bif bc 8 (List.length v1.2.2.1+List.length [v1.1])then
   some (Sum.inl ((aA .i64 v1.1 (1:Int)),(ae.mk v1.2.1.aJ ([]:List Int) v1.2.1.aM),(v1.2.2.1++[v1.1]),()))
   else none
   else
   Option.map Sum.inr (some (ae.mk v1.2.1.aJ v1.2.2.1 v1.2.1.aM))) ((i:Int),t,wM i,())=some ⟨k,wM n,[]⟩from key n 0 _ (by omega) rfl rfl
 intro m
 induction m with
 |zero=>
  grind [bx]
 |succ m ih=>
  intro i t hi h1 h2;have hd:decide ((i:Int)<(n:Int))=true:=Qg (by omega)
  have hw:aA .i64 (i:Int) 1=((i+1:Nat):Int):=bD (by omega) (by omega)
  rw[bh (s':=(((i+1:Nat):Int),⟨t.aJ,[],t.aM⟩,wM (i+1),()))]
  ·exact ih (i+1) _ (by omega) h1 h2
  ·simp only[hd,hw,Qk];rw[bn (by simp;omega)]
   simp[Tw]
theorem aau(n:Nat)(hn:n<=10)(k:Int)(h1:1<=k)(h2:k<=n):dQ ⟨k,wM n,[]⟩:=by
 refine⟨fun x hx=> ?_,?_,by simpa using hn,.inl rfl,h1,by simpa using h2⟩
 ·grind [wM]
 ·show(wM n).Nodup;exact List.Pairwise.map _ (fun a b h e=>h (by omega)) List.nodup_range
structure O6 (aB aG n:Int) (e:ai):Prop where
 aB:e.an=aB
 aG:e.aY=aG
 seq:1<=e.aE/\e.aE<=9
 aL:dQ e.aj
 nodes:∀x∈e.aj.ba,x<n
 ne:e.aj.ba≠[]
 val:Lr e.aa.Value
 valid:ib 0 e=true
theorem H8{b:af}(h1:1<=b.ak)(h2:b.ak<=1000)(h3:Lr b.Value):cO b=true:=by
 have:=h3.size
 grind [cO]
theorem Wz{s:dp}(h:mB s){aB aG:Int}(hn0:0<=aB)(hn1:aB<10)(hs0:1<=aG)(hs1:aG<=1000000){n:Nat}(hn2:1<=n)(hn:n<=10):
  Yd (qe s aB aG n) fun p=>mB p.2/\O6 aB aG n p.1:=by
 unfold qe;refine(pN h (by omega) (by omega) (by omega)).bind fun p1 ⟨a1,a2,a3,_⟩=> ?_
 have a4:=a3 (by omega)
 refine(DP a1 hn2 hn).bind fun p2 ⟨b1,b2,b3,b4⟩=> ?_
 refine(DO b1).bind fun p3 ⟨c1,c2⟩=> ?_
 have c3:=c2.size;have hv:∀k:Int,1<=k->k<=1000->cO ⟨k,p3.1⟩=true:=fun k h1 h2=>H8 h1 h2 c2
 simp only[etas]
 have hd:∀e:ai,e.an=aB->e.aY=aG->e.aE=p1.1->zL e=true:=by
  grind [zL]
 refine Yd.join (fun v=>mB v.1/\O6 aB aG n v.2.1) (fun v hv=>Yd.some hv) fun j5 hj5=> ?_
 refine(qt c1 (by omega)).bind fun p6 ⟨d1,_⟩=> ?_
 refine Yd.join (fun v=>mB v.1/\v.2.1=ai.mk aB aG p1.1 p2.1 0 ⟨0,fH⟩ ⟨0,fH⟩ ⟨0,fH⟩ 0 0) (fun v ⟨hv1,hv2⟩=> ?_) fun j8 hj8=> ?_
 ·
  refine Yd.join (fun v=>mB v.1/\O6 aB aG n v.2.1) (fun v hv=>hj5 _ hv) fun j10 hj10=> ?_
  refine(pN hv1 (by omega) (by omega) (by omega)).bind fun p11 ⟨e1,e2,e3,_⟩=> ?_
  have e4:=e3 (by omega)
  simp only[hv2];refine Yd.join (fun v=>mB v.1/\v.2.1.an=aB/\v.2.1.aY=aG/\v.2.1.aE=p1.1/\v.2.1.aj=p2.1/\v.2.1.bF=1/\v.2.1.aa=⟨p11.1,p3.1⟩/\(aF v.2.1.ao=true\/cO v.2.1.ao=true)) (fun v ⟨f0,f1,f2,f3,f4,f5,f6,f7⟩=> ?_) fun j13 hj13=> ?_
  ·rw[f6];have g1:aA .i64 p11.1 1=p11.1+1:=bD (by omega) (by omega)
   simp only[g1];refine(qt f0 (by omega)).bind fun p14 ⟨k1,k2,k3,_⟩=> ?_
   have k4:=k3 (by omega)
   have g2:aA .i64 p14.1 1=p14.1+1:=bD (by omega) (by omega)
   simp only[g2];refine(qt k1 (by omega)).bind fun p15 ⟨l1,l2,l3,_⟩=> ?_
   have hTr:∀t,t=p2.1->du t=some 0:=fun t ht=>by rw[ht];exact dE b2
   have done:∀e:ai,e.an=aB->e.aY=aG->e.aE=p1.1->e.aj=p2.1->e.aa=⟨p11.1,p3.1⟩->ib 0 e=true->O6 aB aG n e:=by
    intro e h1 h2 h3 h4 h5 h6;exact⟨h1,h2,by rw[h3];exact⟨a2,a4⟩,by rw[h4];exact b2,by rw[h4];exact b3,by rw[h4];exact b4,by rw[h5];exact c2,h6⟩
   refine Yd.join (fun w=>w.1.an=aB/\w.1.aY=aG/\w.1.aE=p1.1/\w.1.aj=p2.1/\w.1.bF=1/\w.1.aa=⟨p11.1,p3.1⟩/\(aF w.1.ao=true\/cO w.1.ao=true)/\(ib 0 w.1=true\/w.1.aS=0)) (fun w ⟨m1,m2,m3,m4,m5,m6,m7,m8⟩=> ?_) fun j17 hj17=> ?_
   ·refine Yd.join (fun w=>w.1.an=aB/\w.1.aY=aG/\w.1.aE=p1.1/\w.1.aj=p2.1/\w.1.bF=1/\w.1.aa=⟨p11.1,p3.1⟩/\(aF w.1.ao=true\/cO w.1.ao=true)/\(ib 0 w.1=true\/w.1.aS=0/\w.1.bl=0)) (fun w ⟨o1,o2,o3,o4,o5,o6,o7,o8⟩=> ?_) fun j19 hj19=> ?_
    ·rw[tE (hTr _ o4)];simp only[Qa,FY];refine Yd.cond (fun hx=>hj10 _ ⟨l1,done _ o1 o2 o3 o4 o6 hx⟩) (fun hx=>hj10 _ ⟨l1,done _ o1 o2 o3 o4 o6 ?_⟩)
     rcases o8 with o8|⟨o8,o9⟩
     ·rw[o8]at hx;cases hx
     ·have q1:finite w.1.aa=true:=by rw[o6];simp[finite,hv p11.1 e2 (by omega)];omega
      have q2:aF (af.mk 0 (ByteArray.mk #[]))=true:=by decide+kernel
      have q3:(aF w.1.ao||cO w.1.ao)=true:=by simpa using o7
      have q4:=hd w.1 o1 o2 o3;have q5:0<=w.1.aa.ak:=by rw[o6];show 0<=p11.1;omega
      simp only[ib,zL,ic,CV,o5,o8,o9,q1,q2,q3,Qt]at q4 ⊢;simp[q4,q5]
    ·rw[tE (hTr _ m4)];simp only[Qa,FY];refine Yd.cond (fun hx=>hj19 _ ⟨m1,m2,m3,m4,m5,m6,m7,.inl hx⟩) (fun hx=>hj19 _ ⟨m1,m2,m3,m4,m5,m6,m7,.inr ⟨?_,rfl⟩⟩)
     rcases m8 with m8|m8
     ·rw[m8]at hx;cases hx
     ·exact m8
   ·rw[tE (e:=ai.mk v.2.1.an v.2.1.aY v.2.1.aE v.2.1.aj v.2.1.bF ⟨p11.1,p3.1⟩ v.2.1.ao v.2.1.az p15.1 p14.1) (tv:=0) (hTr _ f4)];simp only[Qa,FY];refine Yd.cond (fun hx=>hj17 _ ⟨f1,f2,f3,f4,f5,rfl,f7,.inl hx⟩) (fun hx=>hj17 _ ⟨f1,f2,f3,f4,f5,rfl,f7,.inr rfl⟩)
  ·refine(qt e1 (by omega)).bind fun p23 ⟨k1,_⟩=> ?_
   refine Yd.cond (fun _=> ?_) (fun _=> ?_)
   ·refine(aa4 k1).bind fun p24 ⟨l1,l2,l3,l4⟩=> ?_
    refine(qt l1 (by omega)).bind fun p25 ⟨m1,_⟩=> ?_
    have hvl:=H8 (b:=p24.1) l2 (by omega) l4
    refine Yd.cond (fun _=> ?_) (fun _=> ?_)
    ·refine(aa4 m1).bind fun p26 ⟨o1,_⟩=> ?_
     exact hj13 _ ⟨o1,rfl,rfl,rfl,rfl,rfl,rfl,.inr hvl⟩
    ·exact hj13 _ ⟨m1,rfl,rfl,rfl,rfl,rfl,rfl,.inr hvl⟩
   ·have z0:aF (af.mk 0 fH)=true:=by decide+kernel
    exact hj13 _ ⟨k1,rfl,rfl,rfl,rfl,rfl,rfl,.inl z0⟩
 ·have z0:aF (af.mk 0 (ByteArray.mk #[]))=true:=by decide+kernel
  refine Yd.cond (fun _=> ?_) (fun _=> ?_)
  ·refine(pN d1 (by omega) (by omega) (by omega)).bind fun p27 ⟨e1,e2,e3,_⟩=> ?_
   refine(pN e1 (by omega) (by omega) (by omega)).bind fun p28 ⟨f1,f2,f3,_⟩=> ?_
   refine(qt f1 (by omega)).bind fun p29 ⟨k1,k2,k3,_⟩=> ?_
   refine(qt k1 (by omega)).bind fun p30 ⟨l1,l2,l3,_⟩=> ?_
   have e4:=e3 (by omega)
   have f4:=f3 (by omega)
   have k4:=k3 (by omega)
   have l4:=l3 (by omega)
   have g1:aA .i64 p28.1 p29.1=p28.1+p29.1:=bD (by omega) (by omega)
   have g2:aA .i64 (p28.1+p29.1) p30.1=p28.1+p29.1+p30.1:=bD (by omega) (by omega)
   simp only[g1,g2];refine hj5 _ ⟨l1,⟨rfl,rfl,⟨a2,a4⟩,b2,b3,b4,c2,?_⟩⟩;have q4:=hd ⟨aB,aG,p1.1,p2.1,2,⟨p27.1,p3.1⟩,⟨p28.1+p29.1+p30.1,p3.1⟩,⟨0,ByteArray.mk #[]⟩,p28.1,p28.1+p29.1⟩ rfl rfl rfl;have q5:=hv p27.1 e2 (by omega)
   have q6:=hv (p28.1+p29.1+p30.1) (by omega) (by omega)
   have r1:p27.1<=1000:=by omega
   have r2:p28.1<=p28.1+p29.1:=by omega
   have r3:p28.1+p29.1<=1000:=by omega
   have r4:p28.1+p29.1<=p28.1+p29.1+p30.1:=by omega
   simp[ib,q4,vw,finite,q5,q6,bM,z0,tM,r1,f2,r3,r4];omega
  ·refine Yd.cond (fun _=> ?_) (fun _=> ?_)
   ·refine(qt d1 (by omega)).bind fun p31 ⟨e1,_⟩=> ?_
    refine Yd.cond (fun _=> ?_) (fun _=>hj8 _ ⟨e1,rfl⟩)
    refine(pN e1 (by omega) (by omega) (by omega)).bind fun p32 ⟨f1,f2,f3,_⟩=> ?_
    refine(pN f1 (by omega) (by omega) (by omega)).bind fun p33 ⟨k1,k2,k3,_⟩=> ?_
    refine(qt k1 (by omega)).bind fun p34 ⟨l1,l2,l3,_⟩=> ?_
    have f4:=f3 (by omega)
    have k4:=k3 (by omega)
    have l4:=l3 (by omega)
    have g1:aA .i64 p33.1 p34.1=p33.1+p34.1:=bD (by omega) (by omega)
    simp only[g1];refine hj5 _ ⟨l1,⟨rfl,rfl,⟨a2,a4⟩,b2,b3,b4,c2,?_⟩⟩
    grind [ib,Bo,tM]
   ·exact hj8 _ ⟨d1,rfl⟩
end
section
inductive cQ:ae->Prop where
 |mk (t:ae) (h1:t.ba.length<=1000000) (h2:t.aM.length<=1000000) (h3:∀u∈t.aM,cQ u):cQ t
theorem cQ.nodes{t:ae}:cQ t->t.ba.length<=1000000| .mk _ h _ _=>h
theorem cQ.len{t:ae}:cQ t->t.aM.length<=1000000| .mk _ _ h _=>h
theorem cQ.inner{t:ae}:cQ t->∀u∈t.aM,cQ u| .mk _ _ _ h=>h
theorem pK{t u:ae}(h:u∈t.aM):SizeOf.sizeOf u<SizeOf.sizeOf t:=by
 have h1:=List.sizeOf_lt_of_mem h
 cases t with
 |mk th ns is=>
  grind
theorem dQ.sm{t:ae}(h:dQ t):cQ t:=by
 have:=h.len;refine .mk t (by omega) ?_ fun u hu=> ?_
 ·rcases h.inner with e|⟨x,_,_,e⟩<;>rw[e]<;>simp
 ·rcases h.inner with e|⟨x,_,_,e⟩
  ·rw[e]at hu;cases hu
  ·rw[e]at hu;simp only[Q5]at hu;subst hu;exact .mk _ (by simp) (by simp) (by simp)
@[simp] theorem aco (l:List Int) (h:l.length<=1000000):kE l=some l:=by
 unfold kE;rw[bn (by simp;omega)]
 cases l with
 |nil=>simp
 |cons x l=>simp
theorem acJ{n:Nat}:∀{t:ae},SizeOf.sizeOf t<n->cQ t->wG n (t,())=some t:=by
 induction n with
 |zero=>intro t h;omega
 |succ n ih=>
  intro t hs hm;show wL (wG n) t=some t;unfold wL;have hl:=hm.len;rw[aco _ hm.nodes,Qa]
  suffices key:∀(k i:Nat) (t':ae),i+k=t.aM.length->t'.aJ=t.aJ->t'.ba=t.ba->aC (fun(v2:Int×ae×(List ae)×Unit)=>
    bif (decide (v2.1<((List.length t.aM:Nat):Int)))then
    Option.bind (idx t.aM v2.1) fun x3=>
    Option.bind (wG n ((ae.mk x3.aJ x3.ba x3.aM),())) fun r4=>
    bif bc 56 (List.length v2.2.2.1+List.length [(ae.mk r4.aJ r4.ba r4.aM)])then
    some (Sum.inl ((aA .i64 v2.1 (1:Int)),(ae.mk v2.2.1.aJ v2.2.1.ba ([]:List ae)),(v2.2.2.1++[(ae.mk r4.aJ r4.ba r4.aM)]),()))
    else none
    else
    Option.map Sum.inr (some (ae.mk v2.2.1.aJ v2.2.1.ba v2.2.2.1))) ((i:Int),t',t.aM.take i,())=some t by
   have:=key t.aM.length 0 ⟨t.aJ,t.ba,[]⟩ (by omega) rfl rfl
   simpa using this
  intro k
  induction k with
  |zero=>
   grind [bx,ae.eta]
  |succ k ihk=>
   intro i t' hi h1 h2;have hlt:i<t.aM.length:=by omega
   have hd:decide ((i:Int)<((t.aM.length:Nat):Int))=true:=Qg (by omega)
   have hx:idx t.aM (i:Int)=some t.aM[i]:=by rw[bd];exact Qv hlt
   have hw:aA .i64 (i:Int) 1=((i+1:Nat):Int):=bD (by omega) (by omega)
   have hmem:t.aM[i]∈t.aM:=Q0 hlt;have hr:=ih (t:=t.aM[i]) (by have:=pK hmem;omega) (hm.inner _ hmem)
   rw[bh (s':=(((i+1:Nat):Int),⟨t'.aJ,t'.ba,[]⟩,t.aM.take (i+1),()))]
   ·exact ihk (i+1) _ (by omega) h1 h2
   ·simp only[hd,Qk,hx,hw,Qa,etas,hr];rw[bn (by simp;omega),Q7 hlt]
    rfl
@[simp] theorem oX {t:ae} (h:cQ t):gQ t=some t:=acJ (by omega) h
theorem Bm{α σ ρ:Type}{g:α->σ->Option (σ⊕ρ)}{fin:σ->Option ρ}(hf:∀s,∃r,fin s=some r):∀(l:List α),(∀x∈l,∀s,∃y,g x s=some y)->∀s,∃r,fJ g fin l s=some r
 |[],_,s=>hf s
 |x::l,h,s=>by
  obtain⟨y,hy⟩:=h x (by simp) s
  rw[fJ,hy]
  cases y with
  |inr r=>exact⟨r,rfl⟩
  |inl s'=>exact Bm hf l (fun x hx=>h x (by simp[hx])) s'
theorem Le{α σ ρ:Type}{g g':α->σ->Option (σ⊕ρ)}{fin:σ->Option ρ}:∀(l:List α),(∀x∈l,∀s,g x s=g' x s)->∀s,fJ g fin l s=fJ g' fin l s
 |[],_,s=>rfl
 |x::l,h,s=>by
  rw[fJ,fJ,h x (by simp) s]
  cases g' x s with
  |none=>rfl
  |some y=>
   cases y with
   |inr r=>rfl
   |inl s'=>exact Le l (fun x hx=>h x (by simp[hx])) s'
theorem Lj{n:Nat}:∀{t:ae},SizeOf.sizeOf t<n->cQ t->∃d,oB n (t,())=some d:=by
 induction n with
 |zero=>intro t h;omega
 |succ n ih=>
  intro t hs hm;show∃d,jZ (oB n) t=some d;have hl:=hm.len;rw[Rg (by omega)]
  refine Bm (fun s=>⟨_,rfl⟩) _ (fun u hu s=> ?_) _
  obtain⟨d,hd⟩:=ih (t:=u) (by have:=pK hu;omega) (hm.inner u hu)
  exact⟨_,by rw[hd];rfl⟩
theorem MY{n:Nat}:∀{t:ae},SizeOf.sizeOf t<n->cQ t->∃d,pO n (t,())=some d:=by
 induction n with
 |zero=>intro t h;omega
 |succ n ih=>
  intro t hs hm;show∃d,kY (pO n) t=some d;have hl:=hm.len;rw[VV (by omega)]
  refine Bm (fun s=>⟨_,rfl⟩) _ (fun u hu s=> ?_) _
  obtain⟨d,hd⟩:=ih (t:=u) (by have:=pK hu;omega) (hm.inner u hu)
  exact⟨_,by rw[hd];rfl⟩
theorem IS{rec:ae->Option Int}{t:ae}(h:∀u∈t.aM,∃r,rec u=some r):∃r,ss rec t=some r:=by
 unfold ss;split
 ·exact⟨_,rfl⟩
 ·split
  ·exact⟨_,rfl⟩
  ·split
   ·refine Bm (fun s=>⟨_,rfl⟩) _ (fun u hu s=> ?_) _
    obtain⟨r,hr⟩:=h u hu;exact⟨_,by rw[hr];rfl⟩
   ·exact⟨_,rfl⟩
theorem Ur{rec rec':ae->Option Int}{t:ae}(h:∀u∈t.aM,rec u=rec' u):ss rec t=ss rec' t:=by
 grind [ss,Le]
theorem Wj{n:Nat}:∀{t:ae},SizeOf.sizeOf t<n->cQ t->∃d,fN n (t,())=some d/\qz n (t,())=some d:=by
 induction n with
 |zero=>intro t h;omega
 |succ n ih=>
  intro t hs hm;show∃d,iS (fN n) t=some d/\ow (qz n) t=some d;have hl:=hm.len;have hn:=hm.nodes;rw[Kl (by omega) (by omega),Rh (by omega) (by omega)]
  have hih:∀u∈t.aM,∃r,fN n (u,())=some r/\qz n (u,())=some r:=fun u hu=>ih (t:=u) (by have:=pK hu;omega) (hm.inner u hu)
  obtain⟨r,hr⟩:=IS (rec:=fun u=>fN n (u,())) (t:=t) fun u hu=>by obtain⟨r,h1,_⟩:=hih u hu;exact⟨r,h1⟩
  grind [Ur]
theorem aes{n:Nat}:∀{t:ae},SizeOf.sizeOf t<n->cQ t->∃d,fN n (t,())=some d:=by
 induction n with
 |zero=>intro t h;omega
 |succ n ih=>
  intro t hs hm;show∃d,iS (fN n) t=some d;have hl:=hm.len;have hn:=hm.nodes;rw[Kl (by omega) (by omega)]
  exact IS (rec:=fun u=>fN n (u,())) (t:=t) fun u hu=>ih (t:=u) (by have:=pK hu;omega) (hm.inner u hu)
theorem adt{t:ae}(h:cQ t):∃v,cj t=some v:=by
 obtain⟨d,hd⟩:∃d,jQ t=some d:=Lj (by omega) h
 obtain⟨z,hz⟩:∃z,kR t=some z:=MY (by omega) h
 obtain⟨l,hl1⟩:∃l,lX t=some l:=aes (by omega) h
 simp[cj,hd,hz,hl1]
theorem XO{t:ae}(h:cQ t):∃v,cj t=some v/\du t=some v:=by
 obtain⟨d,hd⟩:∃d,jQ t=some d:=Lj (by omega) h
 obtain⟨z,hz⟩:∃z,kR t=some z:=MY (by omega) h
 obtain⟨l,hl1,hl2⟩:∃l,lX t=some l/\tZ t=some l:=Wj (by omega) h
 simp[cj,du,Rz,TR,hd,hz,hl1,hl2]
 def Gc(t:ae):Int:=(cj t).getD 1
theorem WD{t:ae}(h:cQ t):cj t=some (Gc t):=by
 grind [adt,Gc]
theorem Ly{t:ae}(h:cQ t):du t=some (Gc t):=by
 grind [XO,Gc]
theorem Rl{t:ae}(h:dQ t):Gc t=0:=by rw[Gc,c5 h];rfl
 def aU(e:ai):Bool:=ib (Gc e.aj) e
theorem rN{e:ai}(h:cQ e.aj):dy e=some (aU e):=Ag (WD h)
theorem ka{e:ai}(h:cQ e.aj):dg e=some (aU e):=tE (Ly h)
def mo(s:Nat)(x:Int):Bool:=fO x&&s.testBit x.toNat
theorem ti{s:Nat}(h:s<1024)(x:Int):w5 s x=mo s x:=by
 grind [w5,mo]
mutual
def lH(s:Nat):ae->Bool
 |⟨th,ns,is⟩=>decide (th<=((ns.countP (mo s)+ya s is:Nat):Int))
def ya(s:Nat):List ae->Nat
 |[]=>0
 |t::l=>(if lH s t then 1 else 0)+ya s l
end
theorem JP(s:Nat)(t:ae):lH s t=decide (t.aJ<=((t.ba.countP (mo s)+ya s t.aM:Nat):Int)):=by
 cases t;rw[lH]
theorem Hd(s:Nat)(hs:s<1024)(fin:Int->Option Bool):∀(l:List Int) (n:Nat),n+l.length<=9000000->
  fJ (fun x (m:Int)=>some (.inl (if w5 s x then aA .i64 m 1 else m))) fin l n=fin ((n+l.countP (mo s):Nat):Int)
 |[],n,_=>by simp[fJ]
 |x::l,n,h=>by
  simp at h;rw[fJ,ti hs,List.countP_cons]
  cases hx:mo s x with
  |false=>
   simp only[Qq,Qu,Nat.add_zero];exact Hd s hs fin l n (by omega)
  |true=>
   simp only[Qt];rw[bD (by omega) (by omega)]
   rw[show(n:Int)+1=((n+1:Nat):Int)by omega,Hd s hs fin l (n+1) (by omega)]
   congr 2;omega
theorem LH(s:Nat)(rec:ae->Option Bool)(fin:Int->Option Bool):∀(l:List ae) (n:Nat),n+l.length<=9000000->(∀u∈l,rec u=some (lH s u))->
  fJ (fun u (m:Int)=>(rec u).map fun r=> .inl (if r then aA .i64 m 1 else m)) fin l n=fin ((n+ya s l:Nat):Int)
 |[],n,_,_=>by simp[fJ,ya]
 |u::l,n,h,hr=>by
  simp at h;rw[fJ,hr u (by simp),ya]
  cases hx:lH s u with
  |false=>
   simp only[Qe,Qq,Qu,Nat.zero_add];exact LH s rec fin l n (by omega) fun u hu=>hr u (by simp[hu])
  |true=>
   simp only[Qe,Qt];rw[bD (by omega) (by omega)]
   rw[show(n:Int)+1=((n+1:Nat):Int)by omega,LH s rec fin l (n+1) (by omega) fun u hu=>hr u (by simp[hu])]
   congr 2;omega
theorem ah6{rec:(ae×Int×Unit)->Option Bool}{t:ae}{s:Nat}(hs:s<1024)(hm:cQ t)(hr:∀u∈t.aM,rec (u,(s:Int),())=some (lH s u)):gR rec t s=some (lH s t):=by
 unfold gR;have hn:=hm.nodes;have hl:=hm.len;have hv:fA (s:Int)=some true:=by rw[Kh];simp;omega
 rw[hv];simp only[Qa,Qo,Ql,aN];rw[iI t.ba (by omega) (fun i (m:Int)=>(m,i,())) (fun x (m:Int)=>some (.inl (if w5 s x then aA .i64 m 1 else m))) (fun m=>fJ (fun u (m:Int)=>(rec (u,(s:Int),())).map fun r=> .inl (if r then aA .i64 m 1 else m)) (fun m=>some (decide (t.aJ<=m))) t.aM m) (fun i x m hd hx hw=> ?_) (fun m hd=> ?_) 0]
 ·rw[show(0:Int)=((0:Nat):Int)from rfl,Hd s hs _ t.ba 0 (by omega)]
  rw[LH s (fun u=>rec (u,(s:Int),())) _ t.aM _ (by have:=List.countP_le_length (p:=mo s) (l:=t.ba);omega) hr,JP]
  simp
 ·grind [mU,w5]
 ·simp only[hd,Ql];rw[iI t.aM (by omega) (fun i (m:Int)=>(m,i,())) (fun u (m:Int)=>(rec (u,(s:Int),())).map fun r=> .inl (if r then aA .i64 m 1 else m)) (fun m=>some (decide (t.aJ<=m))) (fun i x m hd hx hw=> ?_) (fun m hd=> ?_) m]
  ·simp only[hd,hx,hw,Qk,Qa,etas]
   cases rec (x,(s:Int),())with
   |none=>rfl
   |some r=>cases r<;>rfl
  ·simp only[hd,Ql]
theorem ah2{s:Nat}(hs:s<1024){n:Nat}:∀{t:ae},SizeOf.sizeOf t<n->cQ t->nU n (t,(s:Int),())=some (lH s t):=by
 induction n with
 |zero=>intro t h;omega
 |succ n ih=>
  intro t hz hm;show gR (nU n) t s=some (lH s t);exact ah6 hs hm fun u hu=>ih (t:=u) (by have:=pK hu;omega) (hm.inner u hu)
theorem DQ{s:Nat}(hs:s<1024){t:ae}(hm:cQ t):je t s=some (lH s t):=ah2 hs (by omega) hm
theorem X6(t:ae)(s:Int):jR t s=je t s:=by
 have hB:∀(rec:(ae×Int×Unit)->Option Bool) (t:ae) (s:Int),si rec t s=gR rec t s:=by
  grind [si,gR,fV,fA,Kh,pn,mU]
 grind [jR,je,Cr,nU]
theorem Hw{s:Nat}(hs:s<1024){t:ae}(hm:cQ t):jR t s=some (lH s t):=by rw[X6];exact DQ hs hm
theorem R7{s s':Nat}(h:∀k,s.testBit k=true->s'.testBit k=true)(x:Int)(hx:mo s x=true):mo s' x=true:=by
 grind [mo]
mutual
theorem Ru{s s':Nat}(h:∀k,s.testBit k=true->s'.testBit k=true):∀(t:ae),lH s t=true->lH s' t=true
 |⟨th,ns,is⟩,ht=>by
  rw[lH,Qi]at ht ⊢;have h1:=Rv h is;have h2:ns.countP (mo s)<=ns.countP (mo s'):=List.countP_mono_left fun x _ hx=>R7 h x hx
  omega
theorem Rv{s s':Nat}(h:∀k,s.testBit k=true->s'.testBit k=true):∀(l:List ae),ya s l<=ya s' l
 |[]=>by simp[ya]
 |t::l=>by
  have h1:=Rv h l;have h2:=Ru h t;rw[ya,ya]
  cases hs:lH s t with
  |false=>simp;omega
  |true=>rw[h2 hs];simp;omega
end
end
section
theorem adH(s:Int):fV s=some (decide (0<=s)&&decide (s<1024)):=by
 unfold fV;simp;congr 1;rw[decide_eq_decide];omega
theorem Cx{s:Nat}(h:s<1024):fA (s:Int)=some true:=by rw[Kh];simp;omega
theorem xh{s:Nat}(h:s<1024):fV (s:Int)=some true:=by rw[adH];simp;omega
theorem Lo(a b:Nat)(ha:a<2 ^ 62)(hb:b<2 ^ 62):∃c:Nat,A6 .i64 (a:Int) (b:Int)=(c:Int)/\c<=a/\∀k,c.testBit k=(a.testBit k&& !b.testBit k):=by
 refine⟨((BitVec.ofInt 64 (a:Int)&&& ~~~ BitVec.ofInt 64 (b:Int)).toNat),?_,?_,fun k=> ?_⟩
 ·have hle:(BitVec.ofInt 64 (a:Int)&&& ~~~ BitVec.ofInt 64 (b:Int)).toNat<=a:=by
   rw[BitVec.toNat_and,u7 a ha];exact Nat.and_le_left
  show IntKind.i64.wrap (((BitVec.ofInt 64 (a:Int)&&& ~~~ BitVec.ofInt 64 (b:Int)).toNat:Nat):Int)=_;exact C6 _ (by omega)
 ·rw[BitVec.toNat_and,u7 a ha];exact Nat.and_le_left
 ·have h1:∀i (x:Nat),x<2 ^ 62->(BitVec.ofInt 64 (x:Int)).getLsbD i=x.testBit i:=by
   intro i x hx;rw[<-BitVec.testBit_toNat,u7 x hx]
  rw[BitVec.testBit_toNat,BitVec.getLsbD_and,BitVec.getLsbD_not,h1 k a ha,h1 k b hb]
  by_cases hk:k<64
  ·simp[hk]
  ·have:a.testBit k=false:=Nat.testBit_lt_two_pow (QJ ha (Nat.pow_le_pow_right (by omega) (by omega)))
   simp[this]
theorem CZ{a b:Nat}(h:∀k,a.testBit k=b.testBit k):a=b:=Nat.eq_of_testBit_eq h
theorem ON{s k:Nat}(hs:s<1024)(hk:s.testBit k=true):k<10:=by
 rcases Nat.lt_or_ge k 10 with h|h
 ·exact h
 ·have:s.testBit k=false:=Nat.testBit_lt_two_pow (QJ hs (show 2 ^ 10<=2 ^ k from Nat.pow_le_pow_right (by omega) h))
  rw[this]at hk;cases hk
theorem FB{s:Nat}(h:∀k,s.testBit k=true->k<10):s<1024:=by
 rcases Nat.lt_or_ge s 1024 with h1|h1
 ·exact h1
 ·obtain⟨k,hk1,hk2⟩:=Nat.exists_ge_and_testBit_of_ge_two_pow (n:=10) h1;have:=h k hk2;omega
theorem yt(s k:Nat):mo s (k:Int)=(decide (k<10)&&s.testBit k):=by
 have h1:decide ((k:Int)<10)=decide (k<10):=by rw[decide_eq_decide];omega
 have h2:decide (0<=(k:Int))=true:=Qg (by omega)
 simp only[mo,fO,h1,h2,Bool.true_and,QV]
def Ha(i:Nat)(s:Nat):List aR->Nat
 |[]=>s
 |m::l=>Ha (i+1) (if m.dU&&decide (i<10)then s|||2 ^ i else s) l
def kc(l:List aR):Nat:=Ha 0 0 l
theorem Sh:∀(l:List aR) (i s k:Nat),(Ha i s l).testBit k=(s.testBit k||(decide (i<=k)&&decide (k<10)&&((l[k - i]?).any (·.dU))))
 |[],i,s,k=>by simp[Ha]
 |m::l,i,s,k=>by
  rw[Ha,Sh l (i+1)]
  by_cases hk:k=i
  ·subst hk;have h1:¬(k+1<=k):=by omega
   cases hm:m.dU<;>by_cases hi:k<10<;>simp[hm,hi,h1,Nat.testBit_or]
  ·have h2:i<=k↔i+1<=k:=by omega
   have h3:∀b:Bool,(if(b&&decide (i<10))=true then s|||2 ^ i else s).testBit k=s.testBit k:=by
    intro b;split
    ·rw[Nat.testBit_or,Nat.testBit_two_pow];have:¬i=k:=fun e=>hk e.symm
     simp[this]
    ·rfl
   rw[h3]
   by_cases hik:i+1<=k
   ·have h4:(m::l)[k - i]?=l[k - (i+1)]?:=by
     rw[show k - i=(k - (i+1))+1 by omega,List.getElem?_cons_succ]
    rw[h4];have:i<=k:=by omega
    simp[this,hik]
   ·have:¬i<=k:=by omega
    simp[this,hik]
theorem Jj(l:List aR)(k:Nat):(kc l).testBit k=(decide (k<10)&&((l[k]?).any (·.dU))):=by
 rw[kc,Sh];simp
theorem DG(l:List aR):kc l<1024:=FB fun k hk=>by
 rw[Jj]at hk;simp at hk;exact hk.1
theorem Sg(step:(Int×Int×Unit)->Option ((Int×Int×Unit)⊕Int))(l:List aR)
  (h1:∀(i:Nat) (m:aR) (s:Nat),l[i]?=some m->s<1024->step ((s:Int),(i:Int),())=some (.inl (((if m.dU&&decide (i<10)then s|||2 ^ i else s:Nat):Int),((i+1:Nat):Int),())))
  (h2:∀s:Int,step (s,(l.length:Int),())=some (.inr s)):aC step (0,0,())=some ((kc l:Nat):Int):=by
 suffices key:∀(k i s:Nat),i+k=l.length->s<1024->aC step ((s:Int),(i:Int),())=some ((Ha i s (l.drop i):Nat):Int)by
  have:=key l.length 0 0 (by omega) (by omega)
  simpa[kc]using this
 intro k
 induction k with
 |zero=>
  intro i s hi hs;obtain rfl:i=l.length:=by omega
  rw[bx (h2 s),Qq66];rfl
 |succ k ih=>
  intro i s hi hs;have hlt:i<l.length:=by omega
  rw[QM hlt,Ha,bh (h1 i l[i] s (Qv hlt) hs)];refine ih (i+1) _ (by omega) ?_
  split
  ·rename_i hc;simp only[Qm,Qi]at hc;have:=Be (x:=(i:Int)) hs (by omega)
   simpa using this
  ·exact hs
theorem Lu{c:aW}(h:c.bo.length<=1000000):jx c=some ((kc c.bo:Nat):Int):=by
 unfold jx;refine Sg _ _ (fun i m s hm hs=> ?_) (fun s=> ?_)
 ·have hlt:i<c.bo.length:=(Qw.1 hm).1;have hd:decide ((i:Int)<((c.bo.length:Nat):Int))=true:=Qg (by omega)
  have hw:aA .i64 (i:Int) 1=((i+1:Nat):Int):=bD (by omega) (by omega)
  have hx:idx c.bo (i:Int)=some m:=by rw[bd];exact hm
  have h0:¬(i:Int)<0:=by omega
  simp only[hd,hx,hw,Qk,Qa,aN,h0,Qu]
  cases m.dU with
  |false=>simp
  |true=>
   by_cases h10:i<10
   ·have:(i:Int)<10:=by omega
    have ho:=nO (x:=(i:Int)) hs (by omega) (by omega)
    simp only[QV]at ho;simp[this,h10,ho]
   ·have:¬(i:Int)<10:=by omega
    simp[this,h10]
 ·have hd:decide (((c.bo.length:Nat):Int)<((c.bo.length:Nat):Int))=false:=Qh (Qq64 _);simp only[hd,Ql,Qe]
theorem Dg{c:aW}(h:c.bo.length<=1000000):mS c=some ((kc c.bo:Nat):Int):=by
 unfold mS;refine Sg _ _ (fun i m s hm hs=> ?_) (fun s=> ?_)
 ·have hlt:i<c.bo.length:=(Qw.1 hm).1;have hd:decide ((i:Int)<((c.bo.length:Nat):Int))=true:=Qg (by omega)
  have hw:aA .i64 (i:Int) 1=((i+1:Nat):Int):=bD (by omega) (by omega)
  have hx:idx c.bo (i:Int)=some m:=by rw[bd];exact hm
  have h0:¬(i:Int)<0:=by omega
  simp only[hd,hx,hw,Qk,Qa,aN,h0,Qu]
  by_cases h10:i<10
  ·have:(i:Int)<10:=by omega
   have ho:=nO (x:=(i:Int)) hs (by omega) (by omega)
   simp only[QV]at ho;cases m.dU<;>simp[this,h10,ho]
  ·have:¬(i:Int)<10:=by omega
   cases m.dU<;>simp[this,h10]
 ·have hd:decide (((c.bo.length:Nat):Int)<((c.bo.length:Nat):Int))=false:=Qh (Qq64 _);simp only[hd,Ql,Qe]
structure zV (c:aW):Prop where
 len:c.bo.length<=1000000
 aL:∀m∈c.bo,cQ m.aj
def mJ(l:List aR)(k:Nat):ae:=((l[k]?).map (·.aj)).getD ⟨0,[],[]⟩
def oA(l:List aR)(k:Nat):Bool:=(kc l).testBit k
theorem zJ{l:List aR}{k:Nat}(h:oA l k=true):k<10/\∃m,l[k]?=some m/\m.dU=true:=by
 rw[oA,Jj]at h;simp only[Qm,Qi,Option.any_eq_true]at h;obtain⟨h1,m,h2,h3⟩:=h;exact⟨h1,m,h2,h3⟩
theorem ub{l:List aR}{k:Nat}{m:aR}(h:l[k]?=some m):mJ l k=m.aj:=by rw[mJ,h];rfl
def AD(s v:Nat):Nat:=(1023^^^s)|||2 ^ v
def wB(l:List aR)(v s:Nat):Bool:=oA l v&& !lH (AD s v) (mJ l v)
theorem acS(k:Nat):(1023:Nat).testBit k=decide (k<10):=by
 rw[show(1023:Nat)=2 ^ 10 - 1 from rfl,Nat.testBit_two_pow_sub_one]
theorem CC{s:Nat}(hs:s<1024)(v k:Nat):(AD s v).testBit k=(decide (k<10)&& !s.testBit k||decide (v=k)):=by
 rw[AD,Nat.testBit_or,Nat.testBit_xor,acS,Nat.testBit_two_pow]
 by_cases hk:k<10
 ·simp[hk]
 ·have:s.testBit k=false:=by
   cases h:s.testBit k with
   |false=>rfl
   |true=>exact absurd (ON hs h) hk
  simp[hk,this]
theorem RR{s v:Nat}(hs:s<1024)(hv:v<10):AD s v<1024:=FB fun k hk=>by
 rw[CC hs]at hk;simp at hk;omega
theorem We{s v:Nat}(hs:s<1024)(hv:v<10):qi .i64 (A6 .i64 1023 (s:Int)) (bS .i64 1 (v:Int))=((AD s v:Nat):Int):=by
 obtain⟨c,h1,h2,h3⟩:=Lo 1023 s (by omega) (by omega)
 have h1':A6 .i64 1023 (s:Int)=(c:Int):=h1;rw[h1',xZ v (by omega),Fy c (2 ^ v) (by omega) (Nat.pow_lt_pow_right (by omega) (by omega))]
 congr 1;refine CZ fun k=> ?_
 rw[CC hs,Nat.testBit_or,h3,acS,Nat.testBit_two_pow]
theorem Yo{s v:Nat}(hs:s<1024)(hv:v<10):qi .i64 (dh .i64 1023 (s:Int)) (bS .i64 1 (v:Int))=((AD s v:Nat):Int):=by
 have h1:dh .i64 1023 (s:Int)=((1023 - s:Nat):Int):=by rw[qH (by omega) (by omega)];omega
 rw[h1,xZ v (by omega),Fy _ (2 ^ v) (by omega) (Nat.pow_lt_pow_right (by omega) (by omega))]
 congr 1;refine CZ fun k=> ?_
 rw[CC hs,Nat.testBit_or,Nat.testBit_two_pow]
 have h2:(1023 - s).testBit k=(decide (k<10)&& !s.testBit k):=by
  have:=Nat.testBit_two_pow_sub_succ (x:=s) (n:=10) (by omega) k
  rw[show 2 ^ 10 - (s+1)=1023 - s by omega]at this
  exact this
 rw[h2]
theorem Sy{c:aW}(hc:zV c){v s:Nat}(hs:s<1024):oH c v s=some (wB c.bo v s):=by
 unfold oH wB;rw[Cx hs,Lu hc.len];simp only[Qa,Qo,Ql,mU,ti (DG _),yt]
 cases hd:oA c.bo v with
 |false=>
  have:(decide (v<10)&&(kc c.bo).testBit v)=false:=by
   rw[show(kc c.bo).testBit v=oA c.bo v from rfl,hd];simp
  simp[this]
 |true=>
  obtain⟨h10,m,hm,hdm⟩:=zJ hd
  have:(decide (v<10)&&(kc c.bo).testBit v)=true:=by
   rw[show(kc c.bo).testBit v=oA c.bo v from rfl,hd];simp[h10]
  rw[bd,hm,We hs h10];have h0:¬(v:Int)<0:=by omega
  have hmem:m∈c.bo:=Q8 hm;simp only[this,Qo,Ql,Qa,h0,Qu,etas,DQ (RR hs h10) (hc.aL m hmem),ub hm,Bool.true_and]
theorem Nl{c:aW}(hc:zV c){v s:Nat}(hs:s<1024):pk c v s=some (wB c.bo v s):=by
 unfold pk wB;rw[xh hs,Dg hc.len];simp only[Qa,Qo,Ql,pn,ti (DG _),yt]
 cases hd:oA c.bo v with
 |false=>
  have:(decide (v<10)&&(kc c.bo).testBit v)=false:=by
   rw[show(kc c.bo).testBit v=oA c.bo v from rfl,hd];simp
  simp[this]
 |true=>
  obtain⟨h10,m,hm,hdm⟩:=zJ hd
  have:(decide (v<10)&&(kc c.bo).testBit v)=true:=by
   rw[show(kc c.bo).testBit v=oA c.bo v from rfl,hd];simp[h10]
  rw[bd,hm,Yo hs h10];have h0:¬(v:Int)<0:=by omega
  have hmem:m∈c.bo:=Q8 hm;simp only[this,Qo,Ql,Qa,h0,Qu,etas,Hw (RR hs h10) (hc.aL m hmem),ub hm,Bool.true_and]
end
section
def np(s:Nat):List Int:=(wM 10).filter (mo s)
theorem Pr{n:Nat}{x:Int}:x∈wM n↔∃k:Nat,k<n/\x=k:=by
 grind [wM]
theorem CF{s:Nat}{x:Int}:x∈np s↔∃k:Nat,k<10/\x=k/\s.testBit k=true:=by
 grind [np,Pr,yt]
theorem NG(step:(Int×List Int×Unit)->Option ((Int×List Int×Unit)⊕List Int))(s:Nat)
  (h1:∀(i:Nat) (acc:List Int),i<10->acc.length<=i->step ((i:Int),acc,())=some (.inl (((i+1:Nat):Int),(if mo s i then acc++[(i:Int)]else acc),())))
  (h2:∀acc,step (((10:Nat):Int),acc,())=some (.inr acc)):aC step (0,[],())=some (np s):=by
 suffices key:∀(k i:Nat) (acc:List Int),i+k=10->acc=(wM i).filter (mo s)->aC step ((i:Int),acc,())=some (np s)from key 10 0 [] rfl rfl
 intro k
 induction k with
 |zero=>
  intro i acc hi ha;obtain rfl:i=10:=by omega
  rw[bx (h2 acc),ha];rfl
 |succ k ih=>
  intro i acc hi ha;have hlen:acc.length<=i:=by rw[ha];exact QK (List.length_filter_le _ _) (by simp)
  rw[bh (h1 i acc (by omega) hlen)]
  refine ih (i+1) _ (by omega) ?_
  rw[Tw,List.filter_append,<-ha];cases hh:mo s i<;>simp[hh]
theorem MM{s:Nat}(hs:s<1024):rn (s:Int)=some (np s):=by
 grind [rn,NG,aA,bD,aN,mU,ti,bn,mo]
theorem Iw{s:Nat}(hs:s<1024):qE (s:Int)=some (np s):=by
 grind [qE,NG,aA,bD,aN,pn,ti,bn,mo]
def F3(l:List aR)(s r:Nat):Prop:=∀k,r.testBit k=true->s.testBit k=true/\oA l k=true/\lH r (mJ l k)=true
structure A9 (l:List aR) (s q:Nat):Prop where
 inside:F3 l s q
 max:∀r,F3 l s r->∀k,r.testBit k=true->q.testBit k=true
theorem A9.unique{l:List aR}{s q q':Nat}(h:A9 l s q)(h':A9 l s q'):q=q':=by
 refine CZ fun k=> ?_
 rw[QW];exact⟨h'.max q h.inside k,h.max q' h'.inside k⟩
theorem A9.lt{l:List aR}{s q:Nat}(h:A9 l s q):q<1024:=FB fun k hk=>(zJ (h.inside k hk).2.1).1
def rE(l:List aR)(s:Nat):Option Int:=(np s).find? fun x=> !lH s (mJ l x.toNat)
theorem Hu{l:List aR}{s:Nat}{x:Int}(h:rE l s=some x):∃k:Nat,x=k/\k<10/\s.testBit k=true/\lH s (mJ l k)=false:=by
 have h1:=List.mem_of_find?_eq_some h;have h2:=List.find?_some h;obtain⟨k,hk,rfl,hb⟩:=CF.1 h1;simp at h2;exact⟨k,rfl,hk,hb,h2⟩
theorem Sz{l:List aR}{s:Nat}(hs:s<1024)(h:rE l s=none):∀k,s.testBit k=true->lH s (mJ l k)=true:=by
 intro k hk;have:=List.find?_eq_none.1 h (k:Int) (CF.2 ⟨k,ON hs hk,rfl,hk⟩);simpa using this
theorem adA:∀s,s<1024->∀k,k<10->s.testBit k=true->s - 2 ^ k=s^^^2 ^ k:=by decide+kernel
theorem JN{s k:Nat}(hs:s<1024)(hk:s.testBit k=true):2 ^ k<=s/\∀j,(s - 2 ^ k).testBit j=(s.testBit j&& !decide (k=j)):=by
 have hle:2 ^ k<=s:=Nat.ge_two_pow_of_testBit hk;refine⟨hle,?_⟩;have hx:s - 2 ^ k=s^^^2 ^ k:=adA s hs k (ON hs hk) hk
 grind
structure sS (l:List aR) (s0 s:Nat):Prop where
 lt:s<1024
 sub:∀k,s.testBit k=true->s0.testBit k=true/\oA l k=true
 max:∀r,F3 l s0 r->∀k,r.testBit k=true->s.testBit k=true
theorem sS.first(l:List aR){s:Nat}(hs:s<1024):sS l s (s&&&kc l):=by
 refine⟨Nat.lt_of_le_of_lt Nat.and_le_left hs,fun k hk=> ?_,fun r hr k hk=> ?_⟩
 ·rw[Nat.testBit_and,Qm]at hk;exact hk
 ·rw[Nat.testBit_and,Qm];exact⟨(hr k hk).1,(hr k hk).2.1⟩
theorem sS.next{l:List aR}{s0 s k:Nat}(h:sS l s0 s)(hk:s.testBit k=true)(hu:lH s (mJ l k)=false):sS l s0 (s - 2 ^ k):=by
 obtain⟨h1,h2⟩:=JN h.lt hk;refine⟨Nat.lt_of_le_of_lt (Nat.sub_le _ _) h.lt,fun j hj=> ?_,fun r hr j hj=> ?_⟩
 ·rw[h2]at hj;simp at hj;exact h.sub j hj.1
 ·rw[h2,h.max r hr j hj]
  have:k≠j:=by
   intro e;subst e;have:=Ru (fun i hi=>h.max r hr i hi) _ (hr k hj).2.2
   rw[hu]at this;cases this
  simp[this]
theorem sS.done{l:List aR}{s0 s:Nat}(h:sS l s0 s)(hn:rE l s=none):A9 l s0 s:=
 ⟨fun k hk=>⟨(h.sub k hk).1,(h.sub k hk).2,Sz h.lt hn k hk⟩,h.max⟩
theorem Sa{l:List Int}{ρ:Type}{f:Int->Bool}{hit:Int->ρ}{fin:Unit->Option ρ}{g:Int->Unit->Option (Unit⊕ρ)}(hg:∀x∈l,∀s,g x s=some (if f x then .inr (hit x)else .inl ())):
  fJ g fin l ()=match l.find? f with|some x=>some (hit x)|none=>fin ():=by
 induction l with
 |nil=>rfl
 |cons x l ih=>
  grind [fJ]
theorem zp(s:Nat):(np s).length<=10:=QK (List.length_filter_le _ _) (by simp)
theorem XQ{c:aW}(hc:zV c){s:Nat}(hs:s<1024)(hsub:∀k,s.testBit k=true->oA c.bo k=true):
  oF c s=some (match rE c.bo s with|some x=>(x,true,())|none=>(0,false,())):=by
 unfold oF;rw[MM hs,Qa];have hlen:=zp s;rw[iI (np s) (by omega) (fun i (_:Unit)=>(i,())) (fun x (_:Unit)=>(oG c x s).map fun r=>if r then .inl ()else .inr (x,true,())) (fun _=>some (0,false,())) (fun i x u hd hx hw=> ?_) (fun u hd=> ?_) ()]
 ·rw[Sa (f:=fun x=> !lH s (mJ c.bo x.toNat)) (hit:=fun x=>(x,true,()))]
  ·grind [rE,np]
  ·intro x hx u;obtain⟨k,hk,rfl,hb⟩:=CF.1 hx;obtain⟨_,m,hm,_⟩:=zJ (hsub k hb);unfold oG;rw[bd,hm];simp only[Qa,etas,DQ hs (hc.aL m (Q8 hm)),Qe,QV,ub hm];cases lH s m.aj<;>rfl
 ·simp only[hd,hx,hw,Qk,Qa]
  cases oG c x s with
  |none=>rfl
  |some r=>cases r<;>rfl
 ·simp only[hd,Ql]
theorem Y5{s k:Nat}(hs:s<1024)(hk:s.testBit k=true):A6 .i64 (s:Int) (bS .i64 1 (k:Int))=((s - 2 ^ k:Nat):Int):=by
 have h10:=ON hs hk;obtain⟨c,h1,_,h3⟩:=Lo s (2 ^ k) (by omega) (Nat.pow_lt_pow_right (by omega) (by omega))
 rw[xZ k (by omega),h1]
 congr 1;refine CZ fun j=> ?_
 rw[h3,(JN hs hk).2,Nat.testBit_two_pow]
theorem Ls{c:aW}(hc:zV c){s:Nat}(hs:s<1024):Yd (ln c s) fun q=>∃n:Nat,q=n/\A9 c.bo s n:=by
 unfold ln uw;rw[Cx hs,Lu hc.len];simp only[Qa,Qo,Ql];have hdl:=DG c.bo;rw[DL s (kc c.bo) (by omega) (by omega)]
 suffices key:∀(n t:Nat) (out:List Int),t<n->sS c.bo s t->out.length+t<=1024->Yd (aC (fun(v3:Int×(List Int)×Unit)=>
   Option.bind (oF c v3.1) fun r4=>
   bif (!r4.2.1)then
   Option.map Sum.inr (some (v3.1,v3.2.1,()))
   else
   bif bc 8 (List.length v3.2.1+List.length [r4.1])then
   if r4.1<0 then none else
   some (Sum.inl ((A6 .i64 v3.1 (bS .i64 (1:Int) r4.1)),(v3.2.1++[r4.1]),()))
   else none) ((t:Int),out,())) fun p=>∃n:Nat,p.1=n/\A9 c.bo s n by
  have hfirst:=sS.first c.bo hs
  have hb:=hfirst.lt;refine(key 1024 (s&&&kc c.bo) [] hb hfirst (by simp;omega)).bind fun p hp=>Yd.some hp
 intro n
 induction n with
 |zero=>intro t out h;omega
 |succ n ih=>
  intro t out ht hinv hout;refine Yd.loop ?_;rw[XQ hc hinv.lt fun k hk=>(hinv.sub k hk).2]
  simp only[Qa]
  cases hu:rE c.bo t with
  |none=>exact Yd.some ⟨t,rfl,hinv.done hu⟩
  |some x=>
   obtain⟨k,rfl,hk10,hkb,hks⟩:=Hu hu;have h0:¬(k:Int)<0:=by omega
   have hlb:=(JN hinv.lt hkb).1;have hp:0<2 ^ k:=Nat.pow_pos (by omega)
   simp only[Qo,Ql];rw[bn (by simp;omega),Qs h0,Y5 hinv.lt hkb]
   exact Yd.some (ih (t - 2 ^ k) _ (by omega) (hinv.next hkb hks) (by simp;omega))
theorem aap{c:aW}(hc:zV c){s:Nat}(hs:s<1024):∃q,A9 c.bo s q:=by
 obtain⟨_,_,n,_,h⟩:=Ls hc hs;exact⟨n,h⟩
open Classical in
 def gq(l:List aR)(s:Nat):Nat:=if h:∃q,A9 l s q then Classical.choose h else 0
theorem CL{c:aW}(hc:zV c){s:Nat}(hs:s<1024):A9 c.bo s (gq c.bo s):=by
 grind [aap,gq]
theorem Lt{c:aW}(hc:zV c){s:Nat}(hs:s<1024):ln c s=some ((gq c.bo s:Nat):Int):=by
 obtain⟨q,h1,n,rfl,h2⟩:=Ls hc hs;rw[h1,h2.unique (CL hc hs)]
def xe(s:Nat):List Int->Nat
 |[]=>s
 |x::l=>xe (s - 2 ^ x.toNat) l
theorem MS(s:Nat):∀(l:List Int) (x:Int),xe s (l++[x])=xe s l - 2 ^ x.toNat
 |[],x=>rfl
 |y::l,x=>by rw[List.cons_append,xe,MS _ l x,xe]
def Ki(s:Nat):List Int->Prop
 |[]=>True
 |x::l=>(∃k:Nat,x=k/\k<10/\2 ^ k<=s)/\Ki (s - 2 ^ x.toNat) l
theorem Sv{s:Nat}:∀{l:List Int} {k:Nat},Ki s l->k<10->2 ^ k<=xe s l->Ki s (l++[(k:Int)])
 |[],k,_,h1,h2=>⟨⟨k,rfl,h1,h2⟩,trivial⟩
 |_::_,_,h,h1,h2=>⟨h.1,Sv h.2 h1 h2⟩
theorem TD{t k:Nat}(hk:k<10)(h:2 ^ k<=t)(ht:t<1024):dh .i64 (t:Int) (bS .i64 1 (k:Int))=((t - 2 ^ k:Nat):Int):=by
 grind [xZ,qH]
theorem aft{c:aW}(hc:zV c){s:Nat}(hs:s<1024):Yd (qd c s) fun out=>Ki (s&&&kc c.bo) out/\A9 c.bo s (xe (s&&&kc c.bo) out)/\out.length<=1024:=by
 unfold qd;rw[xh hs,Dg hc.len];simp only[Qa,Qo,Ql];have hdl:=DG c.bo;rw[DL s (kc c.bo) (by omega) (by omega)]
 generalize hs0:s&&&kc c.bo=s0
 suffices key:∀(n t:Nat) (b:Bool) (out:List Int),t<n->sS c.bo s t->(b=false->rE c.bo t=none)->out.length+t<=1024->Ki s0 out->xe s0 out=t->
   Yd (aC (fun(v3:Int×Bool×(List Int)×Unit)=>
    bif v3.2.1 then
    Option.bind (qE v3.1) fun r4=>
    aC (fun(v5:Int×Bool×Int×(List Int)×Unit)=>
    bif (decide (v5.2.2.1<((List.length r4:Nat):Int)))then
    Option.bind (idx r4 v5.2.2.1) fun x6=>
    Option.bind (idx c.bo x6) fun x7=>
    Option.bind (jR (ae.mk x7.aj.aJ x7.aj.ba x7.aj.aM) v5.1) fun r8=>
    bif (!r8)then
    if x6<0 then none else
    bif bc 8 (List.length v5.2.2.2.1+List.length [x6])then
    Option.map Sum.inr (some (Sum.inl ((dh .i64 v5.1 (bS .i64 (1:Int) x6)),true,(v5.2.2.2.1++[x6]),())))
    else none
    else
    some (Sum.inl (v5.1,v5.2.1,(aA .i64 v5.2.2.1 (1:Int)),v5.2.2.2.1,()))
    else
    Option.map Sum.inr (some (Sum.inl (v5.1,v5.2.1,v5.2.2.2.1,())))) (v3.1,false,(0:Int),v3.2.2.1,())
    else
    Option.map Sum.inr (some v3.2.2.1)) ((t:Int),b,out,())) fun out=>Ki s0 out/\A9 c.bo s (xe s0 out)/\out.length<=1024 by
  have hfirst:=sS.first c.bo hs
  rw[hs0]at hfirst;have hb:=hfirst.lt;exact key 1024 s0 true [] hb hfirst (fun h=>by cases h) (by simp;omega) trivial rfl
 intro n
 induction n with
 |zero=>intro t b out h;omega
 |succ n ih=>
  intro t b out ht hinv hb hout hso hsub;refine Yd.loop ?_
  cases b with
  |false=>
   simp only[Ql];refine Yd.inr (Yd.some ⟨hso,?_,by omega⟩)
   rw[hsub];exact hinv.done (hb rfl)
  |true=>
   simp only[Qk];rw[Iw hinv.lt,Qa];have hlen:=zp t;rw[iI (np t) (by omega) (fun i (_:Unit)=>((t:Int),false,i,out,())) (fun x (_:Unit)=>some (if !lH t (mJ c.bo x.toNat)then .inr (Sum.inl ((dh .i64 (t:Int) (bS .i64 (1:Int) x)),true,(out++[x]),()))else .inl ())) (fun _=>some (Sum.inl ((t:Int),false,out,()))) (fun i x u hd hx hw=> ?_) (fun u hd=> ?_) ()]
   ·rw[Sa (f:=fun x=> !lH t (mJ c.bo x.toNat)) (hit:=fun x=>Sum.inl ((dh .i64 (t:Int) (bS .i64 (1:Int) x)),true,(out++[x]),())) (fun x hx u=>rfl)]
    cases hu:rE c.bo t with
    |none=>
     rw[rE]at hu;rw[hu];refine Yd.some ?_;refine Yd.loop ?_;simp only[Ql];refine Yd.inr (Yd.some ⟨hso,?_,by omega⟩)
     rw[hsub];exact hinv.done hu
    |some x=>
     obtain⟨k,rfl,hk10,hkb,hks⟩:=Hu hu;rw[rE]at hu;rw[hu];have hlb:=(JN hinv.lt hkb).1;have hp:0<2 ^ k:=Nat.pow_pos (by omega)
     simp only;rw[TD hk10 hlb hinv.lt];refine Yd.some (ih (t - 2 ^ k) true _ (by omega) (hinv.next hkb hks) (fun h=>by cases h) (by simp;omega) (Sv hso hk10 (by rw[hsub];exact hlb)) (by rw[MS,hsub];rfl))
   ·have hmem:x∈np t:=by
     rw[bd]at hx;exact Q8 hx
    obtain⟨k,hk10,rfl,hkb⟩:=CF.1 hmem;obtain⟨_,m,hm,_⟩:=zJ (hinv.sub k hkb).2;have h0:¬(k:Int)<0:=by omega
    simp only[hd,hx,hw,Qk,Qa,bd c.bo,hm,etas,Hw hinv.lt (hc.aL m (Q8 hm)),h0,Qu,QV,ub hm];rw[bn (by simp;omega)]
    cases lH t m.aj<;>rfl
   ·simp only[hd,Ql]
theorem Df{c:aW}(hc:zV c){s:Nat}(hs:s<1024):kS c s=some ((gq c.bo s:Nat):Int):=by
 unfold kS;rw[xh hs,Dg hc.len];simp only[Qa,Qo,Ql];have hdl:=DG c.bo;rw[DL s (kc c.bo) (by omega) (by omega)]
 obtain⟨out,h1,h2,h3,h4⟩:=aft hc hs;rw[h1,Qa];rw[iI out (by omega) (fun i (t:Int)=>(t,i,())) (fun x (t:Int)=>if x<0 then none else some (.inl (dh .i64 t (bS .i64 1 x)))) (fun t=>some t) (fun i x u hd hx hw=> ?_) (fun u hd=> ?_) _]
 ·rw[<-h3.unique (CL hc hs)];have hlt:s&&&kc c.bo<1024:=Nat.lt_of_le_of_lt Nat.and_le_left hs;generalize s&&&kc c.bo=t at h2 hlt;clear h1 h3 h4
  induction out generalizing t with
  |nil=>rfl
  |cons x l ih=>
   obtain⟨⟨k,rfl,hk,hle⟩,h2⟩:=h2
   grind [fJ,TD,xe]
 ·grind
 ·simp only[hd,Ql]
end
section
structure rS (l:List ai):Prop where
 len:l.length<=100000
 aL:∀e∈l,cQ e.aj
theorem jk{e:ai}(h:aU e=true):0<=e.an/\e.an<10:=by
 simp only[aU,ib,zL,Qm,Qi]at h;exact⟨h.1.1.1.1.1.1.1,h.1.1.1.1.1.1.2⟩
def gJ:aR:=⟨false,⟨0,[],[]⟩⟩
 def dG(ms:List aR)(e:ai):List aR:=
 if aU e&& !((ms[e.an.toNat]?).any (·.dU))then ms.set e.an.toNat ⟨true,e.aj⟩else ms
 def gD(aB:Nat)(t:ae)(l:List ai):List aR:=l.foldl dG ((List.replicate 10 gJ).set aB ⟨true,t⟩)
theorem yY(ms:List aR)(e:ai):(dG ms e).length=ms.length:=by
 unfold dG;split
 ·rw[QY]
 ·rfl
theorem Fh:∀(l:List ai) (ms:List aR),(l.foldl dG ms).length=ms.length
 |[],_=>rfl
 |e::l,ms=>by rw[QU,Fh l,yY]
theorem H7(aB:Nat)(t:ae)(l:List ai):(gD aB t l).length=10:=by
 rw[gD,Fh,QY,List.length_replicate]
theorem Ti{ms:List aR}(hl:ms.length=10){n:Int}(h0:0<=n)(h1:n<10):∃m,ms[n.toNat]?=some m/\idx ms n=some m:=by
 have:n.toNat<ms.length:=by omega
 exact⟨ms[n.toNat],Qv this,by rw[Oh _ h0];exact Qv this⟩
theorem XG{aB:Nat}(hn:aB<10){t:ae}(ht:cQ t){l:List ai}(hl:rS l):sK aB t l=some ⟨gD aB t l⟩:=by
 unfold sK
 have h1:(decide ((10:Int)=10)&&decide ((0:Int)<=10)&&bc 64 (Int.toNat 10))=true:=by
  rw[bn (by decide)];rfl
 have h2:¬(aB:Int)<0:=by omega
 have h3:¬(10:Int)<=aB:=by omega
 rw[h1];simp only[Qk,h2,h3,decide_false,Ql,Qa,etas,oX ht,aN];obtain⟨m,hm1,hm2⟩:=Ti (ms:=List.replicate 10 gJ) (by simp) (n:=(aB:Int)) (by omega) (by omega)
 have e10:List.replicate (Int.toNat 10) (aR.mk false (ae.mk 0 [] []))=List.replicate 10 gJ:=rfl;rw[e10,hm2,hm1,Qa,Qa];have hlen:=hl.len
 suffices key:∀(k i:Nat) (ms:List aR) (c:aW),i+k=l.length->ms.length=10->aC _ ((i:Int),c,ms,())=some (aW.mk ((l.drop i).foldl dG ms))by
  have:=key l.length 0 ((List.replicate 10 gJ).set aB ⟨true,t⟩) ⟨[]⟩ (by omega) (by simp)
  simpa[gD]using this
 intro k
 induction k with
 |zero=>
  intro i ms c hi hms;obtain rfl:i=l.length:=by omega
  refine bx ?_;have hd:decide (((l.length:Nat):Int)<((l.length:Nat):Int))=false:=Qh (Qq64 _);simp only[hd,Ql,Qq66,List.foldl_nil]
 |succ k ih=>
  intro i ms c hi hms;have hlt:i<l.length:=by omega
  have hd:decide ((i:Int)<((l.length:Nat):Int))=true:=Qg (by omega)
  have hw:aA .i64 (i:Int) 1=((i+1:Nat):Int):=bD (by omega) (by omega)
  have hx:idx l (i:Int)=some l[i]:=by rw[bd];exact Qv hlt
  have hsm:=hl.aL _ (Q0 hlt);rw[QM hlt,QU];refine Eq.trans (bh (s':=(((i+1:Nat):Int),⟨[]⟩,dG ms l[i],())) ?_) (ih (i+1) _ _ (by omega) (by rw[yY];exact hms))
  simp only[hd,hx,hw,Qk,Qa,rN hsm];unfold dG
  cases hv:aU l[i]with
  |false=>simp
  |true=>
   obtain⟨h4,h5⟩:=jk hv;obtain⟨m,hm1,hm2⟩:=Ti hms h4 h5;simp only[Qk,hm1,hm2,Qa,oX hsm,Option.any_some,Bool.true_and];cases m.dU<;>simp
theorem Ay{aB:Nat}(hn:aB<10){t:ae}{l:List ai}(hl:rS l):jo aB t l=some ⟨gD aB t l⟩:=by
 unfold jo
 have h1:(decide ((10:Int)=10)&&decide ((0:Int)<=10)&&bc 64 (Int.toNat 10))=true:=by
  rw[bn (by decide)];rfl
 have h2:¬(aB:Int)<0:=by omega
 have h3:¬(9:Int)<aB:=by omega
 rw[h1];simp only[Qk,h2,h3,decide_false,Ql,Qa,etas,aN];obtain⟨m,hm1,hm2⟩:=Ti (ms:=List.replicate 10 gJ) (by simp) (n:=(aB:Int)) (by omega) (by omega)
 have e10:List.replicate (Int.toNat 10) (aR.mk false (ae.mk 0 [] []))=List.replicate 10 gJ:=rfl;rw[e10,hm2,hm1,Qa,Qa];have hlen:=hl.len
 suffices key:∀(k i:Nat) (ms:List aR) (c:aW),i+k=l.length->ms.length=10->aC _ ((i:Int),c,ms,())=some (aW.mk ((l.drop i).foldl dG ms))by
  have:=key l.length 0 ((List.replicate 10 gJ).set aB ⟨true,t⟩) ⟨[]⟩ (by omega) (by simp)
  simpa[gD]using this
 intro k
 induction k with
 |zero=>
  intro i ms c hi hms;obtain rfl:i=l.length:=by omega
  refine bx ?_;have hd:decide (((l.length:Nat):Int)<((l.length:Nat):Int))=false:=Qh (Qq64 _);simp only[hd,Ql,Qq66,List.foldl_nil]
 |succ k ih=>
  intro i ms c hi hms;have hlt:i<l.length:=by omega
  have hd:decide ((i:Int)<((l.length:Nat):Int))=true:=Qg (by omega)
  have hw:aA .i64 (i:Int) 1=((i+1:Nat):Int):=bD (by omega) (by omega)
  have hx:idx l (i:Int)=some l[i]:=by rw[bd];exact Qv hlt
  have hsm:=hl.aL _ (Q0 hlt);rw[QM hlt,QU];refine Eq.trans (bh (s':=(((i+1:Nat):Int),⟨[]⟩,dG ms l[i],())) ?_) (ih (i+1) _ _ (by omega) (by rw[yY];exact hms))
  simp only[hd,hx,hw,Qk,Qa,ka hsm];unfold dG
  cases hv:aU l[i]with
  |false=>simp
  |true=>
   obtain⟨h4,h5⟩:=jk hv;obtain⟨m,hm1,hm2⟩:=Ti hms h4 h5;simp only[Qk,hm1,hm2,Qa,Option.any_some,Bool.true_and];cases m.dU<;>simp
theorem mI{aB:Nat}{t:ae}(ht:cQ t){l:List ai}(hl:rS l):zV ⟨gD aB t l⟩:=by
 refine⟨by rw[H7];omega,?_⟩
 have key:∀(l:List ai) (ms:List aR),(∀e∈l,cQ e.aj)->(∀m∈ms,cQ m.aj)->∀m∈l.foldl dG ms,cQ m.aj:=by
  intro l
  induction l with
  |nil=>intro ms _ h;exact h
  |cons e l ih=>
   intro ms he h;rw[QU];refine ih _ (fun e' h'=>he e' (by simp[h'])) fun m hm=> ?_
   unfold dG at hm;split at hm
   ·rcases List.mem_or_eq_of_mem_set hm with hm|rfl
    ·exact h m hm
    ·exact he e (by simp)
   ·exact h m hm
 refine key l _ hl.aL fun m hm=> ?_
 rcases List.mem_or_eq_of_mem_set hm with hm|rfl
 ·rw[List.eq_of_mem_replicate hm];exact .mk _ (by simp[gJ]) (by simp[gJ]) (by simp[gJ])
 ·exact ht
 def bW(l:List ai):List ai:=l.filter aU
theorem aa3{l:List ai}(hl:rS l):rA l=some ((bW l).map bH.mk):=by
 unfold rA;have hlen:=hl.len;simp only[aN]
 suffices key:∀(k i:Nat) (acc:List bH),i+k=l.length->acc=(bW (l.take i)).map bH.mk->aC _ ((i:Int),acc,())=some ((bW l).map bH.mk)from key l.length 0 [] (by omega) rfl
 intro k
 induction k with
 |zero=>
  intro i acc hi ha;obtain rfl:i=l.length:=by omega
  refine bx ?_;have hd:decide (((l.length:Nat):Int)<((l.length:Nat):Int))=false:=Qh (Qq64 _);simp only[hd,Ql,Qe,ha,Qq62]
 |succ k ih=>
  intro i acc hi ha;have hlt:i<l.length:=by omega
  have hd:decide ((i:Int)<((l.length:Nat):Int))=true:=Qg (by omega)
  have hw:aA .i64 (i:Int) 1=((i+1:Nat):Int):=bD (by omega) (by omega)
  have hx:idx l (i:Int)=some l[i]:=by rw[bd];exact Qv hlt
  have hsm:=hl.aL _ (Q0 hlt)
  have hal:acc.length<=i:=by
   rw[ha,QC];exact QK (List.length_filter_le _ _) (by rw[List.length_take];omega)
  refine Eq.trans (bh (s':=(((i+1:Nat):Int),(if aU l[i]then acc++[bH.mk l[i]]else acc),())) ?_) (ih (i+1) _ (by omega) ?_)
  ·simp only[hd,hx,hw,Qk,Qa,etas,rN hsm];rw[bn (by simp;omega)]
   cases aU l[i]<;>simp
  ·rw[Q7 hlt,bW,List.filter_append,ha];cases hv:aU l[i]<;>simp[bW,hv]
def dL(p:ai->Bool):List ai->Nat
 |[]=>0
 |e::l=>(if p e then 2 ^ e.an.toNat else 0)|||dL p l
theorem xX(p:ai->Bool)(k:Nat):∀(l:List ai),(dL p l).testBit k=l.any fun e=>p e&&decide (e.an.toNat=k)
 |[]=>by simp[dL]
 |e::l=>by
  rw[dL,Nat.testBit_or,xX p k l,List.any_cons];cases p e<;>simp[Nat.testBit_two_pow]
def wF(l:List ai):Prop:=∀e∈l,0<=e.an/\e.an<10
theorem nm(l:List ai):wF (bW l):=fun _ he=>jk (List.mem_filter.1 he).2
theorem Cz(l:List ai):(bW l).length<=l.length:=List.length_filter_le _ _
theorem mH{p:ai->Bool}{l:List ai}(h:wF l):dL p l<1024:=FB fun k hk=>by
 rw[xX,List.any_eq_true]at hk;obtain⟨e,he,h1⟩:=hk;simp only[Qm,Qi]at h1;have:=h e he;omega
theorem F6(p:ai->Bool)(l:List ai)(hin:wF l)(step:(Int×Int×Unit)->Option ((Int×Int×Unit)⊕Int))
  (h1:∀(i:Nat) (e:ai) (s:Int),l[i]?=some e->step (s,(i:Int),())=if p e then(if e.an<0 then none else some (.inl (qi .i64 s (bS .i64 1 e.an),((i+1:Nat):Int),())))else some (.inl (s,((i+1:Nat):Int),())))
  (h2:∀s:Int,step (s,(l.length:Int),())=some (.inr s)):aC step (0,0,())=some ((dL p l:Nat):Int):=by
 suffices key:∀(k i s:Nat),i+k=l.length->s<1024->aC step ((s:Int),(i:Int),())=some ((s|||dL p (l.drop i):Nat):Int)by
  have:=key l.length 0 0 (by omega) (by omega)
  simpa using this
 intro k
 induction k with
 |zero=>
  intro i s hi hs;obtain rfl:i=l.length:=by omega
  rw[bx (h2 s),Qq66,dL];simp
 |succ k ih=>
  intro i s hi hs;have hlt:i<l.length:=by omega
  have hm:=hin l[i] (Q0 hlt);rw[QM hlt,dL];have hst:=h1 i l[i] s (Qv hlt)
  cases hp:p l[i]with
  |false=>
   rw[hp]at hst;rw[bh hst,ih (i+1) s (by omega) hs]
   simp
  |true=>
   rw[hp,Qr rfl,Qs (by omega),nO hs hm.1 hm.2]at hst
   rw[bh hst,ih (i+1) _ (by omega) (Be hs hm.2)]
   simp[Nat.or_assoc]
theorem Lq{v:aW}{aB:Int}{l:List ai}(hl:l.length<=1000000)(hin:wF l)(b:af):jP ⟨aB,v,l.map bH.mk⟩ b=some ((dL (dn · b) l:Nat):Int):=by
 unfold jP;refine F6 (dn · b) l hin _ (fun i e s he=> ?_) (fun s=> ?_)
 ·have hlt:i<l.length:=(Qw.1 he).1;have hd:decide ((i:Int)<(((l.map bH.mk).length:Nat):Int))=true:=Qg (by rw[QC];omega)
  have hw:aA .i64 (i:Int) 1=((i+1:Nat):Int):=bD (by omega) (by omega)
  have hx:idx (l.map bH.mk) (i:Int)=some ⟨e⟩:=by rw[bd,QT,he];rfl
  simp only[hd,hx,hw,Qk,Qa,etas,mD,uP,aN];cases dn e b<;>simp
 ·have hd:decide (((l.length:Nat):Int)<(((l.map bH.mk).length:Nat):Int))=false:=Qh (by rw[QC];exact Qq64 _)
  simp only[hd,Ql,Qe]
theorem Za{v:aW}{aB:Int}{l:List ai}(hl:l.length<=1000000)(hin:wF l)(b:af):gY ⟨aB,v,l.map bH.mk⟩ b b=some ((dL (fun e=>qF e b||dn e b) l:Nat):Int):=by
 unfold gY;refine F6 (fun e=>qF e b||dn e b) l hin _ (fun i e s he=> ?_) (fun s=> ?_)
 ·have hlt:i<l.length:=(Qw.1 he).1;have hd:decide ((i:Int)<(((l.map bH.mk).length:Nat):Int))=true:=Qg (by rw[QC];omega)
  have hw:aA .i64 (i:Int) 1=((i+1:Nat):Int):=bD (by omega) (by omega)
  have hx:idx (l.map bH.mk) (i:Int)=some ⟨e⟩:=by rw[bd,QT,he];rfl
  simp only[hd,hx,hw,Qk,Qa,etas,jU,mD,rR,uP,D4,aN,lL,Bool.cond_true_left];cases (qF e b||dn e b)<;>simp
 ·have hd:decide (((l.length:Nat):Int)<(((l.map bH.mk).length:Nat):Int))=false:=Qh (by rw[QC];exact Qq64 _)
  simp only[hd,Ql,Qe]
 def kL(ms:List aR)(v df accepts:Nat):Bool:=wB ms v accepts||(gq ms (df|||accepts)).testBit v
theorem xO{c:aW}(hc:zV c){v df accepts:Nat}(hv:v<10)(h1:df<1024)(h2:accepts<1024):gC c v df accepts=some (kL c.bo v df accepts):=by
 unfold gC kL;have h3:df|||accepts<1024:=Nat.or_lt_two_pow (n:=10) h1 h2
 rw[Cx h1,Cx h2,Sy hc h2,Fy df accepts (by omega) (by omega),Lt hc h3]
 simp[ti (CL hc h3).lt,yt,hv]
theorem wu{c:aW}(hc:zV c){v accepts:Nat}(hv:v<10)(h2:accepts<1024):eH c v accepts=some ((gq c.bo accepts).testBit v):=by
 unfold eH;rw[Lt hc h2];simp[ti (CL hc h2).lt,yt,hv]
 def lE(aB:Nat)(t:ae)(l:List ai)(b:af):Bool:=
 kL (gD aB t l) aB (dL (fun e=>qF e b||dn e b) (bW l)) (dL (dn · b) (bW l))
 def kv(aB:Nat)(t:ae)(l:List ai)(b:af):Bool:=
 (gq (gD aB t l) (dL (dn · b) (bW l))).testBit aB
theorem Re{aB:Nat}(hn:aB<10){t:ae}(ht:cQ t){l:List ai}(hl:rS l):fW aB t l=some ⟨aB,⟨gD aB t l⟩,(bW l).map bH.mk⟩:=by
 unfold fW;simp only[etas,XG hn ht hl,aa3 hl,Qa]
end
section
theorem acA{α:Type}{l l':List α}(h:l.Perm l')(p:α->Bool):l.any p=l'.any p:=by
 rw[QW,List.any_eq_true,List.any_eq_true];exact⟨fun⟨x,h1,h2⟩=>⟨x,h.mem_iff.1 h1,h2⟩,fun⟨x,h1,h2⟩=>⟨x,h.mem_iff.2 h1,h2⟩⟩
theorem Zk{l l':List ai}(h:l.Perm l')(p:ai->Bool):dL p l=dL p l':=CZ fun k=>by rw[xX,xX,acA h]
theorem V6{l l':List ai}(h:l.Perm l'):(bW l).Perm (bW l'):=h.filter _
def Bv(l:List ai):Prop:=∀a∈l,∀b∈l,a.an=b.an->a=b
theorem Bv.perm{l l':List ai}(h:Bv l)(hp:l.Perm l'):Bv l':=fun a ha b hb=>h a (hp.mem_iff.2 ha) b (hp.mem_iff.2 hb)
 def pA(l:List ai)(k:Nat):Option ai:=l.find? fun e=>aU e&&decide (e.an.toNat=k)
theorem EO{l:List ai}{k:Nat}{e:ai}(h:pA l k=some e):e∈l/\aU e=true/\e.an=k:=by
 unfold pA at h;have h1:=List.mem_of_find?_eq_some h;have h2:=List.find?_some h;simp only[Qm,Qi]at h2;have:=jk h2.1;exact⟨h1,h2.1,by omega⟩
theorem NF{l:List ai}(ha:Bv l){k:Nat}{e:ai}(h1:e∈l)(h2:aU e=true)(h3:e.an=k):pA l k=some e:=by
 cases h:pA l k with
 |none=>
  unfold pA at h;rw[List.find?_eq_none]at h;have:=h e h1;simp[h2,h3]at this
 |some e'=>
  obtain⟨g1,g2,g3⟩:=EO h;rw[ha e' g1 e h1 (by omega)]
theorem Wf{l l':List ai}(ha:Bv l)(h:l.Perm l')(k:Nat):pA l k=pA l' k:=by
 cases h1:pA l k with
 |some e=>
  obtain⟨g1,g2,g3⟩:=EO h1;exact(NF (ha.perm h) (h.mem_iff.1 g1) g2 g3).symm
 |none=>
  cases h2:pA l' k with
  |none=>rfl
  |some e=>
   obtain⟨g1,g2,g3⟩:=EO h2;rw[NF ha (h.mem_iff.2 g1) g2 g3]at h1;cases h1
theorem Rj:∀(l:List ai) (ms:List aR),ms.length=10->(∀m∈ms,m.dU=false->m=gJ)->∀k,k<10->(l.foldl dG ms)[k]?=some (match ms[k]? with
  |some m=>if m.dU then m else(match pA l k with
   |some e=>⟨true,e.aj⟩
   |none=>gJ)
  |none=>gJ)
 |[],ms,hl,hn,k,hk=>by
  have hk':k<ms.length:=by omega
  rw[List.foldl_nil,Qv hk']
  cases hd:ms[k].dU with
  |true=>simp[hd]
  |false=>
   have:=hn _ (Q0 hk') hd;simp[pA,this]
 |e::l,ms,hl,hn,k,hk=>by
  have hk':k<ms.length:=by omega
  rw[QU];have hlen:(dG ms e).length=10:=by rw[yY];exact hl
  have hn':∀m∈dG ms e,m.dU=false->m=gJ:=by
   unfold dG;split
   ·intro m hm hd;rcases List.mem_or_eq_of_mem_set hm with hm|rfl
    ·exact hn m hm hd
    ·cases hd
   ·exact hn
  rw[Rj l (dG ms e) hlen hn' k hk];congr 1
  have hof:pA (e::l) k=if(aU e&&decide (e.an.toNat=k))=true then some e else pA l k:=by
   unfold pA;rw[List.find?_cons];cases aU e&&decide (e.an.toNat=k)<;>rfl
  rw[hof];unfold dG
  by_cases hv:aU e=true
  ·have hnode:=jk hv;have hi:e.an.toNat<ms.length:=by omega
   rw[hv,Bool.true_and,Bool.true_and]
   by_cases hke:e.an.toNat=k
   ·subst hke;rw[Qv hi]
    cases hd:ms[e.an.toNat].dU with
    |true=>simp[hd,Qv hi]
    |false=>simp[hd,hi]
   ·have hne:decide (e.an.toNat=k)=false:=Qh hke
    have hset:∀c:Bool,(if c=true then ms.set e.an.toNat ⟨true,e.aj⟩else ms)[k]?=ms[k]?:=fun c=>by
     cases c
     ·rfl
     ·rw[Qr rfl,List.getElem?_set_ne hke]
    rw[hne,hset];simp
  ·have hv':aU e=false:=by simpa using hv
   simp[hv']
theorem H6{aB:Nat}(hn:aB<10)(t:ae)(l:List ai){k:Nat}(hk:k<10):(gD aB t l)[k]?=some (if k=aB then⟨true,t⟩else match pA l k with
  |some e=>⟨true,e.aj⟩
  |none=>gJ):=by
 rw[gD,Rj l _ (by simp) (fun m hm hd=> ?_) k hk]
 ·by_cases h:k=aB
  ·subst h;simp[hn]
  ·rw[List.getElem?_set_ne (fun e=>h e.symm),List.getElem?_replicate,Qr hk]
   simp[h,gJ]
 ·rcases List.mem_or_eq_of_mem_set hm with hm|rfl
  ·exact(List.mem_replicate.1 hm).2
  ·cases hd
theorem XM{aB:Nat}(hn:aB<10)(t:ae){l l':List ai}(ha:Bv l)(h:l.Perm l'):gD aB t l=gD aB t l':=by
 refine List.ext_getElem? fun k=> ?_
 by_cases hk:k<10
 ·rw[H6 hn t l hk,H6 hn t l' hk,Wf ha h]
 ·rw[Qq72 (by rw[H7];omega),Qq72 (by rw[H7];omega)]
end
section
theorem Jy{τ ρ:Type}(n:Nat)(mk:Int->τ){step:τ->Option (τ⊕ρ)}{fin:Option ρ}(h1:∀i:Nat,i<n->step (mk (i:Int))=some (.inl (mk ((i+1:Nat):Int))))(h2:step (mk (n:Int))=Option.map Sum.inr fin):aC step (mk 0)=fin:=by
 suffices key:∀(k i:Nat),i+k=n->aC step (mk (i:Int))=fin from key n 0 (by omega)
 intro k
 induction k with
 |zero=>
  intro i hi;obtain rfl:i=n:=by omega
  rw[ff,h2];cases fin<;>rfl
 |succ k ih=>exact fun i hi=>(bh (h1 i (by omega))).trans (ih (i+1) (by omega))
theorem afJ(s:List Int)(h:s.length<=1000000):vP s s=some true:=by
 unfold vP;simp only[decide_true,Qo,Ql];refine Jy s.length (fun i=>(i,())) (fun i hi=> ?_) ?_
 ·have hd:decide ((i:Int)<((s.length:Nat):Int))=true:=Qg (by omega)
  have hw:aA .i64 (i:Int) 1=((i+1:Nat):Int):=bD (by omega) (by omega)
  have hx:idx s (i:Int)=some s[i]:=by rw[bd];exact Qv hi
  simp only[hd,hx,hw,Qk,Qa,decide_true,Qo,Ql]
 ·have hd:decide (((s.length:Nat):Int)<((s.length:Nat):Int))=false:=Qh (Qq64 _);simp only[hd,Ql]
theorem agV{n:Nat}:∀{t:ae},SizeOf.sizeOf t<n->cQ t->vG n (t,t,())=some true:=by
 induction n with
 |zero=>intro t h;omega
 |succ n ih=>
  intro t hs hm;show sU (vG n) t t=some true;have hl:=hm.len;have hns:=hm.nodes;unfold sU;simp only[decide_true,Qo,Ql,afJ _ hns,Qa];refine Jy t.aM.length (fun i=>(i,())) (fun i hi=> ?_) ?_
  ·have hd:decide ((i:Int)<((t.aM.length:Nat):Int))=true:=Qg (by omega)
   have hw:aA .i64 (i:Int) 1=((i+1:Nat):Int):=bD (by omega) (by omega)
   have hx:idx t.aM (i:Int)=some t.aM[i]:=by rw[bd];exact Qv hi
   have hu:=Q0 hi;have:=ih (t:=t.aM[i]) (by have:=pK hu;omega) (hm.inner _ hu)
   simp only[hd,hx,hw,Qk,Qa,etas,this,Qo,Ql]
  ·have hd:decide (((t.aM.length:Nat):Int)<((t.aM.length:Nat):Int))=false:=Qh (Qq64 _);simp only[hd,Ql]
theorem afI{t:ae}(h:cQ t):jr t t=some true:=agV (by omega) h
theorem Zy{ρ:Type}(n:Nat)(hn:n<=1000000){fin:Option ρ}{step:Int×Unit->Option ((Int×Unit)⊕ρ)}
  (h1:∀i:Nat,i<n->decide ((i:Int)<((n:Nat):Int))=true->aA .i64 (i:Int) 1=((i+1:Nat):Int)->step ((i:Int),())=some (.inl (((i+1:Nat):Int),())))
  (h2:decide (((n:Nat):Int)<((n:Nat):Int))=false->step ((n:Int),())=Option.map Sum.inr fin):aC step (0,())=fin:=
 Jy n (fun i=>(i,())) (fun i hi=>h1 i hi (Qg (by omega)) (bD (by omega) (by omega))) (h2 (Qh (Qq64 _)))
end
section
def G6:List UInt8->Nat
 |[]=>0
 |a::l=>a.toNat*256 ^ l.length+G6 l
theorem Kb:∀l:List UInt8,G6 l<256 ^ l.length
 |[]=>by simp[G6]
 |a::l=>by
  have h1:=Kb l;have h2:a.toNat<256:=a.toNat_lt;rw[G6,QE,Nat.pow_succ];have h3:(a.toNat+1)*256 ^ l.length<=256*256 ^ l.length:=Qq63 _ h2;rw[Qq73,Nat.one_mul,Nat.mul_comm 256]at h3;omega
theorem aaR:∀{x y:List UInt8},x.length=y.length->Op.bytesLess x y=true->G6 x<G6 y
 |[],[],_,h=>by simp[Op.bytesLess]at h
 |[],_::_,hl,_=>by simp at hl
 |_::_,[],hl,_=>by simp at hl
 |a::x,b::y,hl,h=>by
  simp only[QE,Nat.add_right_cancel_iff]at hl;simp only[Op.bytesLess,Qn,Qi,Qm,beq_iff_eq]at h;rw[G6,G6,hl];rcases h with h|⟨rfl,h⟩
  ·have h1:=Kb x;rw[hl]at h1;have h2:a.toNat<b.toNat:=UInt8.lt_iff_toNat_lt.1 h;have h3:(a.toNat+1)*256 ^ y.length<=b.toNat*256 ^ y.length:=Qq63 _ h2;rw[Qq73,Nat.one_mul]at h3;omega
  ·have:=aaR hl h;omega
def WV:Nat:=256 ^ 201
def P8(v:ByteArray):Nat:=v.size*256 ^ 200+G6 v.toList
theorem toList_len(v:ByteArray):v.toList.length=v.size:=by
 rw[Lib.toList_data];cases v;simp[ByteArray.size]
theorem ZN{a b:Nat}(h:a<=b):(256:Nat) ^ a<=256 ^ b:=Nat.pow_le_pow_right (by omega) h
theorem Xr{v:ByteArray}(h:v.size<=200):P8 v<WV:=by
 have h1:=Kb v.toList;rw[toList_len]at h1;have h2:=ZN h;have h3:v.size*256 ^ 200<=200*256 ^ 200:=Qq63 _ h;have h4:WV=256*256 ^ 200:=by rw[WV,Nat.pow_succ,Nat.mul_comm]
 unfold P8;rw[h4];generalize (256:Nat) ^ 200=Z at*;omega
theorem aag{a b:ByteArray}(hb:b.size<=200)(h:bJ a b=true):P8 a<P8 b:=by
 unfold bJ at h;unfold P8
 by_cases hs:a.size=b.size
 ·rw[Qr hs]at h;have:=aaR (x:=a.toList) (y:=b.toList) (by rw[toList_len,toList_len,hs]) h
  rw[hs];omega
 ·rw[Qs hs,Qi]at h;have h1:=Kb a.toList;rw[toList_len]at h1;have h2:=ZN (show a.size<=200 by omega)
  have h3:(a.size+1)*256 ^ 200<=b.size*256 ^ 200:=Qq63 _ h;rw[Qq73,Nat.one_mul]at h3;generalize (256:Nat) ^ 200=Z at*;omega
def Sm(b:af):Prop:=0<=b.ak/\b.ak<=1000/\b.Value.size<=200
def oM(b:af):Nat:=b.ak.toNat*WV+P8 b.Value
def WB:Nat:=1001*WV
theorem qx{b:af}(h:Sm b):oM b<WB:=by
 obtain⟨h1,h2,h3⟩:=h;have h4:=Xr h3;unfold oM WB;have h5:b.ak.toNat*WV<=1000*WV:=Qq63 _ (by omega)
 generalize WV=Z at*;omega
theorem vd{a b:af}(ha:Sm a)(hb:Sm b)(h:bz a b=true):oM a<oM b:=by
 unfold bz at h;unfold oM
 by_cases hc:a.ak=b.ak
 ·rw[Qr hc]at h;have:=aag hb.2.2 h;rw[hc];omega
 ·rw[Qs hc,Qi]at h;have h1:=Xr ha.2.2;have h2:=ha.1;have h3:(a.ak.toNat+1)*WV<=b.ak.toNat*WV:=Qq63 _ (by omega)
  rw[Qq73,Nat.one_mul]at h3;generalize WV=Z at*;omega
theorem Yd.down{σ ρ:Type}{step:σ->Option (σ⊕ρ)}{p:ρ->Prop}(inv:σ->Prop)(μ:σ->Nat)(h:∀s,inv s->Yd (step s) fun y=>match y with| .inl s'=>inv s'/\μ s'<μ s| .inr r=>p r){s:σ}(hs:inv s):Yd (aC step s) p:=by
 suffices key:∀(n:Nat) (s:σ),μ s<n->inv s->Yd (aC step s) p from key _ s (Nat.lt_succ_self _) hs
 intro n
 induction n with
 |zero=>intro s h0;omega
 |succ n ih=>
  intro s hn hi;refine Yd.loop ((h s hi).mono fun y hy=> ?_)
  cases y with
  |inl s'=>exact ih s' (by have:=hy.2;omega) hy.1
  |inr r=>exact hy
end
section
def bZ:af:=⟨0,fH⟩
def ft(m:ab):Int:=if(!aF m.ax&&bM m.ax m.aa)=true then m.ax.ak else 0
def cD(m:ab):ai:=
 if m.aK=1 then⟨m.an,m.aY,m.aE,m.aj,m.aK,m.aa,m.ao,m.az,m.aS,ft m⟩
 else if m.aK=2 then⟨m.an,m.aY,m.aE,m.aj,m.aK,m.aa,m.ao,bZ,m.aS,m.bl⟩
 else⟨m.an,m.aY,m.aE,m.aj,m.aK,m.aa,bZ,bZ,m.aS,m.bl⟩
theorem vq(m:ab):(cD m).an=m.an:=by unfold cD;split<;>(try split)<;>rfl
theorem BS(m:ab):(cD m).aY=m.aY:=by unfold cD;split<;>(try split)<;>rfl
theorem U9(m:ab):(cD m).aE=m.aE:=by unfold cD;split<;>(try split)<;>rfl
theorem oL(m:ab):(cD m).aj=m.aj:=by unfold cD;split<;>(try split)<;>rfl
theorem aaA(m:ab):(cD m).bF=m.aK:=by unfold cD;split<;>(try split)<;>rfl
theorem zQ(m:ab):iw m=some (cD m):=by
 unfold iw cD ft;simp only[aN,etas,c7,gN,Qa]
 by_cases h1:m.aK=1
 ·rw[Qg h1,Qr h1];cases aF m.ax<;>cases bM m.ax m.aa<;>rfl
 ·rw[Qh h1,Qs h1]
  by_cases h2:m.aK=2
  ·rw[Qg h2,Qr h2];rfl
  ·rw[Qh h2,Qs h2];rfl
def jh(m:ab):ai:={cD m with aE:=bC (cD m).aE 1}
def zK(e:ai):List ai->List ai
 |[]=>[e]
 |x::l=>if e.an<x.an then e::x::l else x::zK e l
theorem Eu(e:ai):∀l,(zK e l).Perm (l++[e])
 |[]=> .refl _
 |x::l=>by
  unfold zK;split
  ·exact(List.perm_append_singleton e (x::l)).symm
  ·exact(Eu e l).cons x
def bg(m:ab):List ai:=if aF m.aa=true then m.aq else zK (jh m) m.aq
theorem OV{m:ab}(h:m.aq.length<=1000):lF m=some (bg m):=by
 unfold lF bg;simp only[etas,c7,zQ,Qa]
 cases aF m.aa with
 |true=>rfl
 |false=>
  simp only[Ql,Qq,Qu];have hown:ai.mk (cD m).an (cD m).aY (bC (cD m).aE 1) (cD m).aj (cD m).bF (cD m).aa (cD m).ao (cD m).az (cD m).aS (cD m).bl=jh m:=rfl;have hnode:(cD m).an=(jh m).an:=rfl;rw[hown,hnode];generalize jh m=e
  suffices key:∀(k i:Nat) (b:Bool) (o:List ai),i+k=m.aq.length->o.length<=i+(bif b then 1 else 0)->aC _ (b,(i:Int),o,())=some (o++if b=true then m.aq.drop i else zK e (m.aq.drop i))from(key m.aq.length 0 false [] (by omega) (by simp)).trans (by simp)
  intro k
  induction k with
  |zero=>
   intro i b o hi ho;obtain rfl:i=m.aq.length:=by omega
   have hd:decide (((m.aq.length:Nat):Int)<((m.aq.length:Nat):Int))=false:=Qh (Qq64 _);refine bx ?_;rw[Qq66];simp only[hd,Ql,aN]
   cases b with
   |true=>simp
   |false=>
    simp only[Ql]at ho;rw[bn (by simp;omega)]
    simp[zK]
  |succ k ih=>
   intro i b o hi ho;have hlt:i<m.aq.length:=by omega
   have hd:decide ((i:Int)<((m.aq.length:Nat):Int))=true:=Qg (by omega)
   have hw:aA .i64 (i:Int) 1=((i+1:Nat):Int):=bD (by omega) (by omega)
   have hx:idx m.aq (i:Int)=some m.aq[i]:=by rw[bd];exact Qv hlt
   rw[QM hlt]
   cases b with
   |true=>
    simp only[Qk]at ho;have:=ih (i+1) true (o++[m.aq[i]]) (by omega) (by simp;omega)
    simp only[Qt]at this ⊢;rw[show o++m.aq[i]::m.aq.drop (i+1)=(o++[m.aq[i]])++m.aq.drop (i+1)by simp]
    refine Eq.trans (bh ?_) this;simp only[hd,hx,hw,Qk,aN,Qa,Qo,Ql];rw[bn (by simp;omega),Qk]
   |false=>
    simp only[Ql]at ho
    by_cases hn:e.an<m.aq[i].an
    ·have:=ih (i+1) true (o++[e]++[m.aq[i]]) (by omega) (by simp;omega)
     simp only[Qt,Qq,Qu]at this ⊢;rw[zK,Qr hn,show o++e::m.aq[i]::m.aq.drop (i+1)=(o++[e]++[m.aq[i]])++m.aq.drop (i+1)by simp]
     refine Eq.trans (bh ?_) this;simp only[hd,hx,hw,Qk,aN,Qa,Qp,Qg hn];rw[bn (by simp;omega),Qk,bn (by simp;omega),Qk]
    ·have:=ih (i+1) false (o++[m.aq[i]]) (by omega) (by simp;omega)
     simp only[Qq,Qu]at this ⊢;rw[zK,Qs hn,show o++m.aq[i]::zK e (m.aq.drop (i+1))=(o++[m.aq[i]])++zK e (m.aq.drop (i+1))by simp]
     refine Eq.trans (bh ?_) this;simp only[hd,hx,hw,Qk,aN,Qa,Qp,Qh hn,Ql];rw[bn (by simp;omega),Qk]
def Gp(a b:af):Bool:=decide (a.ak=b.ak)&&decide (a.Value=b.Value)
theorem Rw{a b:af}:Gp a b=true↔a=b:=by
 cases a;cases b;simp[Gp]
def Bc(a b:ab):Bool:=decide (a.aK=b.aK)&&Gp a.aa b.aa&&Gp a.ao b.ao&&Gp a.az b.az&&Gp a.ax b.ax&&decide (a.aS=b.aS)&&decide (a.bl=b.bl)
theorem acj(a b:Bool):(bif a then b else false)=(a&&b):=by cases a<;>rfl
theorem afH(a b:ab):ny a b=some (Bc a b):=by
 unfold ny Bc Gp;simp only[BR,Qa,lL,acj]
end
section
def xF(v:ByteArray)(n:Int)(x:af):Int:=
 if(cO x&&eN x ⟨n,v⟩)=true then(if eN x ⟨x.ak,v⟩=true then x.ak+1 else x.ak)else n
def lA(v:ByteArray)(n:Int)(p q:af):Int:=xF v (xF v (bC n 1) p) q
theorem Up(v:ByteArray)(n:Int)(p q:af):sI v n p q=some (lA v n p q):=by
 unfold sI lA;generalize bC n 1=k
 have hst:∀(i:Nat) (x:af) (k:Int),i<2->[p,q][i]?=some x->
   (fun(v1:Int×Int×Unit)=>
    bif (decide (v1.2.1<(2:Int)))then
    aX (fun(v2:Int×Unit)=>some (Sum.inl (v2.1,(aA .i64 v1.2.1 (1:Int)),v2.2))) fun j3=>
    Option.bind (idx [p,q] v1.2.1) fun x4=>
    Option.bind (kM x4) fun r5=>
    Option.bind (bif r5 then Option.bind (gO x4 (af.mk v1.1 v)) fun r6=>some r6 else some false) fun b7=>
    bif b7 then Option.bind (gO x4 (af.mk x4.ak v)) fun r8=>
     bif r8 then j3 ((aA .i64 x4.ak (1:Int)),())else j3 (x4.ak,())
    else j3 (v1.1,())
    else(Option.map Sum.inr (some v1.1):Option ((Int×Int×Unit)⊕Int))) (k,(i:Int),())=some (Sum.inl (xF v k x,((i+1:Nat):Int),())):=by
  intro i x k hi hx;have hd:decide ((i:Int)<2)=true:=Qg (by omega)
  have hw:aA .i64 (i:Int) 1=((i+1:Nat):Int):=bD (by omega) (by omega)
  have hx':idx [p,q] (i:Int)=some x:=by rw[bd];exact hx
  simp only[hd,hw,hx',Qk,aN,Qa,DV,Cu];unfold xF
  cases hv:cO x with
  |false=>simp
  |true=>
   have hc:aA .i64 x.ak 1=x.ak+1:=by
    have:1<=x.ak/\x.ak<=1000000:=by
     simp only[cO,Qm,Qn,Qi]at hv;omega
    exact bD (by omega) (by omega)
   cases h1:eN x ⟨k,v⟩with
   |false=>simp
   |true=>cases h2:eN x ⟨x.ak,v⟩<;>simp[hc]
 refine(bh (hst 0 p k (by omega) rfl)).trans ((bh (hst 1 q _ (by omega) rfl)).trans (bx ?_))
 rfl
theorem ab5(b:af):sF b=some (if 1000<b.ak then⟨1000,b.Value⟩else b):=by
 unfold sF
 by_cases h:1000<b.ak
 ·simp[h]
 ·simp[h]
end
section
theorem Yu{lo k:Int}{v:ByteArray}{p:af}(h:lo<=k)(hl:bz ⟨k,v⟩ p=true):bz ⟨lo,v⟩ p=true:=by
 unfold bz at hl ⊢;simp only at hl ⊢
 by_cases h1:lo=k
 ·rw[h1];exact hl
 ·have h2:lo<p.ak:=by
   split at hl
   ·omega
   ·simp only[Qi]at hl;omega
  rw[Qs (by omega)]
  simpa using h2
theorem Wx{lo k:Int}{v:ByteArray}{p:af}(h:lo<=k)(ha:eN p ⟨lo,v⟩=false):eN p ⟨k,v⟩=false:=by
 cases hk:eN p ⟨k,v⟩with
 |false=>rfl
 |true=>
  simp only[eN,Qm,bM]at hk;simp only[eN,bM,hk.1.1,hk.1.2,Yu h hk.2]at ha;cases ha
theorem lK(p b:af):jM p b=true↔aF p=false/\p.Value=b.Value/\b.ak<=p.ak:=by
 simp[jM,bM,and_assoc]
theorem NL{b:af}(h:1<=b.ak):aF b=false:=by
 have:¬b.ak=0:=by omega
 simp[aF,this]
end
section
theorem adl{n:Nat}(h:n<1000000):bA .u64 (n:Int)=n:=by
 unfold bA IntKind.wrap;simp[IntKind.signed,IntKind.bits];omega
def vE(b p:af)(j:Nat)(t:ae):ai:=⟨j,1,1,t,1,b,p,⟨0,ByteArray.mk #[]⟩,0,0⟩
structure VO (b:af):Prop where
 lo:1<=b.ak
 hi:b.ak<=6
 val:Lr b.Value
theorem VO.valid{b:af}(h:VO b):cO b=true:=H8 h.lo (by have:=h.hi;omega) h.val
theorem VO.nz{b:af}(h:VO b):aF b=false:=NL h.lo
theorem Nd{l:List ai}(h:∀e∈l,aU e=true):bW l=l:=List.filter_eq_self.2 h
end
section
theorem C7:∀(l:List ai) (ms:List aR) (k:Nat) (m:aR),ms[k]?=some m->
  (l.foldl dG ms)[k]?=some (if m.dU then m else match(bW l).find? (fun e=>decide (e.an.toNat=k))with|some e=>⟨true,e.aj⟩|none=>m)
 |[],ms,k,m,h=>by simp[bW,h]
 |e::l,ms,k,m,h=>by
  rw[QU]
  by_cases hv:aU e=true
  ·have hr:bW (e::l)=e::bW l:=by simp[bW,hv]
   rw[hr,List.find?_cons]
   by_cases hk:e.an.toNat=k
   ·have hstep:(dG ms e)[k]?=some (if m.dU then m else⟨true,e.aj⟩):=by
     unfold dG;rw[hv,hk,h]
     cases hm:m.dU with
     |true=>simp[hm,h]
     |false=>
      have hlt:k<ms.length:=(Qw.1 h).1;simp[hm,hlt]
    rw[C7 l _ k _ hstep]
    cases hm:m.dU with
    |true=>simp[hm]
    |false=>simp[hk]
   ·have hstep:(dG ms e)[k]?=some m:=by
     unfold dG;split
     ·rw[List.getElem?_set_ne hk];exact h
     ·exact h
    rw[C7 l _ k m hstep];simp[hk]
  ·have hv':aU e=false:=by simpa using hv
   have hr:bW (e::l)=bW l:=by simp[bW,hv']
   have hstep:dG ms e=ms:=by simp[dG,hv']
   rw[hr,hstep];exact C7 l ms k m h
theorem Zo{aB:Nat}{t:ae}{l:List ai}{k:Nat}(hk:k<10)(hn:aB<10):
  (gD aB t l)[k]?=some (if k=aB then⟨true,t⟩else match(bW l).find? (fun e=>decide (e.an.toNat=k))with|some e=>⟨true,e.aj⟩|none=>gJ):=by
 unfold gD
 by_cases h:k=aB
 ·subst h;rw[C7 l _ k ⟨true,t⟩ (by simp[hk])]
  simp
 ·rw[C7 l _ k gJ (by
   rw[List.getElem?_set_ne (fun e=>h e.symm),List.getElem?_replicate,Qr hk])]
  simp[h,gJ]
theorem R2{l:List aR}{k:Nat}{m:aR}(hk:k<10)(h:l[k]?=some m)(hd:m.dU=true):oA l k=true:=by
 rw[oA,Jj,h];simp[hk,hd]
theorem Zn{aB:Nat}(hn:aB<10){t:ae}{l:List ai}(T:Nat->ae)(ht:T aB=t)(hT:∀e∈bW l,e.aj=T e.an.toNat){k:Nat}(hk:k<10)(hs:k=aB\/∃e∈bW l,e.an.toNat=k):
  oA (gD aB t l) k=true/\mJ (gD aB t l) k=T k:=by
 have hg:=Zo (t:=t) (l:=l) hk hn
 by_cases h:k=aB
 ·rw[Qr h]at hg;exact⟨R2 hk hg rfl,by rw[ub hg,h,ht]⟩
 ·rw[Qs h]at hg;obtain⟨e,he,hek⟩:=hs.resolve_left h
  cases hf:(bW l).find? (fun e=>decide (e.an.toNat=k))with
  |none=>
   have:=List.find?_eq_none.1 hf e he;simp[hek]at this
  |some e'=>
   rw[hf]at hg;have h1:=List.mem_of_find?_eq_some hf;have h2:=List.find?_some hf;simp only[Qi]at h2;exact⟨R2 hk hg rfl,by rw[ub hg,<-h2];exact hT e' h1⟩
def Ah(b p:af)(ts:List ae)(q n:Nat)(l:List ai):Prop:=
 l.length<=n/\(∀e∈l,∃i t,i<n/\q.testBit i=true/\ts[i]?=some t/\e=vE b p i t)/\∀i t,i<n->q.testBit i=true->ts[i]?=some t->vE b p i t∈l
theorem Ah.nil(b p:af)(ts:List ae)(q:Nat):Ah b p ts q 0 []:=⟨by simp,by simp,fun i t h=>by omega⟩
theorem Ah.skip{b p:af}{ts:List ae}{q n:Nat}{l:List ai}(h:Ah b p ts q n l)(hq:q.testBit n=false):Ah b p ts q (n+1) l:=by
 obtain⟨h1,h2,h3⟩:=h;refine⟨by omega,fun e he=> ?_,fun i t hi hb ht=> ?_⟩
 ·obtain⟨i,t,a,b,c⟩:=h2 e he;exact⟨i,t,by omega,b,c⟩
 ·rcases Nat.lt_or_ge i n with h|h
  ·exact h3 i t h hb ht
  ·obtain rfl:i=n:=by omega
   rw[hq]at hb;cases hb
theorem Ah.take{b p:af}{ts:List ae}{q n:Nat}{l:List ai}(h:Ah b p ts q n l)(hq:q.testBit n=true){t:ae}(ht:ts[n]?=some t):Ah b p ts q (n+1) (l++[vE b p n t]):=by
 obtain⟨h1,h2,h3⟩:=h;refine⟨by simp;omega,fun e he=> ?_,fun i t' hi hb ht'=> ?_⟩
 ·rcases Qz.1 he with he|he
  ·obtain⟨i,t,a,b,c⟩:=h2 e he;exact⟨i,t,by omega,b,c⟩
  ·simp only[Q5]at he;exact⟨n,t,by omega,hq,ht,he⟩
 ·rcases Nat.lt_or_ge i n with h|h
  ·exact Qz.2 (.inl (h3 i t' h hb ht'))
  ·obtain rfl:i=n:=by omega
   rw[ht]at ht';injection ht' with ht'
   subst ht';exact Qz.2 (.inr (by simp))
section
variable {b p : af} (hb : VO b) (hp : aF p = true \/ cO p = true) {ts : List ae} (hts : ∀ t ∈ ts, dQ t) {q : Nat} {l : List ai} (hlen : ts.length <= 5) (hc : Ah b p ts q ts.length l)
 include hb hp hts hlen hc
end
end
section
section
variable {α : Type}
structure SWO (lt:α->α->Bool):Prop where
 asymm:∀x y,lt x y=true->lt y x=false
 trans:∀x y z,lt y x=false->lt z y=false->lt z x=false
end
end
section
section
variable {α : Type}
 def Vm(eq ne:α->α->Bool)(z:α)(K:Int)(n:Nat)(v6:Int×Int×(List α)×Unit):Option ((Int×Int×(List α)×Unit)⊕((Int×(List α)×Unit)⊕List α)):=
 bif (decide (v6.2.1<((List.length ((v6.2.2.1.drop (Int.toNat K)).take (Int.toNat (n:Int) - Int.toNat K)):Nat):Int)))then
 aX (fun(v7:Int×(List α)×Unit)=>
 some (Sum.inl (v7.1,(aA .i64 v6.2.1 (1:Int)),v7.2.1,()))) fun j8=>
 Option.bind (idx ((v6.2.2.1.drop (Int.toNat K)).take (Int.toNat (n:Int) - Int.toNat K)) v6.2.1) fun x9=>
 Option.bind (v6.2.2.1[((Int.toNat K)+Int.toNat v6.2.1)]?) fun x10=>
 Option.bind (idx ((v6.2.2.1.drop (Int.toNat K)).take (Int.toNat (n:Int) - Int.toNat K)) (dh .i64 v6.2.1 (1:Int))) fun x11=>
 Option.bind (v6.2.2.1[((Int.toNat K)+Int.toNat (dh .i64 v6.2.1 (1:Int)))]?) fun x12=>
 bif (ne x10 x12)then
 Option.bind (idx ((v6.2.2.1.drop (Int.toNat K)).take (Int.toNat (n:Int) - Int.toNat K)) v6.2.1) fun x13=>
 Option.bind (v6.2.2.1[((Int.toNat K)+Int.toNat v6.2.1)]?) fun x14=>
 Option.bind (idx v6.2.2.1 v6.1) fun x15=>
 Option.bind (v6.2.2.1[(Int.toNat v6.1)]?) fun x16=>
 j8 ((aA .i64 v6.1 (1:Int)),(v6.2.2.1.set (Int.toNat v6.1) x14),())
 else
 j8 (v6.1,v6.2.2.1,())
 else
 Option.map Sum.inr (bif cJ v6.1 ((List.length v6.2.2.1):Int) (List.length v6.2.2.1)then
 bif cJ (0:Int) v6.1 (List.length (v6.2.2.1.take (Int.toNat v6.1)++List.replicate (Int.toNat ((List.length v6.2.2.1):Int) - Int.toNat v6.1) z++v6.2.2.1.drop ((Int.toNat v6.1)+(Int.toNat ((List.length v6.2.2.1):Int) - Int.toNat v6.1))))then
 Option.map Sum.inr (some ((v6.2.2.1.take (Int.toNat v6.1)++List.replicate (Int.toNat ((List.length v6.2.2.1):Int) - Int.toNat v6.1) z++v6.2.2.1.drop ((Int.toNat v6.1)+(Int.toNat ((List.length v6.2.2.1):Int) - Int.toNat v6.1))).take (Int.toNat v6.1 - Int.toNat (0:Int))))
 else none
 else none)
 def OF(eq ne:α->α->Bool)(z:α)(v1:Int×(List α)×Unit):Option ((Int×(List α)×Unit)⊕List α):=
 bif (decide (v1.1<((List.length v1.2.1:Nat):Int)))then
 Option.bind (idx v1.2.1 v1.1) fun x2=>
 Option.bind (v1.2.1[(Int.toNat v1.1)]?) fun x3=>
 Option.bind (idx v1.2.1 (dh .i64 v1.1 (1:Int))) fun x4=>
 Option.bind (v1.2.1[(Int.toNat (dh .i64 v1.1 (1:Int)))]?) fun x5=>
 bif (eq x3 x5)then
 bif cJ v1.1 ((List.length v1.2.1):Int) (List.length v1.2.1)then
 aC (Vm eq ne z v1.1 (List.length v1.2.1)) (v1.1,(1:Int),v1.2.1,())
 else none
 else
 some (Sum.inl ((aA .i64 v1.1 (1:Int)),v1.2.1,()))
 else
 Option.map Sum.inr (some v1.2.1)
 def Mu(eq ne:α->α->Bool)(z:α)(s:List α):Option (List α):=
 bif (decide (((List.length s:Nat):Int)<(2:Int)))then
 some s
 else
 aC (OF eq ne z) ((1:Int),s,())
theorem Tu(d:List α){K n m:Nat}(hm:m<n - K):idx ((d.drop K).take (n - K)) (m:Int)=d[K+m]?:=by
 rw[bd,Qq68,Qr hm,List.getElem?_drop]
variable [DecidableEq α]
def sA(acc:List α)(x:α):List α:=if acc.getLast?=some x then acc else acc++[x]
def dd(l:List α):List α:=l.foldl sA []
theorem Xx(l:List α)(x:α):dd (l++[x])=sA (dd l) x:=by simp[dd,List.foldl_append]
theorem ae2(l:List α):(dd l).getLast?=l.getLast?:=by
 suffices h:∀r:List α,(dd r.reverse).getLast?=r.reverse.getLast? by
  have:=h l.reverse
  rwa [List.reverse_reverse]at this
 intro r
 induction r with
 |nil=>rfl
 |cons x r ih=>
  rw[List.reverse_cons,Xx,sA];split
  ·rename_i h;rw[h];simp
  ·simp
theorem Xw{s:List α}{k:Nat}{x:α}(h:s[k]?=some x):dd (s.take (k+1))=sA (dd (s.take k)) x:=by
 obtain⟨hl,hx⟩:=Qw.1 h;rw[Q7 hl,hx,Xx]
theorem R0{s:List α}{k:Nat}{x:α}(h:s[k]?=some x):(dd (s.take (k+1))).getLast?=some x:=by
 obtain⟨hl,hx⟩:=Qw.1 h;rw[ae2,Q7 hl,hx];simp
variable {eq ne : α -> α -> Bool} {z : α}
theorem MG(hne:∀x y,ne x y= !decide (x=y)){s:List α}{K:Nat}(hn:s.length<1000000000):∀(r i k2:Nat) (d:List α),k2+r=s.length - K->1<=k2->i<=K+k2 - 1->d.length=s.length->d.take i=dd (s.take (K+k2))->(∀j,K+k2 - 1<=j->d[j]?=s[j]?)->
  aC (Vm eq ne z (K:Int) s.length) ((i:Int),(k2:Int),d,())=some (.inr (dd s))
 |0,i,k2,d,hr,h1,hi,hd,ht,hs=>by
  have hKn:K+k2=s.length:=by omega
  refine bx ?_;have e1:(((d.drop K).take (s.length - K)).length)=s.length - K:=by simp;omega
  have e2:decide ((k2:Int)<((s.length - K:Nat):Int))=false:=Qh (by omega)
  have e3:∀n,cJ (i:Int) (d.length:Int) n=decide (d.length<=n):=by
   intro n;have:i<=d.length:=by omega
   simp only[cJ];have h1:decide ((0:Int)<=(i:Int))=true:=Qg (by omega)
   have h2:decide ((i:Int)<=(d.length:Int))=true:=Qg (by omega)
   rw[h1,h2,Bool.and_self,Bool.true_and,decide_eq_decide];omega
  have e4:(d.take i++List.replicate (d.length - i) z++d.drop (i+(d.length - i))).length=d.length:=by simp;omega
  have e5:cJ (0:Int) (i:Int) d.length=true:=by
   simp only[cJ,Qm,Qi];omega
  have e6:(d.take i++List.replicate (d.length - i) z++d.drop (i+(d.length - i))).take (i - 0)=dd s:=by
   rw[Nat.sub_zero,QL,List.take_append_of_le_length (by simp;omega),List.take_take,Nat.min_self,ht,hKn,Qq62]
  simp only[Vm,QV,e1,e2,Ql,e3,QI,decide_true,Qk,e4,e5,Int.toNat_zero,e6,Qe]
 |r+1,i,k2,d,hr,h1,hi,hd,ht,hs=>by
  have hKn:K+k2<s.length:=by omega
  obtain⟨x,hx⟩:∃x,s[K+k2]?=some x:=⟨_,Qv hKn⟩;obtain⟨y,hy⟩:∃y,s[K+(k2 - 1)]?=some y:=⟨_,Qv (by omega)⟩
  have e1:(((d.drop K).take (s.length - K)).length)=s.length - K:=by simp;omega
  have e2:decide ((k2:Int)<((s.length - K:Nat):Int))=true:=Qg (by omega)
  have e3:dh .i64 (k2:Int) 1=((k2 - 1:Nat):Int):=by rw[qH (by omega) (by omega)];omega
  have e4:aA .i64 (k2:Int) 1=((k2+1:Nat):Int):=bD (by omega) (by omega)
  have e5:aA .i64 (i:Int) 1=((i+1:Nat):Int):=bD (by omega) (by omega)
  have hdx:d[K+k2]?=some x:=by rw[hs _ (by omega),hx]
  have hdy:d[K+(k2 - 1)]?=some y:=by rw[hs _ (by omega),hy]
  have hv1:=Tu d (K:=K) (n:=s.length) (m:=k2) (by omega)
  have hv2:=Tu d (K:=K) (n:=s.length) (m:=k2 - 1) (by omega)
  obtain⟨w,hw⟩:∃w,d[i]?=some w:=⟨_,Qv (by omega)⟩
  have hstep:=Xw hx
  have hlast:(dd (s.take (K+k2))).getLast?=some y:=by
   have:=R0 hy
   rwa [show K+(k2 - 1)+1=K+k2 by omega]at this
  rw[sA,hlast]at hstep;have hil:i<d.length:=by omega
  by_cases hxy:x=y
  ·refine Eq.trans (bh (s':=((i:Int),((k2+1:Nat):Int),d,())) ?_) (MG hne hn r i (k2+1) d (by omega) (by omega) (by omega) hd ?_ fun j hj=>hs j (by omega))
   ·simp only[Vm,QV,e1,e2,Qk,aN,hv1,hdx,Qa,e3,hv2,hdy,hne,hxy,decide_true,Qo,Ql,e4]
   ·rw[show K+(k2+1)=K+k2+1 by omega,hstep,Qr (by rw[hxy]),ht]
  ·refine Eq.trans (bh (s':=(((i+1:Nat):Int),((k2+1:Nat):Int),d.set i x,())) ?_) (MG hne hn r (i+1) (k2+1) (d.set i x) (by omega) (by omega) (by omega) (by rw[QY];exact hd) ?_ fun j hj=> ?_)
   ·simp only[Vm,QV,e1,e2,Qk,aN,hv1,hdx,Qa,e3,hv2,hdy,hne,hxy,decide_false,Qp,e4,e5,bd,hw]
   ·rw[show K+(k2+1)=K+k2+1 by omega,hstep,Qs (fun e=>hxy (by injection e with e;exact e.symm)),<-ht,Q7 (by rw[QY];exact hil)]
    congr 1
    ·rw[List.take_set_of_le (QI _)]
    ·simp
   ·rw[List.getElem?_set,Qs (by omega)]
    exact hs j (by omega)
theorem Vl(heq:∀x y,eq x y=decide (x=y))(hne:∀x y,ne x y= !decide (x=y)){s:List α}(hn:s.length<1000000000):∀(r k:Nat),k+r=s.length->1<=k->dd (s.take k)=s.take k->aC (OF eq ne z) ((k:Int),s,())=some (dd s)
 |0,k,hr,h1,h=>by
  refine bx ?_;have hk:k=s.length:=by omega
  have e2:decide ((k:Int)<((s.length:Nat):Int))=false:=Qh (by omega)
  rw[hk,Qq62]at h;simp only[OF,e2,Ql,Qe,h]
 |r+1,k,hr,h1,h=>by
  have hk:k<s.length:=by omega
  obtain⟨x,hx⟩:∃x,s[k]?=some x:=⟨_,Qv hk⟩;obtain⟨y,hy⟩:∃y,s[k - 1]?=some y:=⟨_,Qv (by omega)⟩
  have e2:decide ((k:Int)<((s.length:Nat):Int))=true:=Qg (by omega)
  have e3:dh .i64 (k:Int) 1=((k - 1:Nat):Int):=by rw[qH (by omega) (by omega)];omega
  have e4:aA .i64 (k:Int) 1=((k+1:Nat):Int):=bD (by omega) (by omega)
  have hstep:=Xw hx
  have hlast:(dd (s.take k)).getLast?=some y:=by
   have:=R0 hy
   rwa [show k - 1+1=k by omega]at this
  rw[sA,hlast]at hstep
  by_cases hxy:x=y
  ·rw[Qr (by rw[hxy])]at hstep
   have e5:cJ (k:Int) (s.length:Int) s.length=true:=by
    simp only[cJ,Qm,Qi];omega
   have hin:=MG (eq:=eq) (z:=z) (K:=k) hne hn (s.length - k - 1) k 1 s (by omega) (by omega) (by omega) rfl (by rw[hstep,h]) (fun _ _=>rfl)
   refine bx ?_;simp only[OF,e2,Qk,bd,QV,hx,hy,e3,Qa,heq,hxy,decide_true,e5];exact hin
  ·rw[Qs (fun e=>hxy (by injection e with e;exact e.symm))]at hstep
   refine Eq.trans (bh (s':=(((k+1:Nat):Int),s,())) ?_) (Vl heq hne hn r (k+1) (by omega) (by omega) ?_)
   ·simp only[OF,e2,Qk,bd,QV,hx,hy,e3,Qa,heq,hxy,decide_false,Ql,e4]
   ·obtain⟨hl,hx'⟩:=Qw.1 hx;rw[hstep,h,Q7 hl,hx']
theorem zR(heq:∀x y,eq x y=decide (x=y))(hne:∀x y,ne x y= !decide (x=y))(s:List α)(hn:s.length<1000000000):Mu eq ne z s=some (dd s):=by
 unfold Mu
 by_cases h:s.length<2
 ·have e:decide (((s.length:Nat):Int)<2)=true:=Qg (by omega)
  rw[e,Qk]
  match s,h with
  |[],_=>rfl
  |[x],_=>rfl
 ·have e:decide (((s.length:Nat):Int)<2)=false:=Qh (by omega)
  rw[e,Ql];refine Vl heq hne hn (s.length - 1) 1 (by omega) (by omega) ?_
  cases s with
  |nil=>rfl
  |cons x l=>rfl
theorem YP(acc:List α)(x:α):∀y,y∈sA acc x↔y∈acc\/y=x:=by
 intro y;unfold sA;split
 ·rename_i h;have:=List.mem_of_getLast? h;exact⟨.inl,fun h'=>h'.elim id fun e=>e▸this⟩
 ·simp
theorem IL:∀(l acc:List α) (y:α),y∈l.foldl sA acc↔y∈acc\/y∈l
 |[],acc,y=>by simp
 |x::l,acc,y=>by
  rw[QU,IL l,YP];simp[or_assoc]
theorem agj(l:List α)(y:α):y∈dd l↔y∈l:=by rw[dd,IL];simp
theorem Vj(l:List α):(dd l).length<=l.length:=by
 suffices h:∀(l acc:List α),(l.foldl sA acc).length<=acc.length+l.length by simpa[dd]using h l []
 intro l
 induction l with
 |nil=>intro acc;simp
 |cons x l ih=>
  intro acc;rw[QU];refine QK (ih _) ?_;unfold sA;split<;>simp<;>omega
theorem aaC{lt:α->α->Bool}(ho:SWO lt)(hto:∀x y,lt x y=false->lt y x=false->x=y){l:List α}(hl:l.Pairwise (fun a b=>lt b a=false)):(dd l).Pairwise (fun a b=>lt a b=true):=by
 suffices h:∀(l acc:List α),(acc++l).Pairwise (fun a b=>lt b a=false)->acc.Pairwise (fun a b=>lt a b=true)->(l.foldl sA acc).Pairwise (fun a b=>lt a b=true)from h l [] (by simpa using hl) .nil
 intro l
 induction l with
 |nil=>intro acc _ h;exact h
 |cons x l ih=>
  intro acc h1 h2;rw[QU];unfold sA;split
  ·rename_i hlast;refine ih acc ?_ h2;rw[Qq69]at h1 ⊢;exact⟨h1.1,(Q4.1 h1.2.1).2,fun a ha b hb=>h1.2.2 a ha b (by simp[hb])⟩
  ·rename_i hlast;refine ih _ (by simpa using h1) ?_
   rw[Qq69]at h1 ⊢;refine⟨h2,by simp,fun a ha b hb=> ?_⟩
   rw[Q5.1 hb];have hax:lt x a=false:=h1.2.2 a ha x (by simp)
   cases hc:lt a x with
   |true=>rfl
   |false=>
    exfalso;have e:=hto a x hc hax;subst e
    obtain⟨y,hy⟩:∃y,acc.getLast?=some y:=by
     cases hg:acc.getLast? with
     |none=>rw[List.getLast?_eq_none_iff.1 hg]at ha;cases ha
     |some y=>exact⟨y,rfl⟩
    obtain⟨pre,rfl⟩:∃pre,acc=pre++[y]:=by
     have:=List.getLast?_eq_some_iff.1 hy;exact this
    rcases Qz.1 ha with ha|ha
    ·rw[Qq69]at h2;have h3:=h2.2.2 a ha y (by simp)
     have h4:=h1.2.2 y (by simp) a (by simp)
     rw[h3]at h4;cases h4
    ·rw[Q5.1 ha]at hlast;exact hlast hy
end
end
section
theorem aci(s:List Int):pR s=Mu (fun x y=>decide (x=y)) (fun x y=> !decide (x=y)) 0 s:=rfl
 def iP(v:ByteArray)(e:ai):Bool:=aU e&&decide (e.aa.Value=v)&& !decide (e.aS=0)
 def ends(v:ByteArray)(l:List ai):List Int:=l.flatMap fun e=>if iP v e then[e.aS,e.bl]else[]
theorem AI{v:ByteArray}{l:List ai}{x:Int}:x∈ends v l↔∃e∈l,iP v e=true/\(x=e.aS\/x=e.bl):=by
 simp only[ends,QQ];constructor
 ·rintro⟨e,he,hx⟩;split at hx
  ·rename_i h;exact⟨e,he,h,by simpa using hx⟩
  ·cases hx
 ·rintro⟨e,he,h,hx⟩;exact⟨e,he,by rw[Qr h];simpa using hx⟩
end
section
theorem JA{v:aW}{aB:Int}{l:List ai}(hl:l.length<=1000000)(hin:wF l)(val:ByteArray)(lo hi:Int):jO ⟨aB,v,l.map bH.mk⟩ val lo hi=some ((dL (fR · val lo hi) l:Nat):Int):=by
 unfold jO;refine F6 (fR · val lo hi) l hin _ (fun i e s he=> ?_) (fun s=> ?_)
 ·have hlt:i<l.length:=(Qw.1 he).1;have hd:decide ((i:Int)<(((l.map bH.mk).length:Nat):Int))=true:=Qg (by rw[QC];omega)
  have hw:aA .i64 (i:Int) 1=((i+1:Nat):Int):=bD (by omega) (by omega)
  have hx:idx (l.map bH.mk) (i:Int)=some ⟨e⟩:=by rw[bd,QT,he];rfl
  simp only[hd,hx,hw,Qk,Qa,etas,nH,vR,aN];cases fR e val lo hi<;>simp
 ·have hd:decide (((l.length:Nat):Int)<(((l.map bH.mk).length:Nat):Int))=false:=Qh (by rw[QC];exact Qq64 _)
  simp only[hd,Ql,Qe]
theorem Wy{v:aW}{aB:Int}{l:List ai}(hl:l.length<=1000000)(hin:wF l)(val:ByteArray)(lo hi:Int):gX ⟨aB,v,l.map bH.mk⟩ val lo hi val lo hi=some ((dL (fun e=>tK e val lo hi||fR e val lo hi) l:Nat):Int):=by
 unfold gX;refine F6 (fun e=>tK e val lo hi||fR e val lo hi) l hin _ (fun i e s he=> ?_) (fun s=> ?_)
 ·have hlt:i<l.length:=(Qw.1 he).1;have hd:decide ((i:Int)<(((l.map bH.mk).length:Nat):Int))=true:=Qg (by rw[QC];omega)
  have hw:aA .i64 (i:Int) 1=((i+1:Nat):Int):=bD (by omega) (by omega)
  have hx:idx (l.map bH.mk) (i:Int)=some ⟨e⟩:=by rw[bd,QT,he];rfl
  simp only[hd,hx,hw,Qk,Qa,etas,jT,nH,yB,vR,Ff,aN,lL,Bool.cond_true_left];cases (tK e val lo hi||fR e val lo hi)<;>simp
 ·have hd:decide (((l.length:Nat):Int)<(((l.map bH.mk).length:Nat):Int))=false:=Qh (by rw[QC];exact Qq64 _)
  simp only[hd,Ql,Qe]
 def Ii(aB:Nat)(t:ae)(l:List ai):gW:=⟨aB,⟨gD aB t l⟩,(bW l).map bH.mk⟩
 def mi(aB:Nat)(t:ae)(l:List ai)(val:ByteArray)(lo hi:Int):Bool:=
 kL (gD aB t l) aB (dL (fun e=>tK e val lo hi||fR e val lo hi) (bW l)) (dL (fR · val lo hi) (bW l))
 def tq(aB:Nat)(t:ae)(l:List ai)(val:ByteArray)(lo hi:Int):Bool:=
 (gq (gD aB t l) (dL (fR · val lo hi) (bW l))).testBit aB
section
variable {aB : Nat} (hn : aB < 10) {t : ae} (ht : cQ t) {l : List ai} (hl : rS l)
 include hn ht hl
theorem TT(val:ByteArray)(lo hi:Int):iK (Ii aB t l) val lo hi=some (mi aB t l val lo hi):=by
 have hlen:=hl.len;have hrl:=Cz l;have hin:=nm l
 simp only[Ii,iK,pX,kT,Qa,Wy (by omega:(bW l).length<=1000000) hin,JA (by omega:(bW l).length<=1000000) hin,
  xO (mI ht hl) hn (mH hin) (mH hin),mi]
theorem adz(val:ByteArray)(lo hi:Int):ou (Ii aB t l) val lo hi=some (tq aB t l val lo hi):=by
 have hlen:=hl.len;have hrl:=Cz l;have hin:=nm l;simp only[Ii,ou,pX,mT,Qa,JA (by omega:(bW l).length<=1000000) hin,wu (mI ht hl) hn (mH hin),tq]
theorem look_eq:fW aB t l=some (Ii aB t l):=Re hn ht hl
end
def cF(q:Int->Bool):List Int->Int->Int
 |[],lo=>lo
 |e::l,lo=>if lo<=e then cF q l lo else if q e then cF q l e else lo
theorem C3{p:Int->Option Bool}{q:Int->Bool}(h:∀e,p e=some (q e)):∀(l:List Int) (lo:Int),nQ (fun(m5:Nat) (e6:Int) (v4:Int×Unit)=>
  bif (decide (v4.1<=e6))then some (Sum.inl (v4.1,()))else
  Option.bind (p e6) fun r7=>bif (!r7)then Option.map Sum.inr (some v4.1)else some (Sum.inl (e6,()))) (fun v8=>some v8.1) l (lo,())=some (cF q l lo)
 |[],lo=>rfl
 |e::l,lo=>by
  rw[nQ,cF]
  by_cases hle:lo<=e
  ·rw[Qr hle];simp only[hle,decide_true,Qk];exact C3 h l lo
  ·rw[Qs hle];simp only[hle,decide_false,Ql,h,Qa]
   cases hq:q e with
   |true=>
    simp only[Qo,Ql,Qt];have:=C3 h l e;simp only[h,Qa]at this;exact this
   |false=>rfl
def flat(n:Nat)(k:Int):ae:=⟨k,wM n,[]⟩
theorem LI(s n:Nat)(k:Int):lH s (flat n k)=decide (k<=(((wM n).countP (mo s):Nat):Int)):=by
 rw[JP];simp[flat,ya]
theorem YR{s s':Nat}(h:∀k,s.testBit k=true->s'.testBit k=true)(l:List Int):l.countP (mo s)<=l.countP (mo s'):=List.countP_mono_left fun x _ hx=>R7 h x hx
structure Hq (n:Nat) (k:Int) (l:List ai):Prop where
 n10:n<=10
 k1:1<=k
 kn:k<=n
 valid:∀e∈l,aU e=true
 aL:∀e∈l,e.aj=flat n k
 few:l.length<=1000
 all:∀i,i<n->∃e∈l,e.an.toNat=i
theorem Hq.hU{n:Nat}{k:Int}{l:List ai}(h:Hq n k l):dQ (flat n k):=aau n h.n10 k h.k1 h.kn
theorem Hq.sm{n:Nat}{k:Int}{l:List ai}(h:Hq n k l):rS l:=⟨by have:=h.few;omega,fun e he=>by rw[h.aL e he];exact h.hU.sm⟩
theorem Hq.bW{n:Nat}{k:Int}{l:List ai}(h:Hq n k l):Go.Proofs.YtjbfdglebjnelaaGreat.bW l=l:=Nd h.valid
def cE(n:Nat)(k:Int)(c:Int)(v:ByteArray)(lo hi:Nat->Int)(i:Nat):ai:=⟨i,1,1,flat n k,2,⟨c,v⟩,⟨c,v⟩,⟨0,ByteArray.mk #[]⟩,lo i,hi i⟩
end
section
def xu(b:List Int)(sure:Int->Int->Bool):Int×Int×Bool×Unit:=
 match b.reverse.find? (fun e=>sure e e)with
 |some e=>(cF (fun x=>sure x e) b.reverse e,e,true,())
 |none=>(0,0,false,())
theorem Xn{p:Int->Option Bool}{q:Int->Bool}{d:Int->Option Int}{f:Int->Int}(hp:∀e,p e=some (q e))(hd:∀e,d e=some (f e)):∀r:List Int,nQ (fun(m5:Nat) (e6:Int) (v4:Int×Int×Bool×Unit)=>
  Option.bind (p e6) fun r7=>bif r7 then Option.bind (d e6) fun r8=>Option.map Sum.inr (some (r8,e6,true,()))else some (Sum.inl (v4.1,v4.2.1,v4.2.2.1,()))) (fun(v9:Int×Int×Bool×Unit)=>some ((0:Int),(0:Int),false,())) r ((0:Int),(0:Int),false,())=
  some (match r.find? q with|some e=>(f e,e,true,())|none=>(0,0,false,()))
 |[]=>rfl
 |e::r=>by
  have ih:=Xn hp hd r;rw[nQ,List.find?_cons];simp only[hp,hd,Qa,Qe]at ih ⊢
  cases q e with
  |true=>rfl
  |false=>simp only[Ql];exact ih
section
variable {aB : Nat} (hn : aB < 10) {t : ae} (ht : cQ t) {l : List ai} (hl : rS l)
 include hn ht hl
end
section
variable {n : Nat} {k c : Int} {v : ByteArray} {lo hi : Nat -> Int} (h : Hq n k ((List.range n).map (cE n k c v lo hi))) {i : Nat} (hi' : i < n)
 include h hi'
end
end
section
section
variable {α : Type}
structure xA (lt:α->α->Bool):Prop where
 irrefl:∀x,lt x x=false
 trans:∀x y z,lt x y=true->lt y z=true->lt x z=true
 total:∀x y,lt x y=false->lt y x=false->x=y
variable {lt : α -> α -> Bool}
theorem xA.asymm(h:xA lt){x y:α}(hxy:lt x y=true):lt y x=false:=by
 cases hc:lt y x with
 |false=>rfl
 |true=>have:=h.trans x y x hxy hc;rw[h.irrefl]at this;cases this
theorem xA.ntrans(h:xA lt){x y z:α}(h1:lt x y=false)(h2:lt y z=false):lt x z=false:=by
 cases hc:lt x z with
 |false=>rfl
 |true=>
  cases hyx:lt y x with
  |false=>rw[h.total x y h1 hyx,h2]at hc;cases hc
  |true=>have:=h.trans y x z hyx hc;rw[h2]at this;cases this
theorem xA.kit(h:xA lt):Go.Sort.SWO lt:=⟨h.irrefl,h.trans,fun _ _ _=>h.ntrans⟩
theorem xA.own(h:xA lt):SWO lt:=⟨fun _ _=>h.asymm,fun _ _ _ h1 h2=>h.ntrans h2 h1⟩
theorem xA.flip(h:xA lt):xA fun a b=>lt b a:=⟨h.irrefl,fun x y z h1 h2=>h.trans z y x h2 h1,fun x y h1 h2=>h.total x y h2 h1⟩
theorem xA.unique(h:xA lt):∀{a b:List α},a.Pairwise (fun x y=>lt x y=true)->b.Pairwise (fun x y=>lt x y=true)->(∀x,x∈a↔x∈b)->a=b
 |[],[],_,_,_=>rfl
 |[],y::b,_,_,h'=>by have:=(h' y).2 (by simp);cases this
 |x::a,[],_,_,h'=>by have:=(h' x).1 (by simp);cases this
 |x::a,y::b,ha,hb,h'=>by
  rw[Q4]at ha hb
  have hxy:x=y:=by
   have h1:=(h' x).1 (by simp)
   have h2:=(h' y).2 (by simp)
   rcases QA.1 h1 with h1|h1
   ·exact h1
   ·rcases QA.1 h2 with h2|h2
    ·exact h2.symm
    ·have q1:=ha.1 y h2;have q2:=hb.1 x h1;rw[h.asymm q1]at q2;cases q2
  subst hxy;congr 1;refine h.unique ha.2 hb.2 fun z=>⟨fun hz=> ?_,fun hz=> ?_⟩
  ·rcases QA.1 ((h' z).1 (by simp[hz]))with e|e
   ·subst e;have:=ha.1 z hz;rw[h.irrefl]at this;cases this
   ·exact e
  ·rcases QA.1 ((h' z).2 (by simp[hz]))with e|e
   ·subst e;have:=hb.1 z hz;rw[h.irrefl]at this;cases this
   ·exact e
theorem xA.TG[DecidableEq α](h:xA lt){cmp:α->α->Option Int}{c:α->α->Int}(hc:∀x y,cmp x y=some (c x y))(hlt:∀x y,decide (c x y<0)=lt x y)(s:List α)(hs:s.length<1000000000):
  ∃t,B4 cmp s=some ((),t)/\t.length=s.length/\(dd t).Pairwise (fun x y=>lt x y=true)/\∀x,x∈dd t↔x∈s:=by
 have hcf:Js cmp=c:=funext fun x=>funext fun y=>by unfold Js;rw[hc];rfl
 have hl:Go.Proofs.ltOf (Js cmp)=lt:=by
  rw[hcf];exact funext fun x=>funext fun y=>hlt x y
 have hok:ado cmp:=⟨fun x y=>by rw[hcf];exact hc x y,by rw[hl];exact h.kit,fun x y h1 h2=>by rw[hl]at h1 h2;exact h.total x y h1 h2⟩
 refine⟨s.mergeSort fun x y=> !lt y x,?_,List.length_mergeSort s,aaC h.own h.total ?_,fun x=>by rw[agj,List.mem_mergeSort]⟩
 ·unfold B4;rw[Qr ⟨hok,by omega⟩,hl]
 ·refine(List.pairwise_mergeSort (le:=fun x y=> !lt y x) (fun a b c h1 h2=> ?_) (fun a b=> ?_) s).imp fun{a b} hab=>by simpa using hab
  ·simp only[Bool.not_eq_true']at h1 h2 ⊢;exact h.ntrans h2 h1
  ·cases hab:lt a b with
   |false=>simp
   |true=>rw[h.asymm hab];rfl
end
theorem CU:xA fun a b:Int=>decide (a<b):=
 ⟨fun x=>Qh (Qq64 x),fun x y z h1 h2=>by simp only[Qi]at*;omega,fun x y h1 h2=>by simp only[Qj]at*;omega⟩
theorem Vv:∀{x y z:List UInt8},Op.bytesLess x y=true->Op.bytesLess y z=true->Op.bytesLess x z=true
 |[],[],_,h,_=>by simp[Op.bytesLess]at h
 |_::_,[],_,h,_=>by simp[Op.bytesLess]at h
 |[],_::_,[],_,h=>by simp[Op.bytesLess]at h
 |[],_::_,_::_,_,_=>rfl
 |_::_,_::_,[],_,h=>by simp[Op.bytesLess]at h
 |a::x,b::y,c::z,h,h'=>by
  simp only[Op.bytesLess,Qn,Qi,Qm,beq_iff_eq]at h h' ⊢;rcases h with h|⟨rfl,h⟩
  ·rcases h' with h'|⟨rfl,h'⟩
   ·exact .inl (UInt8.lt_trans h h')
   ·exact .inl h
  ·rcases h' with h'|⟨rfl,h'⟩
   ·exact .inl h'
   ·exact .inr ⟨rfl,Vv h h'⟩
theorem V0{a b c:ByteArray}(h:kJ a b=true)(h':kJ b c=true):kJ a c=true:=Vv h h'
theorem V1{a b:ByteArray}(h:a≠b):kJ a b=true\/kJ b a=true:=
 Vw fun e=>h (by
  rw[Lib.toList_data,Lib.toList_data]at e;cases a;cases b;rename_i x y;cases x;cases y
  simp_all)
theorem iu:xA bJ:=by
 refine⟨fun x=>by rw[bJ,Qr rfl,Da],fun x y z h1 h2=> ?_,fun x y h1 h2=> ?_⟩
 ·unfold bJ at*
  by_cases e1:x.size=y.size
  ·rw[Qr e1]at h1
   by_cases e2:y.size=z.size
   ·rw[Qr e2]at h2;rw[Qr (e1.trans e2)];exact V0 h1 h2
   ·rw[Qs e2]at h2;rw[Qs (by omega),e1]
    exact h2
  ·rw[Qs e1,Qi]at h1
   by_cases e2:y.size=z.size
   ·rw[Qs (by omega),<-e2]
    exact Qg h1
   ·rw[Qs e2,Qi]at h2;rw[Qs (by omega)]
    exact Qg (by omega)
 ·unfold bJ at*
  by_cases e1:x.size=y.size
  ·rw[Qr e1]at h1;rw[Qr e1.symm]at h2;refine Classical.byContradiction fun hne=> ?_
   rcases V1 hne with h|h
   ·rw[h]at h1;cases h1
   ·rw[h]at h2;cases h2
  ·rw[Qs e1,Qj]at h1;rw[Qs (fun e=>e1 e.symm),Qj]at h2
   omega
theorem Bb:xA bz:=by
 refine⟨fun x=>by rw[bz,Qr rfl,iu.irrefl],fun x y z h1 h2=> ?_,fun x y h1 h2=> ?_⟩
 ·unfold bz at*
  by_cases e1:x.ak=y.ak
  ·rw[Qr e1]at h1
   by_cases e2:y.ak=z.ak
   ·rw[Qr e2]at h2;rw[Qr (e1.trans e2)];exact iu.trans _ _ _ h1 h2
   ·rw[Qs e2]at h2;rw[Qs (by omega),e1]
    exact h2
  ·rw[Qs e1,Qi]at h1
   by_cases e2:y.ak=z.ak
   ·rw[Qs (by omega),<-e2]
    exact Qg h1
   ·rw[Qs e2,Qi]at h2;rw[Qs (by omega)]
    exact Qg (by omega)
 ·unfold bz at*
  by_cases e1:x.ak=y.ak
  ·rw[Qr e1]at h1;rw[Qr e1.symm]at h2;have:=iu.total _ _ h1 h2;cases x;cases y
   simp_all
  ·rw[Qs e1,Qj]at h1;rw[Qs (fun e=>e1 e.symm),Qj]at h2
   omega
end
section
structure O5 (n:Nat) (l:List ai):Prop where
 of:∀e∈l,∃i:Nat,i<n/\O6 i 1 n e
 F0:l.Pairwise fun a b=>a.an<b.an
 len:l.length<=n
theorem O5.valid{n:Nat}{l:List ai}(h:O5 n l):∀e∈l,aU e=true:=fun e he=>by
 obtain⟨i,_,hi⟩:=h.of e he;rw[aU,Rl hi.aL];exact hi.valid
theorem O5.sm{n:Nat}{l:List ai}(h:O5 n l)(hn:n<=1000):rS l:=⟨by have:=h.len;omega,fun e he=>by
 obtain⟨i,_,hi⟩:=h.of e he
 exact hi.aL.sm⟩
theorem F3.mono{l:List aR}{s s' r:Nat}(h:∀k,s.testBit k=true->s'.testBit k=true)(hi:F3 l s r):F3 l s' r:=fun k hk=>⟨h k (hi k hk).1,(hi k hk).2⟩
section
variable {aB : Nat} {t : ae} (ht : cQ t) {l : List ai} (hl : rS l) {v : ByteArray} {lo hi k : Int} (h1 : lo <= k) (h2 : k <= hi)
 include ht hl h1 h2
end
end
section
section
variable {α : Type}
 def ue(p:α->Option Bool)(a0:List α)(v1:Int×Unit):Option ((Int×Unit)⊕Int):=
 bif (decide (v1.1<((List.length a0:Nat):Int)))then
  Option.bind (idx a0 v1.1) fun x2=>Option.bind (p x2) fun r3=>bif r3 then Option.map Sum.inr (some v1.1)else some (Sum.inl ((aA .i64 v1.1 (1:Int)),()))
 else Option.map Sum.inr (some (-1:Int))
 def aaq(p:α->Option Bool)(a0:List α):Option Int:=aC (ue p a0) ((0:Int),())
 def FT(p:α->Option Bool)(z:α)(v2:Int×Int×(List α)×Unit):Option ((Int×Int×(List α)×Unit)⊕List α):=
 bif (decide (v2.2.1<((List.length v2.2.2.1:Nat):Int)))then
  aX (fun(v3:Int×(List α)×Unit)=>some (Sum.inl (v3.1,(aA .i64 v2.2.1 (1:Int)),v3.2.1,()))) fun j4=>
  Option.bind (idx v2.2.2.1 v2.2.1) fun x5=>Option.bind (v2.2.2.1[(Int.toNat v2.2.1)]?) fun x6=>Option.bind (p x6) fun r7=>
  bif (!r7)then
   Option.bind (idx v2.2.2.1 v2.1) fun x8=>Option.bind (v2.2.2.1[(Int.toNat v2.1)]?) fun x9=>j4 ((aA .i64 v2.1 (1:Int)),(v2.2.2.1.set (Int.toNat v2.1) x6),())
  else j4 (v2.1,v2.2.2.1,())
 else
  Option.map Sum.inr (bif cJ v2.1 ((List.length v2.2.2.1):Int) (List.length v2.2.2.1)then
   bif cJ (0:Int) v2.1 (List.length (v2.2.2.1.take (Int.toNat v2.1)++List.replicate (Int.toNat ((List.length v2.2.2.1):Int) - Int.toNat v2.1) z++v2.2.2.1.drop ((Int.toNat v2.1)+(Int.toNat ((List.length v2.2.2.1):Int) - Int.toNat v2.1))))then
    some ((v2.2.2.1.take (Int.toNat v2.1)++List.replicate (Int.toNat ((List.length v2.2.2.1):Int) - Int.toNat v2.1) z++v2.2.2.1.drop ((Int.toNat v2.1)+(Int.toNat ((List.length v2.2.2.1):Int) - Int.toNat v2.1))).take (Int.toNat v2.1 - Int.toNat (0:Int)))
   else none
  else none)
 def Xl(p:α->Option Bool)(z:α)(s:List α):Option (List α):=
 Option.bind (aaq p s) fun r1=>bif (decide (r1=(-1:Int)))then some s else aC (FT p z) (r1,(aA .i64 r1 (1:Int)),s,())
theorem E4{q:α->Bool}{s:List α}{j:Nat}{x:α}(h:s[j]?=some x):(s.take (j+1)).filter q=(s.take j).filter q++if q x then[x]else[]:=by
 obtain⟨hl,hx⟩:=Qw.1 h;rw[Q7 hl,List.filter_append,hx];congr 1;cases hq:q x<;>simp[hq]
variable {p : α -> Option Bool} {q : α -> Bool} (hp : ∀ x, p x = some (q x)) {z : α}
 include hp
theorem US{s:List α}(hs:s.length<1000000000):∀(k i:Nat),i+k=s.length->(s.take i).filter (fun x=> !q x)=s.take i->
  (∃m:Nat,∃x,aC (ue p s) ((i:Int),())=some (m:Int)/\(s.take m).filter (fun x=> !q x)=s.take m/\s[m]?=some x/\q x=true)\/(aC (ue p s) ((i:Int),())=some (-1)/\s.filter (fun x=> !q x)=s)
 |0,i,hi,hf=>by
  have hd:decide ((i:Int)<((s.length:Nat):Int))=false:=Qh (by omega)
  refine .inr ⟨bx ?_,?_⟩
  ·simp only[ue,hd,Ql,Qe]
  ·rwa [show i=s.length by omega,Qq62]at hf
 |k+1,i,hi,hf=>by
  have hd:decide ((i:Int)<((s.length:Nat):Int))=true:=Qg (by omega)
  have hw:aA .i64 (i:Int) 1=((i+1:Nat):Int):=bD (by omega) (by omega)
  obtain⟨x,hx⟩:∃x,s[i]?=some x:=⟨_,Qv (by omega)⟩
  cases hq:q x with
  |true=>
   refine .inl ⟨i,x,bx ?_,hf,hx,hq⟩;simp only[ue,hd,Qk,bd,hx,Qa,hp,hq,Qe]
  |false=>
   have hstep:aC (ue p s) ((i:Int),())=aC (ue p s) (((i+1:Nat):Int),()):=bh (by simp only[ue,hd,Qk,bd,hx,Qa,hp,hq,Ql,hw])
   rw[hstep];refine US hs k (i+1) (by omega) ?_
   rw[E4 hx,hf,hq];obtain⟨hl,hx'⟩:=Qw.1 hx;rw[Q7 hl,hx'];rfl
theorem MA{s:List α}(hs:s.length<1000000000):∀(r i j:Nat) (d:List α),j+r=s.length->i<j->d.length=s.length->d.take i=(s.take j).filter (fun x=> !q x)->(∀m,j<=m->d[m]?=s[m]?)->
  aC (FT p z) ((i:Int),(j:Int),d,())=some (s.filter fun x=> !q x)
 |0,i,j,d,hr,hij,hd,ht,hm=>by
  have e2:decide ((j:Int)<((d.length:Nat):Int))=false:=Qh (by omega)
  refine bx ?_
  have e3:∀n,cJ (i:Int) (d.length:Int) n=decide (d.length<=n):=by
   intro n;simp only[cJ];have h1:decide ((0:Int)<=(i:Int))=true:=Qg (by omega)
   have h2:decide ((i:Int)<=(d.length:Int))=true:=Qg (by omega)
   rw[h1,h2,Bool.and_self,Bool.true_and,decide_eq_decide];omega
  have e4:(d.take i++List.replicate (d.length - i) z++d.drop (i+(d.length - i))).length=d.length:=by simp;omega
  have e5:cJ (0:Int) (i:Int) d.length=true:=by
   simp only[cJ,Qm,Qi];omega
  have e6:(d.take i++List.replicate (d.length - i) z++d.drop (i+(d.length - i))).take (i - 0)=s.filter fun x=> !q x:=by
   rw[Nat.sub_zero,QL,List.take_append_of_le_length (by simp;omega),List.take_take,Nat.min_self,ht,show j=s.length by omega,Qq62]
  simp only[FT,e2,Ql,QV,e3,QI,decide_true,Qk,e4,e5,Int.toNat_zero,e6,Qe]
 |r+1,i,j,d,hr,hij,hd,ht,hm=>by
  have e2:decide ((j:Int)<((d.length:Nat):Int))=true:=Qg (by omega)
  have ej:aA .i64 (j:Int) 1=((j+1:Nat):Int):=bD (by omega) (by omega)
  have ei:aA .i64 (i:Int) 1=((i+1:Nat):Int):=bD (by omega) (by omega)
  obtain⟨x,hx⟩:∃x,s[j]?=some x:=⟨_,Qv (by omega)⟩
  obtain⟨y,hy⟩:∃y,d[i]?=some y:=⟨_,Qv (by omega)⟩
  have hdx:d[j]?=some x:=by rw[hm j (QI _),hx]
  have hstep:=E4 (q:=fun x=> !q x) hx
  cases hq:q x with
  |true=>
   rw[hq]at hstep;refine(bh (s':=((i:Int),((j+1:Nat):Int),d,())) ?_).trans (MA hs r i (j+1) d (by omega) (by omega) hd (by rw[hstep,ht];simp) fun m h=>hm m (by omega))
   simp only[FT,e2,Qk,aN,bd,QV,hdx,Qa,hp,hq,Qo,Ql,ej]
  |false=>
   rw[hq]at hstep;refine(bh (s':=(((i+1:Nat):Int),((j+1:Nat):Int),d.set i x,())) ?_).trans (MA hs r (i+1) (j+1) (d.set i x) (by omega) (by omega) (by rw[QY];exact hd) ?_ fun m h=> ?_)
   ·simp only[FT,e2,Qk,aN,bd,QV,hdx,hy,Qa,hp,hq,Qp,ej,ei]
   ·rw[hstep,<-ht,Q7 (by rw[QY];omega),List.take_set_of_le (QI _)]
    simp
   ·rw[List.getElem?_set,Qs (by omega)]
    exact hm m (by omega)
theorem YB(s:List α)(hs:s.length<1000000000):Xl p z s=some (s.filter fun x=> !q x):=by
 rw[Xl,aaq];rcases US hp hs s.length 0 (by omega) (by simp)with⟨m,x,h1,h2,h3,h4⟩|⟨h1,h2⟩
 ·have hm:m<s.length:=(Qw.1 h3).1;have h1':aC (ue p s) ((0:Int),())=some (m:Int):=h1;have e:decide ((m:Int)= -1)=false:=Qh (by omega)
  rw[h1',Qa,e,Ql,show aA .i64 (m:Int) 1=((m+1:Nat):Int)from bD (by omega) (by omega)]
  refine MA hp hs (s.length - (m+1)) m (m+1) s (by omega) (by omega) rfl ?_ fun _ _=>rfl
  rw[E4 h3,h2,h4];simp
 ·have h1':aC (ue p s) ((0:Int),())=some (-1):=h1;rw[h1',Qa,h2];rfl
end
theorem Hf{α β ρ:Type}(l:List α)(hl:l.length<=1000000)(f:α->List β)(hf:∀x∈l,(f x).length<=3){step:Int×List β×Unit->Option ((Int×List β×Unit)⊕ρ)}{fin:List β->Option ρ}
  (h1:∀(i:Nat) (x:α) (acc:List β),x∈l->decide ((i:Int)<((l.length:Nat):Int))=true->idx l (i:Int)=some x->aA .i64 (i:Int) 1=((i+1:Nat):Int)->(∀bytes n:Nat,bytes<=40->n<=3->acc.length<=3000000->bc bytes (acc.length+n)=true)->acc.length<=3000000->step ((i:Int),acc,())=some (.inl (((i+1:Nat):Int),acc++f x,())))
  (h2:∀acc,decide (((l.length:Nat):Int)<((l.length:Nat):Int))=false->step (((l.length:Nat):Int),acc,())=Option.map Sum.inr (fin acc)):aC step ((0:Int),([]:List β),())=fin (l.flatMap f):=by
 suffices key:∀(k i:Nat) (acc:List β),i+k=l.length->acc=(l.take i).flatMap f->acc.length<=3*i->aC step ((i:Int),acc,())=fin (l.flatMap f)from key l.length 0 [] (by omega) (by simp) (by simp)
 intro k
 induction k with
 |zero=>
  intro i acc hi ha hal;obtain rfl:i=l.length:=by omega
  rw[Qq62]at ha;rw[ff,h2 acc (Qh (Qq64 _)),ha];cases fin (l.flatMap f)<;>rfl
 |succ k ih=>
  intro i acc hi ha hal;have hlt:i<l.length:=by omega
  have hx:l[i]?=some l[i]:=Qv hlt;have:=hf _ (Q0 hlt);refine(bh (h1 i l[i] acc (Q0 hlt) (Qg (by omega)) (by rw[bd];exact hx) (bD (by omega) (by omega)) (fun bytes n hb hn ha=> ?_) (by omega))).trans (ih (i+1) _ (by omega) ?_ (by rw[QB];omega))
  ·simp only[bc,Qm,Qi];exact⟨QK (Nat.mul_le_mul (show acc.length+n<=3000003 by omega) hb) (show 3000003*40<=140737488355328 by decide),QK (show acc.length+n<=3000003 by omega) (by simp[maxLen])⟩
  ·rw[Q7 hlt,List.flatMap_append,ha];simp
instance:Inhabited af:=⟨⟨0,ByteArray.mk #[]⟩⟩
instance:DecidableEq af:=fun a b=>decidable_of_iff (a.ak=b.ak/\a.Value=b.Value) (by cases a;cases b;simp)
theorem adw(s:List af)(hs:s.length<1000000000):∃b,fc s=some b/\b.Pairwise (fun x y=>bz y x=true)/\b.length<=s.length/\∀x,x∈b↔x∈s:=by
 obtain⟨t,h1,h2,h3,h4⟩:=Bb.flip.TG (cmp:=n9) (c:=fun x y=>Vq y x) (fun x y=>by simp[n9]) (fun x y=>Vp y x) s hs
 have hc:=zR (eq:=fun x y:af=>mh false x.ak y.ak x.Value y.Value) (ne:=fun x y=>mh true x.ak y.ak x.Value y.Value) (z:=af.mk 0 (ByteArray.mk #[])) (fun x y=>by
  rw[BR,QW];cases x;cases y;simp) (fun x y=>by
  rw[ab7];congr 1;rw[QW];cases x;cases y
  simp) t (by omega)
 refine⟨dd t,?_,h3,by have:=Vj t;omega,h4⟩
 have h1':gl s=some ((),t):=h1;have hc':iU t=some (dd t):=hc;simp only[fc,h1',hc',Qa]
theorem adu(s:List ByteArray)(hs:s.length<1000000000):∃b,gg s=some b/\b.Pairwise (fun x y=>bJ x y=true)/\b.length<=s.length/\∀x,x∈b↔x∈s:=by
 obtain⟨t,h1,h2,h3,h4⟩:=iu.TG (cmp:=iq) (c:=vx) (fun x y=>Cg x y) tr s hs
 have hc:=zR (eq:=fun x y:ByteArray=>decide (x=y)) (ne:=fun x y=> !decide (x=y)) (z:=ByteArray.mk #[]) (fun _ _=>rfl) (fun _ _=>rfl) t (by omega)
 refine⟨dd t,?_,h3,by have:=Vj t;omega,h4⟩
 have h1':jl s=some ((),t):=h1;have hc':dR t=some (dd t):=hc;simp only[gg,h1',hc',Qa]
theorem acn(a b:Int):decide (yv a b<0)=decide (a<b):=by rw[decide_eq_decide];exact Hg a b
theorem adv(s:List Int)(hs:s.length<1000000000):∃b,ik s=some b/\b.Pairwise (·<·)/\b.length<=s.length/\∀x,x∈b↔x∈s:=by
 obtain⟨t,h1,h2,h3,h4⟩:=CU.TG (cmp:=fe) (c:=yv) (fun x y=>Hr x y) acn s hs
 have hc:=zR (eq:=fun x y:Int=>decide (x=y)) (ne:=fun x y=> !decide (x=y)) (z:=0) (fun _ _=>rfl) (fun _ _=>rfl) t (by omega)
 refine⟨dd t,?_,h3.imp fun h=>of_decide_eq_true h,by have:=Vj t;omega,h4⟩
 have h1':lM s=some ((),t):=h1;simp only[ik,h1',Qa,aci,hc]
 def said(e:ai):List af:=if aU e then(if e.bF=1 then[e.aa,e.ao,e.az]else if e.bF=2 then[e.ao,at_ e 1000000]else[at_ e 1000000])else[]
theorem Gq(e:ai):(said e).length<=3:=by
 unfold said;split
 ·split
  ·simp
  ·split<;>simp
 ·simp
theorem vo{α β:Type}(f:α->List β)(hf:∀x,(f x).length<=3):∀l:List α,(l.flatMap f).length<=3*l.length
 |[]=>by simp
 |x::l=>by
  have:=vo f hf l;have:=hf x;rw[List.flatMap_cons,QB,QE];omega
section
variable {l : List ai} (hl : ∀ e ∈ l, cQ e.aj) (hlen : l.length <= 1000)
 include hl hlen
theorem Zi:∃b,iV l=some b/\b.Pairwise (fun x y=>bz y x=true)/\b.length<=3000/\∀x,x∈b↔∃e∈l,x∈said e/\aF x=false:=by
 have hd:=YB (p:=bw) (q:=aF) cz (z:=af.mk 0 (ByteArray.mk #[])) (l.flatMap said) (by have:=vo said Gq l;omega)
 obtain⟨b,h1,h2,hbl,h3⟩:=adw ((l.flatMap said).filter fun x=> !aF x) (by have:=vo said Gq l;have:=List.length_filter_le (fun x=> !aF x) (l.flatMap said);omega)
 refine⟨b,?_,h2,by have:=vo said Gq l;have:=List.length_filter_le (fun x=> !aF x) (l.flatMap said);omega,fun x=> ?_⟩
 ·unfold iV;refine(Hf l (by omega) said (fun e _=>Gq e) (fin:=fun acc=>Option.bind (ez acc) fun r8=>Option.bind (fc r8) fun r9=>some r9) (fun i e acc he hd hx hw hok hal=> ?_) (fun acc hd=> ?_)).trans ?_
  ·have o1:=hok 24 3 (by omega) (by omega) hal
   have o2:=hok 24 2 (by omega) (by omega) hal
   have o3:=hok 24 1 (by omega) (by omega) hal
   simp only[hd,hx,hw,Qk,aN,Qa,etas,rN (hl e he),Cv,QE,QZ,o1,o2,o3,Nat.zero_add,Nat.reduceAdd];unfold said at_
   cases aU e<;>by_cases k1:e.bF=1<;>by_cases k2:e.bF=2<;>simp[k1,k2]
  ·simp only[hd,Ql]
  ·have hd':ez (l.flatMap said)=_:=hd;simp only[hd',h1,Qa]
 ·rw[h3,List.mem_filter,QQ];constructor
  ·rintro⟨⟨e,he,hx⟩,hz⟩;exact⟨e,he,hx,by simpa using hz⟩
  ·rintro⟨e,he,hx,hz⟩;exact⟨⟨e,he,hx⟩,by simpa using hz⟩
theorem aa0:∃b,ll l=some b/\b.Pairwise (fun x y=>bJ x y=true)/\b.length<=3000/\∀x,x∈b↔∃e∈l,aU e=true/\x=e.aa.Value:=by
 have hf:∀e:ai,(if aU e then[e.aa.Value]else[]).length<=3:=fun e=>by split<;>simp
 obtain⟨b,h1,h2,hbl,h3⟩:=adu (l.flatMap fun e=>if aU e then[e.aa.Value]else[]) (by have:=vo _ hf l;omega)
 refine⟨b,?_,h2,by have:=vo _ hf l;omega,fun x=> ?_⟩
 ·unfold ll;refine(Hf l (by omega) (fun e=>if aU e then[e.aa.Value]else[]) (fun e _=>hf e) (fin:=fun acc=>Option.bind (gg acc) fun r6=>some r6) (fun i e acc he hd hx hw hok hal=> ?_) (fun acc hd=> ?_)).trans ?_
  ·have o3:=hok 16 1 (by omega) (by omega) hal
   simp only[hd,hx,hw,Qk,aN,Qa,etas,rN (hl e he),QE,QZ,o3,Nat.zero_add];cases aU e<;>simp
  ·simp only[hd,Ql]
  ·simp only[h1,Qa]
 ·rw[h3,QQ];constructor
  ·rintro⟨e,he,hx⟩;split at hx
   ·rename_i hv;exact⟨e,he,hv,by simpa using hx⟩
   ·cases hx
  ·rintro⟨e,he,hv,hx⟩;exact⟨e,he,by rw[Qr hv];simpa using hx⟩
theorem Zh(v:ByteArray):∃b,gi l v=some b/\b.Pairwise (·<·)/\b.length<=3000/\∀x,x∈b↔x∈ends v l:=by
 have hf:∀e:ai,(if iP v e then[e.aS,e.bl]else[]).length<=3:=fun e=>by split<;>simp
 obtain⟨b,h1,h2,hbl,h3⟩:=adv (ends v l) (by have:=vo _ hf l;unfold ends;omega)
 refine⟨b,?_,h2,by have:=vo _ hf l;unfold ends at hbl;omega,h3⟩
 unfold gi;refine(Hf l (by omega) (fun e=>if iP v e then[e.aS,e.bl]else[]) (fun e _=>hf e) (fin:=fun acc=>Option.bind (ik acc) fun r6=>some r6) (fun i e acc he hd hx hw hok hal=> ?_) (fun acc hd=> ?_)).trans ?_
 ·have o3:=hok 8 2 (by omega) (by omega) hal
  simp only[hd,hx,hw,Qk,aN,Qa,etas,rN (hl e he),QE,QZ,o3,Nat.zero_add,Nat.reduceAdd];unfold iP;cases aU e<;>cases decide (e.aa.Value=v)<;>cases decide (e.aS=0)<;>simp
 ·simp only[hd,Ql]
 ·exact(congrArg (fun o=>Option.bind o fun r6=>some r6) h1)
end
end
section
theorem aer{e:ai}(hv:aU e=true):e.bF=1/\0<=e.aS/\e.aS<=e.bl\/e.bF≠1/\1<=e.aS/\e.aS<=e.bl:=by
 unfold aU ib at hv;rw[Qm]at hv;have h:=hv.2
 by_cases k1:e.bF=1
 ·rw[Qr k1]at h;simp only[ic,Qm,Qi]at h;omega
 ·rw[Qs k1]at h
  by_cases k2:e.bF=2
  ·rw[Qr k2]at h;simp only[vw,tM,Qm,Qi]at h;omega
  ·rw[Qs k2]at h
   by_cases k3:e.bF=3
   ·rw[Qr k3]at h;simp only[Bo,tM,Qm,Qi]at h;omega
   ·rw[Qs k3]at h;cases h
end
section
def Al:af:=⟨0,fH⟩
theorem CM{α τ:Type}(l:List α)(hl:l.length<=1000000)(mk:Int->τ)(P:α->Bool)(z:α){step:τ->Option (τ⊕α)}
  (h1:∀(i:Nat) (x:α),decide ((i:Int)<((l.length:Nat):Int))=true->idx l (i:Int)=some x->aA .i64 (i:Int) 1=((i+1:Nat):Int)->step (mk (i:Int))=some (bif P x then .inr x else .inl (mk ((i+1:Nat):Int))))
  (h2:decide (((l.length:Nat):Int)<((l.length:Nat):Int))=false->step (mk ((l.length:Nat):Int))=some (.inr z)):aC step (mk 0)=some ((l.find? P).getD z):=by
 suffices key:∀(k i:Nat),i+k=l.length->aC step (mk (i:Int))=some (((l.drop i).find? P).getD z)from key l.length 0 (by omega)
 intro k
 induction k with
 |zero=>
  intro i hi;obtain rfl:i=l.length:=by omega
  rw[bx (h2 (Qh (Qq64 _))),Qq66];rfl
 |succ k ih=>
  intro i hi;have hlt:i<l.length:=by omega
  have hs:=h1 i l[i] (Qg (by omega)) (by rw[bd];exact Qv hlt) (bD (by omega) (by omega))
  rw[QM hlt,List.find?_cons]
  cases hP:P l[i]with
  |true=>rw[hP]at hs;rw[bx hs];rfl
  |false=>rw[hP]at hs;rw[bh hs];exact ih (i+1) (by omega)
 def eX(l:List ai):List af:=(iV l).getD []
section
variable {l : List ai} (hl : ∀ e ∈ l, cQ e.aj) (hlen : l.length <= 1000)
 include hl hlen
theorem nc:iV l=some (eX l)/\(eX l).Pairwise (fun x y=>bz y x=true)/\(eX l).length<=3000/\∀x,x∈eX l↔∃e∈l,x∈said e/\aF x=false:=by
 obtain⟨b,h1,h2,h3,h4⟩:=Zi hl hlen;have:eX l=b:=by rw[eX,h1];rfl
 rw[this];exact⟨h1,h2,h3,h4⟩
end
def sy(b:af):af:=if 1000<=b.ak then⟨1000000,b.Value⟩else b
theorem OC(b:af):jS b=some (sy b):=by
 unfold jS sy;simp only[aN,FZ,Dz]
section
variable {aB : Nat} (hn : aB < 10) {t : ae} (ht : cQ t) {l : List ai} (hl : rS l)
 include hn ht hl
end
theorem T1{e:ai}(h:cQ e.aj)(b:af):nh e b=some (aU e&&dn e b):=by
 simp only[nh,etas,ka h,Qa,c7,gN,uv]
 cases hv:aU e with
 |false=>simp
 |true=>
  cases hz:aF b with
  |true=>simp[dn,hz]
  |false=>
   by_cases k1:e.bF=1
   ·simp[dn,hz,k1]
   ·by_cases k3:e.bF=3
    ·simp[dn,hz,k3]
    ·by_cases k2:e.bF=2
     ·have hp:aF e.az=true:=by
       unfold aU ib at hv;rw[Qm,Qs k1,Qr k2]at hv;simp only[vw,Qm]at hv;exact hv.2.1.1.2
      simp[dn,hz,k2,dY,jM,hp]
     ·unfold aU ib at hv;rw[Qs k1,Qs k2,Qs k3]at hv;simp at hv
end
section
 def gr(l:List ai):List ByteArray:=(ll l).getD []
 def br(l:List ai)(v:ByteArray):List Int:=(gi l v).getD []
section
variable {l : List ai} (hl : ∀ e ∈ l, cQ e.aj) (hlen : l.length <= 1000)
 include hl hlen
theorem s4:ll l=some (gr l)/\(gr l).Pairwise (fun x y=>bJ x y=true)/\(gr l).length<=3000/\∀x,x∈gr l↔∃e∈l,aU e=true/\x=e.aa.Value:=by
 obtain⟨b,h1,h2,h3,h4⟩:=aa0 hl hlen;have:gr l=b:=by rw[gr,h1];rfl
 rw[this];exact⟨h1,h2,h3,h4⟩
theorem iX(v:ByteArray):gi l v=some (br l v)/\(br l v).Pairwise (·<·)/\(br l v).length<=3000/\∀x,x∈br l v↔x∈ends v l:=by
 obtain⟨b,h1,h2,h3,h4⟩:=Zh hl hlen v;have:br l v=b:=by rw[br,h1];rfl
 rw[this];exact⟨h1,h2,h3,h4⟩
end
theorem EA{l:List ai}(hl:rS l)(hlen:l.length<=1000)(v:ByteArray):∀x∈br l v,1<=x/\x<=1000:=by
 obtain⟨_,_,_,h⟩:=iX hl.aL hlen v;intro x hx;obtain⟨e,he,hb,hy⟩:=AI.1 ((h x).1 hx);simp only[iP,Qm,Bool.not_eq_true',Qj]at hb;have hv:=hb.1.1;have h0:=hb.2;unfold aU ib at hv;rw[Qm]at hv;have hv:=hv.2
 by_cases k1:e.bF=1
 ·rw[Qr k1]at hv;simp only[ic,finite,Qm,Qi]at hv;omega
 ·rw[Qs k1]at hv
  by_cases k2:e.bF=2
  ·rw[Qr k2]at hv;simp only[vw,tM,Qm,Qi]at hv;omega
  ·rw[Qs k2]at hv
   by_cases k3:e.bF=3
   ·rw[Qr k3]at hv;simp only[Bo,tM,Qm,Qi]at hv;omega
   ·rw[Qs k3]at hv;cases hv
theorem Oz{α A B ρ:Type}(l:List α)(hl:l.length<=1000000)(f:A×B->α->A×B){step:A×Int×B×Unit->Option ((A×Int×B×Unit)⊕ρ)}{fin:A×B->Option ρ}
  (h1:∀(i:Nat) (x:α) (a:A) (b:B),x∈l->decide ((i:Int)<((l.length:Nat):Int))=true->idx l (i:Int)=some x->aA .i64 (i:Int) 1=((i+1:Nat):Int)->step (a,(i:Int),b,())=some (.inl ((f (a,b) x).1,((i+1:Nat):Int),(f (a,b) x).2,())))
  (h2:∀a b,decide (((l.length:Nat):Int)<((l.length:Nat):Int))=false->step (a,((l.length:Nat):Int),b,())=Option.map Sum.inr (fin (a,b))) (a:A) (b:B):aC step (a,(0:Int),b,())=fin (l.foldl f (a,b)):=by
 suffices key:∀(k i:Nat) (a:A) (b:B),i+k=l.length->aC step (a,(i:Int),b,())=fin ((l.drop i).foldl f (a,b))from key l.length 0 a b (by omega)
 intro k
 induction k with
 |zero=>
  intro i a b hi;obtain rfl:i=l.length:=by omega
  rw[ff,h2 a b (Qh (Qq64 _)),Qq66,List.foldl_nil];cases fin (a,b)<;>rfl
 |succ k ih=>
  intro i a b hi;have hlt:i<l.length:=by omega
  rw[bh (h1 i l[i] a b (Q0 hlt) (Qg (by omega)) (by rw[bd];exact Qv hlt) (bD (by omega) (by omega))),ih (i+1) _ _ (by omega),QM hlt,QU]
def nv(p q:af)(v:ByteArray)(n:Int):Bool:=eN p ⟨n,v⟩||eN q ⟨n,v⟩
theorem O3(v:ByteArray)(n:Int)(p q:af):pY v n p q=some (nv p q v n):=by
 simp only[pY,ux,Qa,lL,Bool.cond_true_left,nv]
 def E6(b:List Int)(ready:Int->Int->Bool)(low bU:Int):Int×Int:=
 match b.reverse.find? (fun n=>decide (bU<n)&&ready n n)with
 |none=>(cF (fun x=>ready x bU) b.reverse low,bU)
 |some n=>
  let bottom:=cF (fun x=>ready x n) b.reverse n
  (cF (fun x=>ready x n) b.reverse (if bU<bottom - 1\/bottom<low then bottom else low),n)
 def C2(S:gW)(b:List Int)(v:ByteArray)(m8:Nat)(e9:Int)(v7:Int×Int×Unit):Option ((Int×Int×Unit)⊕(Int×Int×Unit)):=
 Option.bind (bif (decide (e9<=v7.2.1))then some true else Option.bind (iK S v e9 e9) fun r10=>some (!r10)) fun b11=>
 bif b11 then some (Sum.inl (v7.1,v7.2.1,()))else
 Option.bind (kI b e9 S v e9) fun r12=>
 aX (fun(v13:Int×Unit)=>Option.map Sum.inr (Option.bind (iL b v13.1 S v e9) fun r5=>some (r5,e9,()))) fun j14=>
 Option.bind (bif (decide (v7.2.1<(dh .i64 r12 (1:Int))))then some true else some (decide (r12<v7.1))) fun b15=>
 bif b15 then j14 (r12,())else j14 (v7.1,())
 def aaw(S:gW)(b:List Int)(v:ByteArray)(v16:Int×Int×Unit):Option (Int×Int×Unit):=Option.bind (iL b v16.1 S v v16.2.1) fun r5=>some (r5,v16.2.1,())
section
variable {aB : Nat} (hn : aB < 10) {t : ae} (ht : cQ t) {l : List ai} (hl : rS l)
 include hn ht hl
end
end
section
section
variable {α : Type} [DecidableEq α] {lt : α -> α -> Bool}
def dH(lt:α->α->Bool)(x:α):List α->List α
 |[]=>[x]
 |y::l=>if lt y x then y::dH lt x l else if y=x then y::l else x::y::l
theorem GK(x:α):∀(l:List α) (z:α),z∈dH lt x l↔z=x\/z∈l
 |[],z=>by simp[dH]
 |y::l,z=>by
  rw[dH];split
  ·rw[QA,GK x l z,QA];constructor
   ·rintro(h|h|h)
    ·exact .inr (.inl h)
    ·exact .inl h
    ·exact .inr (.inr h)
   ·rintro(h|h|h)
    ·exact .inr (.inl h)
    ·exact .inl h
    ·exact .inr (.inr h)
  ·split
   ·rename_i h;rw[QA];constructor
    ·exact .inr
    ·rintro(h1|h1)
     ·exact .inl (h1.trans h.symm)
     ·exact h1
   ·rw[QA]
theorem xA.dH(h:xA lt)(x:α):∀{l:List α},l.Pairwise (fun a b=>lt a b=true)->(Go.Proofs.YtjbfdglebjnelaaGreat.dH lt x l).Pairwise (fun a b=>lt a b=true)
 |[],_=>by rw[Go.Proofs.YtjbfdglebjnelaaGreat.dH];exact List.pairwise_singleton _ _
 |y::l,hp=>by
  rw[Q4]at hp;rw[Go.Proofs.YtjbfdglebjnelaaGreat.dH];split
  ·rename_i hy;rw[Q4];refine⟨fun z hz=> ?_,h.dH x hp.2⟩
   rcases(GK x l z).1 hz with rfl|hz
   ·exact hy
   ·exact hp.1 z hz
  ·rename_i hy;split
   ·exact Q4.2 hp
   ·rename_i hne
    have hxy:lt x y=true:=by
     cases hc:lt x y with
     |true=>rfl
     |false=>exact absurd (h.total y x (by simpa using hy) hc) hne
    rw[Q4,Q4];refine⟨fun z hz=> ?_,hp⟩
    rcases QA.1 hz with rfl|hz
    ·exact hxy
    ·exact h.trans _ _ _ hxy (hp.1 z hz)
theorem vm(x:α):∀l:List α,(dH lt x l).length<=l.length+1
 |[]=>by simp[dH]
 |y::l=>by
  have:=vm x l;rw[dH];split
  ·simp;omega
  ·split<;>simp
theorem PR(x:α):∀(l:List α) (i:Nat),(∀j,j<i->∃y,l[j]?=some y/\lt y x=true)->(∀y,l[i]?=some y->lt y x=false)->dH lt x l=if l[i]?=some x then l else l.take i++x::l.drop i
 |[],i,h1,h2=>by
  cases i with
  |zero=>simp[dH]
  |succ i=>obtain⟨y,hy,_⟩:=h1 0 (by omega);simp at hy
 |y::l,i,h1,h2=>by
  cases i with
  |zero=>
   have hy:=h2 y rfl;rw[dH,hy,Qs (by simp)]
   by_cases h:y=x
   ·simp[h]
   ·simp[h]
  |succ i=>
   obtain⟨y',hy',hlt⟩:=h1 0 (by omega)
   simp only[List.getElem?_cons_zero,Qf]at hy';subst hy'
   rw[dH,Qr hlt,PR x l i (fun j hj=>by
    obtain⟨z,hz,h⟩:=h1 (j+1) (by omega)
    exact⟨z,by simpa using hz,h⟩) (fun z hz=>h2 z (by simpa using hz))]
   simp only[List.getElem?_cons_succ,List.take_succ_cons,List.drop_succ_cons];split<;>simp
theorem BO(h:xA lt):∀(xs l:List α),l.Pairwise (fun a b=>lt a b=true)->(xs.foldl (fun l x=>dH lt x l) l).Pairwise (fun a b=>lt a b=true)/\∀z,z∈xs.foldl (fun l x=>dH lt x l) l↔z∈xs\/z∈l
 |[],l,hp=>⟨hp,by simp⟩
 |x::xs,l,hp=>by
  obtain⟨h1,h2⟩:=BO h xs _ (h.dH x hp);rw[QU];refine⟨h1,fun z=> ?_⟩
  rw[h2,GK,QA];constructor
  ·rintro(a|a|a)
   ·exact .inl (.inr a)
   ·exact .inl (.inl a)
   ·exact .inr a
  ·rintro((a|a)|a)
   ·exact .inr (.inl a)
   ·exact .inl a
   ·exact .inr (.inr a)
theorem Of:∀(xs l:List α),(xs.foldl (fun l x=>dH lt x l) l).length<=l.length+xs.length
 |[],l=>by simp
 |x::xs,l=>by
  have:=Of xs (dH lt x l);have:=vm (lt:=lt) x l;rw[QU,QE];omega
end
theorem vW{α:Type}(l:List α)(i:Nat):(l.take (Int.toNat (i:Int))).drop (Int.toNat (0:Int))=l.take i:=by simp
theorem Au{α:Type}(l:List α)(i:Nat):(l.take (Int.toNat ((l.length:Nat):Int))).drop (Int.toNat (i:Int))=l.drop i:=by simp
theorem Fo{i n:Nat}(h:i<=n):cJ (0:Int) (i:Int) n=true:=by
 simp only[cJ,Qm,Qi];omega
theorem Fp{i n:Nat}(h:i<=n):cJ (i:Int) (n:Int) n=true:=by
 simp only[cJ,Qm,Qi];omega
theorem jj{bytes n:Nat}(h:bytes<=200)(hn:n<=1000000):bc bytes n=true:=
 bn ⟨QK (Nat.mul_le_mul hn h) (by decide),hn⟩
theorem aa6{α ρ:Type}(l:List α)(hl:l.length<=1000000)(P:α->Bool){step:Int×Unit->Option ((Int×Unit)⊕ρ)}{r:Nat->Option ρ}
  (h1:∀(i:Nat) (y:α),l[i]?=some y->decide ((i:Int)<((l.length:Nat):Int))=true->idx l (i:Int)=some y->P y=true->aA .i64 (i:Int) 1=((i+1:Nat):Int)->step ((i:Int),())=some (.inl (((i+1:Nat):Int),())))
  (h2:∀(i:Nat) (y:α),l[i]?=some y->decide ((i:Int)<((l.length:Nat):Int))=true->idx l (i:Int)=some y->P y=false->step ((i:Int),())=Option.map Sum.inr (r i))
  (h3:decide (((l.length:Nat):Int)<((l.length:Nat):Int))=false->step (((l.length:Nat):Int),())=Option.map Sum.inr (r l.length)):
  ∃i,i<=l.length/\(∀j,j<i->∃y,l[j]?=some y/\P y=true)/\(∀y,l[i]?=some y->P y=false)/\aC step ((0:Int),())=r i:=by
 suffices key:∀(k i:Nat),i+k=l.length->(∀j,j<i->∃y,l[j]?=some y/\P y=true)->∃m,m<=l.length/\(∀j,j<m->∃y,l[j]?=some y/\P y=true)/\(∀y,l[m]?=some y->P y=false)/\aC step ((i:Int),())=r m from key l.length 0 (by omega) (fun j hj=>absurd hj (Nat.not_lt_zero _))
 intro k
 induction k with
 |zero=>
  intro i hi hj;obtain rfl:i=l.length:=by omega
  refine⟨l.length,QI _,hj,fun y hy=>by simp at hy,?_⟩
  rw[ff,h3 (Qh (Qq64 _))];cases r l.length<;>rfl
 |succ k ih=>
  intro i hi hj;have hx:l[i]?=some l[i]:=Qv (by omega)
  have hd:decide ((i:Int)<((l.length:Nat):Int))=true:=Qg (by omega)
  cases hP:P l[i]with
  |true=>
   rw[bh (h1 i _ hx hd (by rw[bd];exact hx) hP (bD (by omega) (by omega)))]
   refine ih (i+1) (by omega) fun j hj'=> ?_
   rcases Nat.lt_or_ge j i with h|h
   ·exact hj j h
   ·obtain rfl:j=i:=by omega
    exact⟨_,hx,hP⟩
  |false=>
   refine⟨i,by omega,hj,fun y hy=> ?_,?_⟩
   ·rw[hx]at hy;injection hy with hy
    rw[<-hy];exact hP
   ·rw[ff,h2 i _ hx hd (by rw[bd];exact hx) hP]
    cases r i<;>rfl
theorem I9{α ρ:Type}[DecidableEq α]{lt:α->α->Bool}(l:List α)(hl:l.length<=1000000)(x:α){step:Int×Unit->Option ((Int×Unit)⊕ρ)}{k:List α->Option ρ}
  (h1:∀(i:Nat) (y:α),decide ((i:Int)<((l.length:Nat):Int))=true->idx l (i:Int)=some y->lt y x=true->aA .i64 (i:Int) 1=((i+1:Nat):Int)->step ((i:Int),())=some (.inl (((i+1:Nat):Int),())))
  (h2:∀(i:Nat) (y:α),i<l.length->decide ((i:Int)<((l.length:Nat):Int))=true->decide ((i:Int)=((l.length:Nat):Int))=false->idx l (i:Int)=some y->lt y x=false->step ((i:Int),())=Option.map Sum.inr (k (if y=x then l else l.take i++x::l.drop i)))
  (h3:decide (((l.length:Nat):Int)<((l.length:Nat):Int))=false->decide (((l.length:Nat):Int)=((l.length:Nat):Int))=true->step (((l.length:Nat):Int),())=Option.map Sum.inr (k (l++[x]))):aC step ((0:Int),())=k (dH lt x l):=by
 obtain⟨i,hi,g1,g2,g3⟩:=aa6 l hl (fun y=>lt y x) (step:=step) (r:=fun i=>k (if l[i]?=some x then l else l.take i++x::l.drop i)) (fun i y hy hd hx hP hw=>h1 i y hd hx hP hw) (fun i y hy hd hx hP=>by
   have hlt:=(Qw.1 hy).1;rw[h2 i y hlt hd (Qh (by omega)) hx hP,hy]
   by_cases hyx:y=x
   ·simp[hyx]
   ·have:¬(some y=some x):=fun h=>hyx (by injection h)
    rw[Qs hyx,Qs this]) (fun hd=>by
   rw[h3 hd (Qg rfl),Qs (by simp),Qq62,Qq66])
 rw[g3,PR x l i g1 g2]
theorem aey(l:List af)(hl:l.length<=900000)(b:af):vO l b=some (if aF b then l else dH (fun x y=>bz y x) b l):=by
 unfold vO;rw[c7,Qa]
 cases hz:aF b with
 |true=>rfl
 |false=>
  simp only[Ql,aN]
  have he:∀y:af,(decide (y.ak=b.ak)&&decide (y.Value=b.Value))=decide (y=b):=fun y=>by
   rw[QW];cases y;cases b;simp
  refine I9 (lt:=fun x y=>bz y x) l (by omega) b (k:=fun t=>some t) (fun i y hd hx hlt hw=> ?_) (fun i y hi hd hde hx hlt=> ?_) (fun hd hde=> ?_)
  ·simp only[hd,hx,hw,Qk,Qa,kj,hlt]
  ·have e1:=vW l i;have e2:=Au l i;simp only[hd,hx,Qk,Qa,kj,hlt,Ql,BR,e1,e2,Fo (show i<=l.length by omega),Fp (show i<=l.length by omega),he]
   rw[jj (by omega) (by simp;omega),jj (by omega) (by simp;omega),jj (by omega) (by simp;omega)]
   by_cases hyb:y=b<;>simp[hyb]
  ·have e1:=vW l l.length;have e2:=Au l l.length;simp only[hd,Ql,e1,e2,Fo (QI l.length),Fp (QI l.length),Qk];rw[jj (by omega) (by simp;omega),jj (by omega) (by simp;omega),jj (by omega) (by simp;omega)]
   simp
theorem Ew{α σ ρ:Type}(l:List α)(hl:l.length<=1000000)(f:σ->α->σ)(Inv:Nat->σ->Prop){step:σ×Int×Unit->Option ((σ×Int×Unit)⊕ρ)}{fin:σ->Option ρ}
  (hI:∀i s x,x∈l->Inv i s->Inv (i+1) (f s x))
  (h1:∀(i:Nat) (x:α) (s:σ),Inv i s->i<=l.length->x∈l->decide ((i:Int)<((l.length:Nat):Int))=true->idx l (i:Int)=some x->aA .i64 (i:Int) 1=((i+1:Nat):Int)->step (s,(i:Int),())=some (.inl (f s x,((i+1:Nat):Int),())))
  (h2:∀s,decide (((l.length:Nat):Int)<((l.length:Nat):Int))=false->step (s,((l.length:Nat):Int),())=Option.map Sum.inr (fin s)) (s:σ) (hs:Inv 0 s):aC step (s,(0:Int),())=fin (l.foldl f s):=by
 suffices key:∀(k i:Nat) (s:σ),i+k=l.length->Inv i s->aC step (s,(i:Int),())=fin ((l.drop i).foldl f s)from key l.length 0 s (by omega) hs
 intro k
 induction k with
 |zero=>
  intro i s hi hs;obtain rfl:i=l.length:=by omega
  rw[ff,h2 s (Qh (Qq64 _)),Qq66,List.foldl_nil];cases fin s<;>rfl
 |succ k ih=>
  intro i s hi hs;have hlt:i<l.length:=by omega
  rw[bh (h1 i l[i] s hs (by omega) (Q0 hlt) (Qg (by omega)) (by rw[bd];exact Qv hlt) (bD (by omega) (by omega))),ih (i+1) _ (by omega) (hI i s _ (Q0 hlt) hs),QM hlt,QU]
 def uz(e:ai):List af:=if aU e then(if e.bF=1 then[e.aa,e.ao,e.az]else[e.ao,at_ e 1000000])else[]
theorem Na{e:ai}{x:af}(hz:aF x=false):x∈uz e↔x∈said e:=by
 unfold uz said
 cases hv:aU e with
 |false=>simp
 |true=>
  by_cases k1:e.bF=1
  ·simp[k1]
  ·by_cases k2:e.bF=2
   ·simp[k2]
   ·have hp:aF e.ao=true:=by
     unfold aU ib at hv;rw[Qm,Qs k1,Qs k2]at hv;have h:=hv.2
     by_cases k3:e.bF=3
     ·rw[Qr k3]at h;simp only[Bo,Qm]at h;exact h.1.1.2
     ·rw[Qs k3]at h;cases h
    simp only[Qt,k1,k2,Qu,QA,QR,or_false];constructor
    ·rintro(h|h)
     ·rw[h,hp]at hz;cases hz
     ·exact h
    ·exact .inr
def wo(l:List af)(b:af):List af:=if aF b then l else dH (fun x y=>bz y x) b l
theorem Ld:∀(xs l:List af),xs.foldl wo l=(xs.filter fun b=> !aF b).foldl (fun l x=>dH (fun x y=>bz y x) x l) l
 |[],l=>rfl
 |x::xs,l=>by
  rw[QU,Ld xs,List.filter_cons];cases hz:aF x<;>simp[wo,hz]
theorem R3(l:List af)(b:af):(wo l b).length<=l.length+1:=by
 unfold wo;split
 ·omega
 ·exact vm b l
section
variable {l : List ai} (hl : ∀ e ∈ l, cQ e.aj) (hlen : l.length <= 1000)
 include hl hlen
theorem K3:nW l=some (eX l):=by
 have hfold:∀xs:List af,xs.length<=3->∀s:List af,(xs.foldl wo s).length<=s.length+xs.length:=by
  intro xs _
  induction xs with
  |nil=>intro s;simp
  |cons x xs ih=>
   intro s;have:=ih (by simp at*;omega) (wo s x)
   have:=R3 s x;rw[QU,QE];omega
 have hr3:∀e,(uz e).length<=3:=fun e=>by
  unfold uz;split
  ·split<;>simp
  ·simp
 have hF:nW l=some (l.foldl (fun s e=>(uz e).foldl wo s) []):=by
  unfold nW;refine Ew l (by omega) (fun s e=>(uz e).foldl wo s) (fun i s=>s.length<=3*i) (fin:=fun s=>some s) (fun i s x _ hs=> ?_) (fun i e s hs hi he hd hx hw=> ?_) (fun s hd=> ?_) [] (by simp)
  ·have:=hfold (uz x) (hr3 x) s;have:=hr3 x;show(List.foldl wo s (uz x)).length<=3*(i+1);omega
  ·simp only[hd,hx,hw,Qk,aN,Qa,etas,ka (hl e he)]
   have inner:∀L:List af,L.length<=3->aC (fun(v8:(List af)×Int×Unit)=>
     bif (decide (v8.2.1<((List.length L:Nat):Int)))then Option.bind (idx L v8.2.1) fun x9=>Option.bind (vO v8.1 x9) fun r10=>some (Sum.inl (r10,(aA .i64 v8.2.1 (1:Int)),()))
     else Option.map Sum.inr (some (Sum.inl (v8.1,((i+1:Nat):Int),()):((List af)×Int×Unit)⊕(List af)))) (s,(0:Int),())=some (Sum.inl (L.foldl wo s,((i+1:Nat):Int),())):=by
    intro L hL;refine Ew L (by omega) wo (fun k t=>t.length<=s.length+k) (fin:=fun t=>some (Sum.inl (t,((i+1:Nat):Int),()))) (fun k t x _ ht=> ?_) (fun k x t ht hk hx' hd' hxx hw'=> ?_) (fun t hd'=> ?_) s (by simp)
    ·have:=R3 t x;omega
    ·simp only[hd',hxx,hw',Qk,Qa,aey t (by omega)]
     rfl
    ·simp only[hd',Ql]
   cases hv:aU e with
   |false=>simp[uz,hv]
   |true=>
    by_cases k1:e.bF=1
    ·have i3:=inner [e.aa,e.ao,e.az] (by simp)
     simp only[Qo,Ql,k1,decide_true,i3,uz,hv,Qt]
    ·have i2:=inner [e.ao,⟨1000000,e.aa.Value⟩] (by simp)
     simp only[Qo,Qp,Ql,Qk,k1,decide_false,i2,uz,hv,Qt,Qu,at_]
  ·simp only[hd,Ql]
 obtain⟨_,h2,_,h4⟩:=nc hl hlen;have hflat:l.foldl (fun s e=>(uz e).foldl wo s) []=(l.flatMap uz).foldl wo []:=by rw[List.foldl_flatMap]
 rw[hF,hflat,Ld];obtain⟨h5,h6⟩:=BO Bb.flip ((l.flatMap uz).filter fun b=> !aF b) [] .nil
 congr 1;refine Bb.flip.unique h5 h2 fun x=> ?_
 rw[h6,h4];simp only[List.mem_filter,QQ,QR,or_false,Bool.not_eq_true'];constructor
 ·rintro⟨⟨e,he,hx⟩,hz⟩;exact⟨e,he,(Na hz).1 hx,hz⟩
 ·rintro⟨e,he,hx,hz⟩;exact⟨⟨e,he,(Na hz).2 hx⟩,hz⟩
end
section
variable {l : List ai} (hl : ∀ e ∈ l, cQ e.aj) (hlen : l.length <= 1000)
 include hl hlen
theorem X5:sH l=some (gr l):=by
 have hF:sH l=some (l.foldl (fun s e=>if aU e then dH bJ e.aa.Value s else s) []):=by
  unfold sH;refine Ew l (by omega) (fun s e=>if aU e then dH bJ e.aa.Value s else s) (fun i s=>s.length<=i) (fin:=fun s=>some s) (fun i s x _ hs=> ?_) (fun i e s hs hi he hd hx hw=> ?_) (fun s hd=> ?_) [] (by simp)
  ·show(if aU x then dH bJ x.aa.Value s else s).length<=i+1
   have:=vm (lt:=bJ) x.aa.Value s;split<;>omega
  ·simp only[hd,hx,hw,Qk,aN,Qa,etas,ka (hl e he)]
   cases hv:aU e with
   |false=>simp
   |true=>
    simp only[Qo,Ql,Qt];refine I9 (lt:=bJ) s (by omega) e.aa.Value (k:=fun t=>some (Sum.inl (t,((i+1:Nat):Int),()))) (fun j y hd' hx' hlt hw'=> ?_) (fun j y hj hd' hde hx' hlt=> ?_) (fun hd' hde=> ?_)
    ·simp only[hd',hx',hw',Qk,Qa,z7,hlt]
    ·have e1:=vW s j;have e2:=Au s j;simp only[hd',hx',hde,Qk,Ql,Qa,z7,hlt,e1,e2,Fo (show j<=s.length by omega),Fp (show j<=s.length by omega)]
     rw[jj (by omega) (by simp;omega),jj (by omega) (by simp;omega),jj (by omega) (by simp;omega)]
     by_cases hyx:y=e.aa.Value<;>simp[hyx]
    ·have e1:=vW s s.length;have e2:=Au s s.length;simp only[hd',Qk,Ql,e1,e2,Fo (QI s.length),Fp (QI s.length)];rw[jj (by omega) (by simp;omega),jj (by omega) (by simp;omega),jj (by omega) (by simp;omega)]
     simp
  ·simp only[hd,Ql]
 obtain⟨_,h2,_,h4⟩:=s4 hl hlen
 have hflat:l.foldl (fun s e=>if aU e then dH bJ e.aa.Value s else s) []=(l.flatMap fun e=>if aU e then[e.aa.Value]else[]).foldl (fun l x=>dH bJ x l) []:=by
  rw[List.foldl_flatMap];congr 1
  funext s e
  split<;>rfl
 rw[hF,hflat];obtain⟨h5,h6⟩:=BO iu (l.flatMap fun e=>if aU e then[e.aa.Value]else[]) [] .nil
 congr 1;refine iu.unique h5 h2 fun x=> ?_
 rw[h6,h4];simp only[QQ,QR,or_false];constructor
 ·rintro⟨e,he,hx⟩;split at hx
  ·rename_i hv;exact⟨e,he,hv,by simpa using hx⟩
  ·cases hx
 ·rintro⟨e,he,hv,hx⟩;exact⟨e,he,by rw[Qr hv];simpa using hx⟩
theorem zh(v:ByteArray):jK l v=some (br l v):=by
 have hF:jK l v=some (l.foldl (fun s e=>if iP v e then dH (fun a b=>decide (a<b)) e.bl (dH (fun a b=>decide (a<b)) e.aS s)else s) []):=by
  unfold jK;refine Ew l (by omega) (fun s e=>if iP v e then dH (fun a b=>decide (a<b)) e.bl (dH (fun a b=>decide (a<b)) e.aS s)else s) (fun i s=>s.length<=2*i) (fin:=fun s=>some s) (fun i s x _ hs=> ?_) (fun i e s hs hi he hd hx hw=> ?_) (fun s hd=> ?_) [] (by simp)
  ·show(if iP v x then dH (fun a b=>decide (a<b)) x.bl (dH (fun a b=>decide (a<b)) x.aS s)else s).length<=2*(i+1)
   have h1:=vm (lt:=fun a b:Int=>decide (a<b)) x.aS s
   have h2:=vm (lt:=fun a b:Int=>decide (a<b)) x.bl (dH (fun a b=>decide (a<b)) x.aS s)
   split<;>omega
  ·simp only[hd,hx,hw,Qk,aN,Qa,etas,ka (hl e he)]
   have inner:∀(t:List Int) (x:Int) (z:Int),t.length<=3000->aC (fun(v12:Int×Unit)=>
     Option.bind (bif (decide (v12.1<((List.length t:Nat):Int)))then Option.bind (idx t v12.1) fun x13=>some (decide (x13<x))else some false) fun b14=>
     bif b14 then some (Sum.inl ((aA .i64 v12.1 (1:Int)),()))else
     Option.map Sum.inr (Option.bind (bif (decide (v12.1=((List.length t:Nat):Int)))then some true else Option.bind (idx t v12.1) fun x15=>some (!decide (x15=x))) fun b16=>
     bif b16 then
     bif cJ (0:Int) v12.1 (List.length t)then
     bif bc 8 (List.length ((t.take (Int.toNat v12.1)).drop (Int.toNat (0:Int))))then
     bif bc 8 (List.length ((t.take (Int.toNat v12.1)).drop (Int.toNat (0:Int)))+List.length [x])then
     bif cJ v12.1 (t.length:Int) (List.length t)then
     bif bc 8 (List.length (((t.take (Int.toNat v12.1)).drop (Int.toNat (0:Int)))++[x])+List.length ((t.take (Int.toNat (t.length:Int))).drop (Int.toNat v12.1)))then
     some (Sum.inl (((((t.take (Int.toNat v12.1)).drop (Int.toNat (0:Int)))++[x])++((t.take (Int.toNat (t.length:Int))).drop (Int.toNat v12.1))),z,()):((List Int)×Int×Unit)⊕(((List Int)×Int×Unit)⊕(List Int)))
     else none else none else none else none else none
     else some (Sum.inl (t,z,())))) ((0:Int),())=some (Sum.inl (dH (fun a b=>decide (a<b)) x t,z,())):=by
    intro t x z ht;refine I9 (lt:=fun a b:Int=>decide (a<b)) t (by omega) x (k:=fun t=>some (Sum.inl (t,z,()))) (fun j y hd' hx' hlt hw'=> ?_) (fun j y hj hd' hde hx' hlt=> ?_) (fun hd' hde=> ?_)
    ·simp only[hd',hx',hw',Qk,Qa,hlt]
    ·have e1:=vW t j;have e2:=Au t j;simp only[hd',hx',hde,Qk,Ql,Qa,hlt,e1,e2,Fo (show j<=t.length by omega),Fp (show j<=t.length by omega)]
     rw[jj (by omega) (by simp;omega),jj (by omega) (by simp;omega),jj (by omega) (by simp;omega)]
     by_cases hyx:y=x<;>simp[hyx]
    ·have e1:=vW t t.length;have e2:=Au t t.length;simp only[hd',Qk,Ql,Qa,e1,e2,Fo (QI t.length),Fp (QI t.length)];rw[jj (by omega) (by simp;omega),jj (by omega) (by simp;omega),jj (by omega) (by simp;omega)]
     simp
   have hw1:aA .i64 (0:Int) 1=1:=rfl;have hw2:aA .i64 (1:Int) 1=2:=rfl;have hd0:decide ((0:Int)<2)=true:=rfl;have hd1:decide ((1:Int)<2)=true:=rfl;have hd2:decide ((2:Int)<2)=false:=rfl;have hx0:idx [e.aS,e.bl] 0=some e.aS:=rfl;have hx1:idx [e.aS,e.bl] 1=some e.bl:=rfl;have hl1:=vm (lt:=fun a b:Int=>decide (a<b)) e.aS s
   unfold iP
   cases hv:aU e with
   |false=>simp
   |true=>
    by_cases hvv:e.aa.Value=v
    ·by_cases hlo:e.aS=0
     ·simp[hvv,hlo]
     ·simp only[Qo,Ql,hvv,decide_true,hlo,decide_false,Bool.and_self,Qp,Qa,Qt];refine(bh (s':=(dH (fun a b=>decide (a<b)) e.aS s,(1:Int),())) ?_).trans ((bh (s':=(dH (fun a b=>decide (a<b)) e.bl (dH (fun a b=>decide (a<b)) e.aS s),(2:Int),())) ?_).trans (bx ?_))
      ·simp only[hd0,hx0,hw1,Qk,Qa];exact inner s e.aS 1 (by omega)
      ·simp only[hd1,hx1,hw2,Qk,Qa];exact inner _ e.bl 2 (by omega)
      ·simp only[hd2,Ql,Qe]
    ·simp[hvv]
  ·simp only[hd,Ql]
 obtain⟨_,h2,_,h4⟩:=iX hl hlen v
 have hflat:l.foldl (fun s e=>if iP v e then dH (fun a b=>decide (a<b)) e.bl (dH (fun a b=>decide (a<b)) e.aS s)else s) []=(ends v l).foldl (fun l x=>dH (fun a b=>decide (a<b)) x l) []:=by
  rw[ends,List.foldl_flatMap];congr 1
  funext s e
  split<;>rfl
 rw[hF,hflat];obtain⟨h5,h6⟩:=BO CU (ends v l) [] .nil;congr 1;refine CU.unique h5 (h2.imp fun h=>Qg h) fun x=> ?_
 rw[h6,h4];simp
end
end
section
theorem kinds{e:ai}(hv:aU e=true):e.bF=1\/e.bF=2\/e.bF=3:=by
 unfold aU ib at hv;rw[Qm]at hv;have h:=hv.2
 by_cases k1:e.bF=1
 ·exact .inl k1
 ·by_cases k2:e.bF=2
  ·exact .inr (.inl k2)
  ·by_cases k3:e.bF=3
   ·exact .inr (.inr k3)
   ·rw[Qs k1,Qs k2,Qs k3]at h;cases h
theorem X3{e:ai}(h:cQ e.aj)(b:af):oS e b=some (aU e&&qF e b):=by
 simp only[oS,etas,ka h,Qa,c7,gN,Ct]
 cases hv:aU e with
 |false=>simp
 |true=>
  cases hz:aF b with
  |true=>simp[qF,hz]
  |false=>by_cases k1:e.bF=1<;>simp[qF,hz,k1]
theorem T3{e:ai}(h:cQ e.aj)(v:ByteArray)(lo hi:Int):nX e v lo hi=some (aU e&&fR e v lo hi):=by
 simp only[nX,etas,ka h,Qa,lL,fR,J9]
 cases hv:aU e with
 |false=>simp
 |true=>
  have hk:=kinds hv
  by_cases a1:lo<1<;>by_cases a2:hi<lo<;>by_cases a3:e.aa.Value=v<;>by_cases a4:lo<e.aS<;>by_cases k1:e.bF=1<;>by_cases k3:e.bF=3<;>simp_all<;>grind
theorem X4{e:ai}(h:cQ e.aj)(v:ByteArray)(lo hi:Int):qc e v lo hi=some (aU e&&tK e v lo hi):=by
 simp only[qc,etas,ka h,Qa,lL,tK,J9]
 cases hv:aU e with
 |false=>simp
 |true=>
  have hl:=aer hv
  by_cases a1:lo<1<;>by_cases a2:hi<lo<;>by_cases a3:e.aa.Value=v<;>by_cases a4:lo<e.aS<;>by_cases k1:e.bF=1<;>by_cases a5:e.aS=0<;>simp_all<;>grind
theorem xd(p:ai->Bool):∀l:List ai,dL (fun e=>aU e&&p e) l=dL p (bW l)
 |[]=>rfl
 |e::l=>by
  have ih:=xd p l;rw[dL,ih];cases hv:aU e<;>simp[bW,hv,dL]
theorem A8(l:List ai)(hlen:l.length<=1000)(p:ai->Bool)(hp:∀e∈l,p e=true->0<=e.an/\e.an<10):gm l (l.map p)=some ((dL p l:Nat):Int):=by
 unfold gm
 suffices key:∀(k i s:Nat),i+k=l.length->s<1024->aC _ ((s:Int),(i:Int),())=some ((s|||dL p (l.drop i):Nat):Int)by
  have:=key l.length 0 0 (by omega) (by omega)
  rw[Nat.zero_or,List.drop_zero]at this;exact this
 intro k
 induction k with
 |zero=>
  intro i s hi hs;obtain rfl:i=l.length:=by omega
  have hd:decide (((l.length:Nat):Int)<((l.length:Nat):Int))=false:=Qh (Qq64 _);rw[bx (r:=(s:Int)) (by simp only[hd,Ql,Qe]),Qq66,dL]
  simp
 |succ k ih=>
  intro i s hi hs;have hlt:i<l.length:=by omega
  have hd:decide ((i:Int)<((l.length:Nat):Int))=true:=Qg (by omega)
  have hd2:decide ((i:Int)<(((l.map p).length:Nat):Int))=true:=Qg (by rw[QC];omega)
  have hw:aA .i64 (i:Int) 1=((i+1:Nat):Int):=bD (by omega) (by omega)
  have hx:idx l (i:Int)=some l[i]:=by rw[bd];exact Qv hlt
  have hx2:idx (l.map p) (i:Int)=some (p l[i]):=by rw[bd,QT,Qv hlt];rfl
  rw[QM hlt,dL]
  cases hpe:p l[i]with
  |false=>
   rw[bh (s':=((s:Int),((i+1:Nat):Int),())) (by simp only[hd,hd2,hx,hx2,hw,hpe,Qk,Ql,aN,Qa]),ih (i+1) s (by omega) hs]
   simp
  |true=>
   obtain⟨h0,h1⟩:=hp _ (Q0 hlt) hpe
   have hc:bA .u64 l[i].an=l[i].an:=by
    obtain⟨n,hn⟩:∃n:Nat,l[i].an=n:=⟨l[i].an.toNat,by omega⟩
    rw[hn];exact adl (by omega)
   have hn0:¬l[i].an<0:=by omega
   have d1:decide ((0:Int)<=l[i].an)=true:=Qg h0;have d2:decide (l[i].an<=(9:Int))=true:=Qg (by omega)
   rw[bh (s':=(((s|||2 ^ l[i].an.toNat:Nat):Int),((i+1:Nat):Int),())) (by
    simp only[hd,hd2,hx,hx2,hw,hpe,Qk,aN,Qa,d1,d2,hc,hn0,Qu]
    rw[nO hs h0 h1]),ih (i+1) _ (by omega) (Be hs h1)]
   simp[Nat.or_assoc]
theorem TB{ρ:Type}(l:List ai)(hl:l.length<=1000)(p q:ai->Bool){step:Int×List Bool×List Bool×Unit->Option ((Int×List Bool×List Bool×Unit)⊕ρ)}{fin:List Bool->List Bool->Option ρ}
  (h1:∀(i:Nat) (e:ai) (vs as_:List Bool),e∈l->decide ((i:Int)<((l.length:Nat):Int))=true->idx l (i:Int)=some e->aA .i64 (i:Int) 1=((i+1:Nat):Int)->(∀x:Bool,bc 1 (vs.length+[x].length)=true)->(∀x:Bool,bc 1 (as_.length+[x].length)=true)->step ((i:Int),vs,as_,())=some (.inl (((i+1:Nat):Int),vs++[p e],as_++[q e],())))
  (h2:∀vs as_,decide (((l.length:Nat):Int)<((l.length:Nat):Int))=false->step (((l.length:Nat):Int),vs,as_,())=Option.map Sum.inr (fin vs as_)):aC step ((0:Int),[],[],())=fin (l.map p) (l.map q):=by
 suffices key:∀(k i:Nat),i+k=l.length->aC step ((i:Int),(l.take i).map p,(l.take i).map q,())=fin (l.map p) (l.map q)from key l.length 0 (by omega)
 intro k
 induction k with
 |zero=>
  intro i hi;obtain rfl:i=l.length:=by omega
  rw[ff,h2 _ _ (Qh (Qq64 _)),Qq62];cases fin (l.map p) (l.map q)<;>rfl
 |succ k ih=>
  intro i hi;have hlt:i<l.length:=by omega
  rw[bh (h1 i l[i] _ _ (Q0 hlt) (Qg (by omega)) (by rw[bd];exact Qv hlt) (bD (by omega) (by omega)) (fun x=>jj (by omega) (by simp;omega)) (fun x=>jj (by omega) (by simp;omega))),<-ih (i+1) (by omega),Q7 hlt,List.map_append,List.map_append]
  rfl
theorem F9{p:ai->Bool}{l:List ai}:∀e∈l,(aU e&&p e)=true->0<=e.an/\e.an<10:=fun e _ h=>by
 rw[Qm]at h;exact jk h.1
section
variable {l : List ai} (hl : ∀ e ∈ l, cQ e.aj) (hlen : l.length <= 1000)
 include hl hlen
theorem Rs(b:af):vN l b=some (((dL (fun e=>qF e b||dn e b) (bW l):Nat):Int),((dL (dn · b) (bW l):Nat):Int),()):=by
 unfold vN;refine(TB l hlen (fun e=>aU e&&(qF e b||dn e b)) (fun e=>aU e&&dn e b) (fin:=fun vs as_=>Option.bind (gm l vs) fun r6=>Option.bind (gm l as_) fun r7=>some (r6,r7,())) (fun i e vs as_ he hd hx hw o1 o2=> ?_) (fun vs as_ hd=> ?_)).trans ?_
 ·simp only[hd,hx,hw,Qk,Qa,etas,T1 (hl e he),X3 (hl e he),lL,o1,o2];cases aU e<;>cases qF e b<;>cases dn e b<;>rfl
 ·simp only[hd,Ql]
 ·rw[A8 l hlen _ F9,A8 l hlen _ F9,Qa,Qa,xd,xd]
theorem Rr(v:ByteArray)(lo hi:Int):vK l v lo hi=some (((dL (fun e=>tK e v lo hi||fR e v lo hi) (bW l):Nat):Int),((dL (fR · v lo hi) (bW l):Nat):Int),()):=by
 unfold vK;refine(TB l hlen (fun e=>aU e&&(tK e v lo hi||fR e v lo hi)) (fun e=>aU e&&fR e v lo hi) (fin:=fun vs as_=>Option.bind (gm l vs) fun r6=>Option.bind (gm l as_) fun r7=>some (r6,r7,())) (fun i e vs as_ he hd hx hw o1 o2=> ?_) (fun vs as_ hd=> ?_)).trans ?_
 ·simp only[hd,hx,hw,Qk,Qa,etas,T3 (hl e he),X4 (hl e he),lL,o1,o2];cases aU e<;>cases tK e v lo hi<;>cases fR e v lo hi<;>rfl
 ·simp only[hd,Ql]
 ·rw[A8 l hlen _ F9,A8 l hlen _ F9,Qa,Qa,xd,xd]
end
theorem wa{c:aW}(hc:zV c){v a b:Nat}(hv:v<10)(h1:a<1024)(h2:b<1024):nZ c v a b=some (kL c.bo v a b):=by
 unfold nZ kL;have h3:a|||b<1024:=Nat.or_lt_two_pow (n:=10) h1 h2
 rw[xh h1,xh h2,Nl hc h2,Fy a b (by omega) (by omega),Df hc h3]
 simp[ti (CL hc h3).lt,yt,hv]
theorem uA{c:aW}(hc:zV c){v b:Nat}(hv:v<10)(h2:b<1024):ix c v b=some ((gq c.bo b).testBit v):=by
 unfold ix;rw[Df hc h2];simp[ti (CL hc h2).lt,yt,hv]
end
section
theorem M0{c:aW}{aB:Int}{l:List ai}(hlen:l.length<=100000)(b:af):iy ⟨aB,c,(bW l).map bH.mk⟩ b=gC c aB ((dL (fun e=>qF e b||dn e b) (bW l):Nat):Int) ((dL (dn · b) (bW l):Nat):Int):=by
 have hrl:=Cz l;have hin:=nm l;simp only[iy,oD,kU,Qa,Option.bind_fun_some,Za (by omega:(bW l).length<=1000000) hin,Lq (by omega:(bW l).length<=1000000) hin]
theorem LG{c:aW}{aB:Int}{l:List ai}(hlen:l.length<=100000)(b:af):fp ⟨aB,c,(bW l).map bH.mk⟩ b=eH c aB ((dL (dn · b) (bW l):Nat):Int):=by
 have hrl:=Cz l;have hin:=nm l;simp only[fp,Qa,Option.bind_fun_some,Lq (by omega:(bW l).length<=1000000) hin]
theorem ZB(b:af):ph b=some (sy b):=OC b
def xJ(x:af->Bool)(p q:af)(v:ByteArray)(b:af):Bool:=(decide (v=fH)||decide (b.Value=v))&& !dY (sy p) (sy q) b&&x b
def xL(y:af->Bool)(a b:af):Bool:=bz a b&&decide (b.ak<=1000)&&y b
section
variable {aB : Int} {t : ae} {l : List ai} (hl : rS l) (hlen : l.length <= 1000) {c : aW} {x y : af -> Bool}
 include hl hlen
theorem aeq(hL:fW aB t l=some ⟨aB,c,(bW l).map bH.mk⟩)(hx:∀b,iy ⟨aB,c,(bW l).map bH.mk⟩ b=some (x b))(p q:af)(v:ByteArray):po aB t l p q v=some (((eX l).find? (xJ x p q v)).getD Al):=by
 obtain⟨h1,_,h3,_⟩:=nc hl.aL hlen;unfold po;simp only[etas,hL,h1,Qa];refine CM (eX l) (by omega) (fun i=>(i,af.mk (0:Int) (ByteArray.mk #[]),())) (xJ x p q v) Al (fun i b hd hx' hw=> ?_) (fun hd=> ?_)
 ·simp only[hd,hx',hw,Qk,aN,Qa,OC,sR,hx];unfold xJ fH;cases decide (v=ByteArray.mk #[])<;>cases decide (b.Value=v)<;>cases dY (sy p) (sy q) b<;>cases x b<;>simp
 ·simp only[hd,Ql,Qe];rfl
theorem abi(hx:∀b,rj aB t l b=some (x b))(p q:af)(v:ByteArray):sG aB t l p q v=some (((eX l).find? (xJ x p q v)).getD Al):=by
 obtain⟨h1,_,h3,_⟩:=nc hl.aL hlen;unfold sG;simp only[etas,K3 hl.aL hlen,Qa];refine CM (eX l) (by omega) (fun i=>(i,af.mk (0:Int) (ByteArray.mk #[]),())) (xJ x p q v) Al (fun i b hd hx' hw=> ?_) (fun hd=> ?_)
 ·simp only[hd,hx',hw,Qk,aN,Qa,ZB,uv,hx];unfold xJ fH;cases decide (v=ByteArray.mk #[])<;>cases decide (b.Value=v)<;>cases dY (sy p) (sy q) b<;>cases x b<;>simp
 ·simp only[hd,Ql,Qe];rfl
theorem aeA(hL:fW aB t l=some ⟨aB,c,(bW l).map bH.mk⟩)(hy:∀b,fp ⟨aB,c,(bW l).map bH.mk⟩ b=some (y b))(a:af):l9 aB t l a=some (((eX l).find? (xL y a)).getD Al):=by
 obtain⟨h1,_,h3,_⟩:=nc hl.aL hlen;unfold l9;simp only[etas,hL,h1,Qa];refine CM (eX l) (by omega) (fun i=>(i,af.mk (0:Int) (ByteArray.mk #[]),())) (xL y a) Al (fun i b hd hx' hw=> ?_) (fun hd=> ?_)
 ·simp only[hd,hx',hw,Qk,aN,Qa,jY,oD,hy];unfold xL;cases bz a b<;>cases decide (b.ak<=1000)<;>cases y b<;>simp
 ·simp only[hd,Ql,Qe];rfl
theorem abj(hy:∀b,pS aB t l b=some (y b))(a:af):nV aB t l a=some (((eX l).find? (xL y a)).getD Al):=by
 obtain⟨h1,_,h3,_⟩:=nc hl.aL hlen;unfold nV;simp only[etas,K3 hl.aL hlen,Qa];refine CM (eX l) (by omega) (fun i=>(i,af.mk (0:Int) (ByteArray.mk #[]),())) (xL y a) Al (fun i b hd hx' hw=> ?_) (fun hd=> ?_)
 ·simp only[hd,hx',hw,Qk,Qa,kj,hy];unfold xL;cases bz a b<;>cases decide (b.ak<=1000)<;>cases y b<;>simp
 ·simp only[hd,Ql,Qe];rfl
end
end
end Go.Proofs.YtjbfdglebjnelaaGreat
end
