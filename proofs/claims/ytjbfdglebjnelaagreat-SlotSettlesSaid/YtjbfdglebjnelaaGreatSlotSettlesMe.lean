/-
  Texts made small by a program (see NOTES). Conditions: those that each theorem names.
-/
import Derived.Test.YtjbfdglebjnelaaGreatSlotSettlesMd
set_option linter.unusedVariables false
set_option linter.unusedSimpArgs false
set_option linter.unusedSectionVars false
set_option maxHeartbeats 2000000
noncomputable section
namespace Go.TQ
@[simp] theorem aP {σ ρ:Type} (j:σ->Option ρ) (f:(σ->Option ρ)->Option ρ):aY j f=f j:=rfl
@[simp] theorem lx {α:Type} (b:Bool) (x y:α):(bif b then some x else some y)=some (bif b then x else y):=by cases b<;>rfl
@[simp] theorem ah8 {α:Type} (b:Bool) (x:α):(bif b then x else x)=x:=by cases b<;>rfl
theorem Fq{α:Type}(p:Prop)[Decidable p](x y:α):(bif decide p then x else y)=if p then x else y:=by
 by_cases h:p<;>simp[h]
theorem C6{α:Type}(p:Prop)[Decidable p](x y:α):(if p then some x else some y)=some (if p then x else y):=by split<;>rfl
@[simp] theorem Fp {α:Type} (b:Bool) (x y:α):(bif !b then x else y)=bif b then y else x:=by cases b<;>rfl
@[simp] theorem Bn (a b:Int) (s t:ByteArray):lP false a b s t=(decide (a=b)&&decide (s=t)):=by simp[lP]
@[simp] theorem abq (a b:Int) (s t:ByteArray):lP true a b s t= !(decide (a=b)&&decide (s=t)):=by simp[lP]
def Yd{α:Type}(o:Option α)(p:α->Prop):Prop:=∃x,o=some x/\p x
theorem Yd.bind{α β:Type}{o:Option α}{p:α->Prop}{f:α->Option β}{q:β->Prop}(h:Yd o p)(k:∀x,p x->Yd (f x) q):Yd (o.bind f) q:=by
 obtain⟨x,rfl,hx⟩:=h;exact k x hx
theorem Yd.mono{α:Type}{o:Option α}{p q:α->Prop}(h:Yd o p)(k:∀x,p x->q x):Yd o q:=by
 obtain⟨x,h1,hx⟩:=h;exact⟨x,h1,k x hx⟩
theorem Yd.some{α:Type}{x:α}{p:α->Prop}(h:p x):Yd (Option.some x) p:=⟨x,rfl,h⟩
theorem Yd.of_eq{α:Type}{o:Option α}{x:α}{p:α->Prop}(h:o=Option.some x)(hp:p x):Yd o p:=⟨x,h,hp⟩
theorem Yd.cond{α:Type}{b:Bool}{x y:Option α}{p:α->Prop}(h1:b=true->Yd x p)(h2:b=false->Yd y p):Yd (bif b then x else y) p:=by
 cases b
 ·exact h2 rfl
 ·exact h1 rfl
theorem Yd.map{α β:Type}{o:Option α}{f:α->β}{p:β->Prop}(h:Yd o fun x=>p (f x)):Yd (o.map f) p:=by
 obtain⟨x,rfl,hx⟩:=h;exact⟨f x,rfl,hx⟩
theorem Yd.eq_true{o:Option Bool}(h:Yd o (·=true)):o=Option.some true:=by
 obtain⟨x,h1,rfl⟩:=h;exact h1
theorem wrap64{n:Int}(h1: -9223372036854775808<=n)(h2:n<=9223372036854775807):IntKind.i64.wrap n=n:=i64_in h1 h2
theorem bE{a b:Int}(h1: -9223372036854775808<=a+b)(h2:a+b<=9223372036854775807):aA .i64 a b=a+b:=wrap64 h1 h2
theorem qb{a b:Int}(h1: -9223372036854775808<=a - b)(h2:a - b<=9223372036854775807):de .i64 a b=a - b:=wrap64 h1 h2
theorem bg{α:Type}(l:List α)(i:Nat):idx l (i:Int)=l[i]?:=by simp[idx]
theorem Nv{α:Type}(l:List α){n:Int}(h:0<=n):idx l n=l[n.toNat]?:=by simp[idx,h]
@[simp] theorem afY (n:Nat) (h:n<256):bz .i64 (n:Int)=n:=wrap64 (by omega) (by omega)
@[simp] theorem br {bytes n:Nat} (h:n*bytes<=140737488355328/\n<=1000000):bb bytes n=true:=by
 simp only[bb,Qm,Qi];exact⟨h.1,QK h.2 (by simp[maxLen])⟩
theorem uw(a:Nat)(h:a<2 ^ 62):(BitVec.ofInt 64 (a:Int)).toNat=a:=by
 rw[BitVec.ofInt_natCast,BitVec.toNat_ofNat];exact Nat.mod_eq_of_lt (by omega)
theorem CB(n:Nat)(h:n<2 ^ 62):IntKind.i64.wrap (n:Int)=n:=wrap64 (by omega) (by omega)
theorem Di(a b:Nat)(ha:a<2 ^ 62)(hb:b<2 ^ 62):EH .i64 (a:Int) (b:Int)=((a&&&b:Nat):Int):=by
 show IntKind.i64.wrap (((BitVec.ofInt 64 (a:Int)&&&BitVec.ofInt 64 (b:Int)).toNat:Nat):Int)=_;rw[BitVec.toNat_and,uw a ha,uw b hb];exact CB _ (Nat.lt_of_le_of_lt Nat.and_le_left ha)
theorem E0(a b:Nat)(ha:a<2 ^ 62)(hb:b<2 ^ 62):pF .i64 (a:Int) (b:Int)=((a|||b:Nat):Int):=by
 show IntKind.i64.wrap (((BitVec.ofInt 64 (a:Int)|||BitVec.ofInt 64 (b:Int)).toNat:Nat):Int)=_
 rw[BitVec.toNat_or,uw a ha,uw b hb];exact CB _ (Nat.or_lt_two_pow ha hb)
theorem aeA(s k:Nat):s&&&2 ^ k=if s.testBit k then 2 ^ k else 0:=by
 refine Nat.eq_of_testBit_eq fun i=> ?_
 rw[Nat.testBit_and,Nat.testBit_two_pow]
 by_cases h:k=i
 ·subst h;cases hs:s.testBit k<;>simp
 ·cases hs:s.testBit k<;>simp[h]
theorem xo(k:Nat)(h:k<=60):bS .i64 1 (k:Int)=((2 ^ k:Nat):Int):=by
 show IntKind.i64.wrap (1*2 ^ min (k:Int).toNat 64)=_;rw[QV,show min k 64=k from Nat.min_eq_left (by omega),Int.one_mul]
 have:=CB (2 ^ k) (Nat.pow_lt_pow_right (by omega) (by omega))
 simpa using this
theorem aav(a k:Nat)(h:k<=60):kZ .i64 (a:Int) (k:Int)=((a>>>k:Nat):Int):=by
 show(a:Int).fdiv (2 ^ min (k:Int).toNat 64)=_;rw[QV,show min k 64=k from Nat.min_eq_left (by omega),Nat.shiftRight_eq_div_pow]
 rw[show(2:Int) ^ k=((2 ^ k:Nat):Int)by simp,Int.fdiv_eq_ediv_of_nonneg _ (Int.natCast_nonneg _)]
 exact(Int.natCast_ediv a (2 ^ k)).symm
theorem bw{σ ρ:Type}{step:σ->Option (σ⊕ρ)}{s:σ}{r:ρ}(h:step s=some (.inr r)):aC step s=some r:=by rw[fb,h]
theorem bj{σ ρ:Type}{step:σ->Option (σ⊕ρ)}{s s':σ}(h:step s=some (.inl s')):aC step s=aC step s':=by rw[fb,h]
theorem M0{σ ρ:Type}{step:σ->Option (σ⊕ρ)}{s:σ}(h:step s=none):aC step s=none:=by rw[fb,h]
theorem Yd.loop{σ ρ:Type}{step:σ->Option (σ⊕ρ)}{s:σ}{p:ρ->Prop}(h:Yd (step s) fun y=>match y with| .inl s'=>Yd (aC step s') p| .inr r=>p r):Yd (aC step s) p:=by
 obtain⟨y,h1,h2⟩:=h
 cases y with
 |inl s'=>rw[bj h1];exact h2
 |inr r=>exact⟨r,bw h1,h2⟩
theorem Yd.join{σ ρ:Type}{j:σ->Option ρ}{f:(σ->Option ρ)->Option ρ}{p:ρ->Prop}(inv:σ->Prop)(h1:∀v,inv v->Yd (j v) p)(h2:∀j':σ->Option ρ,(∀v,inv v->Yd (j' v) p)->Yd (f j') p):Yd (aY j f) p:=h2 j h1
theorem Yd.inr{σ ρ:Type}{o:Option ρ}{p:σ⊕ρ->Prop}(h:Yd o fun r=>p (.inr r)):Yd (Option.map Sum.inr o) p:=h.map
def fG{α σ ρ:Type}(g:α->σ->Option (σ⊕ρ))(fin:σ->Option ρ):List α->σ->Option ρ
 |[],s=>fin s
 |x::l,s=>match g x s with
  |none=>none
  |some (.inr r)=>some r
  |some (.inl s')=>fG g fin l s'
theorem XJ{α σ τ ρ:Type}(l:List α)(mk:Int->σ->τ){step:τ->Option (τ⊕ρ)}(g:α->σ->Option (σ⊕ρ))(fin:σ->Option ρ)
  (h1:∀(i:Nat) (x:α) (s:σ),i<l.length->l[i]?=some x->step (mk i s)=match g x s with|none=>none|some (.inr r)=>some (.inr r)|some (.inl s')=>some (.inl (mk (i+1:Nat) s')))
  (h2:∀s,step (mk l.length s)=(fin s).map Sum.inr) (s:σ):aC step (mk 0 s)=fG g fin l s:=by
 suffices h:∀(k:Nat) (i:Nat) (s:σ),i+k=l.length->aC step (mk i s)=fG g fin (l.drop i) s by
  have:=h l.length 0 s (by omega)
  simpa using this
 intro k
 induction k with
 |zero=>
  intro i s hi;obtain rfl:i=l.length:=by omega
  rw[Qq66,fG,fb,h2];cases fin s<;>rfl
 |succ k ih=>
  intro i s hi;have hlt:i<l.length:=by omega
  rw[QM hlt,fG,fb,h1 i l[i] s hlt (Qv hlt)]
  cases hg:g l[i] s with
  |none=>rfl
  |some y=>
   cases y with
   |inr r=>rfl
   |inl s'=>exact ih (i+1) s' (by omega)
theorem iA{α σ τ ρ:Type}(l:List α)(hl:l.length<=9223372036854775807)(mk:Int->σ->τ){step:τ->Option (τ⊕ρ)}(g:α->σ->Option (σ⊕ρ))(fin:σ->Option ρ)
  (h1:∀(i:Nat) (x:α) (s:σ),decide ((i:Int)<((l.length:Nat):Int))=true->idx l (i:Int)=some x->aA .i64 (i:Int) 1=((i+1:Nat):Int)->step (mk i s)=match g x s with|none=>none|some (.inr r)=>some (.inr r)|some (.inl s')=>some (.inl (mk (i+1:Nat) s')))
  (h2:∀s,decide (((l.length:Nat):Int)<((l.length:Nat):Int))=false->step (mk l.length s)=(fin s).map Sum.inr) (s:σ):aC step (mk 0 s)=fG g fin l s:=
 XJ l mk g fin (fun i x s hi hx=>h1 i x s (Qg (Int.ofNat_lt.2 hi)) (by rw[bg];exact hx) (bE (by omega) (by omega))) (fun s=>h2 s (Qh (Qq64 _))) s
end Go.TQ
namespace Go.Proofs.YtjbfdglebjnelaaGreat
open Go.TQ
section
def fE:ByteArray:=⟨#[]⟩
def aF(b:ai):Bool:=decide (b.aj=0)&&decide (b.Value=fE)
def bJ(a b:ByteArray):Bool:=if a.size=b.size then kl a b else decide (a.size<b.size)
def bx(a b:ai):Bool:=if a.aj=b.aj then bJ a.Value b.Value else decide (a.aj<b.aj)
def bM(a b:ai):Bool:=decide (a.Value=b.Value)
def jA(p b:ai):Bool:= !aF p&&bM p b&&decide (b.aj<=p.aj)
def dP(p q b:ai):Bool:=jA p b||jA q b||(!aF q&&bx b q)
def eI(p b:ai):Bool:= !aF p&& !bM p b&&bx b p
def cO(b:ai):Bool:=(decide (1<=b.aj)&&decide (b.aj<=1000)||decide (b.aj=1000000))&&decide (1<=b.Value.size)&&decide (b.Value.size<=200)
theorem Rz:∀x:List UInt8,Op.bytesLess x x=false
 |[]=>rfl
 |a::l=>by simp[Op.bytesLess,Rz l]
theorem UL:∀{x y:List UInt8},x≠y->Op.bytesLess x y=true\/Op.bytesLess y x=true
 |[],[],h=>absurd rfl h
 |[],_::_,_=> .inl rfl
 |_::_,[],_=> .inr rfl
 |a::l,b::m,h=>by
  simp only[Op.bytesLess]
  by_cases hab:a=b
  ·subst hab;have:l≠m:=fun e=>h (by rw[e])
   simpa using UL this
  ·rcases Nat.lt_or_gt_of_ne (fun e=>hab (UInt8.toNat_inj.1 e))with h1|h1
   ·have h2:a<b:=h1;simp[h2]
   ·have h2:b<a:=h1;simp[h2]
theorem CF(a:ByteArray):kl a a=false:=Rz _
@[simp] theorem cD (b:ai):bB b=some (aF b):=by unfold bB aF;rw[Bn];rfl
@[simp] theorem cv (b:ai):bH b=some (aF b):=by unfold bH aF;rw[Bn];rfl
@[simp] theorem fM (a b:ai):bZ a b=some (bM a b):=rfl
@[simp] theorem gH (a b:ai):cz a b=some (bM a b):=rfl
@[simp] theorem vb (b:ai):gR b=some (cO b):=by
 have h1:decide ((1:Int)<=(b.Value.size:Nat))=decide (1<=b.Value.size):=by rw[decide_eq_decide];omega
 have h2:decide (((b.Value.size:Nat):Int)<=200)=decide (b.Value.size<=200):=by rw[decide_eq_decide];omega
 simp only[gR,cO,h1,h2,lx,Qa,Bool.cond_false_right,Bool.cond_true_left]
@[simp] theorem Dr (b:ai):ku b=some (cO b):=vb b
@[simp] theorem zq (a b:ByteArray):ob a b=some (bJ a b):=by
 simp only[ob,bJ,Fp,Int.ofNat_inj,Int.ofNat_lt,Fq,C6]
@[simp] theorem jT (a b:ai):fB a b=some (bx a b):=by
 simp[fB,bx,Fq,C6]
@[simp] theorem BY (a b:ai):mC a b=some (jA a b):=by simp[mC,jA]
@[simp] theorem Yz (a b:ai):kM a b=some (jA a b):=by simp[kM,jA]
@[simp] theorem tL (p q b:ai):jg p q b=some (dP p q b):=by simp[jg,dP]
@[simp] theorem BZ (p b:ai):gI p b=some (eI p b):=by simp[gI,eI]
def xL(a b:Int):Int:=if a<b then -1 else if b<a then 1 else 0
def LU(a b:ByteArray):Int:=if kl a b then -1 else if kl a b||decide (a=b)then 0 else 1
def orL:List Int->Int
 |[]=>0
 |x::l=>if x=0 then orL l else x
@[simp] theorem GY (a b:Int):eZ a b=some (xL a b):=by
 simp[eZ,uf,xL,Fq,C6]
@[simp] theorem U9 (a b:ByteArray):lG a b=some (LU a b):=by
 simp only[lG,qK,LU];cases h1:kl a b<;>by_cases h2:a=b<;>simp[h2]
theorem Og(l:List Int)(hl:l.length<=1000000):nk l=some (orL l):=by
 unfold nk;rw[iA l (by omega) (fun i (_:Unit)=>(i,())) (fun x _=>some (if x=0 then .inl ()else .inr x)) (fun _=>some 0) (fun i x s hd hx hw=> ?_) (fun s hd=> ?_) ()]
 ·induction l with
  |nil=>rfl
  |cons x l ih=>
   rw[fG,orL]
   by_cases h:x=0
   ·simp only[h,Qt];exact ih (by simp at hl;omega)
   ·simp only[Qs h]
 ·by_cases h:x=0<;>simp only[hd,hx,hw,h,Qk,Qa]<;>simp
 ·simp only[hd,Ql]
@[simp] theorem ab2 (a b:Int):nk [a,b]=some (if a=0 then b else a):=by
 rw[Og _ (by simp)]
 simp only[orL]
 by_cases h:a=0<;>by_cases h':b=0<;>simp[h,h']
def uP(a b:ByteArray):Int:=if xL a.size b.size=0 then LU a b else xL a.size b.size
def UG(a b:ai):Int:=if xL a.aj b.aj=0 then uP a.Value b.Value else xL a.aj b.aj
@[simp] theorem BK (a b:ByteArray):hZ a b=some (uP a b):=by simp[hZ,uP]
@[simp] theorem Yt (a b:ai):oo a b=some (UG a b):=by simp[oo,UG]
theorem qu(a b:Int):xL a b=0↔a=b:=by unfold xL;split<;>(try split)<;>omega
theorem GK(a b:Int):xL a b<0↔a<b:=by unfold xL;split<;>(try split)<;>omega
theorem abF(a b:ByteArray):LU a b<0↔kl a b=true:=by
 unfold LU;split
 ·rename_i h;simp[h]
 ·rename_i h;split<;>simp[h]
theorem sR(a b:ByteArray):decide (uP a b<0)=bJ a b:=by
 unfold uP bJ
 by_cases h:a.size=b.size
 ·rw[Qr ((qu _ _).2 (by rw[h])),Qr h]
  rw[QW,Qi,abF]
 ·rw[Qs (fun e=>h (by have:=(qu _ _).1 e;omega)),Qs h,decide_eq_decide,GK]
  omega
theorem UF(a b:ai):decide (UG a b<0)=bx a b:=by
 unfold UG bx
 by_cases h:a.aj=b.aj
 ·rw[Qr ((qu _ _).2 h),Qr h,sR]
 ·rw[Qs (fun e=>h ((qu _ _).1 e)),Qs h,decide_eq_decide,GK]
@[simp] theorem jL (a b:ai):ed a b=some (bx a b):=by simp[ed,UF]
@[simp] theorem sn (p q b:ai):hY p q b=some (dP p q b):=by simp[hY,dP]
@[simp] theorem tO (p b:ai):eo p b=some (eI p b):=by simp[eo,eI]
def finite(b:ai):Bool:=cO b&&decide (b.aj<=1000)
@[simp] theorem Fy (b:ai):ni b=some (finite b):=by simp[ni,finite]
@[simp] theorem DA (b:ai):lF b=some (aF b||cO b):=by simp[lF]
@[simp] theorem B0 (e:ae) (n:Int):oQ e n=some ⟨n,e.ab.Value⟩:=rfl
end
section
theorem Pp{rec:(af×Unit)->Option Int}{t:af}(hl:t.aN.length<=9223372036854775807):
  jM rec t=fG (fun u m=>(rec (u,())).map fun r=> .inl (bD m r)) (fun m=>some (aA .i64 m 1)) t.aN 0:=by
 unfold jM;rw[iA t.aN hl (fun i (m:Int)=>(m,i,())) (fun u m=>(rec (u,())).map fun r=> .inl (bD m r)) (fun m=>some (aA .i64 m 1)) (fun i x s hd hx hw=> ?_) (fun s hd=> ?_) 0]
 ·simp only[hd,hx,hw,Qk,Qa,etas];cases rec (x,())<;>rfl
 ·simp only[hd,Ql]
theorem U8{rec:(af×Unit)->Option Int}{t:af}(hl:t.aN.length<=9223372036854775807):
  kN rec t=fG (fun u m=>(rec (u,())).map fun r=> .inl (aA .i64 m r)) (fun m=>some m) t.aN (aA .i64 t.aX.length t.aN.length):=by
 unfold kN;rw[iA t.aN hl (fun i (m:Int)=>(m,i,())) (fun u m=>(rec (u,())).map fun r=> .inl (aA .i64 m r)) (fun m=>some m) (fun i x s hd hx hw=> ?_) (fun s hd=> ?_) (aA .i64 t.aX.length t.aN.length)]
 ·simp only[hd,hx,hw,Qk,Qa,etas];cases rec (x,())<;>rfl
 ·simp only[hd,Ql]
theorem PJ(t:af):BJ t=jE t:=rfl
theorem SY(t:af):Ds t=kE t:=rfl
def eH(x:Int):Bool:=decide (0<=x)&&decide (x<10)
def uH(s x:Int):Bool:=decide (0<=s)&&decide (s<1024)&&eH x&&s.toNat.testBit x.toNat
theorem JH(s:Int):ft s=some (decide (0<=s)&&decide (s<1024)):=by
 have:bS .i64 1 10=1024:=xo 10 (by omega)
 simp[ft,zu,this]
theorem UR{s x:Int}(h1:0<=s)(h2:s<1024)(h3:0<=x)(h4:x<10):(EH .i64 s (bS .i64 1 x)=0)=(s.toNat.testBit x.toNat=false):=by
 obtain⟨n,rfl⟩:=Int.eq_ofNat_of_zero_le h1;obtain⟨j,rfl⟩:=Int.eq_ofNat_of_zero_le h3;have hj:2 ^ j<=2 ^ 10:=Nat.pow_le_pow_right (by omega) (by omega)
 rw[xo j (by omega),Di n (2 ^ j) (by omega) (by omega),aeA]
 simp only[QV];have hp:2 ^ j≠0:=Nat.pos_iff_ne_zero.1 (Nat.pow_pos (by omega))
 cases n.testBit j
 ·simp
 ·rw[Qr rfl];simp only[Bool.true_eq_false,eq_iff_iff,iff_false];omega
@[simp] theorem mF (s x:Int):kx s x=some (uH s x):=by
 unfold kx uH eH;rw[JH]
 by_cases h1:0<=s
 ·by_cases h2:s<1024
  ·by_cases h3:0<=x
   ·by_cases h4:x<10
    ·have h5:¬x<0:=by omega
     have:=UR h1 h2 h3 h4;simp[h1,h2,h3,h4,h5,this]
    ·simp[h1,h2,h3,h4]
   ·simp[h1,h2,h3]
  ·simp[h1,h2]
 ·simp[h1]
theorem Vf{s x:Int}(h1:0<=s)(h2:s<1024)(h3:0<=x)(h4:x<10):(EH .i64 (kZ .i64 s x) 1=1)=(s.toNat.testBit x.toNat=true):=by
 obtain⟨n,rfl⟩:=Int.eq_ofNat_of_zero_le h1;obtain⟨j,rfl⟩:=Int.eq_ofNat_of_zero_le h3;have hle:n>>>j<=n:=by rw[Nat.shiftRight_eq_div_pow];exact Nat.div_le_self _ _
 rw[aav n j (by omega),show(1:Int)=((1:Nat):Int)from rfl,Di _ 1 (by omega) (by omega)]
 simp only[QV,Int.ofNat_inj,Nat.testBit,eq_iff_iff];rw[Nat.and_comm];simp
@[simp] theorem oO (s x:Int):kg s x=some (uH s x):=by
 unfold kg fq uH eH
 by_cases h1:0<=s
 ·by_cases h2:s<1024
  ·have h2':s<=1023:=by omega
   by_cases h3:0<=x
   ·by_cases h4:x<10
    ·have h5:¬x<0:=by omega
     have:=Vf h1 h2 h3 h4;simp[h1,h2,h2',h3,h4,h5,this]
    ·simp[h1,h2,h2',h3,h4]
   ·simp[h1,h2,h2',h3]
  ·have h2':¬s<=1023:=by omega
   simp[h1,h2,h2']
 ·simp[h1]
theorem nu{s:Nat}{x:Int}(h1:s<1024)(h3:0<=x)(h4:x<10):pF .i64 (s:Int) (bS .i64 1 x)=((s|||2 ^ x.toNat:Nat):Int):=by
 obtain⟨j,rfl⟩:=Int.eq_ofNat_of_zero_le h3;have hj:2 ^ j<=2 ^ 9:=Nat.pow_le_pow_right (by omega) (by omega)
 rw[xo j (by omega)]
 exact E0 s (2 ^ j) (by omega) (by omega)
theorem AE{s:Nat}{x:Int}(h1:s<1024)(h4:x<10):s|||2 ^ x.toNat<1024:=by
 have hj:2 ^ x.toNat<=2 ^ 9:=Nat.pow_le_pow_right (by omega) (by omega)
 exact Nat.or_lt_two_pow (n:=10) h1 (by omega)
def sB(s:Nat):List Int->Int×Int×Unit
 |[]=>(s,0,())
 |x::l=>if eH x then(if s.testBit x.toNat then(0,6,())else sB (s|||2 ^ x.toNat) l)else(0,5,())
theorem Wb(g:Int->Int->Option (Int⊕(Int×Int×Unit)))
  (hg:∀x (s:Nat),s<1024->g x s=some (if eH x then(if s.testBit x.toNat then .inr (0,6,())else .inl ((s|||2 ^ x.toNat:Nat):Int))else .inr (0,5,()))):
  ∀(l:List Int) (s:Nat),s<1024->fG g (fun s=>some (s,0,())) l s=some (sB s l)
 |[],s,_=>rfl
 |x::l,s,hs=>by
  rw[fG,hg x s hs,sB]
  cases h1:eH x with
  |false=>simp
  |true=>
   cases h2:s.testBit x.toNat with
   |true=>simp
   |false=>
    simp only[Qt,Qq,Qu];have h3:x<10:=by simp[eH]at h1;omega
    exact Wb g hg l _ (AE hs h3)
theorem D7(l:List Int)(hl:l.length<=9223372036854775807):sd l=some (sB 0 l):=by
 unfold sd;rw[iA l hl (fun i (s:Int)=>(s,i,())) (fun x s=>if eH x then(if uH s x then some (.inr (0,6,()))else some (.inl (pF .i64 s (bS .i64 1 x))))else some (.inr (0,5,()))) (fun s=>some (s,0,())) (fun i x s hd hx hw=> ?_) (fun s hd=> ?_) 0]
 ·refine Wb _ (fun x s hs=> ?_) l 0 (by omega)
  cases h1:eH x with
  |false=>simp
  |true=>
   have h3:0<=x/\x<10:=by simp[eH]at h1;omega
   have h2:uH s x=s.testBit x.toNat:=by simp[uH,h1];omega
   rw[h2,nu hs h3.1 h3.2];cases s.testBit x.toNat<;>simp
 ·simp only[hd,hx,hw,Qk,Qa,mF]
  by_cases h0:x<0
  ·have:¬0<=x:=by omega
   simp[h0,eH,this]
  ·have h0':0<=x:=by omega
   by_cases h10:10<=x
   ·have:¬x<10:=by omega
    simp[h0,h10,eH,this,h0']
   ·have h10':x<10:=by omega
    cases h:uH s x<;>simp[h0,h10,eH,h0',h10']
 ·simp only[hd,Ql]
theorem R8(l:List Int)(hl:l.length<=9223372036854775807):zt l=some (sB 0 l):=by
 have:zt l=sd l:=by
  unfold zt sd;simp only[oO,mF]
 rw[this,D7 l hl]
@[simp] theorem wU (x:Int):me x=some (!eH x):=by simp[me,xQ,eH]
theorem Kg(l:List Int)(hl:l.length<=9223372036854775807):gA l=some (l.any fun x=> !eH x):=by
 have key:∀(i:Nat) (k:Nat),i+k=l.length->Yd (aC (fun(v1:Int×Unit)=>bif (decide (v1.1<((List.length l:Nat):Int)))then Option.bind (idx l v1.1) fun x2=>Option.bind (me x2) fun r3=>bif r3 then Option.map Sum.inr (some v1.1)else some (Sum.inl ((aA .i64 v1.1 (1:Int)),()))else Option.map Sum.inr (some (-1:Int))) ((i:Int),())) fun r=>decide (0<=r)=(l.drop i).any fun x=> !eH x:=by
  intro i k
  induction k generalizing i with
  |zero=>
   intro hi;refine⟨-1,bw ?_,?_⟩
   ·have:¬((i:Int)<(l.length:Int)):=by omega
    simp[this]
   ·rw[List.drop_eq_nil_of_le (by omega)];rfl
  |succ k ih=>
   intro hi;have hlt:i<l.length:=by omega
   have hd:decide ((i:Int)<((l.length:Nat):Int))=true:=Qg (Int.ofNat_lt.2 hlt);have hx:idx l (i:Int)=some l[i]:=by rw[bg];exact Qv hlt
   have hw:aA .i64 (i:Int) 1=((i+1:Nat):Int):=bE (by omega) (by omega)
   rw[QM hlt,List.any_cons]
   cases h:eH l[i]with
   |true=>
    rw[bj (s':=(((i+1:Nat):Int),())) (by simp only[hd,hx,hw,Qk,Qa,wU,h];rfl)]
    exact(ih (i+1) (by omega)).mono fun r hr=>by simpa using hr
   |false=>
    refine⟨i,bw (by simp only[hd,hx,Qk,Qa,wU,h];rfl),?_⟩
    simp
 obtain⟨r,h1,h2⟩:=key 0 l.length (by omega)
 unfold gA lg;simp only[Int.natCast_zero]at h1;rw[h1];simpa using h2
def rE(rec:af->Option Int)(t:af):Option Int:=
 if t.aG<1\/aA .i64 t.aX.length t.aN.length<t.aG then some 4
 else if(t.aX.any fun x=> !eH x)then some 5
 else if(sB 0 t.aX).2.1=0 then fG (fun u (_:Unit)=>(rec u).map fun r=>if r=0 then .inl ()else .inr r) (fun _=>some 0) t.aN ()
 else some (sB 0 t.aX).2.1
theorem JM{rec:(af×Unit)->Option Int}{t:af}(hn:t.aX.length<=9223372036854775807)(hl:t.aN.length<=9223372036854775807):iL rec t=rE (fun u=>rec (u,())) t:=by
 unfold iL rE;rw[Kg _ hn,D7 _ hn];rw[iA t.aN hl (fun i (_:Unit)=>(i,())) (fun u (_:Unit)=>(rec (u,())).map fun r=>if r=0 then .inl ()else .inr r) (fun _=>some 0) (fun i x s hd hx hw=> ?_) (fun s hd=> ?_) ()]
 ·by_cases h1:t.aG<1
  ·simp[h1]
  ·by_cases h2:aA .i64 t.aX.length t.aN.length<t.aG
   ·simp[h1,h2]
   ·simp only[h1,h2,decide_false,Ql,Qa,or_self,Qu]
    cases (t.aX.any fun x=> !eH x)with
    |true=>simp
    |false=>
     by_cases h3:(sB 0 t.aX).2.1=0<;>simp[h3]
 ·simp only[hd,hx,hw,Qk,Qa,etas]
  cases rec (x,())with
  |none=>rfl
  |some r=>by_cases h:r=0<;>simp[h]
 ·simp only[hd,Ql]
theorem Pq{rec:(af×Unit)->Option Int}{t:af}(hn:t.aX.length<=9223372036854775807)(hl:t.aN.length<=9223372036854775807):nY rec t=rE (fun u=>rec (u,())) t:=by
 unfold nY rE;rw[iA t.aX hn (fun i (_:Unit)=>(i,())) (fun x (_:Unit)=>some (if eH x then .inl ()else .inr 5)) (fun _=>if(sB 0 t.aX).2.1=0 then fG (fun u (_:Unit)=>(rec (u,())).map fun r=>if r=0 then .inl ()else .inr r) (fun _=>some 0) t.aN ()else some (sB 0 t.aX).2.1) (fun i x s hd hx hw=> ?_) (fun s hd=> ?_) ()]
 ·by_cases h1:t.aG<1
  ·simp[h1]
  ·by_cases h2:aA .i64 t.aX.length t.aN.length<t.aG
   ·simp[h1,h2]
   ·simp only[h1,h2,decide_false,Ql,Qa,or_self,Qu]
    have:∀(l:List Int) (fin:Unit->Option Int),fG (fun x (_:Unit)=>some (if eH x then .inl ()else .inr 5)) fin l ()=if(l.any fun x=> !eH x)then some 5 else fin ():=by
     intro l fin
     induction l with
     |nil=>rfl
     |cons x l ih=>
      rw[fG,List.any_cons]
      cases h:eH x with
      |true=>simpa using ih
      |false=>simp
    exact this _ _
 ·simp only[hd,hx,hw,Qk,Qa,eH]
  by_cases h0:x<0
  ·have h0':¬0<=x:=by omega
   simp[h0,h0']
  ·have h0':0<=x:=by omega
   by_cases h1:10<=x
   ·have h1':¬x<10:=by omega
    simp[h0,h0',h1,h1']
   ·have h1':x<10:=by omega
    simp[h0,h0',h1,h1']
 ·simp only[hd,Ql];rw[R8 _ hn,Qa];rw[iA t.aN hl (fun i (_:Unit)=>(i,())) (fun u (_:Unit)=>(rec (u,())).map fun r=>if r=0 then .inl ()else .inr r) (fun _=>some 0) (fun i x s hd hx hw=> ?_) (fun s hd=> ?_) ()]
  ·by_cases h3:(sB 0 t.aX).2.1=0<;>simp[h3]
  ·simp only[hd,hx,hw,Qk,Qa,etas]
   cases rec (x,())with
   |none=>rfl
   |some r=>by_cases h:r=0<;>simp[h]
  ·simp only[hd,Ql]
structure et (t:af):Prop where
 nodes:∀x∈t.aX,0<=x/\x<10
 nodup:t.aX.Nodup
 len:t.aX.length<=10
 inner:t.aN=[]\/∃x,0<=x/\x<10/\t.aN=[⟨1,[x],[]⟩]
 th:1<=t.aG/\t.aG<=t.aX.length+t.aN.length
theorem F6:∀(l:List Int) (s:Nat),(∀x∈l,0<=x/\x<10)->l.Nodup->(∀x∈l,s.testBit x.toNat=false)->(sB s l).2.1=0
 |[],s,_,_,_=>rfl
 |x::l,s,h1,h2,h3=>by
  rw[List.nodup_cons]at h2;have hx:=h1 x (by simp)
  have:eH x=true:=by simp[eH];omega
  rw[sB,this,h3 x (by simp)]
  simp only[Qt,Qq,Qu];refine F6 l _ (fun y hy=>h1 y (by simp[hy])) h2.2 fun y hy=> ?_
  have hy1:=h1 y (by simp[hy])
  rw[Nat.testBit_or,h3 y (by simp[hy]),Nat.testBit_two_pow]
  have:x.toNat≠y.toNat:=fun e=>by
   have:x=y:=by omega
   subst this;exact h2.1 hy
  simp[this]
theorem UQ{l:List Int}(h:∀x∈l,0<=x/\x<10):(l.any fun x=> !eH x)=false:=by
 rw[List.any_eq_false];intro x hx;have:=h x hx;simp[eH];omega
theorem Ks{rec:af->Option Int}{x:Int}(h0:0<=x)(h1:x<10):rE rec ⟨1,[x],[]⟩=some 0:=by
 have h2:aA .i64 (1:Nat) (0:Nat)=1:=rfl;have h3:(sB 0 [x]).2.1=0:=F6 [x] 0 (by simp;omega) (by simp) (by simp)
 have h4:([x].any fun x=> !eH x)=false:=UQ (by simp;omega)
 simp only[rE,QE,QZ,Nat.zero_add,h2,h3,h4];simp[fG]
theorem M1{t:af}(h:et t){rec:af->Option Int}(hr:∀x,0<=x->x<10->rec ⟨1,[x],[]⟩=some 0):rE rec t=some 0:=by
 have hil:t.aN.length<=1:=by rcases h.inner with e|⟨x,_,_,e⟩<;>rw[e]<;>simp
 have hlen:=h.len;have h2:aA .i64 t.aX.length t.aN.length=t.aX.length+t.aN.length:=bE (by omega) (by omega)
 have h3:(sB 0 t.aX).2.1=0:=F6 _ 0 h.nodes h.nodup (by simp)
 have h4:=UQ h.nodes;have h5:=h.th;unfold rE;rw[h2,Qs (by omega),h4,h3]
 simp only[Qq,Qu,Qt];rcases h.inner with e|⟨x,hx0,hx1,e⟩
 ·rw[e];rfl
 ·rw[e,fG,hr x hx0 hx1];rfl
theorem EN(t:af):∃n,SizeOf.sizeOf t=n+1:=by
 have:1<=SizeOf.sizeOf t:=by
  cases t;simp only[af.mk.sizeOf_spec];omega
 exact⟨SizeOf.sizeOf t - 1,by omega⟩
theorem X2(n:Nat)(th:Int)(l:List Int):oa (n+1) (⟨th,l,[]⟩,())=some 1:=by
 show jM _ _=_;rw[Pp (by simp)]
 rfl
theorem size_leaf(n:Nat)(th:Int)(l:List Int):o0 (n+1) (⟨th,l,[]⟩,())=some (aA .i64 l.length (0:Nat)):=by
 show kN _ _=_;rw[U8 (by simp)]
 rfl
theorem NP{t:af}(h:et t):∃d,jE t=some d/\d<=2:=by
 obtain⟨n,hn⟩:=EN t;have hil:t.aN.length<=1:=by rcases h.inner with e|⟨x,_,_,e⟩<;>rw[e]<;>simp
 unfold jE;rw[hn];show∃d,jM (oa (n+1)) t=some d/\d<=2;rw[Pp (by omega)]
 rcases h.inner with e|⟨x,_,_,e⟩
 ·rw[e];exact⟨1,rfl,by omega⟩
 ·rw[e,fG,X2 n 1 [x]];exact⟨2,rfl,by omega⟩
theorem Pz{t:af}(h:et t):∃d,kE t=some d/\d<=200:=by
 obtain⟨n,hn⟩:=EN t;have hil:t.aN.length<=1:=by rcases h.inner with e|⟨x,_,_,e⟩<;>rw[e]<;>simp
 have hlen:=h.len;unfold kE;rw[hn];show∃d,kN (o0 (n+1)) t=some d/\d<=200;rw[U8 (by omega),bE (by omega) (by omega)]
 rcases h.inner with e|⟨x,_,_,e⟩
 ·rw[e];exact⟨_,rfl,by simp;omega⟩
 ·rw[e,fG,size_leaf n 1 [x]];have h1:aA .i64 (([x]:List Int).length:Nat) (0:Nat)=1:=rfl;rw[h1];refine⟨_,rfl,?_⟩;simp only[QE,QZ];rw[bE (by omega) (by omega)]
  omega
theorem dn{t:af}(h:et t):cd t=some 0:=by
 obtain⟨d,h1,h2⟩:=NP h;obtain⟨z,h3,h4⟩:=Pz h;obtain⟨n,hn⟩:=EN t;have hil:t.aN.length<=1:=by rcases h.inner with e|⟨x,_,_,e⟩<;>rw[e]<;>simp
 have hlen:=h.len
 have h5:lI t=some 0:=by
  unfold lI;rw[hn];show iL (fJ (n+1)) t=some 0;rw[JM (by omega) (by omega)]
  refine M1 h fun x hx0 hx1=> ?_
  show iL (fJ n) ⟨1,[x],[]⟩=some 0;rw[JM (by simp) (by simp)]
  exact Ks hx0 hx1
 have h6:¬4<d:=by omega
 have h7:¬200<z:=by omega
 simp[cd,h1,h3,h5,h6,h7]
theorem eD{t:af}(h:et t):dt t=some 0:=by
 obtain⟨d,h1,h2⟩:=NP h;obtain⟨z,h3,h4⟩:=Pz h;obtain⟨n,hn⟩:=EN t;have hil:t.aN.length<=1:=by rcases h.inner with e|⟨x,_,_,e⟩<;>rw[e]<;>simp
 have hlen:=h.len
 have h5:tt t=some 0:=by
  unfold tt;rw[hn];show nY (pS (n+1)) t=some 0;rw[Pq (by omega) (by omega)]
  refine M1 h fun x hx0 hx1=> ?_
  show nY (pS n) ⟨1,[x],[]⟩=some 0;rw[Pq (by simp) (by simp)]
  exact Ks hx0 hx1
 have h6:¬4<d:=by omega
 have h7:¬200<z:=by omega
 simp[dt,PJ,SY,h1,h3,h5,h6,h7]
end
section
structure ma (s:dm):Prop where
 len:s.L.length<=800
 lo:0<=s.At
 hi:s.At<=800
theorem af9(l:List Int):Yd (Co l) fun s=>ma s:=by
 have h:dF (l.length:Int) 800=((min l.length 800:Nat):Int):=by unfold dF;split<;>omega
 have h2:cJ 0 ((min l.length 800:Nat):Int) l.length=true:=by
  simp only[cJ,Qm,Qi];omega
 unfold Co;rw[h,h2];refine Yd.some ⟨?_,by simp,by simp⟩
 simp only[QV,List.length_drop,List.length_take];omega
theorem acU(x n:Int)(hn:1<=n): -n<x.tmod n/\x.tmod n<n:=by
 have h2:=Int.emod_nonneg x (show n≠0 by omega)
 have h3:=Int.emod_lt_of_pos x (show 0<n by omega)
 rw[Int.tmod_eq_emod];split
 ·omega
 ·rw[Int.natAbs_of_nonneg (by omega)];omega
theorem pM{s:dm}(h:ma s){n:Int}(hn:n<=1000000000):Yd (bR s n) fun p=>ma p.2/\0<=p.1/\(1<=n->p.1<n)/\(n<1->p.1=0):=by
 unfold bR;simp only[aP];refine Yd.cond (fun h1=> ?_) (fun h1=> ?_)
 ·exact Yd.some ⟨h,by simp,fun _=>by simp;omega,fun _=>rfl⟩
 ·simp only[Qj,Int.not_le]at h1;refine Yd.cond (fun h2=> ?_) (fun h2=> ?_)
  ·simp only[Qi]at h2;exact Yd.some ⟨h,by simp,fun _=>by simp;omega,fun _=>rfl⟩
  ·simp only[Qj,Int.not_lt]at h2;obtain⟨hl,hlo,hhi⟩:=h;have e1:aA .i64 s.At 1=s.At+1:=bE (by omega) (by omega)
   have e2:de .i64 (s.At+1) 1=s.At:=by rw[qb (by omega) (by omega)];omega
   rw[e1,e2];have hlt:s.At.toNat<s.L.length:=by omega
   rw[Nv _ hlo,Qv hlt,Qa,Qs (by omega),Qs (by omega)]
   have hb:=acU s.L[s.At.toNat] n h2;have e3:Xg .i64 s.L[s.At.toNat] n=s.L[s.At.toNat].tmod n:=rfl;rw[e3];generalize s.L[s.At.toNat].tmod n=y at hb;have e4:aA .i64 y n=y+n:=bE (by omega) (by omega)
   rw[e4];have h5:Xg .i64 (y+n) n=(y+n) % n:=Int.tmod_eq_emod_of_nonneg (by omega)
   rw[h5];exact Yd.some ⟨⟨hl,by simp;omega,by simp;omega⟩,Int.emod_nonneg _ (by omega),fun _=>Int.emod_lt_of_pos _ (by omega),fun _=>by omega⟩
theorem nS{s:dm}(h:ma s){a b:Int}(h1:0<=a)(h2:a<=b+1)(h3:b<=1000000):Yd (cF s a b) fun p=>ma p.2/\a<=p.1/\(a<=b->p.1<=b)/\(b<a->p.1=a):=by
 unfold cF;have e1:de .i64 b a=b - a:=qb (by omega) (by omega)
 have e2:aA .i64 (b - a) 1=b - a+1:=bE (by omega) (by omega)
 rw[e1,e2];refine(pM h (by omega)).bind fun p ⟨h4,h5,h6,h7⟩=> ?_
 have e3:aA .i64 a p.1=a+p.1:=by
  by_cases hq:b - a+1<1
  ·rw[h7 hq];exact bE (by omega) (by omega)
  ·have:=h6 (by omega);exact bE (by omega) (by omega)
 rw[e3];refine Yd.some ⟨h4,by simp;omega,fun hab=> ?_,fun hab=> ?_⟩
 ·have:=h6 (by omega)
  show a+p.1<=b;omega
 ·have:=h7 (by omega)
  show a+p.1=a;omega
theorem aeK{s:dm}(h:ma s){l:List ByteArray}(h1:1<=l.length)(h2:l.length<=1000):Yd (uc s l) fun p=>ma p.2/\p.1∈l:=by
 unfold uc;refine(pM h (by omega)).bind fun p ⟨h4,h5,h6,_⟩=> ?_
 have:=h6 (by omega)
 have hlt:p.1.toNat<l.length:=by omega
 rw[Nv _ h5,Qv hlt];exact Yd.some ⟨h4,Q0 hlt⟩
def KL(v:ByteArray):Prop:=v∈[(ByteArray.mk #[97]),(ByteArray.mk #[98]),(ByteArray.mk #[99]),(ByteArray.mk #[97,97])]
theorem KL.size{v:ByteArray}(h:KL v):1<=v.size/\v.size<=2:=by
 simp only[KL,QA,QR,or_false]at h;rcases h with rfl|rfl|rfl|rfl<;>exact⟨by decide,by decide⟩
theorem GR{s:dm}(h:ma s):Yd (kI s) fun p=>ma p.2/\KL p.1:=by
 unfold kI;exact(aeK h (by simp) (by simp)).bind fun p hp=>Yd.some hp
theorem aak{s:dm}(h:ma s):Yd (sb s) fun p=>ma p.2/\1<=p.1.aj/\p.1.aj<=6/\KL p.1.Value:=by
 unfold sb;refine(nS h (by omega) (by omega) (by omega)).bind fun p ⟨h1,h2,h3,_⟩=> ?_
 refine(GR h1).bind fun q ⟨h4,h5⟩=> ?_
 exact Yd.some ⟨h4,h2,h3 (by omega),h5⟩
theorem GS{s:dm}(h:ma s){n:Nat}(hn1:1<=n)(hn:n<=10):Yd (kJ s n) fun p=>ma p.2/\et p.1/\(∀x∈p.1.aX,x<n)/\p.1.aX≠[]:=by
 unfold kJ;simp only[aP]
 let I (i:Nat) (s:dm) (t:af) (ns:List Int) (is:List af):Prop:=ma s/\t.aG=0/\(∀x∈ns,0<=x/\x<i)/\ns.Nodup/\ns.length<=i/\is=[]
 suffices key:∀(k i:Nat) (s:dm) (t:af) (ns:List Int) (is:List af),i+k=n->I i s t ns is->Yd (aC _ ((i:Int),s,t,ns,is,())) _ from key n 0 s _ _ _ (by omega) ⟨h,rfl,by simp,by simp,by simp,rfl⟩
 intro k
 induction k with
 |zero=>
  intro i s t ns is hi ⟨h1,h2,h3,h4,h5,h6⟩;obtain rfl:i=n:=by omega
  subst h6;have hd:decide ((i:Int)<(i:Int))=false:=Qh (Qq64 _);refine Yd.loop ?_;simp only[hd,Ql];refine Yd.inr ?_
  have fin:∀(s:dm) (ns:List Int) (is:List af) (th:Int),ma s->(∀x∈ns,0<=x/\x<i)->ns.Nodup->ns.length<=10->ns≠[]->(is=[]\/∃x,0<=x/\x<10/\is=[⟨1,[x],[]⟩])->1<=th->th<=ns.length+is.length->
    ma s/\et ⟨th,ns,is⟩/\(∀x∈ns,x<(i:Int))/\ns≠[]:=by
   intro s ns is th a1 a2 a3 a4 a5 a6 a7 a8;exact⟨a1,⟨fun x hx=>by have:=a2 x hx;exact⟨this.1,by omega⟩,a3,a4,a6,a7,a8⟩,fun x hx=>(a2 x hx).2,a5⟩
  have tail:∀(s:dm) (ns:List Int) (is:List af),ma s->(∀x∈ns,0<=x/\x<i)->ns.Nodup->ns.length<=10->ns≠[]->(is=[]\/∃x,0<=x/\x<10/\is=[⟨1,[x],[]⟩])->
    Yd (Option.bind (cF s (Tf .i64 (aA .i64 (aA .i64 ((List.length ns:Nat):Int) ((List.length is:Nat):Int)) (1:Int)) (2:Int)) (aA .i64 ((List.length ns:Nat):Int) ((List.length is:Nat):Int))) fun p9=>
     Option.bind (bR p9.2 (6:Int)) fun p12=>
     bif (decide (p12.1=(5:Int)))then some ((af.mk (1:Int) ns is),p12.2)else some ((af.mk p9.1 ns is),p12.2)) fun p=>ma p.2/\et p.1/\(∀x∈p.1.aX,x<(i:Int))/\p.1.aX≠[]:=by
   intro s ns is a1 a2 a3 a4 a5 a6;have hp:1<=ns.length:=by cases ns with|nil=>exact absurd rfl a5|cons x l=>simp
   have hil:is.length<=1:=by rcases a6 with e|⟨x,_,_,e⟩<;>rw[e]<;>simp
   have e1:aA .i64 ((List.length ns:Nat):Int) ((List.length is:Nat):Int)=ns.length+is.length:=bE (by omega) (by omega)
   have e2:aA .i64 ((ns.length:Int)+is.length) 1=ns.length+is.length+1:=bE (by omega) (by omega)
   have e3:Tf .i64 ((ns.length:Int)+is.length+1) 2=(ns.length+is.length+1) / 2:=by
    show IntKind.i64.wrap (Int.tdiv _ _)=_;rw[Int.tdiv_eq_ediv_of_nonneg (by omega)]
    exact wrap64 (by omega) (by omega)
   rw[e1,e2,e3];refine(nS a1 (by omega) (by omega) (by omega)).bind fun p ⟨b1,b2,b3,_⟩=> ?_
   refine(pM b1 (by omega)).bind fun q ⟨c1,_⟩=> ?_
   have b4:=b3 (by omega)
   refine Yd.cond (fun _=>Yd.some (fin q.2 ns is 1 c1 a2 a3 a4 a5 a6 (by omega) (by omega))) (fun _=>Yd.some (fin q.2 ns is p.1 c1 a2 a3 a4 a5 a6 (by omega) (by omega)))
  have mid:∀(s:dm) (ns:List Int),ma s->(∀x∈ns,0<=x/\x<i)->ns.Nodup->ns.length<=10->ns≠[]->
    Yd (Option.bind (bR s (4:Int)) fun p13=>
     bif (decide (p13.1=(3:Int)))then
     Option.bind (bR p13.2 (i:Int)) fun p14=>
     bif bb 56 (List.length ([]:List af)+List.length [(af.mk (1:Int) [p14.1] ([]:List af))])then
     (Option.bind (cF p14.2 (Tf .i64 (aA .i64 (aA .i64 ((List.length ns:Nat):Int) ((List.length (([]:List af)++[(af.mk (1:Int) [p14.1] ([]:List af))]):Nat):Int)) (1:Int)) (2:Int)) (aA .i64 ((List.length ns:Nat):Int) ((List.length (([]:List af)++[(af.mk (1:Int) [p14.1] ([]:List af))]):Nat):Int))) fun p9=>
     Option.bind (bR p9.2 (6:Int)) fun p12=>
     bif (decide (p12.1=(5:Int)))then some ((af.mk (1:Int) ns (([]:List af)++[(af.mk (1:Int) [p14.1] ([]:List af))])),p12.2)else some ((af.mk p9.1 ns (([]:List af)++[(af.mk (1:Int) [p14.1] ([]:List af))])),p12.2))
     else none
     else
     (Option.bind (cF p13.2 (Tf .i64 (aA .i64 (aA .i64 ((List.length ns:Nat):Int) ((List.length ([]:List af):Nat):Int)) (1:Int)) (2:Int)) (aA .i64 ((List.length ns:Nat):Int) ((List.length ([]:List af):Nat):Int))) fun p9=>
     Option.bind (bR p9.2 (6:Int)) fun p12=>
     bif (decide (p12.1=(5:Int)))then some ((af.mk (1:Int) ns []),p12.2)else some ((af.mk p9.1 ns []),p12.2))) fun p=>ma p.2/\et p.1/\(∀x∈p.1.aX,x<(i:Int))/\p.1.aX≠[]:=by
   intro s ns a1 a2 a3 a4 a5;refine(pM a1 (by omega)).bind fun p ⟨b1,b2,b3,_⟩=> ?_
   refine Yd.cond (fun _=> ?_) (fun _=> ?_)
   ·refine(pM b1 (by omega)).bind fun q ⟨c1,c2,c3,_⟩=> ?_
    have c4:=c3 (by omega)
    rw[br (by simp)]
    exact tail q.2 ns _ c1 a2 a3 a4 a5 (.inr ⟨q.1,c2,by omega,rfl⟩)
   ·exact tail p.2 ns [] b1 a2 a3 a4 a5 (.inl rfl)
  refine Yd.cond (fun hz=> ?_) (fun hz=> ?_)
  ·refine(pM h1 (by omega)).bind fun p ⟨b1,b2,b3,_⟩=> ?_
   have b4:=b3 (by omega)
   exact mid p.2 [p.1] b1 (by simp;omega) (by simp) (by simp) (by simp)
  ·have hne:ns≠[]:=by
    intro e;subst e;simp at hz
   exact mid s ns h1 h3 h4 (by omega) hne
 |succ k ih=>
  intro i s t ns is hi ⟨h1,h2,h3,h4,h5,h6⟩;have hd:decide ((i:Int)<(n:Int))=true:=Qg (by omega)
  have hw:aA .i64 (i:Int) 1=((i+1:Nat):Int):=bE (by omega) (by omega)
  refine Yd.loop ?_;simp only[hd,Qk,hw];refine(pM h1 (by omega)).bind fun p ⟨b1,b2,b3,_⟩=> ?_
  refine Yd.cond (fun _=> ?_) (fun _=> ?_)
  ·rw[br (by simp;omega)]
   refine Yd.some (ih (i+1) p.2 _ _ _ (by omega) ⟨b1,h2,?_,?_,by simp;omega,h6⟩)
   ·intro x hx;rcases Qz.1 hx with hx|hx
    ·have:=h3 x hx;omega
    ·simp at hx;omega
   ·refine List.nodup_append.2 ⟨h4,by simp,?_⟩
    intro x hx y hy;simp at hy;have:=h3 x hx;omega
  ·refine Yd.some (ih (i+1) p.2 _ _ _ (by omega) ⟨b1,h2,?_,h4,by omega,h6⟩)
   intro x hx;have:=h3 x hx;omega
end
section
def at_(e:ae)(n:Int):ai:=⟨n,e.ab.Value⟩
def Cr(e:ae):Bool:=aF e.ay||(!aF e.ao&&bx e.ay e.ao&& !bM e.ay e.ao)
def gX(e:ae):Bool:=
 finite e.ab&&(aF e.ao||cO e.ao)&&(aF e.ay||cO e.ay)&&Cr e&&decide (0<=e.aS)&&decide (e.aS<=e.bf)&&decide (e.bf<=e.ab.aj)
  &&(decide (e.bf=0)||dP e.ao e.ay (at_ e e.bf))&&(decide (e.aS=0)||(!eI e.ao (at_ e e.aS)&& !eI e.ay (at_ e e.aS)))
def td(e:ae):Bool:=decide (1<=e.aS)&&decide (e.aS<=e.bf)&&decide (e.bf<=1000)
def uO(e:ae):Bool:=finite e.ab&&cO e.ao&&bM e.ao e.ab&&aF e.ay&&td e&&decide (e.bf<=e.ao.aj)
def AN(e:ae):Bool:=cO e.ab&&aF e.ao&&aF e.ay&&td e
def yX(e:ae):Bool:=decide (0<=e.al)&&decide (e.al<10)&&decide (1<=e.bc)&&decide (e.bc<=1000000)&&decide (1<=e.aE)&&decide (e.aE<=1000000)
def gW(tv:Int)(e:ae):Bool:=
 yX e&&decide (tv=0)&&(if e.bF=1 then gX e else if e.bF=2 then uO e else if e.bF=3 then AN e else false)
theorem dlt(a b:Int):decide (a<b)= !decide (b<=a):=by by_cases h:a<b<;>simp[h]<;>omega
theorem R9(e:ae):oD e=some (gX e):=by
 unfold oD gX Cr at_
 simp only[cD,jL,fM,Fy,DA,B0,tO,sn,Qa,lx,aP,dlt,Fp];cases finite e.ab<;>cases (aF e.ao||cO e.ao)<;>cases (aF e.ay||cO e.ay)<;>simp
 by_cases h:e.bf=0<;>simp[h,Bool.and_assoc]
theorem zz{e:ae}{tv:Int}(hT:cd e.ak=some tv):ep e=some (gW tv e):=by
 unfold ep gW yX;simp[R9,hT,dlt,uO,AN,td]
 grind
theorem s4{e:ae}{tv:Int}(hT:dt e.ak=some tv):c9 e=some (gW tv e):=by
 unfold c9 gW yX;simp[hT,dlt,uO,AN,td,gX,finite,Cr,at_]
 have h9:decide (e.al<=9)= !decide (10<=e.al):=by by_cases h:e.al<=9<;>simp[h]<;>omega
 rw[h9];generalize (decide (0<=e.al)&& !decide (10<=e.al)&&decide (1<=e.bc)&&decide (e.bc<=1000000)&&decide (1<=e.aE)&&decide (e.aE<=1000000)&&decide (tv=0))=hd
 by_cases k1:e.bF=1
 ·simp only[k1,decide_true,Qk,Qt]
  by_cases hl:0<=e.aS
  ·by_cases hh:e.aS<=e.bf
   ·have:decide (e.bf<=0)=decide (e.bf=0):=by rw[decide_eq_decide];omega
    rw[this]
    grind
   ·simp[hh]
  ·simp[hl]
 ·by_cases k2:e.bF=2
  ·simp only[k2,decide_true,Qk,Qt]
   grind
  ·simp only[k1,k2,decide_false,Ql,Qu]
   grind
def Jy(e:ae)(v:ByteArray)(lo hi:Int):Bool:=decide (1<=lo)&&decide (lo<=hi)&&decide (e.ab.Value=v)&&decide (e.aS<=lo)
def s9(e:ae)(v:ByteArray)(lo hi:Int):Bool:=Jy e v lo hi&&(!decide (e.bF=1)||(!decide (e.aS=0)&&decide (hi<=e.bf)))
def fL(e:ae)(v:ByteArray)(lo hi:Int):Bool:=Jy e v lo hi&&(decide (e.bF=3)||(decide (e.bF=2)&&decide (hi<=e.bf)))
def pZ(e:ae)(b:ai):Bool:= !aF b&&(if e.bF=1 then jA e.ab b else bM e.ab b)
def dj(e:ae)(b:ai):Bool:= !aF b&&(if e.bF=1 then dP e.ao e.ay b else if e.bF=2 then jA e.ao b else bM e.ab b)
def eA(e:ae):Int:=if e.bF=3 then 1000000 else e.ab.aj
@[simp] theorem EJ (r:bG) (v:ByteArray) (lo hi:Int):iY r v lo hi=some (s9 r.aJ v lo hi):=by
 simp[iY,kh,s9,Jy]
@[simp] theorem vd (r:bG) (v:ByteArray) (lo hi:Int):iz r v lo hi=some (fL r.aJ v lo hi):=by
 simp[iz,kh,fL,Jy]
@[simp] theorem DB (r:bG) (b:ai):iU r b=some (pZ r.aJ b):=by
 simp only[iU,pZ];cases hz:aF b<;>by_cases h:r.aJ.bF=1<;>simp[h,hz]
@[simp] theorem ug (r:bG) (b:ai):ir r b=some (dj r.aJ b):=by
 simp only[ir,dj];cases hz:aF b<;>by_cases h:r.aJ.bF=1<;>by_cases h2:r.aJ.bF=2<;>simp[h,h2,hz]
@[simp] theorem ab3 (r:bG):lY r=some (eA r.aJ):=by
 simp[lY,eA,Fq,C6]
section
variable {e : ae} {tv : Int} (hT : cd e.ak = some tv)
 include hT
theorem U6:jW e=some (if gW tv e then eA e else 0):=by
 simp only[jW,etas,ae.eta,zz hT,Qa];cases gW tv e<;>simp
end
def vW(n:Nat):List Int:=(List.range n).map fun i:Nat=>(i:Int)
theorem SD(n:Nat):vW (n+1)=vW n++[(n:Int)]:=by simp[vW,List.range_succ]
@[simp] theorem agm (n:Nat):(vW n).length=n:=by simp[vW]
theorem aeN(n:Nat)(hn:n<=1000)(k:Int):wV n k=some ⟨k,vW n,[]⟩:=by
 unfold wV
 suffices key:∀(m i:Nat) (t:af),i+m=n->t.aG=k->t.aN=[]->aC (fun(v1:Int×af×(List Int)×Unit)=>
   bif (decide (v1.1<(n:Int)))then
   bif bb 8 (List.length v1.2.2.1+List.length [v1.1])then
   some (Sum.inl ((aA .i64 v1.1 (1:Int)),(af.mk v1.2.1.aG ([]:List Int) v1.2.1.aN),(v1.2.2.1++[v1.1]),()))
   else none
   else
   Option.map Sum.inr (some (af.mk v1.2.1.aG v1.2.2.1 v1.2.1.aN))) ((i:Int),t,vW i,())=some ⟨k,vW n,[]⟩from key n 0 _ (by omega) rfl rfl
 intro m
 induction m with
 |zero=>
  intro i t hi h1 h2;obtain rfl:i=n:=by omega
  refine bw ?_;have hd:decide ((i:Int)<(i:Int))=false:=Qh (Qq64 _);simp only[hd,Ql,h1,h2,Qe]
 |succ m ih=>
  intro i t hi h1 h2;have hd:decide ((i:Int)<(n:Int))=true:=Qg (by omega)
  have hw:aA .i64 (i:Int) 1=((i+1:Nat):Int):=bE (by omega) (by omega)
  rw[bj (s':=(((i+1:Nat):Int),⟨t.aG,[],t.aN⟩,vW (i+1),()))]
  ·exact ih (i+1) _ (by omega) h1 h2
  ·simp only[hd,hw,Qk];rw[br (by simp;omega)]
   simp[SD]
theorem ZK(n:Nat)(hn:n<=10)(k:Int)(h1:1<=k)(h2:k<=n):et ⟨k,vW n,[]⟩:=by
 refine⟨fun x hx=> ?_,?_,by simpa using hn,.inl rfl,h1,by simpa using h2⟩
 ·simp only[vW,QP,List.mem_range]at hx;obtain⟨i,hi,rfl⟩:=hx;omega
 ·show(vW n).Nodup;exact List.Pairwise.map _ (fun a b h e=>h (by omega)) List.nodup_range
structure Oi (aB aK n:Int) (e:ae):Prop where
 aB:e.al=aB
 aK:e.bc=aK
 seq:1<=e.aE/\e.aE<=9
 aL:et e.ak
 nodes:∀x∈e.ak.aX,x<n
 ne:e.ak.aX≠[]
 val:KL e.ab.Value
 valid:gW 0 e=true
theorem HC{b:ai}(h1:1<=b.aj)(h2:b.aj<=1000)(h3:KL b.Value):cO b=true:=by
 have:=h3.size;have h4:b.Value.size<=200:=by omega
 simp[cO,h1,h2,h4,this.1]
theorem VK{s:dm}(h:ma s){aB aK:Int}(hn0:0<=aB)(hn1:aB<10)(hs0:1<=aK)(hs1:aK<=1000000){n:Nat}(hn2:1<=n)(hn:n<=10):
  Yd (pC s aB aK n) fun p=>ma p.2/\Oi aB aK n p.1:=by
 unfold pC;refine(nS h (by omega) (by omega) (by omega)).bind fun p1 ⟨a1,a2,a3,_⟩=> ?_
 have a4:=a3 (by omega)
 refine(GS a1 hn2 hn).bind fun p2 ⟨b1,b2,b3,b4⟩=> ?_
 refine(GR b1).bind fun p3 ⟨c1,c2⟩=> ?_
 have c3:=c2.size;have hv:∀k:Int,1<=k->k<=1000->cO ⟨k,p3.1⟩=true:=fun k h1 h2=>HC h1 h2 c2
 simp only[etas,ae.eta]
 have hd:∀e:ae,e.al=aB->e.bc=aK->e.aE=p1.1->yX e=true:=by
  intro e h1 h2 h3;simp only[yX,h1,h2,h3,Qm,Qi];omega
 refine Yd.join (fun v=>ma v.1/\Oi aB aK n v.2.1) (fun v hv=>Yd.some hv) fun j5 hj5=> ?_
 refine(pM c1 (by omega)).bind fun p6 ⟨d1,_⟩=> ?_
 refine Yd.join (fun v=>ma v.1/\v.2.1=ae.mk aB aK p1.1 p2.1 0 ⟨0,fE⟩ ⟨0,fE⟩ ⟨0,fE⟩ 0 0) (fun v ⟨hv1,hv2⟩=> ?_) fun j8 hj8=> ?_
 ·
  refine Yd.join (fun v=>ma v.1/\Oi aB aK n v.2.1) (fun v hv=>hj5 _ hv) fun j10 hj10=> ?_
  refine(nS hv1 (by omega) (by omega) (by omega)).bind fun p11 ⟨e1,e2,e3,_⟩=> ?_
  have e4:=e3 (by omega)
  simp only[hv2];refine Yd.join (fun v=>ma v.1/\v.2.1.al=aB/\v.2.1.bc=aK/\v.2.1.aE=p1.1/\v.2.1.ak=p2.1/\v.2.1.bF=1/\v.2.1.ab=⟨p11.1,p3.1⟩/\(aF v.2.1.ao=true\/cO v.2.1.ao=true)) (fun v ⟨f0,f1,f2,f3,f4,f5,f6,f7⟩=> ?_) fun j13 hj13=> ?_
  ·rw[f6];have g1:aA .i64 p11.1 1=p11.1+1:=bE (by omega) (by omega)
   simp only[g1];refine(pM f0 (by omega)).bind fun p14 ⟨k1,k2,k3,_⟩=> ?_
   have k4:=k3 (by omega)
   have g2:aA .i64 p14.1 1=p14.1+1:=bE (by omega) (by omega)
   simp only[g2];refine(pM k1 (by omega)).bind fun p15 ⟨l1,l2,l3,_⟩=> ?_
   have hTr:∀t,t=p2.1->dt t=some 0:=fun t ht=>by rw[ht];exact eD b2
   have done:∀e:ae,e.al=aB->e.bc=aK->e.aE=p1.1->e.ak=p2.1->e.ab=⟨p11.1,p3.1⟩->gW 0 e=true->Oi aB aK n e:=by
    intro e h1 h2 h3 h4 h5 h6;exact⟨h1,h2,by rw[h3];exact⟨a2,a4⟩,by rw[h4];exact b2,by rw[h4];exact b3,by rw[h4];exact b4,by rw[h5];exact c2,h6⟩
   refine Yd.join (fun w=>w.1.al=aB/\w.1.bc=aK/\w.1.aE=p1.1/\w.1.ak=p2.1/\w.1.bF=1/\w.1.ab=⟨p11.1,p3.1⟩/\(aF w.1.ao=true\/cO w.1.ao=true)/\(gW 0 w.1=true\/w.1.aS=0)) (fun w ⟨m1,m2,m3,m4,m5,m6,m7,m8⟩=> ?_) fun j17 hj17=> ?_
   ·refine Yd.join (fun w=>w.1.al=aB/\w.1.bc=aK/\w.1.aE=p1.1/\w.1.ak=p2.1/\w.1.bF=1/\w.1.ab=⟨p11.1,p3.1⟩/\(aF w.1.ao=true\/cO w.1.ao=true)/\(gW 0 w.1=true\/w.1.aS=0/\w.1.bf=0)) (fun w ⟨o1,o2,o3,o4,o5,o6,o7,o8⟩=> ?_) fun j19 hj19=> ?_
    ·rw[s4 (hTr _ o4)];simp only[Qa,Fp];refine Yd.cond (fun hx=>hj10 _ ⟨l1,done _ o1 o2 o3 o4 o6 hx⟩) (fun hx=>hj10 _ ⟨l1,done _ o1 o2 o3 o4 o6 ?_⟩)
     rcases o8 with o8|⟨o8,o9⟩
     ·rw[o8]at hx;cases hx
     ·have q1:finite w.1.ab=true:=by rw[o6];simp[finite,hv p11.1 e2 (by omega)];omega
      have q2:aF (ai.mk 0 (ByteArray.mk #[]))=true:=by decide+kernel
      have q3:(aF w.1.ao||cO w.1.ao)=true:=by simpa using o7
      have q4:=hd w.1 o1 o2 o3;have q5:0<=w.1.ab.aj:=by rw[o6];show 0<=p11.1;omega
      simp only[gW,yX,gX,Cr,o5,o8,o9,q1,q2,q3,Qt]at q4 ⊢;simp[q4,q5]
    ·rw[s4 (hTr _ m4)];simp only[Qa,Fp];refine Yd.cond (fun hx=>hj19 _ ⟨m1,m2,m3,m4,m5,m6,m7,.inl hx⟩) (fun hx=>hj19 _ ⟨m1,m2,m3,m4,m5,m6,m7,.inr ⟨?_,rfl⟩⟩)
     rcases m8 with m8|m8
     ·rw[m8]at hx;cases hx
     ·exact m8
   ·rw[s4 (e:=ae.mk v.2.1.al v.2.1.bc v.2.1.aE v.2.1.ak v.2.1.bF ⟨p11.1,p3.1⟩ v.2.1.ao v.2.1.ay p15.1 p14.1) (tv:=0) (hTr _ f4)];simp only[Qa,Fp];refine Yd.cond (fun hx=>hj17 _ ⟨f1,f2,f3,f4,f5,rfl,f7,.inl hx⟩) (fun hx=>hj17 _ ⟨f1,f2,f3,f4,f5,rfl,f7,.inr rfl⟩)
  ·refine(pM e1 (by omega)).bind fun p23 ⟨k1,_⟩=> ?_
   refine Yd.cond (fun _=> ?_) (fun _=> ?_)
   ·refine(aak k1).bind fun p24 ⟨l1,l2,l3,l4⟩=> ?_
    refine(pM l1 (by omega)).bind fun p25 ⟨m1,_⟩=> ?_
    have hvl:=HC (b:=p24.1) l2 (by omega) l4
    refine Yd.cond (fun _=> ?_) (fun _=> ?_)
    ·refine(aak m1).bind fun p26 ⟨o1,_⟩=> ?_
     exact hj13 _ ⟨o1,rfl,rfl,rfl,rfl,rfl,rfl,.inr hvl⟩
    ·exact hj13 _ ⟨m1,rfl,rfl,rfl,rfl,rfl,rfl,.inr hvl⟩
   ·have z0:aF (ai.mk 0 fE)=true:=by decide+kernel
    exact hj13 _ ⟨k1,rfl,rfl,rfl,rfl,rfl,rfl,.inl z0⟩
 ·have z0:aF (ai.mk 0 (ByteArray.mk #[]))=true:=by decide+kernel
  refine Yd.cond (fun _=> ?_) (fun _=> ?_)
  ·refine(nS d1 (by omega) (by omega) (by omega)).bind fun p27 ⟨e1,e2,e3,_⟩=> ?_
   refine(nS e1 (by omega) (by omega) (by omega)).bind fun p28 ⟨f1,f2,f3,_⟩=> ?_
   refine(pM f1 (by omega)).bind fun p29 ⟨k1,k2,k3,_⟩=> ?_
   refine(pM k1 (by omega)).bind fun p30 ⟨l1,l2,l3,_⟩=> ?_
   have e4:=e3 (by omega)
   have f4:=f3 (by omega)
   have k4:=k3 (by omega)
   have l4:=l3 (by omega)
   have g1:aA .i64 p28.1 p29.1=p28.1+p29.1:=bE (by omega) (by omega)
   have g2:aA .i64 (p28.1+p29.1) p30.1=p28.1+p29.1+p30.1:=bE (by omega) (by omega)
   simp only[g1,g2];refine hj5 _ ⟨l1,⟨rfl,rfl,⟨a2,a4⟩,b2,b3,b4,c2,?_⟩⟩;have q4:=hd ⟨aB,aK,p1.1,p2.1,2,⟨p27.1,p3.1⟩,⟨p28.1+p29.1+p30.1,p3.1⟩,⟨0,ByteArray.mk #[]⟩,p28.1,p28.1+p29.1⟩ rfl rfl rfl;have q5:=hv p27.1 e2 (by omega)
   have q6:=hv (p28.1+p29.1+p30.1) (by omega) (by omega)
   have r1:p27.1<=1000:=by omega
   have r2:p28.1<=p28.1+p29.1:=by omega
   have r3:p28.1+p29.1<=1000:=by omega
   have r4:p28.1+p29.1<=p28.1+p29.1+p30.1:=by omega
   simp[gW,q4,uO,finite,q5,q6,bM,z0,td,r1,f2,r3,r4];omega
  ·refine Yd.cond (fun _=> ?_) (fun _=> ?_)
   ·refine(pM d1 (by omega)).bind fun p31 ⟨e1,_⟩=> ?_
    refine Yd.cond (fun _=> ?_) (fun _=>hj8 _ ⟨e1,rfl⟩)
    refine(nS e1 (by omega) (by omega) (by omega)).bind fun p32 ⟨f1,f2,f3,_⟩=> ?_
    refine(nS f1 (by omega) (by omega) (by omega)).bind fun p33 ⟨k1,k2,k3,_⟩=> ?_
    refine(pM k1 (by omega)).bind fun p34 ⟨l1,l2,l3,_⟩=> ?_
    have f4:=f3 (by omega)
    have k4:=k3 (by omega)
    have l4:=l3 (by omega)
    have g1:aA .i64 p33.1 p34.1=p33.1+p34.1:=bE (by omega) (by omega)
    simp only[g1];refine hj5 _ ⟨l1,⟨rfl,rfl,⟨a2,a4⟩,b2,b3,b4,c2,?_⟩⟩;have q4:=hd ⟨aB,aK,p1.1,p2.1,3,⟨p32.1,p3.1⟩,⟨0,ByteArray.mk #[]⟩,⟨0,ByteArray.mk #[]⟩,p33.1,p33.1+p34.1⟩ rfl rfl rfl;have q5:=hv p32.1 f2 (by omega)
    have r3:p33.1+p34.1<=1000:=by omega
    simp[gW,q4,AN,q5,z0,td,k2,r3];omega
   ·exact hj8 _ ⟨d1,rfl⟩
end
section
inductive c8:af->Prop where
 |mk (t:af) (h1:t.aX.length<=1000000) (h2:t.aN.length<=1000000) (h3:∀u∈t.aN,c8 u):c8 t
theorem c8.nodes{t:af}:c8 t->t.aX.length<=1000000| .mk _ h _ _=>h
theorem c8.len{t:af}:c8 t->t.aN.length<=1000000| .mk _ _ h _=>h
theorem c8.inner{t:af}:c8 t->∀u∈t.aN,c8 u| .mk _ _ _ h=>h
theorem qS{t u:af}(h:u∈t.aN):SizeOf.sizeOf u<SizeOf.sizeOf t:=by
 have h1:=List.sizeOf_lt_of_mem h
 cases t with
 |mk th ns is=>
  simp only[af.mk.sizeOf_spec]at h1 ⊢;omega
theorem et.sm{t:af}(h:et t):c8 t:=by
 have:=h.len;refine .mk t (by omega) ?_ fun u hu=> ?_
 ·rcases h.inner with e|⟨x,_,_,e⟩<;>rw[e]<;>simp
 ·rcases h.inner with e|⟨x,_,_,e⟩
  ·rw[e]at hu;cases hu
  ·rw[e]at hu;simp only[Q5]at hu;subst hu;exact .mk _ (by simp) (by simp) (by simp)
@[simp] theorem abH (l:List Int) (h:l.length<=1000000):ke l=some l:=by
 unfold ke;rw[br (by simp;omega)]
 cases l with
 |nil=>simp
 |cons x l=>simp
theorem ab1{n:Nat}:∀{t:af},SizeOf.sizeOf t<n->c8 t->vP n (t,())=some t:=by
 induction n with
 |zero=>intro t h;omega
 |succ n ih=>
  intro t hs hm;show vV (vP n) t=some t;unfold vV;have hl:=hm.len;rw[abH _ hm.nodes,Qa]
  suffices key:∀(k i:Nat) (t':af),i+k=t.aN.length->t'.aG=t.aG->t'.aX=t.aX->aC (fun(v2:Int×af×(List af)×Unit)=>
    bif (decide (v2.1<((List.length t.aN:Nat):Int)))then
    Option.bind (idx t.aN v2.1) fun x3=>
    Option.bind (vP n ((af.mk x3.aG x3.aX x3.aN),())) fun r4=>
    bif bb 56 (List.length v2.2.2.1+List.length [(af.mk r4.aG r4.aX r4.aN)])then
    some (Sum.inl ((aA .i64 v2.1 (1:Int)),(af.mk v2.2.1.aG v2.2.1.aX ([]:List af)),(v2.2.2.1++[(af.mk r4.aG r4.aX r4.aN)]),()))
    else none
    else
    Option.map Sum.inr (some (af.mk v2.2.1.aG v2.2.1.aX v2.2.2.1))) ((i:Int),t',t.aN.take i,())=some t by
   have:=key t.aN.length 0 ⟨t.aG,t.aX,[]⟩ (by omega) rfl rfl
   simpa using this
  intro k
  induction k with
  |zero=>
   intro i t' hi h1 h2;refine bw ?_;have hd:decide ((i:Int)<((t.aN.length:Nat):Int))=false:=Qh (by omega)
   simp only[hd,Ql,Qe,h1,h2];rw[List.take_of_length_le (by omega),af.eta]
  |succ k ihk=>
   intro i t' hi h1 h2;have hlt:i<t.aN.length:=by omega
   have hd:decide ((i:Int)<((t.aN.length:Nat):Int))=true:=Qg (by omega)
   have hx:idx t.aN (i:Int)=some t.aN[i]:=by rw[bg];exact Qv hlt
   have hw:aA .i64 (i:Int) 1=((i+1:Nat):Int):=bE (by omega) (by omega)
   have hmem:t.aN[i]∈t.aN:=Q0 hlt;have hr:=ih (t:=t.aN[i]) (by have:=qS hmem;omega) (hm.inner _ hmem)
   rw[bj (s':=(((i+1:Nat):Int),⟨t'.aG,t'.aX,[]⟩,t.aN.take (i+1),()))]
   ·exact ihk (i+1) _ (by omega) h1 h2
   ·simp only[hd,Qk,hx,hw,Qa,etas,hr];rw[br (by simp;omega),Q7 hlt]
    rfl
@[simp] theorem qt {t:af} (h:c8 t):gJ t=some t:=ab1 (by omega) h
theorem AL{α σ ρ:Type}{g:α->σ->Option (σ⊕ρ)}{fin:σ->Option ρ}(hf:∀s,∃r,fin s=some r):∀(l:List α),(∀x∈l,∀s,∃y,g x s=some y)->∀s,∃r,fG g fin l s=some r
 |[],_,s=>hf s
 |x::l,h,s=>by
  obtain⟨y,hy⟩:=h x (by simp) s
  rw[fG,hy]
  cases y with
  |inr r=>exact⟨r,rfl⟩
  |inl s'=>exact AL hf l (fun x hx=>h x (by simp[hx])) s'
theorem Kx{α σ ρ:Type}{g g':α->σ->Option (σ⊕ρ)}{fin:σ->Option ρ}:∀(l:List α),(∀x∈l,∀s,g x s=g' x s)->∀s,fG g fin l s=fG g' fin l s
 |[],_,s=>rfl
 |x::l,h,s=>by
  rw[fG,fG,h x (by simp) s]
  cases g' x s with
  |none=>rfl
  |some y=>
   cases y with
   |inr r=>rfl
   |inl s'=>exact Kx l (fun x hx=>h x (by simp[hx])) s'
theorem KD{n:Nat}:∀{t:af},SizeOf.sizeOf t<n->c8 t->∃d,oa n (t,())=some d:=by
 induction n with
 |zero=>intro t h;omega
 |succ n ih=>
  intro t hs hm;show∃d,jM (oa n) t=some d;have hl:=hm.len;rw[Pp (by omega)]
  refine AL (fun s=>⟨_,rfl⟩) _ (fun u hu s=> ?_) _
  obtain⟨d,hd⟩:=ih (t:=u) (by have:=qS hu;omega) (hm.inner u hu)
  exact⟨_,by rw[hd];rfl⟩
theorem Mh{n:Nat}:∀{t:af},SizeOf.sizeOf t<n->c8 t->∃d,o0 n (t,())=some d:=by
 induction n with
 |zero=>intro t h;omega
 |succ n ih=>
  intro t hs hm;show∃d,kN (o0 n) t=some d;have hl:=hm.len;rw[U8 (by omega)]
  refine AL (fun s=>⟨_,rfl⟩) _ (fun u hu s=> ?_) _
  obtain⟨d,hd⟩:=ih (t:=u) (by have:=qS hu;omega) (hm.inner u hu)
  exact⟨_,by rw[hd];rfl⟩
theorem Ii{rec:af->Option Int}{t:af}(h:∀u∈t.aN,∃r,rec u=some r):∃r,rE rec t=some r:=by
 unfold rE;split
 ·exact⟨_,rfl⟩
 ·split
  ·exact⟨_,rfl⟩
  ·split
   ·refine AL (fun s=>⟨_,rfl⟩) _ (fun u hu s=> ?_) _
    obtain⟨r,hr⟩:=h u hu;exact⟨_,by rw[hr];rfl⟩
   ·exact⟨_,rfl⟩
theorem TD{rec rec':af->Option Int}{t:af}(h:∀u∈t.aN,rec u=rec' u):rE rec t=rE rec' t:=by
 unfold rE;rw[Kx _ fun u hu s=>by rw[h u hu]]
theorem Vw{n:Nat}:∀{t:af},SizeOf.sizeOf t<n->c8 t->∃d,fJ n (t,())=some d/\pS n (t,())=some d:=by
 induction n with
 |zero=>intro t h;omega
 |succ n ih=>
  intro t hs hm;show∃d,iL (fJ n) t=some d/\nY (pS n) t=some d;have hl:=hm.len;have hn:=hm.nodes;rw[JM (by omega) (by omega),Pq (by omega) (by omega)]
  have hih:∀u∈t.aN,∃r,fJ n (u,())=some r/\pS n (u,())=some r:=fun u hu=>ih (t:=u) (by have:=qS hu;omega) (hm.inner u hu)
  obtain⟨r,hr⟩:=Ii (rec:=fun u=>fJ n (u,())) (t:=t) fun u hu=>by obtain⟨r,h1,_⟩:=hih u hu;exact⟨r,h1⟩
  refine⟨r,hr,?_⟩;rw[<-hr];refine TD fun u hu=> ?_
  obtain⟨r,h1,h2⟩:=hih u hu;rw[h1,h2]
theorem adO{n:Nat}:∀{t:af},SizeOf.sizeOf t<n->c8 t->∃d,fJ n (t,())=some d:=by
 induction n with
 |zero=>intro t h;omega
 |succ n ih=>
  intro t hs hm;show∃d,iL (fJ n) t=some d;have hl:=hm.len;have hn:=hm.nodes;rw[JM (by omega) (by omega)]
  exact Ii (rec:=fun u=>fJ n (u,())) (t:=t) fun u hu=>ih (t:=u) (by have:=qS hu;omega) (hm.inner u hu)
theorem acP{t:af}(h:c8 t):∃v,cd t=some v:=by
 obtain⟨d,hd⟩:∃d,jE t=some d:=KD (by omega) h
 obtain⟨z,hz⟩:∃z,kE t=some z:=Mh (by omega) h
 obtain⟨l,hl1⟩:∃l,lI t=some l:=adO (by omega) h
 simp[cd,hd,hz,hl1]
theorem WW{t:af}(h:c8 t):∃v,cd t=some v/\dt t=some v:=by
 obtain⟨d,hd⟩:∃d,jE t=some d:=KD (by omega) h
 obtain⟨z,hz⟩:∃z,kE t=some z:=Mh (by omega) h
 obtain⟨l,hl1,hl2⟩:∃l,lI t=some l/\tt t=some l:=Vw (by omega) h
 simp[cd,dt,PJ,SY,hd,hz,hl1,hl2]
 def FG(t:af):Int:=(cd t).getD 1
theorem VO{t:af}(h:c8 t):cd t=some (FG t):=by
 obtain⟨v,h1⟩:=acP h;rw[FG,h1];rfl
theorem KT{t:af}(h:c8 t):dt t=some (FG t):=by
 obtain⟨v,h1,h2⟩:=WW h;rw[FG,h1,h2];rfl
theorem Pv{t:af}(h:et t):FG t=0:=by rw[FG,dn h];rfl
 def aW(e:ae):Bool:=gW (FG e.ak) e
theorem xN{e:ae}(h:c8 e.ak):ep e=some (aW e):=zz (VO h)
theorem jN{e:ae}(h:c8 e.ak):c9 e=some (aW e):=s4 (KT h)
def lU(s:Nat)(x:Int):Bool:=eH x&&s.testBit x.toNat
theorem sK{s:Nat}(h:s<1024)(x:Int):uH s x=lU s x:=by
 have h1:decide (0<=(s:Int))=true:=Qg (by omega)
 have h2:decide ((s:Int)<1024)=true:=Qg (by omega)
 simp only[uH,lU,h1,h2,Bool.true_and,QV]
mutual
def lq(s:Nat):af->Bool
 |⟨th,ns,is⟩=>decide (th<=((ns.countP (lU s)+xr s is:Nat):Int))
def xr(s:Nat):List af->Nat
 |[]=>0
 |t::l=>(if lq s t then 1 else 0)+xr s l
end
theorem Jg(s:Nat)(t:af):lq s t=decide (t.aG<=((t.aX.countP (lU s)+xr s t.aN:Nat):Int)):=by
 cases t;rw[lq]
theorem GI(s:Nat)(hs:s<1024)(fin:Int->Option Bool):∀(l:List Int) (n:Nat),n+l.length<=9000000->
  fG (fun x (m:Int)=>some (.inl (if uH s x then aA .i64 m 1 else m))) fin l n=fin ((n+l.countP (lU s):Nat):Int)
 |[],n,_=>by simp[fG]
 |x::l,n,h=>by
  simp at h;rw[fG,sK hs,List.countP_cons]
  cases hx:lU s x with
  |false=>
   simp only[Qq,Qu,Nat.add_zero];exact GI s hs fin l n (by omega)
  |true=>
   simp only[Qt];rw[bE (by omega) (by omega)]
   rw[show(n:Int)+1=((n+1:Nat):Int)by omega,GI s hs fin l (n+1) (by omega)]
   congr 2;omega
theorem K0(s:Nat)(rec:af->Option Bool)(fin:Int->Option Bool):∀(l:List af) (n:Nat),n+l.length<=9000000->(∀u∈l,rec u=some (lq s u))->
  fG (fun u (m:Int)=>(rec u).map fun r=> .inl (if r then aA .i64 m 1 else m)) fin l n=fin ((n+xr s l:Nat):Int)
 |[],n,_,_=>by simp[fG,xr]
 |u::l,n,h,hr=>by
  simp at h;rw[fG,hr u (by simp),xr]
  cases hx:lq s u with
  |false=>
   simp only[Qe,Qq,Qu,Nat.zero_add];exact K0 s rec fin l n (by omega) fun u hu=>hr u (by simp[hu])
  |true=>
   simp only[Qe,Qt];rw[bE (by omega) (by omega)]
   rw[show(n:Int)+1=((n+1:Nat):Int)by omega,K0 s rec fin l (n+1) (by omega) fun u hu=>hr u (by simp[hu])]
   congr 2;omega
theorem ahi{rec:(af×Int×Unit)->Option Bool}{t:af}{s:Nat}(hs:s<1024)(hm:c8 t)(hr:∀u∈t.aN,rec (u,(s:Int),())=some (lq s u)):gK rec t s=some (lq s t):=by
 unfold gK;have hn:=hm.nodes;have hl:=hm.len;have hv:ft (s:Int)=some true:=by rw[JH];simp;omega
 rw[hv];simp only[Qa,Qo,Ql,aP];rw[iA t.aX (by omega) (fun i (m:Int)=>(m,i,())) (fun x (m:Int)=>some (.inl (if uH s x then aA .i64 m 1 else m))) (fun m=>fG (fun u (m:Int)=>(rec (u,(s:Int),())).map fun r=> .inl (if r then aA .i64 m 1 else m)) (fun m=>some (decide (t.aG<=m))) t.aN m) (fun i x m hd hx hw=> ?_) (fun m hd=> ?_) 0]
 ·rw[show(0:Int)=((0:Nat):Int)from rfl,GI s hs _ t.aX 0 (by omega)]
  rw[K0 s (fun u=>rec (u,(s:Int),())) _ t.aN _ (by have:=List.countP_le_length (p:=lU s) (l:=t.aX);omega) hr,Jg]
  simp
 ·simp only[hd,hx,hw,Qk,Qa,mF];cases uH s x<;>rfl
 ·simp only[hd,Ql];rw[iA t.aN (by omega) (fun i (m:Int)=>(m,i,())) (fun u (m:Int)=>(rec (u,(s:Int),())).map fun r=> .inl (if r then aA .i64 m 1 else m)) (fun m=>some (decide (t.aG<=m))) (fun i x m hd hx hw=> ?_) (fun m hd=> ?_) m]
  ·simp only[hd,hx,hw,Qk,Qa,etas]
   cases rec (x,(s:Int),())with
   |none=>rfl
   |some r=>cases r<;>rfl
  ·simp only[hd,Ql]
theorem ahe{s:Nat}(hs:s<1024){n:Nat}:∀{t:af},SizeOf.sizeOf t<n->c8 t->nD n (t,(s:Int),())=some (lq s t):=by
 induction n with
 |zero=>intro t h;omega
 |succ n ih=>
  intro t hz hm;show gK (nD n) t s=some (lq s t);exact ahi hs hm fun u hu=>ih (t:=u) (by have:=qS hu;omega) (hm.inner u hu)
theorem Dl{s:Nat}(hs:s<1024){t:af}(hm:c8 t):iX t s=some (lq s t):=ahe hs (by omega) hm
theorem Xn(t:af)(s:Int):jG t s=iX t s:=by
 have hB:∀(rec:(af×Int×Unit)->Option Bool) (t:af) (s:Int),ru rec t s=gK rec t s:=by
  intro rec t s;unfold ru gK
  have hv:fq s=ft s:=by
   rw[JH];unfold fq;simp;congr 1;rw[decide_eq_decide];omega
  simp only[hv,oO,mF]
 unfold jG iX BW nD;congr 1;congr 1
 funext rec a
 exact hB rec a.1 a.2.1
theorem G3{s:Nat}(hs:s<1024){t:af}(hm:c8 t):jG t s=some (lq s t):=by rw[Xn];exact Dl hs hm
theorem Rj{s s':Nat}(h:∀k,s.testBit k=true->s'.testBit k=true)(x:Int)(hx:lU s x=true):lU s' x=true:=by
 simp only[lU,Qm]at hx ⊢;exact⟨hx.1,h _ hx.2⟩
mutual
theorem PE{s s':Nat}(h:∀k,s.testBit k=true->s'.testBit k=true):∀(t:af),lq s t=true->lq s' t=true
 |⟨th,ns,is⟩,ht=>by
  rw[lq,Qi]at ht ⊢;have h1:=PF h is;have h2:ns.countP (lU s)<=ns.countP (lU s'):=List.countP_mono_left fun x _ hx=>Rj h x hx
  omega
theorem PF{s s':Nat}(h:∀k,s.testBit k=true->s'.testBit k=true):∀(l:List af),xr s l<=xr s' l
 |[]=>by simp[xr]
 |t::l=>by
  have h1:=PF h l;have h2:=PE h t;rw[xr,xr]
  cases hs:lq s t with
  |false=>simp;omega
  |true=>rw[h2 hs];simp;omega
end
end
section
theorem ac3(s:Int):fq s=some (decide (0<=s)&&decide (s<1024)):=by
 unfold fq;simp;congr 1;rw[decide_eq_decide];omega
theorem B2{s:Nat}(h:s<1024):ft (s:Int)=some true:=by rw[JH];simp;omega
theorem wB{s:Nat}(h:s<1024):fq (s:Int)=some true:=by rw[ac3];simp;omega
theorem KI(a b:Nat)(ha:a<2 ^ 62)(hb:b<2 ^ 62):∃c:Nat,Au .i64 (a:Int) (b:Int)=(c:Int)/\c<=a/\∀k,c.testBit k=(a.testBit k&& !b.testBit k):=by
 refine⟨((BitVec.ofInt 64 (a:Int)&&& ~~~ BitVec.ofInt 64 (b:Int)).toNat),?_,?_,fun k=> ?_⟩
 ·have hle:(BitVec.ofInt 64 (a:Int)&&& ~~~ BitVec.ofInt 64 (b:Int)).toNat<=a:=by
   rw[BitVec.toNat_and,uw a ha];exact Nat.and_le_left
  show IntKind.i64.wrap (((BitVec.ofInt 64 (a:Int)&&& ~~~ BitVec.ofInt 64 (b:Int)).toNat:Nat):Int)=_;exact CB _ (by omega)
 ·rw[BitVec.toNat_and,uw a ha];exact Nat.and_le_left
 ·have h1:∀i (x:Nat),x<2 ^ 62->(BitVec.ofInt 64 (x:Int)).getLsbD i=x.testBit i:=by
   intro i x hx;rw[<-BitVec.testBit_toNat,uw x hx]
  rw[BitVec.testBit_toNat,BitVec.getLsbD_and,BitVec.getLsbD_not,h1 k a ha,h1 k b hb]
  by_cases hk:k<64
  ·simp[hk]
  ·have:a.testBit k=false:=Nat.testBit_lt_two_pow (QJ ha (Nat.pow_le_pow_right (by omega) (by omega)))
   simp[this]
theorem Cv{a b:Nat}(h:∀k,a.testBit k=b.testBit k):a=b:=Nat.eq_of_testBit_eq h
theorem NY{s k:Nat}(hs:s<1024)(hk:s.testBit k=true):k<10:=by
 rcases Nat.lt_or_ge k 10 with h|h
 ·exact h
 ·have:s.testBit k=false:=Nat.testBit_lt_two_pow (QJ hs (show 2 ^ 10<=2 ^ k from Nat.pow_le_pow_right (by omega) h))
  rw[this]at hk;cases hk
theorem E4{s:Nat}(h:∀k,s.testBit k=true->k<10):s<1024:=by
 rcases Nat.lt_or_ge s 1024 with h1|h1
 ·exact h1
 ·obtain⟨k,hk1,hk2⟩:=Nat.exists_ge_and_testBit_of_ge_two_pow (n:=10) h1;have:=h k hk2;omega
theorem uI(s k:Nat):lU s (k:Int)=(decide (k<10)&&s.testBit k):=by
 have h1:decide ((k:Int)<10)=decide (k<10):=by rw[decide_eq_decide];omega
 have h2:decide (0<=(k:Int))=true:=Qg (by omega)
 simp only[lU,eH,h1,h2,Bool.true_and,QV]
def GF(i:Nat)(s:Nat):List aR->Nat
 |[]=>s
 |m::l=>GF (i+1) (if m.dL&&decide (i<10)then s|||2 ^ i else s) l
def jP(l:List aR):Nat:=GF 0 0 l
theorem Ru:∀(l:List aR) (i s k:Nat),(GF i s l).testBit k=(s.testBit k||(decide (i<=k)&&decide (k<10)&&((l[k - i]?).any (·.dL))))
 |[],i,s,k=>by simp[GF]
 |m::l,i,s,k=>by
  rw[GF,Ru l (i+1)]
  by_cases hk:k=i
  ·subst hk;have h1:¬(k+1<=k):=by omega
   cases hm:m.dL<;>by_cases hi:k<10<;>simp[hm,hi,h1,Nat.testBit_or]
  ·have h2:i<=k↔i+1<=k:=by omega
   have h3:∀b:Bool,(if(b&&decide (i<10))=true then s|||2 ^ i else s).testBit k=s.testBit k:=by
    intro b;split
    ·rw[Nat.testBit_or,Nat.testBit_two_pow];have:¬i=k:=fun e=>hk e.symm
     simp[this]
    ·rfl
   rw[h3]
   by_cases hik:i+1<=k
   ·have h4:(m::l)[k - i]?=l[k - (i+1)]?:=by
     rw[show k - i=(k - (i+1))+1 by omega,List.getElem?_cons_succ]
    rw[h4];have:i<=k:=by omega
    simp[this,hik]
   ·have:¬i<=k:=by omega
    simp[this,hik]
theorem IK(l:List aR)(k:Nat):(jP l).testBit k=(decide (k<10)&&((l[k]?).any (·.dL))):=by
 rw[jP,Ru];simp
theorem Dc(l:List aR):jP l<1024:=E4 fun k hk=>by
 rw[IK]at hk;simp at hk;exact hk.1
theorem Rt(step:(Int×Int×Unit)->Option ((Int×Int×Unit)⊕Int))(l:List aR)
  (h1:∀(i:Nat) (m:aR) (s:Nat),l[i]?=some m->s<1024->step ((s:Int),(i:Int),())=some (.inl (((if m.dL&&decide (i<10)then s|||2 ^ i else s:Nat):Int),((i+1:Nat):Int),())))
  (h2:∀s:Int,step (s,(l.length:Int),())=some (.inr s)):aC step (0,0,())=some ((jP l:Nat):Int):=by
 suffices key:∀(k i s:Nat),i+k=l.length->s<1024->aC step ((s:Int),(i:Int),())=some ((GF i s (l.drop i):Nat):Int)by
  have:=key l.length 0 0 (by omega) (by omega)
  simpa[jP]using this
 intro k
 induction k with
 |zero=>
  intro i s hi hs;obtain rfl:i=l.length:=by omega
  rw[bw (h2 s),Qq66];rfl
 |succ k ih=>
  intro i s hi hs;have hlt:i<l.length:=by omega
  rw[QM hlt,GF,bj (h1 i l[i] s (Qv hlt) hs)];refine ih (i+1) _ (by omega) ?_
  split
  ·rename_i hc;simp only[Qm,Qi]at hc;have:=AE (x:=(i:Int)) hs (by omega)
   simpa using this
  ·exact hs
theorem KO{c:aU}(h:c.bn.length<=1000000):jk c=some ((jP c.bn:Nat):Int):=by
 unfold jk;refine Rt _ _ (fun i m s hm hs=> ?_) (fun s=> ?_)
 ·have hlt:i<c.bn.length:=(Qw.1 hm).1;have hd:decide ((i:Int)<((c.bn.length:Nat):Int))=true:=Qg (by omega)
  have hw:aA .i64 (i:Int) 1=((i+1:Nat):Int):=bE (by omega) (by omega)
  have hx:idx c.bn (i:Int)=some m:=by rw[bg];exact hm
  have h0:¬(i:Int)<0:=by omega
  simp only[hd,hx,hw,Qk,Qa,aP,h0,Qu]
  cases m.dL with
  |false=>simp
  |true=>
   by_cases h10:i<10
   ·have:(i:Int)<10:=by omega
    have ho:=nu (x:=(i:Int)) hs (by omega) (by omega)
    simp only[QV]at ho;simp[this,h10,ho]
   ·have:¬(i:Int)<10:=by omega
    simp[this,h10]
 ·have hd:decide (((c.bn.length:Nat):Int)<((c.bn.length:Nat):Int))=false:=Qh (Qq64 _);simp only[hd,Ql,Qe]
theorem CL{c:aU}(h:c.bn.length<=1000000):mD c=some ((jP c.bn:Nat):Int):=by
 unfold mD;refine Rt _ _ (fun i m s hm hs=> ?_) (fun s=> ?_)
 ·have hlt:i<c.bn.length:=(Qw.1 hm).1;have hd:decide ((i:Int)<((c.bn.length:Nat):Int))=true:=Qg (by omega)
  have hw:aA .i64 (i:Int) 1=((i+1:Nat):Int):=bE (by omega) (by omega)
  have hx:idx c.bn (i:Int)=some m:=by rw[bg];exact hm
  have h0:¬(i:Int)<0:=by omega
  simp only[hd,hx,hw,Qk,Qa,aP,h0,Qu]
  by_cases h10:i<10
  ·have:(i:Int)<10:=by omega
   have ho:=nu (x:=(i:Int)) hs (by omega) (by omega)
   simp only[QV]at ho;cases m.dL<;>simp[this,h10,ho]
  ·have:¬(i:Int)<10:=by omega
   cases m.dL<;>simp[this,h10]
 ·have hd:decide (((c.bn.length:Nat):Int)<((c.bn.length:Nat):Int))=false:=Qh (Qq64 _);simp only[hd,Ql,Qe]
structure zj (c:aU):Prop where
 len:c.bn.length<=1000000
 aL:∀m∈c.bn,c8 m.ak
def mm(l:List aR)(k:Nat):af:=((l[k]?).map (·.ak)).getD ⟨0,[],[]⟩
def n9(l:List aR)(k:Nat):Bool:=(jP l).testBit k
theorem yV{l:List aR}{k:Nat}(h:n9 l k=true):k<10/\∃m,l[k]?=some m/\m.dL=true:=by
 rw[n9,IK]at h;simp only[Qm,Qi,Option.any_eq_true]at h;obtain⟨h1,m,h2,h3⟩:=h;exact⟨h1,m,h2,h3⟩
theorem tu{l:List aR}{k:Nat}{m:aR}(h:l[k]?=some m):mm l k=m.ak:=by rw[mm,h];rfl
def zZ(s v:Nat):Nat:=(1023^^^s)|||2 ^ v
def vK(l:List aR)(v s:Nat):Bool:=n9 l v&& !lq (zZ s v) (mm l v)
theorem aca(k:Nat):(1023:Nat).testBit k=decide (k<10):=by
 rw[show(1023:Nat)=2 ^ 10 - 1 from rfl,Nat.testBit_two_pow_sub_one]
theorem B7{s:Nat}(hs:s<1024)(v k:Nat):(zZ s v).testBit k=(decide (k<10)&& !s.testBit k||decide (v=k)):=by
 rw[zZ,Nat.testBit_or,Nat.testBit_xor,aca,Nat.testBit_two_pow]
 by_cases hk:k<10
 ·simp[hk]
 ·have:s.testBit k=false:=by
   cases h:s.testBit k with
   |false=>rfl
   |true=>exact absurd (NY hs h) hk
  simp[hk,this]
theorem P5{s v:Nat}(hs:s<1024)(hv:v<10):zZ s v<1024:=E4 fun k hk=>by
 rw[B7 hs]at hk;simp at hk;omega
theorem Vr{s v:Nat}(hs:s<1024)(hv:v<10):pF .i64 (Au .i64 1023 (s:Int)) (bS .i64 1 (v:Int))=((zZ s v:Nat):Int):=by
 obtain⟨c,h1,h2,h3⟩:=KI 1023 s (by omega) (by omega)
 have h1':Au .i64 1023 (s:Int)=(c:Int):=h1;rw[h1',xo v (by omega),E0 c (2 ^ v) (by omega) (Nat.pow_lt_pow_right (by omega) (by omega))]
 congr 1;refine Cv fun k=> ?_
 rw[B7 hs,Nat.testBit_or,h3,aca,Nat.testBit_two_pow]
theorem XE{s v:Nat}(hs:s<1024)(hv:v<10):pF .i64 (de .i64 1023 (s:Int)) (bS .i64 1 (v:Int))=((zZ s v:Nat):Int):=by
 have h1:de .i64 1023 (s:Int)=((1023 - s:Nat):Int):=by rw[qb (by omega) (by omega)];omega
 rw[h1,xo v (by omega),E0 _ (2 ^ v) (by omega) (Nat.pow_lt_pow_right (by omega) (by omega))]
 congr 1;refine Cv fun k=> ?_
 rw[B7 hs,Nat.testBit_or,Nat.testBit_two_pow]
 have h2:(1023 - s).testBit k=(decide (k<10)&& !s.testBit k):=by
  have:=Nat.testBit_two_pow_sub_succ (x:=s) (n:=10) (by omega) k
  rw[show 2 ^ 10 - (s+1)=1023 - s by omega]at this
  exact this
 rw[h2]
theorem RI{c:aU}(hc:zj c){v s:Nat}(hs:s<1024):om c v s=some (vK c.bn v s):=by
 unfold om vK;rw[B2 hs,KO hc.len];simp only[Qa,Qo,Ql,mF,sK (Dc _),uI]
 cases hd:n9 c.bn v with
 |false=>
  have:(decide (v<10)&&(jP c.bn).testBit v)=false:=by
   rw[show(jP c.bn).testBit v=n9 c.bn v from rfl,hd];simp
  simp[this]
 |true=>
  obtain⟨h10,m,hm,hdm⟩:=yV hd
  have:(decide (v<10)&&(jP c.bn).testBit v)=true:=by
   rw[show(jP c.bn).testBit v=n9 c.bn v from rfl,hd];simp[h10]
  rw[bg,hm,Vr hs h10];have h0:¬(v:Int)<0:=by omega
  have hmem:m∈c.bn:=Q8 hm;simp only[this,Qo,Ql,Qa,h0,Qu,etas,Dl (P5 hs h10) (hc.aL m hmem),tu hm,Bool.true_and]
theorem MC{c:aU}(hc:zj c){v s:Nat}(hs:s<1024):oN c v s=some (vK c.bn v s):=by
 unfold oN vK;rw[wB hs,CL hc.len];simp only[Qa,Qo,Ql,oO,sK (Dc _),uI]
 cases hd:n9 c.bn v with
 |false=>
  have:(decide (v<10)&&(jP c.bn).testBit v)=false:=by
   rw[show(jP c.bn).testBit v=n9 c.bn v from rfl,hd];simp
  simp[this]
 |true=>
  obtain⟨h10,m,hm,hdm⟩:=yV hd
  have:(decide (v<10)&&(jP c.bn).testBit v)=true:=by
   rw[show(jP c.bn).testBit v=n9 c.bn v from rfl,hd];simp[h10]
  rw[bg,hm,XE hs h10];have h0:¬(v:Int)<0:=by omega
  have hmem:m∈c.bn:=Q8 hm;simp only[this,Qo,Ql,Qa,h0,Qu,etas,G3 (P5 hs h10) (hc.aL m hmem),tu hm,Bool.true_and]
end
section
def mT(s:Nat):List Int:=(vW 10).filter (lU s)
theorem OE{n:Nat}{x:Int}:x∈vW n↔∃k:Nat,k<n/\x=k:=by
 simp only[vW,QP,List.mem_range];exact⟨fun⟨k,h1,h2⟩=>⟨k,h1,h2.symm⟩,fun⟨k,h1,h2⟩=>⟨k,h1,h2.symm⟩⟩
theorem Ca{s:Nat}{x:Int}:x∈mT s↔∃k:Nat,k<10/\x=k/\s.testBit k=true:=by
 rw[mT,List.mem_filter,OE];constructor
 ·rintro⟨⟨k,h1,rfl⟩,h2⟩;rw[uI]at h2;simp at h2;exact⟨k,h1,rfl,h2.2⟩
 ·rintro⟨k,h1,rfl,h2⟩;exact⟨⟨k,h1,rfl⟩,by rw[uI];simp[h1,h2]⟩
theorem MU(step:(Int×List Int×Unit)->Option ((Int×List Int×Unit)⊕List Int))(s:Nat)
  (h1:∀(i:Nat) (acc:List Int),i<10->acc.length<=i->step ((i:Int),acc,())=some (.inl (((i+1:Nat):Int),(if lU s i then acc++[(i:Int)]else acc),())))
  (h2:∀acc,step (((10:Nat):Int),acc,())=some (.inr acc)):aC step (0,[],())=some (mT s):=by
 suffices key:∀(k i:Nat) (acc:List Int),i+k=10->acc=(vW i).filter (lU s)->aC step ((i:Int),acc,())=some (mT s)from key 10 0 [] rfl rfl
 intro k
 induction k with
 |zero=>
  intro i acc hi ha;obtain rfl:i=10:=by omega
  rw[bw (h2 acc),ha];rfl
 |succ k ih=>
  intro i acc hi ha;have hlen:acc.length<=i:=by rw[ha];exact QK (List.length_filter_le _ _) (by simp)
  rw[bj (h1 i acc (by omega) hlen)]
  refine ih (i+1) _ (by omega) ?_
  rw[SD,List.filter_append,<-ha];cases hh:lU s i<;>simp[hh]
theorem LZ{s:Nat}(hs:s<1024):qF (s:Int)=some (mT s):=by
 unfold qF;refine MU _ s (fun i acc hi hl=> ?_) (fun acc=> ?_)
 ·have hd:decide ((i:Int)<10)=true:=Qg (by omega)
  have hw:aA .i64 (i:Int) 1=((i+1:Nat):Int):=bE (by omega) (by omega)
  simp only[hd,hw,Qk,aP,mF,sK hs,Qa];rw[br (by simp;omega)]
  cases lU s i<;>simp
 ·rfl
theorem HW{s:Nat}(hs:s<1024):pY (s:Int)=some (mT s):=by
 unfold pY;refine MU _ s (fun i acc hi hl=> ?_) (fun acc=> ?_)
 ·have hd:decide ((i:Int)<10)=true:=Qg (by omega)
  have hw:aA .i64 (i:Int) 1=((i+1:Nat):Int):=bE (by omega) (by omega)
  simp only[hd,hw,Qk,aP,oO,sK hs,Qa];rw[br (by simp;omega)]
  cases lU s i<;>simp
 ·rfl
def Fw(l:List aR)(s r:Nat):Prop:=∀k,r.testBit k=true->s.testBit k=true/\n9 l k=true/\lq r (mm l k)=true
structure Ax (l:List aR) (s q:Nat):Prop where
 inside:Fw l s q
 max:∀r,Fw l s r->∀k,r.testBit k=true->q.testBit k=true
theorem Ax.unique{l:List aR}{s q q':Nat}(h:Ax l s q)(h':Ax l s q'):q=q':=by
 refine Cv fun k=> ?_
 rw[QW];exact⟨h'.max q h.inside k,h.max q' h'.inside k⟩
theorem Ax.lt{l:List aR}{s q:Nat}(h:Ax l s q):q<1024:=E4 fun k hk=>(yV (h.inside k hk).2.1).1
def qM(l:List aR)(s:Nat):Option Int:=(mT s).find? fun x=> !lq s (mm l x.toNat)
theorem G1{l:List aR}{s:Nat}{x:Int}(h:qM l s=some x):∃k:Nat,x=k/\k<10/\s.testBit k=true/\lq s (mm l k)=false:=by
 have h1:=List.mem_of_find?_eq_some h;have h2:=List.find?_some h;obtain⟨k,hk,rfl,hb⟩:=Ca.1 h1;simp at h2;exact⟨k,rfl,hk,hb,h2⟩
theorem RJ{l:List aR}{s:Nat}(hs:s<1024)(h:qM l s=none):∀k,s.testBit k=true->lq s (mm l k)=true:=by
 intro k hk;have:=List.find?_eq_none.1 h (k:Int) (Ca.2 ⟨k,NY hs hk,rfl,hk⟩);simpa using this
theorem acW:∀s,s<1024->∀k,k<10->s.testBit k=true->s - 2 ^ k=s^^^2 ^ k:=by decide+kernel
theorem Je{s k:Nat}(hs:s<1024)(hk:s.testBit k=true):2 ^ k<=s/\∀j,(s - 2 ^ k).testBit j=(s.testBit j&& !decide (k=j)):=by
 have hle:2 ^ k<=s:=Nat.ge_two_pow_of_testBit hk;refine⟨hle,?_⟩;have hx:s - 2 ^ k=s^^^2 ^ k:=acW s hs k (NY hs hk) hk;intro j;rw[hx,Nat.testBit_xor,Nat.testBit_two_pow]
 by_cases hj:k=j
 ·subst hj;simp[hk]
 ·simp[hj]
structure so (l:List aR) (s0 s:Nat):Prop where
 lt:s<1024
 sub:∀k,s.testBit k=true->s0.testBit k=true/\n9 l k=true
 max:∀r,Fw l s0 r->∀k,r.testBit k=true->s.testBit k=true
theorem so.first(l:List aR){s:Nat}(hs:s<1024):so l s (s&&&jP l):=by
 refine⟨Nat.lt_of_le_of_lt Nat.and_le_left hs,fun k hk=> ?_,fun r hr k hk=> ?_⟩
 ·rw[Nat.testBit_and,Qm]at hk;exact hk
 ·rw[Nat.testBit_and,Qm];exact⟨(hr k hk).1,(hr k hk).2.1⟩
theorem so.next{l:List aR}{s0 s k:Nat}(h:so l s0 s)(hk:s.testBit k=true)(hu:lq s (mm l k)=false):so l s0 (s - 2 ^ k):=by
 obtain⟨h1,h2⟩:=Je h.lt hk;refine⟨Nat.lt_of_le_of_lt (Nat.sub_le _ _) h.lt,fun j hj=> ?_,fun r hr j hj=> ?_⟩
 ·rw[h2]at hj;simp at hj;exact h.sub j hj.1
 ·rw[h2,h.max r hr j hj]
  have:k≠j:=by
   intro e;subst e;have:=PE (fun i hi=>h.max r hr i hi) _ (hr k hj).2.2
   rw[hu]at this;cases this
  simp[this]
theorem so.done{l:List aR}{s0 s:Nat}(h:so l s0 s)(hn:qM l s=none):Ax l s0 s:=
 ⟨fun k hk=>⟨(h.sub k hk).1,(h.sub k hk).2,RJ h.lt hn k hk⟩,h.max⟩
theorem Rn{l:List Int}{ρ:Type}{f:Int->Bool}{hit:Int->ρ}{fin:Unit->Option ρ}{g:Int->Unit->Option (Unit⊕ρ)}(hg:∀x∈l,∀s,g x s=some (if f x then .inr (hit x)else .inl ())):
  fG g fin l ()=match l.find? f with|some x=>some (hit x)|none=>fin ():=by
 induction l with
 |nil=>rfl
 |cons x l ih=>
  rw[fG,hg x (by simp),List.find?_cons]
  cases hx:f x with
  |true=>simp
  |false=>
   simp only[Qq,Qu];exact ih fun y hy=>hg y (by simp[hy])
theorem yG(s:Nat):(mT s).length<=10:=QK (List.length_filter_le _ _) (by simp)
theorem WY{c:aU}(hc:zj c){s:Nat}(hs:s<1024)(hsub:∀k,s.testBit k=true->n9 c.bn k=true):
  oh c s=some (match qM c.bn s with|some x=>(x,true,())|none=>(0,false,())):=by
 unfold oh;rw[LZ hs,Qa];have hlen:=yG s;rw[iA (mT s) (by omega) (fun i (_:Unit)=>(i,())) (fun x (_:Unit)=>(oi c x s).map fun r=>if r then .inl ()else .inr (x,true,())) (fun _=>some (0,false,())) (fun i x u hd hx hw=> ?_) (fun u hd=> ?_) ()]
 ·rw[Rn (f:=fun x=> !lq s (mm c.bn x.toNat)) (hit:=fun x=>(x,true,()))]
  ·unfold qM;cases (mT s).find? _<;>rfl
  ·intro x hx u;obtain⟨k,hk,rfl,hb⟩:=Ca.1 hx;obtain⟨_,m,hm,_⟩:=yV (hsub k hb);unfold oi;rw[bg,hm];simp only[Qa,etas,Dl hs (hc.aL m (Q8 hm)),Qe,QV,tu hm];cases lq s m.ak<;>rfl
 ·simp only[hd,hx,hw,Qk,Qa]
  cases oi c x s with
  |none=>rfl
  |some r=>cases r<;>rfl
 ·simp only[hd,Ql]
theorem Yk{s k:Nat}(hs:s<1024)(hk:s.testBit k=true):Au .i64 (s:Int) (bS .i64 1 (k:Int))=((s - 2 ^ k:Nat):Int):=by
 have h10:=NY hs hk;obtain⟨c,h1,_,h3⟩:=KI s (2 ^ k) (by omega) (Nat.pow_lt_pow_right (by omega) (by omega))
 rw[xo k (by omega),h1]
 congr 1;refine Cv fun j=> ?_
 rw[h3,(Je hs hk).2,Nat.testBit_two_pow]
theorem KM{c:aU}(hc:zj c){s:Nat}(hs:s<1024):Yd (kW c s) fun q=>∃n:Nat,q=n/\Ax c.bn s n:=by
 unfold kW tN;rw[B2 hs,KO hc.len];simp only[Qa,Qo,Ql];have hdl:=Dc c.bn;rw[Di s (jP c.bn) (by omega) (by omega)]
 suffices key:∀(n t:Nat) (out:List Int),t<n->so c.bn s t->out.length+t<=1024->Yd (aC (fun(v3:Int×(List Int)×Unit)=>
   Option.bind (oh c v3.1) fun r4=>
   bif (!r4.2.1)then
   Option.map Sum.inr (some (v3.1,v3.2.1,()))
   else
   bif bb 8 (List.length v3.2.1+List.length [r4.1])then
   if r4.1<0 then none else
   some (Sum.inl ((Au .i64 v3.1 (bS .i64 (1:Int) r4.1)),(v3.2.1++[r4.1]),()))
   else none) ((t:Int),out,())) fun p=>∃n:Nat,p.1=n/\Ax c.bn s n by
  have hfirst:=so.first c.bn hs
  have hb:=hfirst.lt;refine(key 1024 (s&&&jP c.bn) [] hb hfirst (by simp;omega)).bind fun p hp=>Yd.some hp
 intro n
 induction n with
 |zero=>intro t out h;omega
 |succ n ih=>
  intro t out ht hinv hout;refine Yd.loop ?_;rw[WY hc hinv.lt fun k hk=>(hinv.sub k hk).2]
  simp only[Qa]
  cases hu:qM c.bn t with
  |none=>exact Yd.some ⟨t,rfl,hinv.done hu⟩
  |some x=>
   obtain⟨k,rfl,hk10,hkb,hks⟩:=G1 hu;have h0:¬(k:Int)<0:=by omega
   have hlb:=(Je hinv.lt hkb).1;have hp:0<2 ^ k:=Nat.pow_pos (by omega)
   simp only[Qo,Ql];rw[br (by simp;omega),Qs h0,Yk hinv.lt hkb]
   exact Yd.some (ih (t - 2 ^ k) _ (by omega) (hinv.next hkb hks) (by simp;omega))
theorem ZG{c:aU}(hc:zj c){s:Nat}(hs:s<1024):∃q,Ax c.bn s q:=by
 obtain⟨_,_,n,_,h⟩:=KM hc hs;exact⟨n,h⟩
open Classical in
 def gq(l:List aR)(s:Nat):Nat:=if h:∃q,Ax l s q then Classical.choose h else 0
theorem Cg{c:aU}(hc:zj c){s:Nat}(hs:s<1024):Ax c.bn s (gq c.bn s):=by
 have h:=ZG hc hs;rw[gq,dif_pos h];exact Classical.choose_spec h
theorem KN{c:aU}(hc:zj c){s:Nat}(hs:s<1024):kW c s=some ((gq c.bn s:Nat):Int):=by
 obtain⟨q,h1,n,rfl,h2⟩:=KM hc hs;rw[h1,h2.unique (Cg hc hs)]
def wy(s:Nat):List Int->Nat
 |[]=>s
 |x::l=>wy (s - 2 ^ x.toNat) l
theorem Ma(s:Nat):∀(l:List Int) (x:Int),wy s (l++[x])=wy s l - 2 ^ x.toNat
 |[],x=>rfl
 |y::l,x=>by rw[List.cons_append,wy,Ma _ l x,wy]
def JJ(s:Nat):List Int->Prop
 |[]=>True
 |x::l=>(∃k:Nat,x=k/\k<10/\2 ^ k<=s)/\JJ (s - 2 ^ x.toNat) l
theorem RF{s:Nat}:∀{l:List Int} {k:Nat},JJ s l->k<10->2 ^ k<=wy s l->JJ s (l++[(k:Int)])
 |[],k,_,h1,h2=>⟨⟨k,rfl,h1,h2⟩,trivial⟩
 |_::_,_,h,h1,h2=>⟨h.1,RF h.2 h1 h2⟩
theorem SK{t k:Nat}(hk:k<10)(h:2 ^ k<=t)(ht:t<1024):de .i64 (t:Int) (bS .i64 1 (k:Int))=((t - 2 ^ k:Nat):Int):=by
 rw[xo k (by omega)]
 generalize 2 ^ k=z at*;rw[qb (by omega) (by omega)]
 omega
theorem aeP{c:aU}(hc:zj c){s:Nat}(hs:s<1024):Yd (pB c s) fun out=>JJ (s&&&jP c.bn) out/\Ax c.bn s (wy (s&&&jP c.bn) out)/\out.length<=1024:=by
 unfold pB;rw[wB hs,CL hc.len];simp only[Qa,Qo,Ql];have hdl:=Dc c.bn;rw[Di s (jP c.bn) (by omega) (by omega)]
 generalize hs0:s&&&jP c.bn=s0
 suffices key:∀(n t:Nat) (b:Bool) (out:List Int),t<n->so c.bn s t->(b=false->qM c.bn t=none)->out.length+t<=1024->JJ s0 out->wy s0 out=t->
   Yd (aC (fun(v3:Int×Bool×(List Int)×Unit)=>
    bif v3.2.1 then
    Option.bind (pY v3.1) fun r4=>
    aC (fun(v5:Int×Bool×Int×(List Int)×Unit)=>
    bif (decide (v5.2.2.1<((List.length r4:Nat):Int)))then
    Option.bind (idx r4 v5.2.2.1) fun x6=>
    Option.bind (idx c.bn x6) fun x7=>
    Option.bind (jG (af.mk x7.ak.aG x7.ak.aX x7.ak.aN) v5.1) fun r8=>
    bif (!r8)then
    if x6<0 then none else
    bif bb 8 (List.length v5.2.2.2.1+List.length [x6])then
    Option.map Sum.inr (some (Sum.inl ((de .i64 v5.1 (bS .i64 (1:Int) x6)),true,(v5.2.2.2.1++[x6]),())))
    else none
    else
    some (Sum.inl (v5.1,v5.2.1,(aA .i64 v5.2.2.1 (1:Int)),v5.2.2.2.1,()))
    else
    Option.map Sum.inr (some (Sum.inl (v5.1,v5.2.1,v5.2.2.2.1,())))) (v3.1,false,(0:Int),v3.2.2.1,())
    else
    Option.map Sum.inr (some v3.2.2.1)) ((t:Int),b,out,())) fun out=>JJ s0 out/\Ax c.bn s (wy s0 out)/\out.length<=1024 by
  have hfirst:=so.first c.bn hs
  rw[hs0]at hfirst;have hb:=hfirst.lt;exact key 1024 s0 true [] hb hfirst (fun h=>by cases h) (by simp;omega) trivial rfl
 intro n
 induction n with
 |zero=>intro t b out h;omega
 |succ n ih=>
  intro t b out ht hinv hb hout hso hsub;refine Yd.loop ?_
  cases b with
  |false=>
   simp only[Ql];refine Yd.inr (Yd.some ⟨hso,?_,by omega⟩)
   rw[hsub];exact hinv.done (hb rfl)
  |true=>
   simp only[Qk];rw[HW hinv.lt,Qa];have hlen:=yG t;rw[iA (mT t) (by omega) (fun i (_:Unit)=>((t:Int),false,i,out,())) (fun x (_:Unit)=>some (if !lq t (mm c.bn x.toNat)then .inr (Sum.inl ((de .i64 (t:Int) (bS .i64 (1:Int) x)),true,(out++[x]),()))else .inl ())) (fun _=>some (Sum.inl ((t:Int),false,out,()))) (fun i x u hd hx hw=> ?_) (fun u hd=> ?_) ()]
   ·rw[Rn (f:=fun x=> !lq t (mm c.bn x.toNat)) (hit:=fun x=>Sum.inl ((de .i64 (t:Int) (bS .i64 (1:Int) x)),true,(out++[x]),())) (fun x hx u=>rfl)]
    cases hu:qM c.bn t with
    |none=>
     rw[qM]at hu;rw[hu];refine Yd.some ?_;refine Yd.loop ?_;simp only[Ql];refine Yd.inr (Yd.some ⟨hso,?_,by omega⟩)
     rw[hsub];exact hinv.done hu
    |some x=>
     obtain⟨k,rfl,hk10,hkb,hks⟩:=G1 hu;rw[qM]at hu;rw[hu];have hlb:=(Je hinv.lt hkb).1;have hp:0<2 ^ k:=Nat.pow_pos (by omega)
     simp only;rw[SK hk10 hlb hinv.lt];refine Yd.some (ih (t - 2 ^ k) true _ (by omega) (hinv.next hkb hks) (fun h=>by cases h) (by simp;omega) (RF hso hk10 (by rw[hsub];exact hlb)) (by rw[Ma,hsub];rfl))
   ·have hmem:x∈mT t:=by
     rw[bg]at hx;exact Q8 hx
    obtain⟨k,hk10,rfl,hkb⟩:=Ca.1 hmem;obtain⟨_,m,hm,_⟩:=yV (hinv.sub k hkb).2;have h0:¬(k:Int)<0:=by omega
    simp only[hd,hx,hw,Qk,Qa,bg c.bn,hm,etas,G3 hinv.lt (hc.aL m (Q8 hm)),h0,Qu,QV,tu hm];rw[br (by simp;omega)]
    cases lq t m.ak<;>rfl
   ·simp only[hd,Ql]
theorem CK{c:aU}(hc:zj c){s:Nat}(hs:s<1024):kF c s=some ((gq c.bn s:Nat):Int):=by
 unfold kF;rw[wB hs,CL hc.len];simp only[Qa,Qo,Ql];have hdl:=Dc c.bn;rw[Di s (jP c.bn) (by omega) (by omega)]
 obtain⟨out,h1,h2,h3,h4⟩:=aeP hc hs;rw[h1,Qa];rw[iA out (by omega) (fun i (t:Int)=>(t,i,())) (fun x (t:Int)=>if x<0 then none else some (.inl (de .i64 t (bS .i64 1 x)))) (fun t=>some t) (fun i x u hd hx hw=> ?_) (fun u hd=> ?_) _]
 ·rw[<-h3.unique (Cg hc hs)];have hlt:s&&&jP c.bn<1024:=Nat.lt_of_le_of_lt Nat.and_le_left hs;generalize s&&&jP c.bn=t at h2 hlt;clear h1 h3 h4
  induction out generalizing t with
  |nil=>rfl
  |cons x l ih=>
   obtain⟨⟨k,rfl,hk,hle⟩,h2⟩:=h2;have h0:¬(k:Int)<0:=by omega
   rw[fG,Qs h0,SK hk hle hlt,wy];simp only[QV]at h2 ⊢;exact ih _ h2 (Nat.lt_of_le_of_lt (Nat.sub_le _ _) hlt)
 ·simp only[hd,hx,hw,Qk,Qa];split<;>rfl
 ·simp only[hd,Ql]
end
section
structure qZ (l:List ae):Prop where
 len:l.length<=100000
 aL:∀e∈l,c8 e.ak
theorem jc{e:ae}(h:aW e=true):0<=e.al/\e.al<10:=by
 simp only[aW,gW,yX,Qm,Qi]at h;exact⟨h.1.1.1.1.1.1.1,h.1.1.1.1.1.1.2⟩
def gE:aR:=⟨false,⟨0,[],[]⟩⟩
 def dC(ms:List aR)(e:ae):List aR:=
 if aW e&& !((ms[e.al.toNat]?).any (·.dL))then ms.set e.al.toNat ⟨true,e.ak⟩else ms
 def gy(aB:Nat)(t:af)(l:List ae):List aR:=l.foldl dC ((List.replicate 10 gE).set aB ⟨true,t⟩)
theorem yr(ms:List aR)(e:ae):(dC ms e).length=ms.length:=by
 unfold dC;split
 ·rw[QY]
 ·rfl
theorem EL:∀(l:List ae) (ms:List aR),(l.foldl dC ms).length=ms.length
 |[],_=>rfl
 |e::l,ms=>by rw[QU,EL l,yr]
theorem HB(aB:Nat)(t:af)(l:List ae):(gy aB t l).length=10:=by
 rw[gy,EL,QY,List.length_replicate]
theorem Sk{ms:List aR}(hl:ms.length=10){n:Int}(h0:0<=n)(h1:n<10):∃m,ms[n.toNat]?=some m/\idx ms n=some m:=by
 have:n.toNat<ms.length:=by omega
 exact⟨ms[n.toNat],Qv this,by rw[Nv _ h0];exact Qv this⟩
theorem WL{aB:Nat}(hn:aB<10){t:af}(ht:c8 t){l:List ae}(hl:qZ l):rZ aB t l=some ⟨gy aB t l⟩:=by
 unfold rZ
 have h1:(decide ((10:Int)=10)&&decide ((0:Int)<=10)&&bb 64 (Int.toNat 10))=true:=by
  rw[br (by decide)];rfl
 have h2:¬(aB:Int)<0:=by omega
 have h3:¬(10:Int)<=aB:=by omega
 rw[h1];simp only[Qk,h2,h3,decide_false,Ql,Qa,etas,qt ht,aP];obtain⟨m,hm1,hm2⟩:=Sk (ms:=List.replicate 10 gE) (by simp) (n:=(aB:Int)) (by omega) (by omega)
 have e10:List.replicate (Int.toNat 10) (aR.mk false (af.mk 0 [] []))=List.replicate 10 gE:=rfl;rw[e10,hm2,hm1,Qa,Qa];have hlen:=hl.len
 suffices key:∀(k i:Nat) (ms:List aR) (c:aU),i+k=l.length->ms.length=10->aC _ ((i:Int),c,ms,())=some (aU.mk ((l.drop i).foldl dC ms))by
  have:=key l.length 0 ((List.replicate 10 gE).set aB ⟨true,t⟩) ⟨[]⟩ (by omega) (by simp)
  simpa[gy]using this
 intro k
 induction k with
 |zero=>
  intro i ms c hi hms;obtain rfl:i=l.length:=by omega
  refine bw ?_;have hd:decide (((l.length:Nat):Int)<((l.length:Nat):Int))=false:=Qh (Qq64 _);simp only[hd,Ql,Qq66,List.foldl_nil]
 |succ k ih=>
  intro i ms c hi hms;have hlt:i<l.length:=by omega
  have hd:decide ((i:Int)<((l.length:Nat):Int))=true:=Qg (by omega)
  have hw:aA .i64 (i:Int) 1=((i+1:Nat):Int):=bE (by omega) (by omega)
  have hx:idx l (i:Int)=some l[i]:=by rw[bg];exact Qv hlt
  have hsm:=hl.aL _ (Q0 hlt);rw[QM hlt,QU];refine Eq.trans (bj (s':=(((i+1:Nat):Int),⟨[]⟩,dC ms l[i],())) ?_) (ih (i+1) _ _ (by omega) (by rw[yr];exact hms))
  simp only[hd,hx,hw,Qk,Qa,xN hsm];unfold dC
  cases hv:aW l[i]with
  |false=>simp
  |true=>
   obtain⟨h4,h5⟩:=jc hv;obtain⟨m,hm1,hm2⟩:=Sk hms h4 h5;simp only[Qk,hm1,hm2,Qa,qt hsm,Option.any_some,Bool.true_and];cases m.dL<;>simp
theorem zU{aB:Nat}(hn:aB<10){t:af}{l:List ae}(hl:qZ l):jf aB t l=some ⟨gy aB t l⟩:=by
 unfold jf
 have h1:(decide ((10:Int)=10)&&decide ((0:Int)<=10)&&bb 64 (Int.toNat 10))=true:=by
  rw[br (by decide)];rfl
 have h2:¬(aB:Int)<0:=by omega
 have h3:¬(9:Int)<aB:=by omega
 rw[h1];simp only[Qk,h2,h3,decide_false,Ql,Qa,etas,aP];obtain⟨m,hm1,hm2⟩:=Sk (ms:=List.replicate 10 gE) (by simp) (n:=(aB:Int)) (by omega) (by omega)
 have e10:List.replicate (Int.toNat 10) (aR.mk false (af.mk 0 [] []))=List.replicate 10 gE:=rfl;rw[e10,hm2,hm1,Qa,Qa];have hlen:=hl.len
 suffices key:∀(k i:Nat) (ms:List aR) (c:aU),i+k=l.length->ms.length=10->aC _ ((i:Int),c,ms,())=some (aU.mk ((l.drop i).foldl dC ms))by
  have:=key l.length 0 ((List.replicate 10 gE).set aB ⟨true,t⟩) ⟨[]⟩ (by omega) (by simp)
  simpa[gy]using this
 intro k
 induction k with
 |zero=>
  intro i ms c hi hms;obtain rfl:i=l.length:=by omega
  refine bw ?_;have hd:decide (((l.length:Nat):Int)<((l.length:Nat):Int))=false:=Qh (Qq64 _);simp only[hd,Ql,Qq66,List.foldl_nil]
 |succ k ih=>
  intro i ms c hi hms;have hlt:i<l.length:=by omega
  have hd:decide ((i:Int)<((l.length:Nat):Int))=true:=Qg (by omega)
  have hw:aA .i64 (i:Int) 1=((i+1:Nat):Int):=bE (by omega) (by omega)
  have hx:idx l (i:Int)=some l[i]:=by rw[bg];exact Qv hlt
  have hsm:=hl.aL _ (Q0 hlt);rw[QM hlt,QU];refine Eq.trans (bj (s':=(((i+1:Nat):Int),⟨[]⟩,dC ms l[i],())) ?_) (ih (i+1) _ _ (by omega) (by rw[yr];exact hms))
  simp only[hd,hx,hw,Qk,Qa,jN hsm];unfold dC
  cases hv:aW l[i]with
  |false=>simp
  |true=>
   obtain⟨h4,h5⟩:=jc hv;obtain⟨m,hm1,hm2⟩:=Sk hms h4 h5;simp only[Qk,hm1,hm2,Qa,Option.any_some,Bool.true_and];cases m.dL<;>simp
theorem ml{aB:Nat}{t:af}(ht:c8 t){l:List ae}(hl:qZ l):zj ⟨gy aB t l⟩:=by
 refine⟨by rw[HB];omega,?_⟩
 have key:∀(l:List ae) (ms:List aR),(∀e∈l,c8 e.ak)->(∀m∈ms,c8 m.ak)->∀m∈l.foldl dC ms,c8 m.ak:=by
  intro l
  induction l with
  |nil=>intro ms _ h;exact h
  |cons e l ih=>
   intro ms he h;rw[QU];refine ih _ (fun e' h'=>he e' (by simp[h'])) fun m hm=> ?_
   unfold dC at hm;split at hm
   ·rcases List.mem_or_eq_of_mem_set hm with hm|rfl
    ·exact h m hm
    ·exact he e (by simp)
   ·exact h m hm
 refine key l _ hl.aL fun m hm=> ?_
 rcases List.mem_or_eq_of_mem_set hm with hm|rfl
 ·rw[List.eq_of_mem_replicate hm];exact .mk _ (by simp[gE]) (by simp[gE]) (by simp[gE])
 ·exact ht
 def bW(l:List ae):List ae:=l.filter aW
theorem aaj{l:List ae}(hl:qZ l):qI l=some ((bW l).map bG.mk):=by
 unfold qI;have hlen:=hl.len;simp only[aP]
 suffices key:∀(k i:Nat) (acc:List bG),i+k=l.length->acc=(bW (l.take i)).map bG.mk->aC _ ((i:Int),acc,())=some ((bW l).map bG.mk)from key l.length 0 [] (by omega) rfl
 intro k
 induction k with
 |zero=>
  intro i acc hi ha;obtain rfl:i=l.length:=by omega
  refine bw ?_;have hd:decide (((l.length:Nat):Int)<((l.length:Nat):Int))=false:=Qh (Qq64 _);simp only[hd,Ql,Qe,ha,Qq62]
 |succ k ih=>
  intro i acc hi ha;have hlt:i<l.length:=by omega
  have hd:decide ((i:Int)<((l.length:Nat):Int))=true:=Qg (by omega)
  have hw:aA .i64 (i:Int) 1=((i+1:Nat):Int):=bE (by omega) (by omega)
  have hx:idx l (i:Int)=some l[i]:=by rw[bg];exact Qv hlt
  have hsm:=hl.aL _ (Q0 hlt)
  have hal:acc.length<=i:=by
   rw[ha,QC];exact QK (List.length_filter_le _ _) (by rw[List.length_take];omega)
  refine Eq.trans (bj (s':=(((i+1:Nat):Int),(if aW l[i]then acc++[bG.mk l[i]]else acc),())) ?_) (ih (i+1) _ (by omega) ?_)
  ·simp only[hd,hx,hw,Qk,Qa,etas,ae.eta,xN hsm];rw[br (by simp;omega)]
   cases aW l[i]<;>simp
  ·rw[Q7 hlt,bW,List.filter_append,ha];cases hv:aW l[i]<;>simp[bW,hv]
def dE(p:ae->Bool):List ae->Nat
 |[]=>0
 |e::l=>(if p e then 2 ^ e.al.toNat else 0)|||dE p l
theorem xm(p:ae->Bool)(k:Nat):∀(l:List ae),(dE p l).testBit k=l.any fun e=>p e&&decide (e.al.toNat=k)
 |[]=>by simp[dE]
 |e::l=>by
  rw[dE,Nat.testBit_or,xm p k l,List.any_cons];cases p e<;>simp[Nat.testBit_two_pow]
def vO(l:List ae):Prop:=∀e∈l,0<=e.al/\e.al<10
theorem mR(l:List ae):vO (bW l):=fun _ he=>jc (List.mem_filter.1 he).2
theorem B4(l:List ae):(bW l).length<=l.length:=List.length_filter_le _ _
theorem mj{p:ae->Bool}{l:List ae}(h:vO l):dE p l<1024:=E4 fun k hk=>by
 rw[xm,List.any_eq_true]at hk;obtain⟨e,he,h1⟩:=hk;simp only[Qm,Qi]at h1;have:=h e he;omega
theorem FA(p:ae->Bool)(l:List ae)(hin:vO l)(step:(Int×Int×Unit)->Option ((Int×Int×Unit)⊕Int))
  (h1:∀(i:Nat) (e:ae) (s:Int),l[i]?=some e->step (s,(i:Int),())=if p e then(if e.al<0 then none else some (.inl (pF .i64 s (bS .i64 1 e.al),((i+1:Nat):Int),())))else some (.inl (s,((i+1:Nat):Int),())))
  (h2:∀s:Int,step (s,(l.length:Int),())=some (.inr s)):aC step (0,0,())=some ((dE p l:Nat):Int):=by
 suffices key:∀(k i s:Nat),i+k=l.length->s<1024->aC step ((s:Int),(i:Int),())=some ((s|||dE p (l.drop i):Nat):Int)by
  have:=key l.length 0 0 (by omega) (by omega)
  simpa using this
 intro k
 induction k with
 |zero=>
  intro i s hi hs;obtain rfl:i=l.length:=by omega
  rw[bw (h2 s),Qq66,dE];simp
 |succ k ih=>
  intro i s hi hs;have hlt:i<l.length:=by omega
  have hm:=hin l[i] (Q0 hlt);rw[QM hlt,dE];have hst:=h1 i l[i] s (Qv hlt)
  cases hp:p l[i]with
  |false=>
   rw[hp]at hst;rw[bj hst,ih (i+1) s (by omega) hs]
   simp
  |true=>
   rw[hp,Qr rfl,Qs (by omega),nu hs hm.1 hm.2]at hst
   rw[bj hst,ih (i+1) _ (by omega) (AE hs hm.2)]
   simp[Nat.or_assoc]
theorem KJ{v:aU}{aB:Int}{l:List ae}(hl:l.length<=1000000)(hin:vO l)(b:ai):jD ⟨aB,v,l.map bG.mk⟩ b=some ((dE (dj · b) l:Nat):Int):=by
 unfold jD;refine FA (dj · b) l hin _ (fun i e s he=> ?_) (fun s=> ?_)
 ·have hlt:i<l.length:=(Qw.1 he).1;have hd:decide ((i:Int)<(((l.map bG.mk).length:Nat):Int))=true:=Qg (by rw[QC];omega)
  have hw:aA .i64 (i:Int) 1=((i+1:Nat):Int):=bE (by omega) (by omega)
  have hx:idx (l.map bG.mk) (i:Int)=some ⟨e⟩:=by rw[bg,QT,he];rfl
  simp only[hd,hx,hw,Qk,Qa,etas,ae.eta,mf,ug,aP];cases dj e b<;>simp
 ·have hd:decide (((l.length:Nat):Int)<(((l.map bG.mk).length:Nat):Int))=false:=Qh (by rw[QC];exact Qq64 _)
  simp only[hd,Ql,Qe]
theorem Yp{v:aU}{aB:Int}{l:List ae}(hl:l.length<=1000000)(hin:vO l)(b:ai):gQ ⟨aB,v,l.map bG.mk⟩ b b=some ((dE (fun e=>pZ e b||dj e b) l:Nat):Int):=by
 unfold gQ;refine FA (fun e=>pZ e b||dj e b) l hin _ (fun i e s he=> ?_) (fun s=> ?_)
 ·have hlt:i<l.length:=(Qw.1 he).1;have hd:decide ((i:Int)<(((l.map bG.mk).length:Nat):Int))=true:=Qg (by rw[QC];omega)
  have hw:aA .i64 (i:Int) 1=((i+1:Nat):Int):=bE (by omega) (by omega)
  have hx:idx (l.map bG.mk) (i:Int)=some ⟨e⟩:=by rw[bg,QT,he];rfl
  simp only[hd,hx,hw,Qk,Qa,etas,ae.eta,jJ,mf,qY,ug,DB,aP,lx,Bool.cond_true_left];cases (pZ e b||dj e b)<;>simp
 ·have hd:decide (((l.length:Nat):Int)<(((l.map bG.mk).length:Nat):Int))=false:=Qh (by rw[QC];exact Qq64 _)
  simp only[hd,Ql,Qe]
 def kp(ms:List aR)(v dg accepts:Nat):Bool:=vK ms v accepts||(gq ms (dg|||accepts)).testBit v
theorem xc{c:aU}(hc:zj c){v dg accepts:Nat}(hv:v<10)(h1:dg<1024)(h2:accepts<1024):gw c v dg accepts=some (kp c.bn v dg accepts):=by
 unfold gw kp;have h3:dg|||accepts<1024:=Nat.or_lt_two_pow (n:=10) h1 h2
 rw[B2 h1,B2 h2,RI hc h2,E0 dg accepts (by omega) (by omega),KN hc h3]
 simp[sK (Cg hc h3).lt,uI,hv]
theorem vD{c:aU}(hc:zj c){v accepts:Nat}(hv:v<10)(h2:accepts<1024):ew c v accepts=some ((gq c.bn accepts).testBit v):=by
 unfold ew;rw[KN hc h2];simp[sK (Cg hc h2).lt,uI,hv]
 def lj(aB:Nat)(t:af)(l:List ae)(b:ai):Bool:=
 kp (gy aB t l) aB (dE (fun e=>pZ e b||dj e b) (bW l)) (dE (dj · b) (bW l))
 def jY(aB:Nat)(t:af)(l:List ae)(b:ai):Bool:=
 (gq (gy aB t l) (dE (dj · b) (bW l))).testBit aB
theorem Pn{aB:Nat}(hn:aB<10){t:af}(ht:c8 t){l:List ae}(hl:qZ l):fP aB t l=some ⟨aB,⟨gy aB t l⟩,(bW l).map bG.mk⟩:=by
 unfold fP;simp only[etas,WL hn ht hl,aaj hl,Qa]
end
section
theorem abT{α:Type}{l l':List α}(h:l.Perm l')(p:α->Bool):l.any p=l'.any p:=by
 rw[QW,List.any_eq_true,List.any_eq_true];exact⟨fun⟨x,h1,h2⟩=>⟨x,h.mem_iff.1 h1,h2⟩,fun⟨x,h1,h2⟩=>⟨x,h.mem_iff.2 h1,h2⟩⟩
theorem YA{l l':List ae}(h:l.Perm l')(p:ae->Bool):dE p l=dE p l':=Cv fun k=>by rw[xm,xm,abT h]
theorem Vj{l l':List ae}(h:l.Perm l'):(bW l).Perm (bW l'):=h.filter _
def AV(l:List ae):Prop:=∀a∈l,∀b∈l,a.al=b.al->a=b
theorem AV.perm{l l':List ae}(h:AV l)(hp:l.Perm l'):AV l':=fun a ha b hb=>h a (hp.mem_iff.2 ha) b (hp.mem_iff.2 hb)
 def oS(l:List ae)(k:Nat):Option ae:=l.find? fun e=>aW e&&decide (e.al.toNat=k)
theorem Eh{l:List ae}{k:Nat}{e:ae}(h:oS l k=some e):e∈l/\aW e=true/\e.al=k:=by
 unfold oS at h;have h1:=List.mem_of_find?_eq_some h;have h2:=List.find?_some h;simp only[Qm,Qi]at h2;have:=jc h2.1;exact⟨h1,h2.1,by omega⟩
theorem MT{l:List ae}(ha:AV l){k:Nat}{e:ae}(h1:e∈l)(h2:aW e=true)(h3:e.al=k):oS l k=some e:=by
 cases h:oS l k with
 |none=>
  unfold oS at h;rw[List.find?_eq_none]at h;have:=h e h1;simp[h2,h3]at this
 |some e'=>
  obtain⟨g1,g2,g3⟩:=Eh h;rw[ha e' g1 e h1 (by omega)]
theorem Vs{l l':List ae}(ha:AV l)(h:l.Perm l')(k:Nat):oS l k=oS l' k:=by
 cases h1:oS l k with
 |some e=>
  obtain⟨g1,g2,g3⟩:=Eh h1;exact(MT (ha.perm h) (h.mem_iff.1 g1) g2 g3).symm
 |none=>
  cases h2:oS l' k with
  |none=>rfl
  |some e=>
   obtain⟨g1,g2,g3⟩:=Eh h2;rw[MT ha (h.mem_iff.2 g1) g2 g3]at h1;cases h1
theorem Pt:∀(l:List ae) (ms:List aR),ms.length=10->(∀m∈ms,m.dL=false->m=gE)->∀k,k<10->(l.foldl dC ms)[k]?=some (match ms[k]? with
  |some m=>if m.dL then m else(match oS l k with
   |some e=>⟨true,e.ak⟩
   |none=>gE)
  |none=>gE)
 |[],ms,hl,hn,k,hk=>by
  have hk':k<ms.length:=by omega
  rw[List.foldl_nil,Qv hk']
  cases hd:ms[k].dL with
  |true=>simp[hd]
  |false=>
   have:=hn _ (Q0 hk') hd;simp[hd,oS,this]
 |e::l,ms,hl,hn,k,hk=>by
  have hk':k<ms.length:=by omega
  rw[QU];have hlen:(dC ms e).length=10:=by rw[yr];exact hl
  have hn':∀m∈dC ms e,m.dL=false->m=gE:=by
   unfold dC;split
   ·intro m hm hd;rcases List.mem_or_eq_of_mem_set hm with hm|rfl
    ·exact hn m hm hd
    ·cases hd
   ·exact hn
  rw[Pt l (dC ms e) hlen hn' k hk];congr 1
  have hof:oS (e::l) k=if(aW e&&decide (e.al.toNat=k))=true then some e else oS l k:=by
   unfold oS;rw[List.find?_cons];cases aW e&&decide (e.al.toNat=k)<;>rfl
  rw[hof];unfold dC
  by_cases hv:aW e=true
  ·have hnode:=jc hv;have hi:e.al.toNat<ms.length:=by omega
   rw[hv,Bool.true_and,Bool.true_and]
   by_cases hke:e.al.toNat=k
   ·subst hke;rw[Qv hi]
    cases hd:ms[e.al.toNat].dL with
    |true=>simp[hd,Qv hi]
    |false=>simp[hd,hi]
   ·have hne:decide (e.al.toNat=k)=false:=Qh hke
    have hset:∀c:Bool,(if c=true then ms.set e.al.toNat ⟨true,e.ak⟩else ms)[k]?=ms[k]?:=fun c=>by
     cases c
     ·rfl
     ·rw[Qr rfl,List.getElem?_set_ne hke]
    rw[hne,hset];simp
  ·have hv':aW e=false:=by simpa using hv
   simp[hv']
theorem HA{aB:Nat}(hn:aB<10)(t:af)(l:List ae){k:Nat}(hk:k<10):(gy aB t l)[k]?=some (if k=aB then⟨true,t⟩else match oS l k with
  |some e=>⟨true,e.ak⟩
  |none=>gE):=by
 rw[gy,Pt l _ (by simp) (fun m hm hd=> ?_) k hk]
 ·by_cases h:k=aB
  ·subst h;simp[hn]
  ·rw[List.getElem?_set_ne (fun e=>h e.symm),List.getElem?_replicate,Qr hk]
   simp[h,gE]
 ·rcases List.mem_or_eq_of_mem_set hm with hm|rfl
  ·exact(List.mem_replicate.1 hm).2
  ·cases hd
theorem WT{aB:Nat}(hn:aB<10)(t:af){l l':List ae}(ha:AV l)(h:l.Perm l'):gy aB t l=gy aB t l':=by
 refine List.ext_getElem? fun k=> ?_
 by_cases hk:k<10
 ·rw[HA hn t l hk,HA hn t l' hk,Vs ha h]
 ·rw[Qq72 (by rw[HB];omega),Qq72 (by rw[HB];omega)]
end
section
theorem aaa{τ ρ:Type}(n:Nat)(mk:Int->τ){step:τ->Option (τ⊕ρ)}{fin:Option ρ}(h1:∀i:Nat,i<n->step (mk (i:Int))=some (.inl (mk ((i+1:Nat):Int))))(h2:step (mk (n:Int))=Option.map Sum.inr fin):aC step (mk 0)=fin:=by
 suffices key:∀(k i:Nat),i+k=n->aC step (mk (i:Int))=fin from key n 0 (by omega)
 intro k
 induction k with
 |zero=>
  intro i hi;obtain rfl:i=n:=by omega
  rw[fb,h2];cases fin<;>rfl
 |succ k ih=>exact fun i hi=>(bj (h1 i (by omega))).trans (ih (i+1) (by omega))
theorem YP{ρ:Type}(n:Nat)(hn:n<=1000000){fin:Option ρ}{step:Int×Unit->Option ((Int×Unit)⊕ρ)}
  (h1:∀i:Nat,i<n->decide ((i:Int)<((n:Nat):Int))=true->aA .i64 (i:Int) 1=((i+1:Nat):Int)->step ((i:Int),())=some (.inl (((i+1:Nat):Int),())))
  (h2:decide (((n:Nat):Int)<((n:Nat):Int))=false->step ((n:Int),())=Option.map Sum.inr fin):aC step (0,())=fin:=
 aaa n (fun i=>(i,())) (fun i hi=>h1 i hi (Qg (by omega)) (bE (by omega) (by omega))) (h2 (Qh (Qq64 _)))
end
section
def GA:List UInt8->Nat
 |[]=>0
 |a::l=>a.toNat*256 ^ l.length+GA l
theorem JA:∀l:List UInt8,GA l<256 ^ l.length
 |[]=>by simp[GA]
 |a::l=>by
  have h1:=JA l;have h2:a.toNat<256:=a.toNat_lt;rw[GA,QE,Nat.pow_succ];have h3:(a.toNat+1)*256 ^ l.length<=256*256 ^ l.length:=Qq63 _ h2;rw[Qq73,Nat.one_mul,Nat.mul_comm 256]at h3;omega
theorem Z6:∀{x y:List UInt8},x.length=y.length->Op.bytesLess x y=true->GA x<GA y
 |[],[],_,h=>by simp[Op.bytesLess]at h
 |[],_::_,hl,_=>by simp at hl
 |_::_,[],hl,_=>by simp at hl
 |a::x,b::y,hl,h=>by
  simp only[QE,Nat.add_right_cancel_iff]at hl;simp only[Op.bytesLess,Qn,Qi,Qm,beq_iff_eq]at h;rw[GA,GA,hl];rcases h with h|⟨rfl,h⟩
  ·have h1:=JA x;rw[hl]at h1;have h2:a.toNat<b.toNat:=UInt8.lt_iff_toNat_lt.1 h;have h3:(a.toNat+1)*256 ^ y.length<=b.toNat*256 ^ y.length:=Qq63 _ h2;rw[Qq73,Nat.one_mul]at h3;omega
  ·have:=Z6 hl h;omega
def WV:Nat:=256 ^ 201
def Ph(v:ByteArray):Nat:=v.size*256 ^ 200+GA v.toList
theorem toList_len(v:ByteArray):v.toList.length=v.size:=by
 rw[Lib.toList_data];cases v;simp[ByteArray.size]
theorem Y4{a b:Nat}(h:a<=b):(256:Nat) ^ a<=256 ^ b:=Nat.pow_le_pow_right (by omega) h
theorem Wt{v:ByteArray}(h:v.size<=200):Ph v<WV:=by
 have h1:=JA v.toList;rw[toList_len]at h1;have h2:=Y4 h;have h3:v.size*256 ^ 200<=200*256 ^ 200:=Qq63 _ h;have h4:WV=256*256 ^ 200:=by rw[WV,Nat.pow_succ,Nat.mul_comm]
 unfold Ph;rw[h4];generalize (256:Nat) ^ 200=Z at*;omega
theorem Zx{a b:ByteArray}(hb:b.size<=200)(h:bJ a b=true):Ph a<Ph b:=by
 unfold bJ at h;unfold Ph
 by_cases hs:a.size=b.size
 ·rw[Qr hs]at h;have:=Z6 (x:=a.toList) (y:=b.toList) (by rw[toList_len,toList_len,hs]) h
  rw[hs];omega
 ·rw[Qs hs,Qi]at h;have h1:=JA a.toList;rw[toList_len]at h1;have h2:=Y4 (show a.size<=200 by omega)
  have h3:(a.size+1)*256 ^ 200<=b.size*256 ^ 200:=Qq63 _ h;rw[Qq73,Nat.one_mul]at h3;generalize (256:Nat) ^ 200=Z at*;omega
def Sm(b:ai):Prop:=0<=b.aj/\b.aj<=1000/\b.Value.size<=200
def ou(b:ai):Nat:=b.aj.toNat*WV+Ph b.Value
def WB:Nat:=1001*WV
theorem pQ{b:ai}(h:Sm b):ou b<WB:=by
 obtain⟨h1,h2,h3⟩:=h;have h4:=Wt h3;unfold ou WB;have h5:b.aj.toNat*WV<=1000*WV:=Qq63 _ (by omega)
 generalize WV=Z at*;omega
theorem uA{a b:ai}(ha:Sm a)(hb:Sm b)(h:bx a b=true):ou a<ou b:=by
 unfold bx at h;unfold ou
 by_cases hc:a.aj=b.aj
 ·rw[Qr hc]at h;have:=Zx hb.2.2 h;rw[hc];omega
 ·rw[Qs hc,Qi]at h;have h1:=Wt ha.2.2;have h2:=ha.1;have h3:(a.aj.toNat+1)*WV<=b.aj.toNat*WV:=Qq63 _ (by omega)
  rw[Qq73,Nat.one_mul]at h3;generalize WV=Z at*;omega
theorem Yd.down{σ ρ:Type}{step:σ->Option (σ⊕ρ)}{p:ρ->Prop}(inv:σ->Prop)(μ:σ->Nat)(h:∀s,inv s->Yd (step s) fun y=>match y with| .inl s'=>inv s'/\μ s'<μ s| .inr r=>p r){s:σ}(hs:inv s):Yd (aC step s) p:=by
 suffices key:∀(n:Nat) (s:σ),μ s<n->inv s->Yd (aC step s) p from key _ s (Nat.lt_succ_self _) hs
 intro n
 induction n with
 |zero=>intro s h0;omega
 |succ n ih=>
  intro s hn hi;refine Yd.loop ((h s hi).mono fun y hy=> ?_)
  cases y with
  |inl s'=>exact ih s' (by have:=hy.2;omega) hy.1
  |inr r=>exact hy
end
section
def bY:ai:=⟨0,fE⟩
def fo(m:aa):Int:=if(!aF m.ax&&bM m.ax m.ab)=true then m.ax.aj else 0
def c5(m:aa):ae:=
 if m.aI=1 then⟨m.al,m.bc,m.aE,m.ak,m.aI,m.ab,m.ao,m.ay,m.aS,fo m⟩
 else if m.aI=2 then⟨m.al,m.bc,m.aE,m.ak,m.aI,m.ab,m.ao,bY,m.aS,m.bf⟩
 else⟨m.al,m.bc,m.aE,m.ak,m.aI,m.ab,bY,bY,m.aS,m.bf⟩
theorem yf(m:aa):(c5 m).al=m.al:=by unfold c5;split<;>(try split)<;>rfl
theorem D1(m:aa):(c5 m).bc=m.bc:=by unfold c5;split<;>(try split)<;>rfl
theorem Uo(m:aa):(c5 m).aE=m.aE:=by unfold c5;split<;>(try split)<;>rfl
theorem sL(m:aa):(c5 m).ak=m.ak:=by unfold c5;split<;>(try split)<;>rfl
theorem ZP(m:aa):(c5 m).bF=m.aI:=by unfold c5;split<;>(try split)<;>rfl
theorem ze(m:aa):ij m=some (c5 m):=by
 unfold ij c5 fo;simp only[aP,etas,cv,gH,Qa]
 by_cases h1:m.aI=1
 ·rw[Qg h1,Qr h1];cases aF m.ax<;>cases bM m.ax m.ab<;>rfl
 ·rw[Qh h1,Qs h1]
  by_cases h2:m.aI=2
  ·rw[Qg h2,Qr h2];rfl
  ·rw[Qh h2,Qs h2];rfl
def ja(m:aa):ae:={c5 m with aE:=bD (c5 m).aE 1}
def yW(e:ae):List ae->List ae
 |[]=>[e]
 |x::l=>if e.al<x.al then e::x::l else x::yW e l
theorem DY(e:ae):∀l,(yW e l).Perm (l++[e])
 |[]=> .refl _
 |x::l=>by
  unfold yW;split
  ·exact(List.perm_append_singleton e (x::l)).symm
  ·exact(DY e l).cons x
def bh(m:aa):List ae:=if aF m.ab=true then m.au else yW (ja m) m.au
theorem N7{m:aa}(h:m.au.length<=1000):ll m=some (bh m):=by
 unfold ll bh;simp only[aa.eta,etas,ae.eta,cv,ze,Qa]
 cases aF m.ab with
 |true=>rfl
 |false=>
  simp only[Ql,Qq,Qu];have hown:ae.mk (c5 m).al (c5 m).bc (bD (c5 m).aE 1) (c5 m).ak (c5 m).bF (c5 m).ab (c5 m).ao (c5 m).ay (c5 m).aS (c5 m).bf=ja m:=rfl;have hnode:(c5 m).al=(ja m).al:=rfl;rw[hown,hnode];generalize ja m=e
  suffices key:∀(k i:Nat) (b:Bool) (o:List ae),i+k=m.au.length->o.length<=i+(bif b then 1 else 0)->aC _ (b,(i:Int),o,())=some (o++if b=true then m.au.drop i else yW e (m.au.drop i))from(key m.au.length 0 false [] (by omega) (by simp)).trans (by simp)
  intro k
  induction k with
  |zero=>
   intro i b o hi ho;obtain rfl:i=m.au.length:=by omega
   have hd:decide (((m.au.length:Nat):Int)<((m.au.length:Nat):Int))=false:=Qh (Qq64 _);refine bw ?_;rw[Qq66];simp only[hd,Ql,aP]
   cases b with
   |true=>simp
   |false=>
    simp only[Ql]at ho;rw[br (by simp;omega)]
    simp[yW]
  |succ k ih=>
   intro i b o hi ho;have hlt:i<m.au.length:=by omega
   have hd:decide ((i:Int)<((m.au.length:Nat):Int))=true:=Qg (by omega)
   have hw:aA .i64 (i:Int) 1=((i+1:Nat):Int):=bE (by omega) (by omega)
   have hx:idx m.au (i:Int)=some m.au[i]:=by rw[bg];exact Qv hlt
   rw[QM hlt]
   cases b with
   |true=>
    simp only[Qk]at ho;have:=ih (i+1) true (o++[m.au[i]]) (by omega) (by simp;omega)
    simp only[Qt]at this ⊢;rw[show o++m.au[i]::m.au.drop (i+1)=(o++[m.au[i]])++m.au.drop (i+1)by simp]
    refine Eq.trans (bj ?_) this;simp only[hd,hx,hw,Qk,aP,Qa,Qo,Ql,etas,ae.eta];rw[br (by simp;omega),Qk]
   |false=>
    simp only[Ql]at ho
    by_cases hn:e.al<m.au[i].al
    ·have:=ih (i+1) true (o++[e]++[m.au[i]]) (by omega) (by simp;omega)
     simp only[Qt,Qq,Qu]at this ⊢;rw[yW,Qr hn,show o++e::m.au[i]::m.au.drop (i+1)=(o++[e]++[m.au[i]])++m.au.drop (i+1)by simp]
     refine Eq.trans (bj ?_) this;simp only[hd,hx,hw,Qk,aP,Qa,Qp,Qg hn,etas,ae.eta];rw[br (by simp;omega),Qk,br (by simp;omega),Qk]
    ·have:=ih (i+1) false (o++[m.au[i]]) (by omega) (by simp;omega)
     simp only[Qq,Qu]at this ⊢;rw[yW,Qs hn,show o++m.au[i]::yW e (m.au.drop (i+1))=(o++[m.au[i]])++yW e (m.au.drop (i+1))by simp]
     refine Eq.trans (bj ?_) this;simp only[hd,hx,hw,Qk,aP,Qa,Qp,Qh hn,Ql,etas,ae.eta];rw[br (by simp;omega),Qk]
def FQ(a b:ai):Bool:=decide (a.aj=b.aj)&&decide (a.Value=b.Value)
theorem PG{a b:ai}:FQ a b=true↔a=b:=by
 cases a;cases b;simp[FQ]
def AB(a b:aa):Bool:=decide (a.aI=b.aI)&&FQ a.ab b.ab&&FQ a.ao b.ao&&FQ a.ay b.ay&&FQ a.ax b.ax&&decide (a.aS=b.aS)&&decide (a.bf=b.bf)
theorem abD(a b:Bool):(bif a then b else false)=(a&&b):=by cases a<;>rfl
theorem ae3(a b:aa):mY a b=some (AB a b):=by
 unfold mY AB FQ;simp only[Bn,Qa,lx,abD]
end
section
def wY(v:ByteArray)(n:Int)(x:ai):Int:=
 if(cO x&&eI x ⟨n,v⟩)=true then(if eI x ⟨x.aj,v⟩=true then x.aj+1 else x.aj)else n
def k9(v:ByteArray)(n:Int)(p q:ai):Int:=wY v (wY v (bD n 1) p) q
theorem TB(v:ByteArray)(n:Int)(p q:ai):rX v n p q=some (k9 v n p q):=by
 unfold rX k9;generalize bD n 1=k
 have hst:∀(i:Nat) (x:ai) (k:Int),i<2->[p,q][i]?=some x->
   (fun(v1:Int×Int×Unit)=>
    bif (decide (v1.2.1<(2:Int)))then
    aY (fun(v2:Int×Unit)=>some (Sum.inl (v2.1,(aA .i64 v1.2.1 (1:Int)),v2.2))) fun j3=>
    Option.bind (idx [p,q] v1.2.1) fun x4=>
    Option.bind (ku x4) fun r5=>
    Option.bind (bif r5 then Option.bind (gI x4 (ai.mk v1.1 v)) fun r6=>some r6 else some false) fun b7=>
    bif b7 then Option.bind (gI x4 (ai.mk x4.aj v)) fun r8=>
     bif r8 then j3 ((aA .i64 x4.aj (1:Int)),())else j3 (x4.aj,())
    else j3 (v1.1,())
    else(Option.map Sum.inr (some v1.1):Option ((Int×Int×Unit)⊕Int))) (k,(i:Int),())=some (Sum.inl (wY v k x,((i+1:Nat):Int),())):=by
  intro i x k hi hx;have hd:decide ((i:Int)<2)=true:=Qg (by omega)
  have hw:aA .i64 (i:Int) 1=((i+1:Nat):Int):=bE (by omega) (by omega)
  have hx':idx [p,q] (i:Int)=some x:=by rw[bg];exact hx
  simp only[hd,hw,hx',Qk,aP,Qa,Dr,BZ];unfold wY
  cases hv:cO x with
  |false=>simp
  |true=>
   have hc:aA .i64 x.aj 1=x.aj+1:=by
    have:1<=x.aj/\x.aj<=1000000:=by
     simp only[cO,Qm,Qn,Qi]at hv;omega
    exact bE (by omega) (by omega)
   cases h1:eI x ⟨k,v⟩with
   |false=>simp
   |true=>cases h2:eI x ⟨x.aj,v⟩<;>simp[hc]
 refine(bj (hst 0 p k (by omega) rfl)).trans ((bj (hst 1 q _ (by omega) rfl)).trans (bw ?_))
 rfl
theorem abn(b:ai):rS b=some (if 1000<b.aj then⟨1000,b.Value⟩else b):=by
 unfold rS
 by_cases h:1000<b.aj
 ·simp[h]
 ·simp[h]
end
section
theorem XK{lo k:Int}{v:ByteArray}{p:ai}(h:lo<=k)(hl:bx ⟨k,v⟩ p=true):bx ⟨lo,v⟩ p=true:=by
 unfold bx at hl ⊢;simp only at hl ⊢
 by_cases h1:lo=k
 ·rw[h1];exact hl
 ·have h2:lo<p.aj:=by
   split at hl
   ·omega
   ·simp only[Qi]at hl;omega
  rw[Qs (by omega)]
  simpa using h2
theorem VI{lo k:Int}{v:ByteArray}{p:ai}(h:lo<=k)(ha:eI p ⟨lo,v⟩=false):eI p ⟨k,v⟩=false:=by
 cases hk:eI p ⟨k,v⟩with
 |false=>rfl
 |true=>
  simp only[eI,Qm,bM]at hk;simp only[eI,bM,hk.1.1,hk.1.2,XK h hk.2]at ha;cases ha
theorem lv(p b:ai):jA p b=true↔aF p=false/\p.Value=b.Value/\b.aj<=p.aj:=by
 simp[jA,bM,and_assoc]
theorem MZ{b:ai}(h:1<=b.aj):aF b=false:=by
 have:¬b.aj=0:=by omega
 simp[aF,this]
end
section
theorem acH{n:Nat}(h:n<1000000):bz .u64 (n:Int)=n:=by
 unfold bz IntKind.wrap;simp[IntKind.signed,IntKind.bits];omega
def vE(b p:ai)(j:Nat)(t:af):ae:=⟨j,1,1,t,1,b,p,⟨0,ByteArray.mk #[]⟩,0,0⟩
structure U3 (b:ai):Prop where
 lo:1<=b.aj
 hi:b.aj<=6
 val:KL b.Value
theorem U3.valid{b:ai}(h:U3 b):cO b=true:=HC h.lo (by have:=h.hi;omega) h.val
theorem U3.nz{b:ai}(h:U3 b):aF b=false:=MZ h.lo
theorem Mw{l:List ae}(h:∀e∈l,aW e=true):bW l=l:=List.filter_eq_self.2 h
end
section
theorem CC:∀(l:List ae) (ms:List aR) (k:Nat) (m:aR),ms[k]?=some m->
  (l.foldl dC ms)[k]?=some (if m.dL then m else match(bW l).find? (fun e=>decide (e.al.toNat=k))with|some e=>⟨true,e.ak⟩|none=>m)
 |[],ms,k,m,h=>by simp[bW,h]
 |e::l,ms,k,m,h=>by
  rw[QU]
  by_cases hv:aW e=true
  ·have hr:bW (e::l)=e::bW l:=by simp[bW,hv]
   rw[hr,List.find?_cons]
   by_cases hk:e.al.toNat=k
   ·have hstep:(dC ms e)[k]?=some (if m.dL then m else⟨true,e.ak⟩):=by
     unfold dC;rw[hv,hk,h]
     cases hm:m.dL with
     |true=>simp[hm,h]
     |false=>
      have hlt:k<ms.length:=(Qw.1 h).1;simp[hm,hlt]
    rw[CC l _ k _ hstep]
    cases hm:m.dL with
    |true=>simp[hm]
    |false=>simp[hk]
   ·have hstep:(dC ms e)[k]?=some m:=by
     unfold dC;split
     ·rw[List.getElem?_set_ne hk];exact h
     ·exact h
    rw[CC l _ k m hstep];simp[hk]
  ·have hv':aW e=false:=by simpa using hv
   have hr:bW (e::l)=bW l:=by simp[bW,hv']
   have hstep:dC ms e=ms:=by simp[dC,hv']
   rw[hr,hstep];exact CC l ms k m h
theorem YE{aB:Nat}{t:af}{l:List ae}{k:Nat}(hk:k<10)(hn:aB<10):
  (gy aB t l)[k]?=some (if k=aB then⟨true,t⟩else match(bW l).find? (fun e=>decide (e.al.toNat=k))with|some e=>⟨true,e.ak⟩|none=>gE):=by
 unfold gy
 by_cases h:k=aB
 ·subst h;rw[CC l _ k ⟨true,t⟩ (by simp[hk])]
  simp
 ·rw[CC l _ k gE (by
   rw[List.getElem?_set_ne (fun e=>h e.symm),List.getElem?_replicate,Qr hk])]
  simp[h,gE]
theorem Re{l:List aR}{k:Nat}{m:aR}(hk:k<10)(h:l[k]?=some m)(hd:m.dL=true):n9 l k=true:=by
 rw[n9,IK,h];simp[hk,hd]
theorem YD{aB:Nat}(hn:aB<10){t:af}{l:List ae}(T:Nat->af)(ht:T aB=t)(hT:∀e∈bW l,e.ak=T e.al.toNat){k:Nat}(hk:k<10)(hs:k=aB\/∃e∈bW l,e.al.toNat=k):
  n9 (gy aB t l) k=true/\mm (gy aB t l) k=T k:=by
 have hg:=YE (t:=t) (l:=l) hk hn
 by_cases h:k=aB
 ·rw[Qr h]at hg;exact⟨Re hk hg rfl,by rw[tu hg,h,ht]⟩
 ·rw[Qs h]at hg;obtain⟨e,he,hek⟩:=hs.resolve_left h
  cases hf:(bW l).find? (fun e=>decide (e.al.toNat=k))with
  |none=>
   have:=List.find?_eq_none.1 hf e he;simp[hek]at this
  |some e'=>
   rw[hf]at hg;have h1:=List.mem_of_find?_eq_some hf;have h2:=List.find?_some hf;simp only[Qi]at h2;exact⟨Re hk hg rfl,by rw[tu hg,<-h2];exact hT e' h1⟩
def zC(b p:ai)(ts:List af)(q n:Nat)(l:List ae):Prop:=
 l.length<=n/\(∀e∈l,∃i t,i<n/\q.testBit i=true/\ts[i]?=some t/\e=vE b p i t)/\∀i t,i<n->q.testBit i=true->ts[i]?=some t->vE b p i t∈l
theorem zC.nil(b p:ai)(ts:List af)(q:Nat):zC b p ts q 0 []:=⟨by simp,by simp,fun i t h=>by omega⟩
theorem zC.skip{b p:ai}{ts:List af}{q n:Nat}{l:List ae}(h:zC b p ts q n l)(hq:q.testBit n=false):zC b p ts q (n+1) l:=by
 obtain⟨h1,h2,h3⟩:=h;refine⟨by omega,fun e he=> ?_,fun i t hi hb ht=> ?_⟩
 ·obtain⟨i,t,a,b,c⟩:=h2 e he;exact⟨i,t,by omega,b,c⟩
 ·rcases Nat.lt_or_ge i n with h|h
  ·exact h3 i t h hb ht
  ·obtain rfl:i=n:=by omega
   rw[hq]at hb;cases hb
theorem zC.take{b p:ai}{ts:List af}{q n:Nat}{l:List ae}(h:zC b p ts q n l)(hq:q.testBit n=true){t:af}(ht:ts[n]?=some t):zC b p ts q (n+1) (l++[vE b p n t]):=by
 obtain⟨h1,h2,h3⟩:=h;refine⟨by simp;omega,fun e he=> ?_,fun i t' hi hb ht'=> ?_⟩
 ·rcases Qz.1 he with he|he
  ·obtain⟨i,t,a,b,c⟩:=h2 e he;exact⟨i,t,by omega,b,c⟩
  ·simp only[Q5]at he;exact⟨n,t,by omega,hq,ht,he⟩
 ·rcases Nat.lt_or_ge i n with h|h
  ·exact Qz.2 (.inl (h3 i t' h hb ht'))
  ·obtain rfl:i=n:=by omega
   rw[ht]at ht';injection ht' with ht'
   subst ht';exact Qz.2 (.inr (by simp))
section
variable {b p : ai} (hb : U3 b) (hp : aF p = true \/ cO p = true) {ts : List af} (hts : ∀ t ∈ ts, et t) {q : Nat} {l : List ae} (hlen : ts.length <= 5) (hc : zC b p ts q ts.length l)
 include hb hp hts hlen hc
end
end
section
section
variable {α : Type}
structure SWO (lt:α->α->Bool):Prop where
 asymm:∀x y,lt x y=true->lt y x=false
 trans:∀x y z,lt y x=false->lt z y=false->lt z x=false
end
end
section
section
variable {α : Type}
 def UB(eq ne:α->α->Bool)(z:α)(K:Int)(n:Nat)(v6:Int×Int×(List α)×Unit):Option ((Int×Int×(List α)×Unit)⊕((Int×(List α)×Unit)⊕List α)):=
 bif (decide (v6.2.1<((List.length ((v6.2.2.1.drop (Int.toNat K)).take (Int.toNat (n:Int) - Int.toNat K)):Nat):Int)))then
 aY (fun(v7:Int×(List α)×Unit)=>
 some (Sum.inl (v7.1,(aA .i64 v6.2.1 (1:Int)),v7.2.1,()))) fun j8=>
 Option.bind (idx ((v6.2.2.1.drop (Int.toNat K)).take (Int.toNat (n:Int) - Int.toNat K)) v6.2.1) fun x9=>
 Option.bind (v6.2.2.1[((Int.toNat K)+Int.toNat v6.2.1)]?) fun x10=>
 Option.bind (idx ((v6.2.2.1.drop (Int.toNat K)).take (Int.toNat (n:Int) - Int.toNat K)) (de .i64 v6.2.1 (1:Int))) fun x11=>
 Option.bind (v6.2.2.1[((Int.toNat K)+Int.toNat (de .i64 v6.2.1 (1:Int)))]?) fun x12=>
 bif (ne x10 x12)then
 Option.bind (idx ((v6.2.2.1.drop (Int.toNat K)).take (Int.toNat (n:Int) - Int.toNat K)) v6.2.1) fun x13=>
 Option.bind (v6.2.2.1[((Int.toNat K)+Int.toNat v6.2.1)]?) fun x14=>
 Option.bind (idx v6.2.2.1 v6.1) fun x15=>
 Option.bind (v6.2.2.1[(Int.toNat v6.1)]?) fun x16=>
 j8 ((aA .i64 v6.1 (1:Int)),(v6.2.2.1.set (Int.toNat v6.1) x14),())
 else
 j8 (v6.1,v6.2.2.1,())
 else
 Option.map Sum.inr (bif cJ v6.1 ((List.length v6.2.2.1):Int) (List.length v6.2.2.1)then
 bif cJ (0:Int) v6.1 (List.length (v6.2.2.1.take (Int.toNat v6.1)++List.replicate (Int.toNat ((List.length v6.2.2.1):Int) - Int.toNat v6.1) z++v6.2.2.1.drop ((Int.toNat v6.1)+(Int.toNat ((List.length v6.2.2.1):Int) - Int.toNat v6.1))))then
 Option.map Sum.inr (some ((v6.2.2.1.take (Int.toNat v6.1)++List.replicate (Int.toNat ((List.length v6.2.2.1):Int) - Int.toNat v6.1) z++v6.2.2.1.drop ((Int.toNat v6.1)+(Int.toNat ((List.length v6.2.2.1):Int) - Int.toNat v6.1))).take (Int.toNat v6.1 - Int.toNat (0:Int))))
 else none
 else none)
 def NQ(eq ne:α->α->Bool)(z:α)(v1:Int×(List α)×Unit):Option ((Int×(List α)×Unit)⊕List α):=
 bif (decide (v1.1<((List.length v1.2.1:Nat):Int)))then
 Option.bind (idx v1.2.1 v1.1) fun x2=>
 Option.bind (v1.2.1[(Int.toNat v1.1)]?) fun x3=>
 Option.bind (idx v1.2.1 (de .i64 v1.1 (1:Int))) fun x4=>
 Option.bind (v1.2.1[(Int.toNat (de .i64 v1.1 (1:Int)))]?) fun x5=>
 bif (eq x3 x5)then
 bif cJ v1.1 ((List.length v1.2.1):Int) (List.length v1.2.1)then
 aC (UB eq ne z v1.1 (List.length v1.2.1)) (v1.1,(1:Int),v1.2.1,())
 else none
 else
 some (Sum.inl ((aA .i64 v1.1 (1:Int)),v1.2.1,()))
 else
 Option.map Sum.inr (some v1.2.1)
 def LH(eq ne:α->α->Bool)(z:α)(s:List α):Option (List α):=
 bif (decide (((List.length s:Nat):Int)<(2:Int)))then
 some s
 else
 aC (NQ eq ne z) ((1:Int),s,())
theorem Sy(d:List α){K n m:Nat}(hm:m<n - K):idx ((d.drop K).take (n - K)) (m:Int)=d[K+m]?:=by
 rw[bg,Qq68,Qr hm,List.getElem?_drop]
variable [DecidableEq α]
def rL(acc:List α)(x:α):List α:=if acc.getLast?=some x then acc else acc++[x]
def dd(l:List α):List α:=l.foldl rL []
theorem Wz(l:List α)(x:α):dd (l++[x])=rL (dd l) x:=by simp[dd,List.foldl_append]
theorem aep(l:List α):(dd l).getLast?=l.getLast?:=by
 suffices h:∀r:List α,(dd r.reverse).getLast?=r.reverse.getLast? by
  have:=h l.reverse
  rwa [List.reverse_reverse]at this
 intro r
 induction r with
 |nil=>rfl
 |cons x r ih=>
  rw[List.reverse_cons,Wz,rL];split
  ·rename_i h;rw[h];simp
  ·simp
theorem Wy{s:List α}{k:Nat}{x:α}(h:s[k]?=some x):dd (s.take (k+1))=rL (dd (s.take k)) x:=by
 obtain⟨hl,hx⟩:=Qw.1 h;rw[Q7 hl,hx,Wz]
theorem Rb{s:List α}{k:Nat}{x:α}(h:s[k]?=some x):(dd (s.take (k+1))).getLast?=some x:=by
 obtain⟨hl,hx⟩:=Qw.1 h;rw[aep,Q7 hl,hx];simp
variable {eq ne : α -> α -> Bool} {z : α}
theorem LS(hne:∀x y,ne x y= !decide (x=y)){s:List α}{K:Nat}(hn:s.length<1000000000):∀(r i k2:Nat) (d:List α),k2+r=s.length - K->1<=k2->i<=K+k2 - 1->d.length=s.length->d.take i=dd (s.take (K+k2))->(∀j,K+k2 - 1<=j->d[j]?=s[j]?)->
  aC (UB eq ne z (K:Int) s.length) ((i:Int),(k2:Int),d,())=some (.inr (dd s))
 |0,i,k2,d,hr,h1,hi,hd,ht,hs=>by
  have hKn:K+k2=s.length:=by omega
  refine bw ?_;have e1:(((d.drop K).take (s.length - K)).length)=s.length - K:=by simp;omega
  have e2:decide ((k2:Int)<((s.length - K:Nat):Int))=false:=Qh (by omega)
  have e3:∀n,cJ (i:Int) (d.length:Int) n=decide (d.length<=n):=by
   intro n;have:i<=d.length:=by omega
   simp only[cJ];have h1:decide ((0:Int)<=(i:Int))=true:=Qg (by omega)
   have h2:decide ((i:Int)<=(d.length:Int))=true:=Qg (by omega)
   rw[h1,h2,Bool.and_self,Bool.true_and,decide_eq_decide];omega
  have e4:(d.take i++List.replicate (d.length - i) z++d.drop (i+(d.length - i))).length=d.length:=by simp;omega
  have e5:cJ (0:Int) (i:Int) d.length=true:=by
   simp only[cJ,Qm,Qi];omega
  have e6:(d.take i++List.replicate (d.length - i) z++d.drop (i+(d.length - i))).take (i - 0)=dd s:=by
   rw[Nat.sub_zero,QL,List.take_append_of_le_length (by simp;omega),List.take_take,Nat.min_self,ht,hKn,Qq62]
  simp only[UB,QV,e1,e2,Ql,e3,QI,decide_true,Qk,e4,e5,Int.toNat_zero,e6,Qe]
 |r+1,i,k2,d,hr,h1,hi,hd,ht,hs=>by
  have hKn:K+k2<s.length:=by omega
  obtain⟨x,hx⟩:∃x,s[K+k2]?=some x:=⟨_,Qv hKn⟩;obtain⟨y,hy⟩:∃y,s[K+(k2 - 1)]?=some y:=⟨_,Qv (by omega)⟩
  have e1:(((d.drop K).take (s.length - K)).length)=s.length - K:=by simp;omega
  have e2:decide ((k2:Int)<((s.length - K:Nat):Int))=true:=Qg (by omega)
  have e3:de .i64 (k2:Int) 1=((k2 - 1:Nat):Int):=by rw[qb (by omega) (by omega)];omega
  have e4:aA .i64 (k2:Int) 1=((k2+1:Nat):Int):=bE (by omega) (by omega)
  have e5:aA .i64 (i:Int) 1=((i+1:Nat):Int):=bE (by omega) (by omega)
  have hdx:d[K+k2]?=some x:=by rw[hs _ (by omega),hx]
  have hdy:d[K+(k2 - 1)]?=some y:=by rw[hs _ (by omega),hy]
  have hv1:=Sy d (K:=K) (n:=s.length) (m:=k2) (by omega)
  have hv2:=Sy d (K:=K) (n:=s.length) (m:=k2 - 1) (by omega)
  obtain⟨w,hw⟩:∃w,d[i]?=some w:=⟨_,Qv (by omega)⟩
  have hstep:=Wy hx
  have hlast:(dd (s.take (K+k2))).getLast?=some y:=by
   have:=Rb hy
   rwa [show K+(k2 - 1)+1=K+k2 by omega]at this
  rw[rL,hlast]at hstep;have hil:i<d.length:=by omega
  by_cases hxy:x=y
  ·refine Eq.trans (bj (s':=((i:Int),((k2+1:Nat):Int),d,())) ?_) (LS hne hn r i (k2+1) d (by omega) (by omega) (by omega) hd ?_ fun j hj=>hs j (by omega))
   ·simp only[UB,QV,e1,e2,Qk,aP,hv1,hdx,Qa,e3,hv2,hdy,hne,hxy,decide_true,Qo,Ql,e4]
   ·rw[show K+(k2+1)=K+k2+1 by omega,hstep,Qr (by rw[hxy]),ht]
  ·refine Eq.trans (bj (s':=(((i+1:Nat):Int),((k2+1:Nat):Int),d.set i x,())) ?_) (LS hne hn r (i+1) (k2+1) (d.set i x) (by omega) (by omega) (by omega) (by rw[QY];exact hd) ?_ fun j hj=> ?_)
   ·simp only[UB,QV,e1,e2,Qk,aP,hv1,hdx,Qa,e3,hv2,hdy,hne,hxy,decide_false,Qp,e4,e5,bg,hw]
   ·rw[show K+(k2+1)=K+k2+1 by omega,hstep,Qs (fun e=>hxy (by injection e with e;exact e.symm)),<-ht,Q7 (by rw[QY];exact hil)]
    congr 1
    ·rw[List.take_set_of_le (QI _)]
    ·simp
   ·rw[List.getElem?_set,Qs (by omega)]
    exact hs j (by omega)
theorem UA(heq:∀x y,eq x y=decide (x=y))(hne:∀x y,ne x y= !decide (x=y)){s:List α}(hn:s.length<1000000000):∀(r k:Nat),k+r=s.length->1<=k->dd (s.take k)=s.take k->aC (NQ eq ne z) ((k:Int),s,())=some (dd s)
 |0,k,hr,h1,h=>by
  refine bw ?_;have hk:k=s.length:=by omega
  have e2:decide ((k:Int)<((s.length:Nat):Int))=false:=Qh (by omega)
  rw[hk,Qq62]at h;simp only[NQ,e2,Ql,Qe,h]
 |r+1,k,hr,h1,h=>by
  have hk:k<s.length:=by omega
  obtain⟨x,hx⟩:∃x,s[k]?=some x:=⟨_,Qv hk⟩;obtain⟨y,hy⟩:∃y,s[k - 1]?=some y:=⟨_,Qv (by omega)⟩
  have e2:decide ((k:Int)<((s.length:Nat):Int))=true:=Qg (by omega)
  have e3:de .i64 (k:Int) 1=((k - 1:Nat):Int):=by rw[qb (by omega) (by omega)];omega
  have e4:aA .i64 (k:Int) 1=((k+1:Nat):Int):=bE (by omega) (by omega)
  have hstep:=Wy hx
  have hlast:(dd (s.take k)).getLast?=some y:=by
   have:=Rb hy
   rwa [show k - 1+1=k by omega]at this
  rw[rL,hlast]at hstep
  by_cases hxy:x=y
  ·rw[Qr (by rw[hxy])]at hstep
   have e5:cJ (k:Int) (s.length:Int) s.length=true:=by
    simp only[cJ,Qm,Qi];omega
   have hin:=LS (eq:=eq) (z:=z) (K:=k) hne hn (s.length - k - 1) k 1 s (by omega) (by omega) (by omega) rfl (by rw[hstep,h]) (fun _ _=>rfl)
   refine bw ?_;simp only[NQ,e2,Qk,bg,QV,hx,hy,e3,Qa,heq,hxy,decide_true,e5];exact hin
  ·rw[Qs (fun e=>hxy (by injection e with e;exact e.symm))]at hstep
   refine Eq.trans (bj (s':=(((k+1:Nat):Int),s,())) ?_) (UA heq hne hn r (k+1) (by omega) (by omega) ?_)
   ·simp only[NQ,e2,Qk,bg,QV,hx,hy,e3,Qa,heq,hxy,decide_false,Ql,e4]
   ·obtain⟨hl,hx'⟩:=Qw.1 hx;rw[hstep,h,Q7 hl,hx']
theorem zf(heq:∀x y,eq x y=decide (x=y))(hne:∀x y,ne x y= !decide (x=y))(s:List α)(hn:s.length<1000000000):LH eq ne z s=some (dd s):=by
 unfold LH
 by_cases h:s.length<2
 ·have e:decide (((s.length:Nat):Int)<2)=true:=Qg (by omega)
  rw[e,Qk]
  match s,h with
  |[],_=>rfl
  |[x],_=>rfl
 ·have e:decide (((s.length:Nat):Int)<2)=false:=Qh (by omega)
  rw[e,Ql];refine UA heq hne hn (s.length - 1) 1 (by omega) (by omega) ?_
  cases s with
  |nil=>rfl
  |cons x l=>rfl
theorem X3(acc:List α)(x:α):∀y,y∈rL acc x↔y∈acc\/y=x:=by
 intro y;unfold rL;split
 ·rename_i h;have:=List.mem_of_getLast? h;exact⟨.inl,fun h'=>h'.elim id fun e=>e▸this⟩
 ·simp
theorem Ib:∀(l acc:List α) (y:α),y∈l.foldl rL acc↔y∈acc\/y∈l
 |[],acc,y=>by simp
 |x::l,acc,y=>by
  rw[QU,Ib l,X3];simp[or_assoc]
theorem afB(l:List α)(y:α):y∈dd l↔y∈l:=by rw[dd,Ib];simp
theorem Uy(l:List α):(dd l).length<=l.length:=by
 suffices h:∀(l acc:List α),(l.foldl rL acc).length<=acc.length+l.length by simpa[dd]using h l []
 intro l
 induction l with
 |nil=>intro acc;simp
 |cons x l ih=>
  intro acc;rw[QU];refine QK (ih _) ?_;unfold rL;split<;>simp<;>omega
theorem ZR{lt:α->α->Bool}(ho:SWO lt)(hto:∀x y,lt x y=false->lt y x=false->x=y){l:List α}(hl:l.Pairwise (fun a b=>lt b a=false)):(dd l).Pairwise (fun a b=>lt a b=true):=by
 suffices h:∀(l acc:List α),(acc++l).Pairwise (fun a b=>lt b a=false)->acc.Pairwise (fun a b=>lt a b=true)->(l.foldl rL acc).Pairwise (fun a b=>lt a b=true)from h l [] (by simpa using hl) .nil
 intro l
 induction l with
 |nil=>intro acc _ h;exact h
 |cons x l ih=>
  intro acc h1 h2;rw[QU];unfold rL;split
  ·rename_i hlast;refine ih acc ?_ h2;rw[Qq69]at h1 ⊢;exact⟨h1.1,(Q4.1 h1.2.1).2,fun a ha b hb=>h1.2.2 a ha b (by simp[hb])⟩
  ·rename_i hlast;refine ih _ (by simpa using h1) ?_
   rw[Qq69]at h1 ⊢;refine⟨h2,by simp,fun a ha b hb=> ?_⟩
   rw[Q5.1 hb];have hax:lt x a=false:=h1.2.2 a ha x (by simp)
   cases hc:lt a x with
   |true=>rfl
   |false=>
    exfalso;have e:=hto a x hc hax;subst e
    obtain⟨y,hy⟩:∃y,acc.getLast?=some y:=by
     cases hg:acc.getLast? with
     |none=>rw[List.getLast?_eq_none_iff.1 hg]at ha;cases ha
     |some y=>exact⟨y,rfl⟩
    obtain⟨pre,rfl⟩:∃pre,acc=pre++[y]:=by
     have:=List.getLast?_eq_some_iff.1 hy;exact this
    rcases Qz.1 ha with ha|ha
    ·rw[Qq69]at h2;have h3:=h2.2.2 a ha y (by simp)
     have h4:=h1.2.2 y (by simp) a (by simp)
     rw[h3]at h4;cases h4
    ·rw[Q5.1 ha]at hlast;exact hlast hy
end
end
section
theorem abC(s:List Int):pc s=LH (fun x y=>decide (x=y)) (fun x y=> !decide (x=y)) 0 s:=rfl
 def iI(v:ByteArray)(e:ae):Bool:=aW e&&decide (e.ab.Value=v)&& !decide (e.aS=0)
 def ends(v:ByteArray)(l:List ae):List Int:=l.flatMap fun e=>if iI v e then[e.aS,e.bf]else[]
theorem Ab{v:ByteArray}{l:List ae}{x:Int}:x∈ends v l↔∃e∈l,iI v e=true/\(x=e.aS\/x=e.bf):=by
 simp only[ends,QQ];constructor
 ·rintro⟨e,he,hx⟩;split at hx
  ·rename_i h;exact⟨e,he,h,by simpa using hx⟩
  ·cases hx
 ·rintro⟨e,he,h,hx⟩;exact⟨e,he,by rw[Qr h];simpa using hx⟩
end
section
theorem I1{v:aU}{aB:Int}{l:List ae}(hl:l.length<=1000000)(hin:vO l)(val:ByteArray)(lo hi:Int):jC ⟨aB,v,l.map bG.mk⟩ val lo hi=some ((dE (fL · val lo hi) l:Nat):Int):=by
 unfold jC;refine FA (fL · val lo hi) l hin _ (fun i e s he=> ?_) (fun s=> ?_)
 ·have hlt:i<l.length:=(Qw.1 he).1;have hd:decide ((i:Int)<(((l.map bG.mk).length:Nat):Int))=true:=Qg (by rw[QC];omega)
  have hw:aA .i64 (i:Int) 1=((i+1:Nat):Int):=bE (by omega) (by omega)
  have hx:idx (l.map bG.mk) (i:Int)=some ⟨e⟩:=by rw[bg,QT,he];rfl
  simp only[hd,hx,hw,Qk,Qa,etas,ae.eta,nj,vd,aP];cases fL e val lo hi<;>simp
 ·have hd:decide (((l.length:Nat):Int)<(((l.map bG.mk).length:Nat):Int))=false:=Qh (by rw[QC];exact Qq64 _)
  simp only[hd,Ql,Qe]
theorem VJ{v:aU}{aB:Int}{l:List ae}(hl:l.length<=1000000)(hin:vO l)(val:ByteArray)(lo hi:Int):gP ⟨aB,v,l.map bG.mk⟩ val lo hi val lo hi=some ((dE (fun e=>s9 e val lo hi||fL e val lo hi) l:Nat):Int):=by
 unfold gP;refine FA (fun e=>s9 e val lo hi||fL e val lo hi) l hin _ (fun i e s he=> ?_) (fun s=> ?_)
 ·have hlt:i<l.length:=(Qw.1 he).1;have hd:decide ((i:Int)<(((l.map bG.mk).length:Nat):Int))=true:=Qg (by rw[QC];omega)
  have hw:aA .i64 (i:Int) 1=((i+1:Nat):Int):=bE (by omega) (by omega)
  have hx:idx (l.map bG.mk) (i:Int)=some ⟨e⟩:=by rw[bg,QT,he];rfl
  simp only[hd,hx,hw,Qk,Qa,etas,ae.eta,jI,nj,xS,vd,EJ,aP,lx,Bool.cond_true_left];cases (s9 e val lo hi||fL e val lo hi)<;>simp
 ·have hd:decide (((l.length:Nat):Int)<(((l.map bG.mk).length:Nat):Int))=false:=Qh (by rw[QC];exact Qq64 _)
  simp only[hd,Ql,Qe]
 def HL(aB:Nat)(t:af)(l:List ae):gO:=⟨aB,⟨gy aB t l⟩,(bW l).map bG.mk⟩
 def lQ(aB:Nat)(t:af)(l:List ae)(val:ByteArray)(lo hi:Int):Bool:=
 kp (gy aB t l) aB (dE (fun e=>s9 e val lo hi||fL e val lo hi) (bW l)) (dE (fL · val lo hi) (bW l))
 def sQ(aB:Nat)(t:af)(l:List ae)(val:ByteArray)(lo hi:Int):Bool:=
 (gq (gy aB t l) (dE (fL · val lo hi) (bW l))).testBit aB
section
variable {aB : Nat} (hn : aB < 10) {t : af} (ht : c8 t) {l : List ae} (hl : qZ l)
 include hn ht hl
theorem S6(val:ByteArray)(lo hi:Int):iC (HL aB t l) val lo hi=some (lQ aB t l val lo hi):=by
 have hlen:=hl.len;have hrl:=B4 l;have hin:=mR l
 simp only[HL,iC,po,kG,Qa,VJ (by omega:(bW l).length<=1000000) hin,I1 (by omega:(bW l).length<=1000000) hin,
  xc (ml ht hl) hn (mj hin) (mj hin),lQ]
theorem acV(val:ByteArray)(lo hi:Int):nX (HL aB t l) val lo hi=some (sQ aB t l val lo hi):=by
 have hlen:=hl.len;have hrl:=B4 l;have hin:=mR l;simp only[HL,nX,po,mE,Qa,I1 (by omega:(bW l).length<=1000000) hin,vD (ml ht hl) hn (mj hin),sQ]
theorem look_eq:fP aB t l=some (HL aB t l):=Pn hn ht hl
end
def cI(q:Int->Bool):List Int->Int->Int
 |[],lo=>lo
 |e::l,lo=>if lo<=e then cI q l lo else if q e then cI q l e else lo
theorem Cz{p:Int->Option Bool}{q:Int->Bool}(h:∀e,p e=some (q e)):∀(l:List Int) (lo:Int),ny (fun(m5:Nat) (e6:Int) (v4:Int×Unit)=>
  bif (decide (v4.1<=e6))then some (Sum.inl (v4.1,()))else
  Option.bind (p e6) fun r7=>bif (!r7)then Option.map Sum.inr (some v4.1)else some (Sum.inl (e6,()))) (fun v8=>some v8.1) l (lo,())=some (cI q l lo)
 |[],lo=>rfl
 |e::l,lo=>by
  rw[ny,cI]
  by_cases hle:lo<=e
  ·rw[Qr hle];simp only[hle,decide_true,Qk];exact Cz h l lo
  ·rw[Qs hle];simp only[hle,decide_false,Ql,h,Qa]
   cases hq:q e with
   |true=>
    simp only[Qo,Ql,Qt];have:=Cz h l e;simp only[h,Qa]at this;exact this
   |false=>rfl
def flat(n:Nat)(k:Int):af:=⟨k,vW n,[]⟩
theorem K3(s n:Nat)(k:Int):lq s (flat n k)=decide (k<=(((vW n).countP (lU s):Nat):Int)):=by
 rw[Jg];simp[flat,xr]
theorem X5{s s':Nat}(h:∀k,s.testBit k=true->s'.testBit k=true)(l:List Int):l.countP (lU s)<=l.countP (lU s'):=List.countP_mono_left fun x _ hx=>Rj h x hx
structure GX (n:Nat) (k:Int) (l:List ae):Prop where
 n10:n<=10
 k1:1<=k
 kn:k<=n
 valid:∀e∈l,aW e=true
 aL:∀e∈l,e.ak=flat n k
 few:l.length<=1000
 all:∀i,i<n->∃e∈l,e.al.toNat=i
theorem GX.gS{n:Nat}{k:Int}{l:List ae}(h:GX n k l):et (flat n k):=ZK n h.n10 k h.k1 h.kn
theorem GX.sm{n:Nat}{k:Int}{l:List ae}(h:GX n k l):qZ l:=⟨by have:=h.few;omega,fun e he=>by rw[h.aL e he];exact h.gS.sm⟩
theorem GX.bW{n:Nat}{k:Int}{l:List ae}(h:GX n k l):Go.Proofs.YtjbfdglebjnelaaGreat.bW l=l:=Mw h.valid
def cE(n:Nat)(k:Int)(c:Int)(v:ByteArray)(lo hi:Nat->Int)(i:Nat):ae:=⟨i,1,1,flat n k,2,⟨c,v⟩,⟨c,v⟩,⟨0,ByteArray.mk #[]⟩,lo i,hi i⟩
end
section
def wO(b:List Int)(sure:Int->Int->Bool):Int×Int×Bool×Unit:=
 match b.reverse.find? (fun e=>sure e e)with
 |some e=>(cI (fun x=>sure x e) b.reverse e,e,true,())
 |none=>(0,0,false,())
theorem Wp{p:Int->Option Bool}{q:Int->Bool}{d:Int->Option Int}{f:Int->Int}(hp:∀e,p e=some (q e))(hd:∀e,d e=some (f e)):∀r:List Int,ny (fun(m5:Nat) (e6:Int) (v4:Int×Int×Bool×Unit)=>
  Option.bind (p e6) fun r7=>bif r7 then Option.bind (d e6) fun r8=>Option.map Sum.inr (some (r8,e6,true,()))else some (Sum.inl (v4.1,v4.2.1,v4.2.2.1,()))) (fun(v9:Int×Int×Bool×Unit)=>some ((0:Int),(0:Int),false,())) r ((0:Int),(0:Int),false,())=
  some (match r.find? q with|some e=>(f e,e,true,())|none=>(0,0,false,()))
 |[]=>rfl
 |e::r=>by
  have ih:=Wp hp hd r;rw[ny,List.find?_cons];simp only[hp,hd,Qa,Qe]at ih ⊢
  cases q e with
  |true=>rfl
  |false=>simp only[Ql];exact ih
section
variable {aB : Nat} (hn : aB < 10) {t : af} (ht : c8 t) {l : List ae} (hl : qZ l)
 include hn ht hl
end
section
variable {n : Nat} {k c : Int} {v : ByteArray} {lo hi : Nat -> Int} (h : GX n k ((List.range n).map (cE n k c v lo hi))) {i : Nat} (hi' : i < n)
 include h hi'
end
end
section
section
variable {α : Type}
structure wT (lt:α->α->Bool):Prop where
 irrefl:∀x,lt x x=false
 trans:∀x y z,lt x y=true->lt y z=true->lt x z=true
 total:∀x y,lt x y=false->lt y x=false->x=y
variable {lt : α -> α -> Bool}
theorem wT.asymm(h:wT lt){x y:α}(hxy:lt x y=true):lt y x=false:=by
 cases hc:lt y x with
 |false=>rfl
 |true=>have:=h.trans x y x hxy hc;rw[h.irrefl]at this;cases this
theorem wT.ntrans(h:wT lt){x y z:α}(h1:lt x y=false)(h2:lt y z=false):lt x z=false:=by
 cases hc:lt x z with
 |false=>rfl
 |true=>
  cases hyx:lt y x with
  |false=>rw[h.total x y h1 hyx,h2]at hc;cases hc
  |true=>have:=h.trans y x z hyx hc;rw[h2]at this;cases this
theorem wT.kit(h:wT lt):Go.Sort.SWO lt:=⟨h.irrefl,h.trans,fun _ _ _=>h.ntrans⟩
theorem wT.own(h:wT lt):SWO lt:=⟨fun _ _=>h.asymm,fun _ _ _ h1 h2=>h.ntrans h2 h1⟩
theorem wT.flip(h:wT lt):wT fun a b=>lt b a:=⟨h.irrefl,fun x y z h1 h2=>h.trans z y x h2 h1,fun x y h1 h2=>h.total x y h2 h1⟩
theorem wT.unique(h:wT lt):∀{a b:List α},a.Pairwise (fun x y=>lt x y=true)->b.Pairwise (fun x y=>lt x y=true)->(∀x,x∈a↔x∈b)->a=b
 |[],[],_,_,_=>rfl
 |[],y::b,_,_,h'=>by have:=(h' y).2 (by simp);cases this
 |x::a,[],_,_,h'=>by have:=(h' x).1 (by simp);cases this
 |x::a,y::b,ha,hb,h'=>by
  rw[Q4]at ha hb
  have hxy:x=y:=by
   have h1:=(h' x).1 (by simp)
   have h2:=(h' y).2 (by simp)
   rcases QA.1 h1 with h1|h1
   ·exact h1
   ·rcases QA.1 h2 with h2|h2
    ·exact h2.symm
    ·have q1:=ha.1 y h2;have q2:=hb.1 x h1;rw[h.asymm q1]at q2;cases q2
  subst hxy;congr 1;refine h.unique ha.2 hb.2 fun z=>⟨fun hz=> ?_,fun hz=> ?_⟩
  ·rcases QA.1 ((h' z).1 (by simp[hz]))with e|e
   ·subst e;have:=ha.1 z hz;rw[h.irrefl]at this;cases this
   ·exact e
  ·rcases QA.1 ((h' z).2 (by simp[hz]))with e|e
   ·subst e;have:=hb.1 z hz;rw[h.irrefl]at this;cases this
   ·exact e
theorem wT.SN[DecidableEq α](h:wT lt){cmp:α->α->Option Int}{c:α->α->Int}(hc:∀x y,cmp x y=some (c x y))(hlt:∀x y,decide (c x y<0)=lt x y)(s:List α)(hs:s.length<1000000000):
  ∃t,Bz cmp s=some ((),t)/\t.length=s.length/\(dd t).Pairwise (fun x y=>lt x y=true)/\∀x,x∈dd t↔x∈s:=by
 have hcf:IV cmp=c:=funext fun x=>funext fun y=>by unfold IV;rw[hc];rfl
 have hl:Go.Proofs.ltOf (IV cmp)=lt:=by
  rw[hcf];exact funext fun x=>funext fun y=>hlt x y
 have hok:acK cmp:=⟨fun x y=>by rw[hcf];exact hc x y,by rw[hl];exact h.kit,fun x y h1 h2=>by rw[hl]at h1 h2;exact h.total x y h1 h2⟩
 refine⟨s.mergeSort fun x y=> !lt y x,?_,List.length_mergeSort s,ZR h.own h.total ?_,fun x=>by rw[afB,List.mem_mergeSort]⟩
 ·unfold Bz;rw[Qr ⟨hok,by omega⟩,hl]
 ·refine(List.pairwise_mergeSort (le:=fun x y=> !lt y x) (fun a b c h1 h2=> ?_) (fun a b=> ?_) s).imp fun{a b} hab=>by simpa using hab
  ·simp only[Bool.not_eq_true']at h1 h2 ⊢;exact h.ntrans h2 h1
  ·cases hab:lt a b with
   |false=>simp
   |true=>rw[h.asymm hab];rfl
end
theorem Cq:wT fun a b:Int=>decide (a<b):=
 ⟨fun x=>Qh (Qq64 x),fun x y z h1 h2=>by simp only[Qi]at*;omega,fun x y h1 h2=>by simp only[Qj]at*;omega⟩
theorem UK:∀{x y z:List UInt8},Op.bytesLess x y=true->Op.bytesLess y z=true->Op.bytesLess x z=true
 |[],[],_,h,_=>by simp[Op.bytesLess]at h
 |_::_,[],_,h,_=>by simp[Op.bytesLess]at h
 |[],_::_,[],_,h=>by simp[Op.bytesLess]at h
 |[],_::_,_::_,_,_=>rfl
 |_::_,_::_,[],_,h=>by simp[Op.bytesLess]at h
 |a::x,b::y,c::z,h,h'=>by
  simp only[Op.bytesLess,Qn,Qi,Qm,beq_iff_eq]at h h' ⊢;rcases h with h|⟨rfl,h⟩
  ·rcases h' with h'|⟨rfl,h'⟩
   ·exact .inl (UInt8.lt_trans h h')
   ·exact .inl h
  ·rcases h' with h'|⟨rfl,h'⟩
   ·exact .inl h'
   ·exact .inr ⟨rfl,UK h h'⟩
theorem Vd{a b c:ByteArray}(h:kl a b=true)(h':kl b c=true):kl a c=true:=UK h h'
theorem Ve{a b:ByteArray}(h:a≠b):kl a b=true\/kl b a=true:=
 UL fun e=>h (by
  rw[Lib.toList_data,Lib.toList_data]at e;cases a;cases b;rename_i x y;cases x;cases y
  simp_all)
theorem ic:wT bJ:=by
 refine⟨fun x=>by rw[bJ,Qr rfl,CF],fun x y z h1 h2=> ?_,fun x y h1 h2=> ?_⟩
 ·unfold bJ at*
  by_cases e1:x.size=y.size
  ·rw[Qr e1]at h1
   by_cases e2:y.size=z.size
   ·rw[Qr e2]at h2;rw[Qr (e1.trans e2)];exact Vd h1 h2
   ·rw[Qs e2]at h2;rw[Qs (by omega),e1]
    exact h2
  ·rw[Qs e1,Qi]at h1
   by_cases e2:y.size=z.size
   ·rw[Qs (by omega),<-e2]
    exact Qg h1
   ·rw[Qs e2,Qi]at h2;rw[Qs (by omega)]
    exact Qg (by omega)
 ·unfold bJ at*
  by_cases e1:x.size=y.size
  ·rw[Qr e1]at h1;rw[Qr e1.symm]at h2;refine Classical.byContradiction fun hne=> ?_
   rcases Ve hne with h|h
   ·rw[h]at h1;cases h1
   ·rw[h]at h2;cases h2
  ·rw[Qs e1,Qj]at h1;rw[Qs (fun e=>e1 e.symm),Qj]at h2
   omega
theorem Az:wT bx:=by
 refine⟨fun x=>by rw[bx,Qr rfl,ic.irrefl],fun x y z h1 h2=> ?_,fun x y h1 h2=> ?_⟩
 ·unfold bx at*
  by_cases e1:x.aj=y.aj
  ·rw[Qr e1]at h1
   by_cases e2:y.aj=z.aj
   ·rw[Qr e2]at h2;rw[Qr (e1.trans e2)];exact ic.trans _ _ _ h1 h2
   ·rw[Qs e2]at h2;rw[Qs (by omega),e1]
    exact h2
  ·rw[Qs e1,Qi]at h1
   by_cases e2:y.aj=z.aj
   ·rw[Qs (by omega),<-e2]
    exact Qg h1
   ·rw[Qs e2,Qi]at h2;rw[Qs (by omega)]
    exact Qg (by omega)
 ·unfold bx at*
  by_cases e1:x.aj=y.aj
  ·rw[Qr e1]at h1;rw[Qr e1.symm]at h2;have:=ic.total _ _ h1 h2;cases x;cases y
   simp_all
  ·rw[Qs e1,Qj]at h1;rw[Qs (fun e=>e1 e.symm),Qj]at h2
   omega
end
section
structure Oh (n:Nat) (l:List ae):Prop where
 of:∀e∈l,∃i:Nat,i<n/\Oi i 1 n e
 Fs:l.Pairwise fun a b=>a.al<b.al
 len:l.length<=n
theorem Oh.valid{n:Nat}{l:List ae}(h:Oh n l):∀e∈l,aW e=true:=fun e he=>by
 obtain⟨i,_,hi⟩:=h.of e he;rw[aW,Pv hi.aL];exact hi.valid
theorem Oh.sm{n:Nat}{l:List ae}(h:Oh n l)(hn:n<=1000):qZ l:=⟨by have:=h.len;omega,fun e he=>by
 obtain⟨i,_,hi⟩:=h.of e he
 exact hi.aL.sm⟩
theorem Fw.mono{l:List aR}{s s' r:Nat}(h:∀k,s.testBit k=true->s'.testBit k=true)(hi:Fw l s r):Fw l s' r:=fun k hk=>⟨h k (hi k hk).1,(hi k hk).2⟩
section
variable {aB : Nat} {t : af} (ht : c8 t) {l : List ae} (hl : qZ l) {v : ByteArray} {lo hi k : Int} (h1 : lo <= k) (h2 : k <= hi)
 include ht hl h1 h2
end
end
section
section
variable {α : Type}
 def tz(p:α->Option Bool)(a0:List α)(v1:Int×Unit):Option ((Int×Unit)⊕Int):=
 bif (decide (v1.1<((List.length a0:Nat):Int)))then
  Option.bind (idx a0 v1.1) fun x2=>Option.bind (p x2) fun r3=>bif r3 then Option.map Sum.inr (some v1.1)else some (Sum.inl ((aA .i64 v1.1 (1:Int)),()))
 else Option.map Sum.inr (some (-1:Int))
 def ZH(p:α->Option Bool)(a0:List α):Option Int:=aC (tz p a0) ((0:Int),())
 def Fj(p:α->Option Bool)(z:α)(v2:Int×Int×(List α)×Unit):Option ((Int×Int×(List α)×Unit)⊕List α):=
 bif (decide (v2.2.1<((List.length v2.2.2.1:Nat):Int)))then
  aY (fun(v3:Int×(List α)×Unit)=>some (Sum.inl (v3.1,(aA .i64 v2.2.1 (1:Int)),v3.2.1,()))) fun j4=>
  Option.bind (idx v2.2.2.1 v2.2.1) fun x5=>Option.bind (v2.2.2.1[(Int.toNat v2.2.1)]?) fun x6=>Option.bind (p x6) fun r7=>
  bif (!r7)then
   Option.bind (idx v2.2.2.1 v2.1) fun x8=>Option.bind (v2.2.2.1[(Int.toNat v2.1)]?) fun x9=>j4 ((aA .i64 v2.1 (1:Int)),(v2.2.2.1.set (Int.toNat v2.1) x6),())
  else j4 (v2.1,v2.2.2.1,())
 else
  Option.map Sum.inr (bif cJ v2.1 ((List.length v2.2.2.1):Int) (List.length v2.2.2.1)then
   bif cJ (0:Int) v2.1 (List.length (v2.2.2.1.take (Int.toNat v2.1)++List.replicate (Int.toNat ((List.length v2.2.2.1):Int) - Int.toNat v2.1) z++v2.2.2.1.drop ((Int.toNat v2.1)+(Int.toNat ((List.length v2.2.2.1):Int) - Int.toNat v2.1))))then
    some ((v2.2.2.1.take (Int.toNat v2.1)++List.replicate (Int.toNat ((List.length v2.2.2.1):Int) - Int.toNat v2.1) z++v2.2.2.1.drop ((Int.toNat v2.1)+(Int.toNat ((List.length v2.2.2.1):Int) - Int.toNat v2.1))).take (Int.toNat v2.1 - Int.toNat (0:Int)))
   else none
  else none)
 def Wn(p:α->Option Bool)(z:α)(s:List α):Option (List α):=
 Option.bind (ZH p s) fun r1=>bif (decide (r1=(-1:Int)))then some s else aC (Fj p z) (r1,(aA .i64 r1 (1:Int)),s,())
theorem Ey{q:α->Bool}{s:List α}{j:Nat}{x:α}(h:s[j]?=some x):(s.take (j+1)).filter q=(s.take j).filter q++if q x then[x]else[]:=by
 obtain⟨hl,hx⟩:=Qw.1 h;rw[Q7 hl,List.filter_append,hx];congr 1;cases hq:q x<;>simp[hq]
variable {p : α -> Option Bool} {q : α -> Bool} (hp : ∀ x, p x = some (q x)) {z : α}
 include hp
theorem T7{s:List α}(hs:s.length<1000000000):∀(k i:Nat),i+k=s.length->(s.take i).filter (fun x=> !q x)=s.take i->
  (∃m:Nat,∃x,aC (tz p s) ((i:Int),())=some (m:Int)/\(s.take m).filter (fun x=> !q x)=s.take m/\s[m]?=some x/\q x=true)\/(aC (tz p s) ((i:Int),())=some (-1)/\s.filter (fun x=> !q x)=s)
 |0,i,hi,hf=>by
  have hd:decide ((i:Int)<((s.length:Nat):Int))=false:=Qh (by omega)
  refine .inr ⟨bw ?_,?_⟩
  ·simp only[tz,hd,Ql,Qe]
  ·rwa [show i=s.length by omega,Qq62]at hf
 |k+1,i,hi,hf=>by
  have hd:decide ((i:Int)<((s.length:Nat):Int))=true:=Qg (by omega)
  have hw:aA .i64 (i:Int) 1=((i+1:Nat):Int):=bE (by omega) (by omega)
  obtain⟨x,hx⟩:∃x,s[i]?=some x:=⟨_,Qv (by omega)⟩
  cases hq:q x with
  |true=>
   refine .inl ⟨i,x,bw ?_,hf,hx,hq⟩;simp only[tz,hd,Qk,bg,hx,Qa,hp,hq,Qe]
  |false=>
   have hstep:aC (tz p s) ((i:Int),())=aC (tz p s) (((i+1:Nat):Int),()):=bj (by simp only[tz,hd,Qk,bg,hx,Qa,hp,hq,Ql,hw])
   rw[hstep];refine T7 hs k (i+1) (by omega) ?_
   rw[Ey hx,hf,hq];obtain⟨hl,hx'⟩:=Qw.1 hx;rw[Q7 hl,hx'];rfl
theorem LM{s:List α}(hs:s.length<1000000000):∀(r i j:Nat) (d:List α),j+r=s.length->i<j->d.length=s.length->d.take i=(s.take j).filter (fun x=> !q x)->(∀m,j<=m->d[m]?=s[m]?)->
  aC (Fj p z) ((i:Int),(j:Int),d,())=some (s.filter fun x=> !q x)
 |0,i,j,d,hr,hij,hd,ht,hm=>by
  have e2:decide ((j:Int)<((d.length:Nat):Int))=false:=Qh (by omega)
  refine bw ?_
  have e3:∀n,cJ (i:Int) (d.length:Int) n=decide (d.length<=n):=by
   intro n;simp only[cJ];have h1:decide ((0:Int)<=(i:Int))=true:=Qg (by omega)
   have h2:decide ((i:Int)<=(d.length:Int))=true:=Qg (by omega)
   rw[h1,h2,Bool.and_self,Bool.true_and,decide_eq_decide];omega
  have e4:(d.take i++List.replicate (d.length - i) z++d.drop (i+(d.length - i))).length=d.length:=by simp;omega
  have e5:cJ (0:Int) (i:Int) d.length=true:=by
   simp only[cJ,Qm,Qi];omega
  have e6:(d.take i++List.replicate (d.length - i) z++d.drop (i+(d.length - i))).take (i - 0)=s.filter fun x=> !q x:=by
   rw[Nat.sub_zero,QL,List.take_append_of_le_length (by simp;omega),List.take_take,Nat.min_self,ht,show j=s.length by omega,Qq62]
  simp only[Fj,e2,Ql,QV,e3,QI,decide_true,Qk,e4,e5,Int.toNat_zero,e6,Qe]
 |r+1,i,j,d,hr,hij,hd,ht,hm=>by
  have e2:decide ((j:Int)<((d.length:Nat):Int))=true:=Qg (by omega)
  have ej:aA .i64 (j:Int) 1=((j+1:Nat):Int):=bE (by omega) (by omega)
  have ei:aA .i64 (i:Int) 1=((i+1:Nat):Int):=bE (by omega) (by omega)
  obtain⟨x,hx⟩:∃x,s[j]?=some x:=⟨_,Qv (by omega)⟩
  obtain⟨y,hy⟩:∃y,d[i]?=some y:=⟨_,Qv (by omega)⟩
  have hdx:d[j]?=some x:=by rw[hm j (QI _),hx]
  have hstep:=Ey (q:=fun x=> !q x) hx
  cases hq:q x with
  |true=>
   rw[hq]at hstep;refine(bj (s':=((i:Int),((j+1:Nat):Int),d,())) ?_).trans (LM hs r i (j+1) d (by omega) (by omega) hd (by rw[hstep,ht];simp) fun m h=>hm m (by omega))
   simp only[Fj,e2,Qk,aP,bg,QV,hdx,Qa,hp,hq,Qo,Ql,ej]
  |false=>
   rw[hq]at hstep;refine(bj (s':=(((i+1:Nat):Int),((j+1:Nat):Int),d.set i x,())) ?_).trans (LM hs r (i+1) (j+1) (d.set i x) (by omega) (by omega) (by rw[QY];exact hd) ?_ fun m h=> ?_)
   ·simp only[Fj,e2,Qk,aP,bg,QV,hdx,hy,Qa,hp,hq,Qp,ej,ei]
   ·rw[hstep,<-ht,Q7 (by rw[QY];omega),List.take_set_of_le (QI _)]
    simp
   ·rw[List.getElem?_set,Qs (by omega)]
    exact hm m (by omega)
theorem XQ(s:List α)(hs:s.length<1000000000):Wn p z s=some (s.filter fun x=> !q x):=by
 rw[Wn,ZH];rcases T7 hp hs s.length 0 (by omega) (by simp)with⟨m,x,h1,h2,h3,h4⟩|⟨h1,h2⟩
 ·have hm:m<s.length:=(Qw.1 h3).1;have h1':aC (tz p s) ((0:Int),())=some (m:Int):=h1;have e:decide ((m:Int)= -1)=false:=Qh (by omega)
  rw[h1',Qa,e,Ql,show aA .i64 (m:Int) 1=((m+1:Nat):Int)from bE (by omega) (by omega)]
  refine LM hp hs (s.length - (m+1)) m (m+1) s (by omega) (by omega) rfl ?_ fun _ _=>rfl
  rw[Ey h3,h2,h4];simp
 ·have h1':aC (tz p s) ((0:Int),())=some (-1):=h1;rw[h1',Qa,h2];rfl
end
theorem GJ{α β ρ:Type}(l:List α)(hl:l.length<=1000000)(f:α->List β)(hf:∀x∈l,(f x).length<=3){step:Int×List β×Unit->Option ((Int×List β×Unit)⊕ρ)}{fin:List β->Option ρ}
  (h1:∀(i:Nat) (x:α) (acc:List β),x∈l->decide ((i:Int)<((l.length:Nat):Int))=true->idx l (i:Int)=some x->aA .i64 (i:Int) 1=((i+1:Nat):Int)->(∀bytes n:Nat,bytes<=40->n<=3->acc.length<=3000000->bb bytes (acc.length+n)=true)->acc.length<=3000000->step ((i:Int),acc,())=some (.inl (((i+1:Nat):Int),acc++f x,())))
  (h2:∀acc,decide (((l.length:Nat):Int)<((l.length:Nat):Int))=false->step (((l.length:Nat):Int),acc,())=Option.map Sum.inr (fin acc)):aC step ((0:Int),([]:List β),())=fin (l.flatMap f):=by
 suffices key:∀(k i:Nat) (acc:List β),i+k=l.length->acc=(l.take i).flatMap f->acc.length<=3*i->aC step ((i:Int),acc,())=fin (l.flatMap f)from key l.length 0 [] (by omega) (by simp) (by simp)
 intro k
 induction k with
 |zero=>
  intro i acc hi ha hal;obtain rfl:i=l.length:=by omega
  rw[Qq62]at ha;rw[fb,h2 acc (Qh (Qq64 _)),ha];cases fin (l.flatMap f)<;>rfl
 |succ k ih=>
  intro i acc hi ha hal;have hlt:i<l.length:=by omega
  have hx:l[i]?=some l[i]:=Qv hlt;have:=hf _ (Q0 hlt);refine(bj (h1 i l[i] acc (Q0 hlt) (Qg (by omega)) (by rw[bg];exact hx) (bE (by omega) (by omega)) (fun bytes n hb hn ha=> ?_) (by omega))).trans (ih (i+1) _ (by omega) ?_ (by rw[QB];omega))
  ·simp only[bb,Qm,Qi];exact⟨QK (Nat.mul_le_mul (show acc.length+n<=3000003 by omega) hb) (show 3000003*40<=140737488355328 by decide),QK (show acc.length+n<=3000003 by omega) (by simp[maxLen])⟩
  ·rw[Q7 hlt,List.flatMap_append,ha];simp
instance:Inhabited ai:=⟨⟨0,ByteArray.mk #[]⟩⟩
instance:DecidableEq ai:=fun a b=>decidable_of_iff (a.aj=b.aj/\a.Value=b.Value) (by cases a;cases b;simp)
theorem acS(s:List ai)(hs:s.length<1000000000):∃b,eY s=some b/\b.Pairwise (fun x y=>bx y x=true)/\b.length<=s.length/\∀x,x∈b↔x∈s:=by
 obtain⟨t,h1,h2,h3,h4⟩:=Az.flip.SN (cmp:=nM) (c:=fun x y=>UG y x) (fun x y=>by simp[nM]) (fun x y=>UF y x) s hs
 have hc:=zf (eq:=fun x y:ai=>lP false x.aj y.aj x.Value y.Value) (ne:=fun x y=>lP true x.aj y.aj x.Value y.Value) (z:=ai.mk 0 (ByteArray.mk #[])) (fun x y=>by
  rw[Bn,QW];cases x;cases y;simp) (fun x y=>by
  rw[abq];congr 1;rw[QW];cases x;cases y
  simp) t (by omega)
 refine⟨dd t,?_,h3,by have:=Uy t;omega,h4⟩
 have h1':fZ s=some ((),t):=h1;have hc':iN t=some (dd t):=hc;simp only[eY,h1',hc',Qa]
theorem acQ(s:List ByteArray)(hs:s.length<1000000000):∃b,fW s=some b/\b.Pairwise (fun x y=>bJ x y=true)/\b.length<=s.length/\∀x,x∈b↔x∈s:=by
 obtain⟨t,h1,h2,h3,h4⟩:=ic.SN (cmp:=hZ) (c:=uP) (fun x y=>BK x y) sR s hs
 have hc:=zf (eq:=fun x y:ByteArray=>decide (x=y)) (ne:=fun x y=> !decide (x=y)) (z:=ByteArray.mk #[]) (fun _ _=>rfl) (fun _ _=>rfl) t (by omega)
 refine⟨dd t,?_,h3,by have:=Uy t;omega,h4⟩
 have h1':jd s=some ((),t):=h1;have hc':dK t=some (dd t):=hc;simp only[fW,h1',hc',Qa]
theorem abG(a b:Int):decide (xL a b<0)=decide (a<b):=by rw[decide_eq_decide];exact GK a b
theorem acR(s:List Int)(hs:s.length<1000000000):∃b,hU s=some b/\b.Pairwise (·<·)/\b.length<=s.length/\∀x,x∈b↔x∈s:=by
 obtain⟨t,h1,h2,h3,h4⟩:=Cq.SN (cmp:=eZ) (c:=xL) (fun x y=>GY x y) abG s hs
 have hc:=zf (eq:=fun x y:Int=>decide (x=y)) (ne:=fun x y=> !decide (x=y)) (z:=0) (fun _ _=>rfl) (fun _ _=>rfl) t (by omega)
 refine⟨dd t,?_,h3.imp fun h=>of_decide_eq_true h,by have:=Uy t;omega,h4⟩
 have h1':ly s=some ((),t):=h1;simp only[hU,h1',Qa,abC,hc]
 def said(e:ae):List ai:=if aW e then(if e.bF=1 then[e.ab,e.ao,e.ay]else if e.bF=2 then[e.ao,at_ e 1000000]else[at_ e 1000000])else[]
theorem FR(e:ae):(said e).length<=3:=by
 unfold said;split
 ·split
  ·simp
  ·split<;>simp
 ·simp
theorem uK{α β:Type}(f:α->List β)(hf:∀x,(f x).length<=3):∀l:List α,(l.flatMap f).length<=3*l.length
 |[]=>by simp
 |x::l=>by
  have:=uK f hf l;have:=hf x;rw[List.flatMap_cons,QB,QE];omega
section
variable {l : List ae} (hl : ∀ e ∈ l, c8 e.ak) (hlen : l.length <= 1000)
 include hl hlen
theorem Yy:∃b,iO l=some b/\b.Pairwise (fun x y=>bx y x=true)/\b.length<=3000/\∀x,x∈b↔∃e∈l,x∈said e/\aF x=false:=by
 have hd:=XQ (p:=bB) (q:=aF) cD (z:=ai.mk 0 (ByteArray.mk #[])) (l.flatMap said) (by have:=uK said FR l;omega)
 obtain⟨b,h1,h2,hbl,h3⟩:=acS ((l.flatMap said).filter fun x=> !aF x) (by have:=uK said FR l;have:=List.length_filter_le (fun x=> !aF x) (l.flatMap said);omega)
 refine⟨b,?_,h2,by have:=uK said FR l;have:=List.length_filter_le (fun x=> !aF x) (l.flatMap said);omega,fun x=> ?_⟩
 ·unfold iO;refine(GJ l (by omega) said (fun e _=>FR e) (fin:=fun acc=>Option.bind (dZ acc) fun r8=>Option.bind (eY r8) fun r9=>some r9) (fun i e acc he hd hx hw hok hal=> ?_) (fun acc hd=> ?_)).trans ?_
  ·have o1:=hok 24 3 (by omega) (by omega) hal
   have o2:=hok 24 2 (by omega) (by omega) hal
   have o3:=hok 24 1 (by omega) (by omega) hal
   simp only[hd,hx,hw,Qk,aP,Qa,etas,ae.eta,xN (hl e he),B0,QE,QZ,o1,o2,o3,Nat.zero_add,Nat.reduceAdd];unfold said at_
   cases aW e<;>by_cases k1:e.bF=1<;>by_cases k2:e.bF=2<;>simp[k1,k2]
  ·simp only[hd,Ql]
  ·have hd':dZ (l.flatMap said)=_:=hd;simp only[hd',h1,Qa]
 ·rw[h3,List.mem_filter,QQ];constructor
  ·rintro⟨⟨e,he,hx⟩,hz⟩;exact⟨e,he,hx,by simpa using hz⟩
  ·rintro⟨e,he,hx,hz⟩;exact⟨⟨e,he,hx⟩,by simpa using hz⟩
theorem aag:∃b,kV l=some b/\b.Pairwise (fun x y=>bJ x y=true)/\b.length<=3000/\∀x,x∈b↔∃e∈l,aW e=true/\x=e.ab.Value:=by
 have hf:∀e:ae,(if aW e then[e.ab.Value]else[]).length<=3:=fun e=>by split<;>simp
 obtain⟨b,h1,h2,hbl,h3⟩:=acQ (l.flatMap fun e=>if aW e then[e.ab.Value]else[]) (by have:=uK _ hf l;omega)
 refine⟨b,?_,h2,by have:=uK _ hf l;omega,fun x=> ?_⟩
 ·unfold kV;refine(GJ l (by omega) (fun e=>if aW e then[e.ab.Value]else[]) (fun e _=>hf e) (fin:=fun acc=>Option.bind (fW acc) fun r6=>some r6) (fun i e acc he hd hx hw hok hal=> ?_) (fun acc hd=> ?_)).trans ?_
  ·have o3:=hok 16 1 (by omega) (by omega) hal
   simp only[hd,hx,hw,Qk,aP,Qa,etas,ae.eta,xN (hl e he),QE,QZ,o3,Nat.zero_add];cases aW e<;>simp
  ·simp only[hd,Ql]
  ·simp only[h1,Qa]
 ·rw[h3,QQ];constructor
  ·rintro⟨e,he,hx⟩;split at hx
   ·rename_i hv;exact⟨e,he,hv,by simpa using hx⟩
   ·cases hx
  ·rintro⟨e,he,hv,hx⟩;exact⟨e,he,by rw[Qr hv];simpa using hx⟩
theorem Yx(v:ByteArray):∃b,fX l v=some b/\b.Pairwise (·<·)/\b.length<=3000/\∀x,x∈b↔x∈ends v l:=by
 have hf:∀e:ae,(if iI v e then[e.aS,e.bf]else[]).length<=3:=fun e=>by split<;>simp
 obtain⟨b,h1,h2,hbl,h3⟩:=acR (ends v l) (by have:=uK _ hf l;unfold ends;omega)
 refine⟨b,?_,h2,by have:=uK _ hf l;unfold ends at hbl;omega,h3⟩
 unfold fX;refine(GJ l (by omega) (fun e=>if iI v e then[e.aS,e.bf]else[]) (fun e _=>hf e) (fin:=fun acc=>Option.bind (hU acc) fun r6=>some r6) (fun i e acc he hd hx hw hok hal=> ?_) (fun acc hd=> ?_)).trans ?_
 ·have o3:=hok 8 2 (by omega) (by omega) hal
  simp only[hd,hx,hw,Qk,aP,Qa,etas,ae.eta,xN (hl e he),QE,QZ,o3,Nat.zero_add,Nat.reduceAdd];unfold iI;cases aW e<;>cases decide (e.ab.Value=v)<;>cases decide (e.aS=0)<;>simp
 ·simp only[hd,Ql]
 ·exact(congrArg (fun o=>Option.bind o fun r6=>some r6) h1)
end
end
section
theorem adN{e:ae}(hv:aW e=true):e.bF=1/\0<=e.aS/\e.aS<=e.bf\/e.bF≠1/\1<=e.aS/\e.aS<=e.bf:=by
 unfold aW gW at hv;rw[Qm]at hv;have h:=hv.2
 by_cases k1:e.bF=1
 ·rw[Qr k1]at h;simp only[gX,Qm,Qi]at h;omega
 ·rw[Qs k1]at h
  by_cases k2:e.bF=2
  ·rw[Qr k2]at h;simp only[uO,td,Qm,Qi]at h;omega
  ·rw[Qs k2]at h
   by_cases k3:e.bF=3
   ·rw[Qr k3]at h;simp only[AN,td,Qm,Qi]at h;omega
   ·rw[Qs k3]at h;cases h
end
section
def zI:ai:=⟨0,fE⟩
theorem Ch{α τ:Type}(l:List α)(hl:l.length<=1000000)(mk:Int->τ)(P:α->Bool)(z:α){step:τ->Option (τ⊕α)}
  (h1:∀(i:Nat) (x:α),decide ((i:Int)<((l.length:Nat):Int))=true->idx l (i:Int)=some x->aA .i64 (i:Int) 1=((i+1:Nat):Int)->step (mk (i:Int))=some (bif P x then .inr x else .inl (mk ((i+1:Nat):Int))))
  (h2:decide (((l.length:Nat):Int)<((l.length:Nat):Int))=false->step (mk ((l.length:Nat):Int))=some (.inr z)):aC step (mk 0)=some ((l.find? P).getD z):=by
 suffices key:∀(k i:Nat),i+k=l.length->aC step (mk (i:Int))=some (((l.drop i).find? P).getD z)from key l.length 0 (by omega)
 intro k
 induction k with
 |zero=>
  intro i hi;obtain rfl:i=l.length:=by omega
  rw[bw (h2 (Qh (Qq64 _))),Qq66];rfl
 |succ k ih=>
  intro i hi;have hlt:i<l.length:=by omega
  have hs:=h1 i l[i] (Qg (by omega)) (by rw[bg];exact Qv hlt) (bE (by omega) (by omega))
  rw[QM hlt,List.find?_cons]
  cases hP:P l[i]with
  |true=>rw[hP]at hs;rw[bw hs];rfl
  |false=>rw[hP]at hs;rw[bj hs];exact ih (i+1) (by omega)
 def eR(l:List ae):List ai:=(iO l).getD []
section
variable {l : List ae} (hl : ∀ e ∈ l, c8 e.ak) (hlen : l.length <= 1000)
 include hl hlen
theorem mL:iO l=some (eR l)/\(eR l).Pairwise (fun x y=>bx y x=true)/\(eR l).length<=3000/\∀x,x∈eR l↔∃e∈l,x∈said e/\aF x=false:=by
 obtain⟨b,h1,h2,h3,h4⟩:=Yy hl hlen;have:eR l=b:=by rw[eR,h1];rfl
 rw[this];exact⟨h1,h2,h3,h4⟩
end
def rJ(b:ai):ai:=if 1000<=b.aj then⟨1000000,b.Value⟩else b
theorem NN(b:ai):jH b=some (rJ b):=by
 unfold jH rJ;simp only[aP,Fq,C6]
section
variable {aB : Nat} (hn : aB < 10) {t : af} (ht : c8 t) {l : List ae} (hl : qZ l)
 include hn ht hl
end
theorem Td{e:ae}(h:c8 e.ak)(b:ai):mN e b=some (aW e&&dj e b):=by
 simp only[mN,etas,ae.eta,jN h,Qa,cv,gH,tL]
 cases hv:aW e with
 |false=>simp
 |true=>
  cases hz:aF b with
  |true=>simp[dj,hz]
  |false=>
   by_cases k1:e.bF=1
   ·simp[dj,hz,k1]
   ·by_cases k3:e.bF=3
    ·simp[dj,hz,k3]
    ·by_cases k2:e.bF=2
     ·have hp:aF e.ay=true:=by
       unfold aW gW at hv;rw[Qm,Qs k1,Qr k2]at hv;simp only[uO,Qm]at hv;exact hv.2.1.1.2
      simp[dj,hz,k2,dP,jA,hp]
     ·unfold aW gW at hv;rw[Qs k1,Qs k2,Qs k3]at hv;simp at hv
end
section
 def gk(l:List ae):List ByteArray:=(kV l).getD []
 def bs(l:List ae)(v:ByteArray):List Int:=(fX l v).getD []
section
variable {l : List ae} (hl : ∀ e ∈ l, c8 e.ak) (hlen : l.length <= 1000)
 include hl hlen
theorem sx:kV l=some (gk l)/\(gk l).Pairwise (fun x y=>bJ x y=true)/\(gk l).length<=3000/\∀x,x∈gk l↔∃e∈l,aW e=true/\x=e.ab.Value:=by
 obtain⟨b,h1,h2,h3,h4⟩:=aag hl hlen;have:gk l=b:=by rw[gk,h1];rfl
 rw[this];exact⟨h1,h2,h3,h4⟩
theorem iQ(v:ByteArray):fX l v=some (bs l v)/\(bs l v).Pairwise (·<·)/\(bs l v).length<=3000/\∀x,x∈bs l v↔x∈ends v l:=by
 obtain⟨b,h1,h2,h3,h4⟩:=Yx hl hlen v;have:bs l v=b:=by rw[bs,h1];rfl
 rw[this];exact⟨h1,h2,h3,h4⟩
end
theorem D5{l:List ae}(hl:qZ l)(hlen:l.length<=1000)(v:ByteArray):∀x∈bs l v,1<=x/\x<=1000:=by
 obtain⟨_,_,_,h⟩:=iQ hl.aL hlen v;intro x hx;obtain⟨e,he,hb,hy⟩:=Ab.1 ((h x).1 hx);simp only[iI,Qm,Bool.not_eq_true',Qj]at hb;have hv:=hb.1.1;have h0:=hb.2;unfold aW gW at hv;rw[Qm]at hv;have hv:=hv.2
 by_cases k1:e.bF=1
 ·rw[Qr k1]at hv;simp only[gX,finite,Qm,Qi]at hv;omega
 ·rw[Qs k1]at hv
  by_cases k2:e.bF=2
  ·rw[Qr k2]at hv;simp only[uO,td,Qm,Qi]at hv;omega
  ·rw[Qs k2]at hv
   by_cases k3:e.bF=3
   ·rw[Qr k3]at hv;simp only[AN,td,Qm,Qi]at hv;omega
   ·rw[Qs k3]at hv;cases hv
theorem NK{α A B ρ:Type}(l:List α)(hl:l.length<=1000000)(f:A×B->α->A×B){step:A×Int×B×Unit->Option ((A×Int×B×Unit)⊕ρ)}{fin:A×B->Option ρ}
  (h1:∀(i:Nat) (x:α) (a:A) (b:B),x∈l->decide ((i:Int)<((l.length:Nat):Int))=true->idx l (i:Int)=some x->aA .i64 (i:Int) 1=((i+1:Nat):Int)->step (a,(i:Int),b,())=some (.inl ((f (a,b) x).1,((i+1:Nat):Int),(f (a,b) x).2,())))
  (h2:∀a b,decide (((l.length:Nat):Int)<((l.length:Nat):Int))=false->step (a,((l.length:Nat):Int),b,())=Option.map Sum.inr (fin (a,b))) (a:A) (b:B):aC step (a,(0:Int),b,())=fin (l.foldl f (a,b)):=by
 suffices key:∀(k i:Nat) (a:A) (b:B),i+k=l.length->aC step (a,(i:Int),b,())=fin ((l.drop i).foldl f (a,b))from key l.length 0 a b (by omega)
 intro k
 induction k with
 |zero=>
  intro i a b hi;obtain rfl:i=l.length:=by omega
  rw[fb,h2 a b (Qh (Qq64 _)),Qq66,List.foldl_nil];cases fin (a,b)<;>rfl
 |succ k ih=>
  intro i a b hi;have hlt:i<l.length:=by omega
  rw[bj (h1 i l[i] a b (Q0 hlt) (Qg (by omega)) (by rw[bg];exact Qv hlt) (bE (by omega) (by omega))),ih (i+1) _ _ (by omega),QM hlt,QU]
def mX(p q:ai)(v:ByteArray)(n:Int):Bool:=eI p ⟨n,v⟩||eI q ⟨n,v⟩
theorem Of(v:ByteArray)(n:Int)(p q:ai):pr v n p q=some (mX p q v n):=by
 simp only[pr,tO,Qa,lx,Bool.cond_true_left,mX]
 def EA(b:List Int)(ready:Int->Int->Bool)(low bU:Int):Int×Int:=
 match b.reverse.find? (fun n=>decide (bU<n)&&ready n n)with
 |none=>(cI (fun x=>ready x bU) b.reverse low,bU)
 |some n=>
  let bottom:=cI (fun x=>ready x n) b.reverse n
  (cI (fun x=>ready x n) b.reverse (if bU<bottom - 1\/bottom<low then bottom else low),n)
 def Cy(S:gO)(b:List Int)(v:ByteArray)(m8:Nat)(e9:Int)(v7:Int×Int×Unit):Option ((Int×Int×Unit)⊕(Int×Int×Unit)):=
 Option.bind (bif (decide (e9<=v7.2.1))then some true else Option.bind (iC S v e9 e9) fun r10=>some (!r10)) fun b11=>
 bif b11 then some (Sum.inl (v7.1,v7.2.1,()))else
 Option.bind (kj b e9 S v e9) fun r12=>
 aY (fun(v13:Int×Unit)=>Option.map Sum.inr (Option.bind (iD b v13.1 S v e9) fun r5=>some (r5,e9,()))) fun j14=>
 Option.bind (bif (decide (v7.2.1<(de .i64 r12 (1:Int))))then some true else some (decide (r12<v7.1))) fun b15=>
 bif b15 then j14 (r12,())else j14 (v7.1,())
 def ZM(S:gO)(b:List Int)(v:ByteArray)(v16:Int×Int×Unit):Option (Int×Int×Unit):=Option.bind (iD b v16.1 S v v16.2.1) fun r5=>some (r5,v16.2.1,())
section
variable {aB : Nat} (hn : aB < 10) {t : af} (ht : c8 t) {l : List ae} (hl : qZ l)
 include hn ht hl
end
end
section
section
variable {α : Type} [DecidableEq α] {lt : α -> α -> Bool}
def dG(lt:α->α->Bool)(x:α):List α->List α
 |[]=>[x]
 |y::l=>if lt y x then y::dG lt x l else if y=x then y::l else x::y::l
theorem Gc(x:α):∀(l:List α) (z:α),z∈dG lt x l↔z=x\/z∈l
 |[],z=>by simp[dG]
 |y::l,z=>by
  rw[dG];split
  ·rw[QA,Gc x l z,QA];constructor
   ·rintro(h|h|h)
    ·exact .inr (.inl h)
    ·exact .inl h
    ·exact .inr (.inr h)
   ·rintro(h|h|h)
    ·exact .inr (.inl h)
    ·exact .inl h
    ·exact .inr (.inr h)
  ·split
   ·rename_i h;rw[QA];constructor
    ·exact .inr
    ·rintro(h1|h1)
     ·exact .inl (h1.trans h.symm)
     ·exact h1
   ·rw[QA]
theorem wT.dG(h:wT lt)(x:α):∀{l:List α},l.Pairwise (fun a b=>lt a b=true)->(Go.Proofs.YtjbfdglebjnelaaGreat.dG lt x l).Pairwise (fun a b=>lt a b=true)
 |[],_=>by rw[Go.Proofs.YtjbfdglebjnelaaGreat.dG];exact List.pairwise_singleton _ _
 |y::l,hp=>by
  rw[Q4]at hp;rw[Go.Proofs.YtjbfdglebjnelaaGreat.dG];split
  ·rename_i hy;rw[Q4];refine⟨fun z hz=> ?_,h.dG x hp.2⟩
   rcases(Gc x l z).1 hz with rfl|hz
   ·exact hy
   ·exact hp.1 z hz
  ·rename_i hy;split
   ·exact Q4.2 hp
   ·rename_i hne
    have hxy:lt x y=true:=by
     cases hc:lt x y with
     |true=>rfl
     |false=>exact absurd (h.total y x (by simpa using hy) hc) hne
    rw[Q4,Q4];refine⟨fun z hz=> ?_,hp⟩
    rcases QA.1 hz with rfl|hz
    ·exact hxy
    ·exact h.trans _ _ _ hxy (hp.1 z hz)
theorem uG(x:α):∀l:List α,(dG lt x l).length<=l.length+1
 |[]=>by simp[dG]
 |y::l=>by
  have:=uG x l;rw[dG];split
  ·simp;omega
  ·split<;>simp
theorem O5(x:α):∀(l:List α) (i:Nat),(∀j,j<i->∃y,l[j]?=some y/\lt y x=true)->(∀y,l[i]?=some y->lt y x=false)->dG lt x l=if l[i]?=some x then l else l.take i++x::l.drop i
 |[],i,h1,h2=>by
  cases i with
  |zero=>simp[dG]
  |succ i=>obtain⟨y,hy,_⟩:=h1 0 (by omega);simp at hy
 |y::l,i,h1,h2=>by
  cases i with
  |zero=>
   have hy:=h2 y rfl;rw[dG,hy,Qs (by simp)]
   by_cases h:y=x
   ·simp[h]
   ·simp[h]
  |succ i=>
   obtain⟨y',hy',hlt⟩:=h1 0 (by omega)
   simp only[List.getElem?_cons_zero,Qf]at hy';subst hy'
   rw[dG,Qr hlt,O5 x l i (fun j hj=>by
    obtain⟨z,hz,h⟩:=h1 (j+1) (by omega)
    exact⟨z,by simpa using hz,h⟩) (fun z hz=>h2 z (by simpa using hz))]
   simp only[List.getElem?_cons_succ,List.take_succ_cons,List.drop_succ_cons];split<;>simp
theorem Bk(h:wT lt):∀(xs l:List α),l.Pairwise (fun a b=>lt a b=true)->(xs.foldl (fun l x=>dG lt x l) l).Pairwise (fun a b=>lt a b=true)/\∀z,z∈xs.foldl (fun l x=>dG lt x l) l↔z∈xs\/z∈l
 |[],l,hp=>⟨hp,by simp⟩
 |x::xs,l,hp=>by
  obtain⟨h1,h2⟩:=Bk h xs _ (h.dG x hp);rw[QU];refine⟨h1,fun z=> ?_⟩
  rw[h2,Gc,QA];constructor
  ·rintro(a|a|a)
   ·exact .inl (.inr a)
   ·exact .inl (.inl a)
   ·exact .inr a
  ·rintro((a|a)|a)
   ·exact .inr (.inl a)
   ·exact .inl a
   ·exact .inr (.inr a)
theorem Nt:∀(xs l:List α),(xs.foldl (fun l x=>dG lt x l) l).length<=l.length+xs.length
 |[],l=>by simp
 |x::xs,l=>by
  have:=Nt xs (dG lt x l);have:=uG (lt:=lt) x l;rw[QU,QE];omega
end
theorem vi{α:Type}(l:List α)(i:Nat):(l.take (Int.toNat (i:Int))).drop (Int.toNat (0:Int))=l.take i:=by simp
theorem zQ{α:Type}(l:List α)(i:Nat):(l.take (Int.toNat ((l.length:Nat):Int))).drop (Int.toNat (i:Int))=l.drop i:=by simp
theorem ES{i n:Nat}(h:i<=n):cJ (0:Int) (i:Int) n=true:=by
 simp only[cJ,Qm,Qi];omega
theorem ET{i n:Nat}(h:i<=n):cJ (i:Int) (n:Int) n=true:=by
 simp only[cJ,Qm,Qi];omega
theorem jb{bytes n:Nat}(h:bytes<=200)(hn:n<=1000000):bb bytes n=true:=
 br ⟨QK (Nat.mul_le_mul hn h) (by decide),hn⟩
theorem aan{α ρ:Type}(l:List α)(hl:l.length<=1000000)(P:α->Bool){step:Int×Unit->Option ((Int×Unit)⊕ρ)}{r:Nat->Option ρ}
  (h1:∀(i:Nat) (y:α),l[i]?=some y->decide ((i:Int)<((l.length:Nat):Int))=true->idx l (i:Int)=some y->P y=true->aA .i64 (i:Int) 1=((i+1:Nat):Int)->step ((i:Int),())=some (.inl (((i+1:Nat):Int),())))
  (h2:∀(i:Nat) (y:α),l[i]?=some y->decide ((i:Int)<((l.length:Nat):Int))=true->idx l (i:Int)=some y->P y=false->step ((i:Int),())=Option.map Sum.inr (r i))
  (h3:decide (((l.length:Nat):Int)<((l.length:Nat):Int))=false->step (((l.length:Nat):Int),())=Option.map Sum.inr (r l.length)):
  ∃i,i<=l.length/\(∀j,j<i->∃y,l[j]?=some y/\P y=true)/\(∀y,l[i]?=some y->P y=false)/\aC step ((0:Int),())=r i:=by
 suffices key:∀(k i:Nat),i+k=l.length->(∀j,j<i->∃y,l[j]?=some y/\P y=true)->∃m,m<=l.length/\(∀j,j<m->∃y,l[j]?=some y/\P y=true)/\(∀y,l[m]?=some y->P y=false)/\aC step ((i:Int),())=r m from key l.length 0 (by omega) (fun j hj=>absurd hj (Nat.not_lt_zero _))
 intro k
 induction k with
 |zero=>
  intro i hi hj;obtain rfl:i=l.length:=by omega
  refine⟨l.length,QI _,hj,fun y hy=>by simp at hy,?_⟩
  rw[fb,h3 (Qh (Qq64 _))];cases r l.length<;>rfl
 |succ k ih=>
  intro i hi hj;have hx:l[i]?=some l[i]:=Qv (by omega)
  have hd:decide ((i:Int)<((l.length:Nat):Int))=true:=Qg (by omega)
  cases hP:P l[i]with
  |true=>
   rw[bj (h1 i _ hx hd (by rw[bg];exact hx) hP (bE (by omega) (by omega)))]
   refine ih (i+1) (by omega) fun j hj'=> ?_
   rcases Nat.lt_or_ge j i with h|h
   ·exact hj j h
   ·obtain rfl:j=i:=by omega
    exact⟨_,hx,hP⟩
  |false=>
   refine⟨i,by omega,hj,fun y hy=> ?_,?_⟩
   ·rw[hx]at hy;injection hy with hy
    rw[<-hy];exact hP
   ·rw[fb,h2 i _ hx hd (by rw[bg];exact hx) hP]
    cases r i<;>rfl
theorem IA{α ρ:Type}[DecidableEq α]{lt:α->α->Bool}(l:List α)(hl:l.length<=1000000)(x:α){step:Int×Unit->Option ((Int×Unit)⊕ρ)}{k:List α->Option ρ}
  (h1:∀(i:Nat) (y:α),decide ((i:Int)<((l.length:Nat):Int))=true->idx l (i:Int)=some y->lt y x=true->aA .i64 (i:Int) 1=((i+1:Nat):Int)->step ((i:Int),())=some (.inl (((i+1:Nat):Int),())))
  (h2:∀(i:Nat) (y:α),i<l.length->decide ((i:Int)<((l.length:Nat):Int))=true->decide ((i:Int)=((l.length:Nat):Int))=false->idx l (i:Int)=some y->lt y x=false->step ((i:Int),())=Option.map Sum.inr (k (if y=x then l else l.take i++x::l.drop i)))
  (h3:decide (((l.length:Nat):Int)<((l.length:Nat):Int))=false->decide (((l.length:Nat):Int)=((l.length:Nat):Int))=true->step (((l.length:Nat):Int),())=Option.map Sum.inr (k (l++[x]))):aC step ((0:Int),())=k (dG lt x l):=by
 obtain⟨i,hi,g1,g2,g3⟩:=aan l hl (fun y=>lt y x) (step:=step) (r:=fun i=>k (if l[i]?=some x then l else l.take i++x::l.drop i)) (fun i y hy hd hx hP hw=>h1 i y hd hx hP hw) (fun i y hy hd hx hP=>by
   have hlt:=(Qw.1 hy).1;rw[h2 i y hlt hd (Qh (by omega)) hx hP,hy]
   by_cases hyx:y=x
   ·simp[hyx]
   ·have:¬(some y=some x):=fun h=>hyx (by injection h)
    rw[Qs hyx,Qs this]) (fun hd=>by
   rw[h3 hd (Qg rfl),Qs (by simp),Qq62,Qq66])
 rw[g3,O5 x l i g1 g2]
theorem adU(l:List ai)(hl:l.length<=900000)(b:ai):u7 l b=some (if aF b then l else dG (fun x y=>bx y x) b l):=by
 unfold u7;rw[cv,Qa]
 cases hz:aF b with
 |true=>rfl
 |false=>
  simp only[Ql,aP]
  have he:∀y:ai,(decide (y.aj=b.aj)&&decide (y.Value=b.Value))=decide (y=b):=fun y=>by
   rw[QW];cases y;cases b;simp
  refine IA (lt:=fun x y=>bx y x) l (by omega) b (k:=fun t=>some t) (fun i y hd hx hlt hw=> ?_) (fun i y hi hd hde hx hlt=> ?_) (fun hd hde=> ?_)
  ·simp only[hd,hx,hw,Qk,Qa,jT,hlt]
  ·have e1:=vi l i;have e2:=zQ l i;simp only[hd,hx,Qk,Qa,jT,hlt,Ql,Bn,e1,e2,ES (show i<=l.length by omega),ET (show i<=l.length by omega),he]
   rw[jb (by omega) (by simp;omega),jb (by omega) (by simp;omega),jb (by omega) (by simp;omega)]
   by_cases hyb:y=b<;>simp[hyb]
  ·have e1:=vi l l.length;have e2:=zQ l l.length;simp only[hd,Ql,e1,e2,ES (QI l.length),ET (QI l.length),Qk];rw[jb (by omega) (by simp;omega),jb (by omega) (by simp;omega),jb (by omega) (by simp;omega)]
   simp
theorem D0{α σ ρ:Type}(l:List α)(hl:l.length<=1000000)(f:σ->α->σ)(Inv:Nat->σ->Prop){step:σ×Int×Unit->Option ((σ×Int×Unit)⊕ρ)}{fin:σ->Option ρ}
  (hI:∀i s x,x∈l->Inv i s->Inv (i+1) (f s x))
  (h1:∀(i:Nat) (x:α) (s:σ),Inv i s->i<=l.length->x∈l->decide ((i:Int)<((l.length:Nat):Int))=true->idx l (i:Int)=some x->aA .i64 (i:Int) 1=((i+1:Nat):Int)->step (s,(i:Int),())=some (.inl (f s x,((i+1:Nat):Int),())))
  (h2:∀s,decide (((l.length:Nat):Int)<((l.length:Nat):Int))=false->step (s,((l.length:Nat):Int),())=Option.map Sum.inr (fin s)) (s:σ) (hs:Inv 0 s):aC step (s,(0:Int),())=fin (l.foldl f s):=by
 suffices key:∀(k i:Nat) (s:σ),i+k=l.length->Inv i s->aC step (s,(i:Int),())=fin ((l.drop i).foldl f s)from key l.length 0 s (by omega) hs
 intro k
 induction k with
 |zero=>
  intro i s hi hs;obtain rfl:i=l.length:=by omega
  rw[fb,h2 s (Qh (Qq64 _)),Qq66,List.foldl_nil];cases fin s<;>rfl
 |succ k ih=>
  intro i s hi hs;have hlt:i<l.length:=by omega
  rw[bj (h1 i l[i] s hs (by omega) (Q0 hlt) (Qg (by omega)) (by rw[bg];exact Qv hlt) (bE (by omega) (by omega))),ih (i+1) _ (by omega) (hI i s _ (Q0 hlt) hs),QM hlt,QU]
 def tP(e:ae):List ai:=if aW e then(if e.bF=1 then[e.ab,e.ao,e.ay]else[e.ao,at_ e 1000000])else[]
theorem Ms{e:ae}{x:ai}(hz:aF x=false):x∈tP e↔x∈said e:=by
 unfold tP said
 cases hv:aW e with
 |false=>simp
 |true=>
  by_cases k1:e.bF=1
  ·simp[k1]
  ·by_cases k2:e.bF=2
   ·simp[k2]
   ·have hp:aF e.ao=true:=by
     unfold aW gW at hv;rw[Qm,Qs k1,Qs k2]at hv;have h:=hv.2
     by_cases k3:e.bF=3
     ·rw[Qr k3]at h;simp only[AN,Qm]at h;exact h.1.1.2
     ·rw[Qs k3]at h;cases h
    simp only[Qt,k1,k2,Qu,QA,QR,or_false];constructor
    ·rintro(h|h)
     ·rw[h,hp]at hz;cases hz
     ·exact h
    ·exact .inr
def vB(l:List ai)(b:ai):List ai:=if aF b then l else dG (fun x y=>bx y x) b l
theorem Kw:∀(xs l:List ai),xs.foldl vB l=(xs.filter fun b=> !aF b).foldl (fun l x=>dG (fun x y=>bx y x) x l) l
 |[],l=>rfl
 |x::xs,l=>by
  rw[QU,Kw xs,List.filter_cons];cases hz:aF x<;>simp[vB,hz]
theorem Rf(l:List ai)(b:ai):(vB l b).length<=l.length+1:=by
 unfold vB;split
 ·omega
 ·exact uG b l
section
variable {l : List ae} (hl : ∀ e ∈ l, c8 e.ak) (hlen : l.length <= 1000)
 include hl hlen
theorem Km:nG l=some (eR l):=by
 have hfold:∀xs:List ai,xs.length<=3->∀s:List ai,(xs.foldl vB s).length<=s.length+xs.length:=by
  intro xs _
  induction xs with
  |nil=>intro s;simp
  |cons x xs ih=>
   intro s;have:=ih (by simp at*;omega) (vB s x)
   have:=Rf s x;rw[QU,QE];omega
 have hr3:∀e,(tP e).length<=3:=fun e=>by
  unfold tP;split
  ·split<;>simp
  ·simp
 have hF:nG l=some (l.foldl (fun s e=>(tP e).foldl vB s) []):=by
  unfold nG;refine D0 l (by omega) (fun s e=>(tP e).foldl vB s) (fun i s=>s.length<=3*i) (fin:=fun s=>some s) (fun i s x _ hs=> ?_) (fun i e s hs hi he hd hx hw=> ?_) (fun s hd=> ?_) [] (by simp)
  ·have:=hfold (tP x) (hr3 x) s;have:=hr3 x;show(List.foldl vB s (tP x)).length<=3*(i+1);omega
  ·simp only[hd,hx,hw,Qk,aP,Qa,etas,ae.eta,jN (hl e he)]
   have inner:∀L:List ai,L.length<=3->aC (fun(v8:(List ai)×Int×Unit)=>
     bif (decide (v8.2.1<((List.length L:Nat):Int)))then Option.bind (idx L v8.2.1) fun x9=>Option.bind (u7 v8.1 x9) fun r10=>some (Sum.inl (r10,(aA .i64 v8.2.1 (1:Int)),()))
     else Option.map Sum.inr (some (Sum.inl (v8.1,((i+1:Nat):Int),()):((List ai)×Int×Unit)⊕(List ai)))) (s,(0:Int),())=some (Sum.inl (L.foldl vB s,((i+1:Nat):Int),())):=by
    intro L hL;refine D0 L (by omega) vB (fun k t=>t.length<=s.length+k) (fin:=fun t=>some (Sum.inl (t,((i+1:Nat):Int),()))) (fun k t x _ ht=> ?_) (fun k x t ht hk hx' hd' hxx hw'=> ?_) (fun t hd'=> ?_) s (by simp)
    ·have:=Rf t x;omega
    ·simp only[hd',hxx,hw',Qk,Qa,adU t (by omega)]
     rfl
    ·simp only[hd',Ql]
   cases hv:aW e with
   |false=>simp[tP,hv]
   |true=>
    by_cases k1:e.bF=1
    ·have i3:=inner [e.ab,e.ao,e.ay] (by simp)
     simp only[Qo,Ql,k1,decide_true,i3,tP,hv,Qt]
    ·have i2:=inner [e.ao,⟨1000000,e.ab.Value⟩] (by simp)
     simp only[Qo,Qp,Ql,Qk,k1,decide_false,i2,tP,hv,Qt,Qu,at_]
  ·simp only[hd,Ql]
 obtain⟨_,h2,_,h4⟩:=mL hl hlen;have hflat:l.foldl (fun s e=>(tP e).foldl vB s) []=(l.flatMap tP).foldl vB []:=by rw[List.foldl_flatMap]
 rw[hF,hflat,Kw];obtain⟨h5,h6⟩:=Bk Az.flip ((l.flatMap tP).filter fun b=> !aF b) [] .nil
 congr 1;refine Az.flip.unique h5 h2 fun x=> ?_
 rw[h6,h4];simp only[List.mem_filter,QQ,QR,or_false,Bool.not_eq_true'];constructor
 ·rintro⟨⟨e,he,hx⟩,hz⟩;exact⟨e,he,(Ms hz).1 hx,hz⟩
 ·rintro⟨e,he,hx,hz⟩;exact⟨⟨e,he,(Ms hz).2 hx⟩,hz⟩
end
section
variable {l : List ae} (hl : ∀ e ∈ l, c8 e.ak) (hlen : l.length <= 1000)
 include hl hlen
theorem Xm:rV l=some (gk l):=by
 have hF:rV l=some (l.foldl (fun s e=>if aW e then dG bJ e.ab.Value s else s) []):=by
  unfold rV;refine D0 l (by omega) (fun s e=>if aW e then dG bJ e.ab.Value s else s) (fun i s=>s.length<=i) (fin:=fun s=>some s) (fun i s x _ hs=> ?_) (fun i e s hs hi he hd hx hw=> ?_) (fun s hd=> ?_) [] (by simp)
  ·show(if aW x then dG bJ x.ab.Value s else s).length<=i+1
   have:=uG (lt:=bJ) x.ab.Value s;split<;>omega
  ·simp only[hd,hx,hw,Qk,aP,Qa,etas,ae.eta,jN (hl e he)]
   cases hv:aW e with
   |false=>simp
   |true=>
    simp only[Qo,Ql,Qt];refine IA (lt:=bJ) s (by omega) e.ab.Value (k:=fun t=>some (Sum.inl (t,((i+1:Nat):Int),()))) (fun j y hd' hx' hlt hw'=> ?_) (fun j y hj hd' hde hx' hlt=> ?_) (fun hd' hde=> ?_)
    ·simp only[hd',hx',hw',Qk,Qa,zq,hlt]
    ·have e1:=vi s j;have e2:=zQ s j;simp only[hd',hx',hde,Qk,Ql,Qa,zq,hlt,e1,e2,ES (show j<=s.length by omega),ET (show j<=s.length by omega)]
     rw[jb (by omega) (by simp;omega),jb (by omega) (by simp;omega),jb (by omega) (by simp;omega)]
     by_cases hyx:y=e.ab.Value<;>simp[hyx]
    ·have e1:=vi s s.length;have e2:=zQ s s.length;simp only[hd',hde,Qk,Ql,e1,e2,ES (QI s.length),ET (QI s.length)];rw[jb (by omega) (by simp;omega),jb (by omega) (by simp;omega),jb (by omega) (by simp;omega)]
     simp
  ·simp only[hd,Ql]
 obtain⟨_,h2,_,h4⟩:=sx hl hlen
 have hflat:l.foldl (fun s e=>if aW e then dG bJ e.ab.Value s else s) []=(l.flatMap fun e=>if aW e then[e.ab.Value]else[]).foldl (fun l x=>dG bJ x l) []:=by
  rw[List.foldl_flatMap];congr 1
  funext s e
  split<;>rfl
 rw[hF,hflat];obtain⟨h5,h6⟩:=Bk ic (l.flatMap fun e=>if aW e then[e.ab.Value]else[]) [] .nil
 congr 1;refine ic.unique h5 h2 fun x=> ?_
 rw[h6,h4];simp only[QQ,QR,or_false];constructor
 ·rintro⟨e,he,hx⟩;split at hx
  ·rename_i hv;exact⟨e,he,hv,by simpa using hx⟩
  ·cases hx
 ·rintro⟨e,he,hv,hx⟩;exact⟨e,he,by rw[Qr hv];simpa using hx⟩
theorem yz(v:ByteArray):jy l v=some (bs l v):=by
 have hF:jy l v=some (l.foldl (fun s e=>if iI v e then dG (fun a b=>decide (a<b)) e.bf (dG (fun a b=>decide (a<b)) e.aS s)else s) []):=by
  unfold jy;refine D0 l (by omega) (fun s e=>if iI v e then dG (fun a b=>decide (a<b)) e.bf (dG (fun a b=>decide (a<b)) e.aS s)else s) (fun i s=>s.length<=2*i) (fin:=fun s=>some s) (fun i s x _ hs=> ?_) (fun i e s hs hi he hd hx hw=> ?_) (fun s hd=> ?_) [] (by simp)
  ·show(if iI v x then dG (fun a b=>decide (a<b)) x.bf (dG (fun a b=>decide (a<b)) x.aS s)else s).length<=2*(i+1)
   have h1:=uG (lt:=fun a b:Int=>decide (a<b)) x.aS s
   have h2:=uG (lt:=fun a b:Int=>decide (a<b)) x.bf (dG (fun a b=>decide (a<b)) x.aS s)
   split<;>omega
  ·simp only[hd,hx,hw,Qk,aP,Qa,etas,ae.eta,jN (hl e he)]
   have inner:∀(t:List Int) (x:Int) (z:Int),t.length<=3000->aC (fun(v12:Int×Unit)=>
     Option.bind (bif (decide (v12.1<((List.length t:Nat):Int)))then Option.bind (idx t v12.1) fun x13=>some (decide (x13<x))else some false) fun b14=>
     bif b14 then some (Sum.inl ((aA .i64 v12.1 (1:Int)),()))else
     Option.map Sum.inr (Option.bind (bif (decide (v12.1=((List.length t:Nat):Int)))then some true else Option.bind (idx t v12.1) fun x15=>some (!decide (x15=x))) fun b16=>
     bif b16 then
     bif cJ (0:Int) v12.1 (List.length t)then
     bif bb 8 (List.length ((t.take (Int.toNat v12.1)).drop (Int.toNat (0:Int))))then
     bif bb 8 (List.length ((t.take (Int.toNat v12.1)).drop (Int.toNat (0:Int)))+List.length [x])then
     bif cJ v12.1 (t.length:Int) (List.length t)then
     bif bb 8 (List.length (((t.take (Int.toNat v12.1)).drop (Int.toNat (0:Int)))++[x])+List.length ((t.take (Int.toNat (t.length:Int))).drop (Int.toNat v12.1)))then
     some (Sum.inl (((((t.take (Int.toNat v12.1)).drop (Int.toNat (0:Int)))++[x])++((t.take (Int.toNat (t.length:Int))).drop (Int.toNat v12.1))),z,()):((List Int)×Int×Unit)⊕(((List Int)×Int×Unit)⊕(List Int)))
     else none else none else none else none else none
     else some (Sum.inl (t,z,())))) ((0:Int),())=some (Sum.inl (dG (fun a b=>decide (a<b)) x t,z,())):=by
    intro t x z ht;refine IA (lt:=fun a b:Int=>decide (a<b)) t (by omega) x (k:=fun t=>some (Sum.inl (t,z,()))) (fun j y hd' hx' hlt hw'=> ?_) (fun j y hj hd' hde hx' hlt=> ?_) (fun hd' hde=> ?_)
    ·simp only[hd',hx',hw',Qk,Qa,hlt]
    ·have e1:=vi t j;have e2:=zQ t j;simp only[hd',hx',hde,Qk,Ql,Qa,hlt,e1,e2,ES (show j<=t.length by omega),ET (show j<=t.length by omega)]
     rw[jb (by omega) (by simp;omega),jb (by omega) (by simp;omega),jb (by omega) (by simp;omega)]
     by_cases hyx:y=x<;>simp[hyx]
    ·have e1:=vi t t.length;have e2:=zQ t t.length;simp only[hd',hde,Qk,Ql,Qa,e1,e2,ES (QI t.length),ET (QI t.length)];rw[jb (by omega) (by simp;omega),jb (by omega) (by simp;omega),jb (by omega) (by simp;omega)]
     simp
   have hw1:aA .i64 (0:Int) 1=1:=rfl;have hw2:aA .i64 (1:Int) 1=2:=rfl;have hd0:decide ((0:Int)<2)=true:=rfl;have hd1:decide ((1:Int)<2)=true:=rfl;have hd2:decide ((2:Int)<2)=false:=rfl;have hx0:idx [e.aS,e.bf] 0=some e.aS:=rfl;have hx1:idx [e.aS,e.bf] 1=some e.bf:=rfl;have hl1:=uG (lt:=fun a b:Int=>decide (a<b)) e.aS s
   unfold iI
   cases hv:aW e with
   |false=>simp
   |true=>
    by_cases hvv:e.ab.Value=v
    ·by_cases hlo:e.aS=0
     ·simp[hvv,hlo]
     ·simp only[Qo,Ql,hvv,decide_true,hlo,decide_false,Bool.and_self,Qp,Qa,Qt];refine(bj (s':=(dG (fun a b=>decide (a<b)) e.aS s,(1:Int),())) ?_).trans ((bj (s':=(dG (fun a b=>decide (a<b)) e.bf (dG (fun a b=>decide (a<b)) e.aS s),(2:Int),())) ?_).trans (bw ?_))
      ·simp only[hd0,hx0,hw1,Qk,Qa];exact inner s e.aS 1 (by omega)
      ·simp only[hd1,hx1,hw2,Qk,Qa];exact inner _ e.bf 2 (by omega)
      ·simp only[hd2,Ql,Qe]
    ·simp[hvv]
  ·simp only[hd,Ql]
 obtain⟨_,h2,_,h4⟩:=iQ hl hlen v
 have hflat:l.foldl (fun s e=>if iI v e then dG (fun a b=>decide (a<b)) e.bf (dG (fun a b=>decide (a<b)) e.aS s)else s) []=(ends v l).foldl (fun l x=>dG (fun a b=>decide (a<b)) x l) []:=by
  rw[ends,List.foldl_flatMap];congr 1
  funext s e
  split<;>rfl
 rw[hF,hflat];obtain⟨h5,h6⟩:=Bk Cq (ends v l) [] .nil;congr 1;refine Cq.unique h5 (h2.imp fun h=>Qg h) fun x=> ?_
 rw[h6,h4];simp
end
end
section
theorem kinds{e:ae}(hv:aW e=true):e.bF=1\/e.bF=2\/e.bF=3:=by
 unfold aW gW at hv;rw[Qm]at hv;have h:=hv.2
 by_cases k1:e.bF=1
 ·exact .inl k1
 ·by_cases k2:e.bF=2
  ·exact .inr (.inl k2)
  ·by_cases k3:e.bF=3
   ·exact .inr (.inr k3)
   ·rw[Qs k1,Qs k2,Qs k3]at h;cases h
theorem Xk{e:ae}(h:c8 e.ak)(b:ai):oB e b=some (aW e&&pZ e b):=by
 simp only[oB,etas,ae.eta,jN h,Qa,cv,gH,BY]
 cases hv:aW e with
 |false=>simp
 |true=>
  cases hz:aF b with
  |true=>simp[pZ,hz]
  |false=>by_cases k1:e.bF=1<;>simp[pZ,hz,k1]
theorem Te{e:ae}(h:c8 e.ak)(v:ByteArray)(lo hi:Int):nH e v lo hi=some (aW e&&fL e v lo hi):=by
 simp only[nH,etas,ae.eta,jN h,Qa,lx,fL,Jy]
 cases hv:aW e with
 |false=>simp
 |true=>
  have hk:=kinds hv
  by_cases a1:lo<1<;>by_cases a2:hi<lo<;>by_cases a3:e.ab.Value=v<;>by_cases a4:lo<e.aS<;>by_cases k1:e.bF=1<;>by_cases k3:e.bF=3<;>simp_all<;>grind
theorem Xl{e:ae}(h:c8 e.ak)(v:ByteArray)(lo hi:Int):pA e v lo hi=some (aW e&&s9 e v lo hi):=by
 simp only[pA,etas,ae.eta,jN h,Qa,lx,s9,Jy]
 cases hv:aW e with
 |false=>simp
 |true=>
  have hl:=adN hv
  by_cases a1:lo<1<;>by_cases a2:hi<lo<;>by_cases a3:e.ab.Value=v<;>by_cases a4:lo<e.aS<;>by_cases k1:e.bF=1<;>by_cases a5:e.aS=0<;>simp_all<;>grind
theorem wx(p:ae->Bool):∀l:List ae,dE (fun e=>aW e&&p e) l=dE p (bW l)
 |[]=>rfl
 |e::l=>by
  have ih:=wx p l;rw[dE,ih];cases hv:aW e<;>simp[bW,hv,dE]
theorem Aw(l:List ae)(hlen:l.length<=1000)(p:ae->Bool)(hp:∀e∈l,p e=true->0<=e.al/\e.al<10):gd l (l.map p)=some ((dE p l:Nat):Int):=by
 unfold gd
 suffices key:∀(k i s:Nat),i+k=l.length->s<1024->aC _ ((s:Int),(i:Int),())=some ((s|||dE p (l.drop i):Nat):Int)by
  have:=key l.length 0 0 (by omega) (by omega)
  rw[Nat.zero_or,List.drop_zero]at this;exact this
 intro k
 induction k with
 |zero=>
  intro i s hi hs;obtain rfl:i=l.length:=by omega
  have hd:decide (((l.length:Nat):Int)<((l.length:Nat):Int))=false:=Qh (Qq64 _);rw[bw (r:=(s:Int)) (by simp only[hd,Ql,Qe]),Qq66,dE]
  simp
 |succ k ih=>
  intro i s hi hs;have hlt:i<l.length:=by omega
  have hd:decide ((i:Int)<((l.length:Nat):Int))=true:=Qg (by omega)
  have hd2:decide ((i:Int)<(((l.map p).length:Nat):Int))=true:=Qg (by rw[QC];omega)
  have hw:aA .i64 (i:Int) 1=((i+1:Nat):Int):=bE (by omega) (by omega)
  have hx:idx l (i:Int)=some l[i]:=by rw[bg];exact Qv hlt
  have hx2:idx (l.map p) (i:Int)=some (p l[i]):=by rw[bg,QT,Qv hlt];rfl
  rw[QM hlt,dE]
  cases hpe:p l[i]with
  |false=>
   rw[bj (s':=((s:Int),((i+1:Nat):Int),())) (by simp only[hd,hd2,hx,hx2,hw,hpe,Qk,Ql,aP,Qa]),ih (i+1) s (by omega) hs]
   simp
  |true=>
   obtain⟨h0,h1⟩:=hp _ (Q0 hlt) hpe
   have hc:bz .u64 l[i].al=l[i].al:=by
    obtain⟨n,hn⟩:∃n:Nat,l[i].al=n:=⟨l[i].al.toNat,by omega⟩
    rw[hn];exact acH (by omega)
   have hn0:¬l[i].al<0:=by omega
   have d1:decide ((0:Int)<=l[i].al)=true:=Qg h0;have d2:decide (l[i].al<=(9:Int))=true:=Qg (by omega)
   rw[bj (s':=(((s|||2 ^ l[i].al.toNat:Nat):Int),((i+1:Nat):Int),())) (by
    simp only[hd,hd2,hx,hx2,hw,hpe,Qk,aP,Qa,d1,d2,hc,hn0,Qu]
    rw[nu hs h0 h1]),ih (i+1) _ (by omega) (AE hs h1)]
   simp[Nat.or_assoc]
theorem SI{ρ:Type}(l:List ae)(hl:l.length<=1000)(p q:ae->Bool){step:Int×List Bool×List Bool×Unit->Option ((Int×List Bool×List Bool×Unit)⊕ρ)}{fin:List Bool->List Bool->Option ρ}
  (h1:∀(i:Nat) (e:ae) (vs as_:List Bool),e∈l->decide ((i:Int)<((l.length:Nat):Int))=true->idx l (i:Int)=some e->aA .i64 (i:Int) 1=((i+1:Nat):Int)->(∀x:Bool,bb 1 (vs.length+[x].length)=true)->(∀x:Bool,bb 1 (as_.length+[x].length)=true)->step ((i:Int),vs,as_,())=some (.inl (((i+1:Nat):Int),vs++[p e],as_++[q e],())))
  (h2:∀vs as_,decide (((l.length:Nat):Int)<((l.length:Nat):Int))=false->step (((l.length:Nat):Int),vs,as_,())=Option.map Sum.inr (fin vs as_)):aC step ((0:Int),[],[],())=fin (l.map p) (l.map q):=by
 suffices key:∀(k i:Nat),i+k=l.length->aC step ((i:Int),(l.take i).map p,(l.take i).map q,())=fin (l.map p) (l.map q)from key l.length 0 (by omega)
 intro k
 induction k with
 |zero=>
  intro i hi;obtain rfl:i=l.length:=by omega
  rw[fb,h2 _ _ (Qh (Qq64 _)),Qq62];cases fin (l.map p) (l.map q)<;>rfl
 |succ k ih=>
  intro i hi;have hlt:i<l.length:=by omega
  rw[bj (h1 i l[i] _ _ (Q0 hlt) (Qg (by omega)) (by rw[bg];exact Qv hlt) (bE (by omega) (by omega)) (fun x=>jb (by omega) (by simp;omega)) (fun x=>jb (by omega) (by simp;omega))),<-ih (i+1) (by omega),Q7 hlt,List.map_append,List.map_append]
  rfl
theorem FD{p:ae->Bool}{l:List ae}:∀e∈l,(aW e&&p e)=true->0<=e.al/\e.al<10:=fun e _ h=>by
 rw[Qm]at h;exact jc h.1
section
variable {l : List ae} (hl : ∀ e ∈ l, c8 e.ak) (hlen : l.length <= 1000)
 include hl hlen
theorem PC(b:ai):u0 l b=some (((dE (fun e=>pZ e b||dj e b) (bW l):Nat):Int),((dE (dj · b) (bW l):Nat):Int),()):=by
 unfold u0;refine(SI l hlen (fun e=>aW e&&(pZ e b||dj e b)) (fun e=>aW e&&dj e b) (fin:=fun vs as_=>Option.bind (gd l vs) fun r6=>Option.bind (gd l as_) fun r7=>some (r6,r7,())) (fun i e vs as_ he hd hx hw o1 o2=> ?_) (fun vs as_ hd=> ?_)).trans ?_
 ·simp only[hd,hx,hw,Qk,Qa,etas,ae.eta,Td (hl e he),Xk (hl e he),lx,o1,o2];cases aW e<;>cases pZ e b<;>cases dj e b<;>rfl
 ·simp only[hd,Ql]
 ·rw[Aw l hlen _ FD,Aw l hlen _ FD,Qa,Qa,wx,wx]
theorem PB(v:ByteArray)(lo hi:Int):uX l v lo hi=some (((dE (fun e=>s9 e v lo hi||fL e v lo hi) (bW l):Nat):Int),((dE (fL · v lo hi) (bW l):Nat):Int),()):=by
 unfold uX;refine(SI l hlen (fun e=>aW e&&(s9 e v lo hi||fL e v lo hi)) (fun e=>aW e&&fL e v lo hi) (fin:=fun vs as_=>Option.bind (gd l vs) fun r6=>Option.bind (gd l as_) fun r7=>some (r6,r7,())) (fun i e vs as_ he hd hx hw o1 o2=> ?_) (fun vs as_ hd=> ?_)).trans ?_
 ·simp only[hd,hx,hw,Qk,Qa,etas,ae.eta,Te (hl e he),Xl (hl e he),lx,o1,o2];cases aW e<;>cases s9 e v lo hi<;>cases fL e v lo hi<;>rfl
 ·simp only[hd,Ql]
 ·rw[Aw l hlen _ FD,Aw l hlen _ FD,Qa,Qa,wx,wx]
end
theorem vn{c:aU}(hc:zj c){v a b:Nat}(hv:v<10)(h1:a<1024)(h2:b<1024):nJ c v a b=some (kp c.bn v a b):=by
 unfold nJ kp;have h3:a|||b<1024:=Nat.or_lt_two_pow (n:=10) h1 h2
 rw[wB h1,wB h2,MC hc h2,E0 a b (by omega) (by omega),CK hc h3]
 simp[sK (Cg hc h3).lt,uI,hv]
theorem tQ{c:aU}(hc:zj c){v b:Nat}(hv:v<10)(h2:b<1024):ik c v b=some ((gq c.bn b).testBit v):=by
 unfold ik;rw[CK hc h2];simp[sK (Cg hc h2).lt,uI,hv]
end
section
theorem Mj{c:aU}{aB:Int}{l:List ae}(hlen:l.length<=100000)(b:ai):il ⟨aB,c,(bW l).map bG.mk⟩ b=gw c aB ((dE (fun e=>pZ e b||dj e b) (bW l):Nat):Int) ((dE (dj · b) (bW l):Nat):Int):=by
 have hrl:=B4 l;have hin:=mR l;simp only[il,oe,kH,Qa,Option.bind_fun_some,Yp (by omega:(bW l).length<=1000000) hin,KJ (by omega:(bW l).length<=1000000) hin]
theorem KZ{c:aU}{aB:Int}{l:List ae}(hlen:l.length<=100000)(b:ai):fl ⟨aB,c,(bW l).map bG.mk⟩ b=ew c aB ((dE (dj · b) (bW l):Nat):Int):=by
 have hrl:=B4 l;have hin:=mR l;simp only[fl,Qa,Option.bind_fun_some,KJ (by omega:(bW l).length<=1000000) hin]
theorem YS(b:ai):oL b=some (rJ b):=NN b
def w7(x:ai->Bool)(p q:ai)(v:ByteArray)(b:ai):Bool:=(decide (v=fE)||decide (b.Value=v))&& !dP (rJ p) (rJ q) b&&x b
def w9(y:ai->Bool)(a b:ai):Bool:=bx a b&&decide (b.aj<=1000)&&y b
section
variable {aB : Int} {t : af} {l : List ae} (hl : qZ l) (hlen : l.length <= 1000) {c : aU} {x y : ai -> Bool}
 include hl hlen
theorem adM(hL:fP aB t l=some ⟨aB,c,(bW l).map bG.mk⟩)(hx:∀b,il ⟨aB,c,(bW l).map bG.mk⟩ b=some (x b))(p q:ai)(v:ByteArray):oP aB t l p q v=some (((eR l).find? (w7 x p q v)).getD zI):=by
 obtain⟨h1,_,h3,_⟩:=mL hl.aL hlen;unfold oP;simp only[etas,hL,h1,Qa];refine Ch (eR l) (by omega) (fun i=>(i,ai.mk (0:Int) (ByteArray.mk #[]),())) (w7 x p q v) zI (fun i b hd hx' hw=> ?_) (fun hd=> ?_)
 ·simp only[hd,hx',hw,Qk,aP,Qa,NN,sn,hx];unfold w7 fE;cases decide (v=ByteArray.mk #[])<;>cases decide (b.Value=v)<;>cases dP (rJ p) (rJ q) b<;>cases x b<;>simp
 ·simp only[hd,Ql,Qe];rfl
theorem aay(hx:∀b,qD aB t l b=some (x b))(p q:ai)(v:ByteArray):rU aB t l p q v=some (((eR l).find? (w7 x p q v)).getD zI):=by
 obtain⟨h1,_,h3,_⟩:=mL hl.aL hlen;unfold rU;simp only[etas,Km hl.aL hlen,Qa];refine Ch (eR l) (by omega) (fun i=>(i,ai.mk (0:Int) (ByteArray.mk #[]),())) (w7 x p q v) zI (fun i b hd hx' hw=> ?_) (fun hd=> ?_)
 ·simp only[hd,hx',hw,Qk,aP,Qa,YS,tL,hx];unfold w7 fE;cases decide (v=ByteArray.mk #[])<;>cases decide (b.Value=v)<;>cases dP (rJ p) (rJ q) b<;>cases x b<;>simp
 ·simp only[hd,Ql,Qe];rfl
theorem adW(hL:fP aB t l=some ⟨aB,c,(bW l).map bG.mk⟩)(hy:∀b,fl ⟨aB,c,(bW l).map bG.mk⟩ b=some (y b))(a:ai):lK aB t l a=some (((eR l).find? (w9 y a)).getD zI):=by
 obtain⟨h1,_,h3,_⟩:=mL hl.aL hlen;unfold lK;simp only[etas,hL,h1,Qa];refine Ch (eR l) (by omega) (fun i=>(i,ai.mk (0:Int) (ByteArray.mk #[]),())) (w9 y a) zI (fun i b hd hx' hw=> ?_) (fun hd=> ?_)
 ·simp only[hd,hx',hw,Qk,aP,Qa,jL,oe,hy];unfold w9;cases bx a b<;>cases decide (b.aj<=1000)<;>cases y b<;>simp
 ·simp only[hd,Ql,Qe];rfl
theorem aaz(hy:∀b,pd aB t l b=some (y b))(a:ai):nF aB t l a=some (((eR l).find? (w9 y a)).getD zI):=by
 obtain⟨h1,_,h3,_⟩:=mL hl.aL hlen;unfold nF;simp only[etas,Km hl.aL hlen,Qa];refine Ch (eR l) (by omega) (fun i=>(i,ai.mk (0:Int) (ByteArray.mk #[]),())) (w9 y a) zI (fun i b hd hx' hw=> ?_) (fun hd=> ?_)
 ·simp only[hd,hx',hw,Qk,Qa,jT,hy];unfold w9;cases bx a b<;>cases decide (b.aj<=1000)<;>cases y b<;>simp
 ·simp only[hd,Ql,Qe];rfl
end
end
end Go.Proofs.YtjbfdglebjnelaaGreat
end
