/-
  Texts made small by a program (see NOTES). Conditions: those that each theorem names.
-/
import Derived.Test.YtkgenianmdfmdaaGreatMachineKeepsMd
set_option linter.unusedVariables false
set_option linter.unusedSimpArgs false
set_option linter.unusedSectionVars false
set_option maxHeartbeats 2000000
noncomputable section
namespace Go.TQ
@[simp] theorem aU {σ ρ:Type} (j:σ->Option ρ) (f:(σ->Option ρ)->Option ρ):bj j f=f j:=rfl
@[simp] theorem jB {α:Type} (b:Bool) (x y:α):(bif b then some x else some y)=some (bif b then x else y):=by cases b<;>rfl
@[simp] theorem acU {α:Type} (b:Bool) (x:α):(bif b then x else x)=x:=by cases b<;>rfl
theorem BJ{α:Type}(p:Prop)[Decidable p](x y:α):(bif decide p then x else y)=if p then x else y:=by
 by_cases h:p<;>simp[h]
theorem yX{α:Type}(p:Prop)[Decidable p](x y:α):(if p then some x else some y)=some (if p then x else y):=by split<;>rfl
@[simp] theorem BI {α:Type} (b:Bool) (x y:α):(bif !b then x else y)=bif b then y else x:=by cases b<;>rfl
@[simp] theorem w5 (a b:Int) (s t:ByteArray):jz false a b s t=(decide (a=b)&&decide (s=t)):=by simp[jz]
@[simp] theorem WY (a b:Int) (s t:ByteArray):jz true a b s t= !(decide (a=b)&&decide (s=t)):=by simp[jz]
def Yd{α:Type}(o:Option α)(p:α->Prop):Prop:=∃x,o=some x/\p x
theorem Yd.bind{α β:Type}{o:Option α}{p:α->Prop}{f:α->Option β}{q:β->Prop}(h:Yd o p)(k:∀x,p x->Yd (f x) q):Yd (o.bind f) q:=by
 obtain⟨x,rfl,hx⟩:=h;exact k x hx
theorem Yd.mono{α:Type}{o:Option α}{p q:α->Prop}(h:Yd o p)(k:∀x,p x->q x):Yd o q:=by
 obtain⟨x,h1,hx⟩:=h;exact⟨x,h1,k x hx⟩
theorem Yd.some{α:Type}{x:α}{p:α->Prop}(h:p x):Yd (Option.some x) p:=⟨x,rfl,h⟩
theorem Yd.of_eq{α:Type}{o:Option α}{x:α}{p:α->Prop}(h:o=Option.some x)(hp:p x):Yd o p:=⟨x,h,hp⟩
theorem Yd.cond{α:Type}{b:Bool}{x y:Option α}{p:α->Prop}(h1:b=true->Yd x p)(h2:b=false->Yd y p):Yd (bif b then x else y) p:=by
 cases b
 ·exact h2 rfl
 ·exact h1 rfl
theorem Yd.map{α β:Type}{o:Option α}{f:α->β}{p:β->Prop}(h:Yd o fun x=>p (f x)):Yd (o.map f) p:=by
 obtain⟨x,rfl,hx⟩:=h;exact⟨f x,rfl,hx⟩
theorem Yd.eq_true{o:Option Bool}(h:Yd o (·=true)):o=Option.some true:=by
 obtain⟨x,h1,rfl⟩:=h;exact h1
theorem wrap64{n:Int}(h1: -9223372036854775808<=n)(h2:n<=9223372036854775807):IntKind.i64.wrap n=n:=i64_in h1 h2
theorem bH{a b:Int}(h1: -9223372036854775808<=a+b)(h2:a+b<=9223372036854775807):aB .i64 a b=a+b:=wrap64 h1 h2
theorem tf{a b:Int}(h1: -9223372036854775808<=a - b)(h2:a - b<=9223372036854775807):dz .i64 a b=a - b:=wrap64 h1 h2
theorem bz{α:Type}(l:List α)(i:Nat):idx l (i:Int)=l[i]?:=by simp[idx]
theorem Pm{α:Type}(l:List α){n:Int}(h:0<=n):idx l n=l[n.toNat]?:=by simp[idx,h]
@[simp] theorem aaC (n:Nat) (h:n<256):FF .i64 (n:Int)=n:=wrap64 (by omega) (by omega)
@[simp] theorem b0 {bytes n:Nat} (h:n*bytes<=140737488355328/\n<=1000000):bx bytes n=true:=by
 simp only[bx,Qm,Qi];exact⟨h.1,QK h.2 (by simp[maxLen])⟩
theorem qH(a:Nat)(h:a<2 ^ 62):(BitVec.ofInt 64 (a:Int)).toNat=a:=by
 rw[BitVec.ofInt_natCast,BitVec.toNat_ofNat];exact Nat.mod_eq_of_lt (by omega)
theorem BS(n:Nat)(h:n<2 ^ 62):IntKind.i64.wrap (n:Int)=n:=wrap64 (by omega) (by omega)
theorem zd(a b:Nat)(ha:a<2 ^ 62)(hb:b<2 ^ 62):E7 .i64 (a:Int) (b:Int)=((a&&&b:Nat):Int):=by
 show IntKind.i64.wrap (((BitVec.ofInt 64 (a:Int)&&&BitVec.ofInt 64 (b:Int)).toNat:Nat):Int)=_;rw[BitVec.toNat_and,qH a ha,qH b hb];exact BS _ (Nat.lt_of_le_of_lt Nat.and_le_left ha)
theorem Bl(a b:Nat)(ha:a<2 ^ 62)(hb:b<2 ^ 62):uu .i64 (a:Int) (b:Int)=((a|||b:Nat):Int):=by
 show IntKind.i64.wrap (((BitVec.ofInt 64 (a:Int)|||BitVec.ofInt 64 (b:Int)).toNat:Nat):Int)=_
 rw[BitVec.toNat_or,qH a ha,qH b hb];exact BS _ (Nat.or_lt_two_pow ha hb)
theorem ZB(s k:Nat):s&&&2 ^ k=if s.testBit k then 2 ^ k else 0:=by
 refine Nat.eq_of_testBit_eq fun i=> ?_
 rw[Nat.testBit_and,Nat.testBit_two_pow]
 by_cases h:k=i
 ·subst h;cases hs:s.testBit k<;>simp
 ·cases hs:s.testBit k<;>simp[h]
theorem tF(k:Nat)(h:k<=60):iL .i64 1 (k:Int)=((2 ^ k:Nat):Int):=by
 show IntKind.i64.wrap (1*2 ^ min (k:Int).toNat 64)=_;rw[QV,show min k 64=k from Nat.min_eq_left (by omega),Int.one_mul]
 have:=BS (2 ^ k) (Nat.pow_lt_pow_right (by omega) (by omega))
 simpa using this
theorem We(a k:Nat)(h:k<=60):Wf .i64 (a:Int) (k:Int)=((a>>>k:Nat):Int):=by
 show(a:Int).fdiv (2 ^ min (k:Int).toNat 64)=_;rw[QV,show min k 64=k from Nat.min_eq_left (by omega),Nat.shiftRight_eq_div_pow]
 rw[show(2:Int) ^ k=((2 ^ k:Nat):Int)by simp,Int.fdiv_eq_ediv_of_nonneg _ (Int.natCast_nonneg _)]
 exact(Int.natCast_ediv a (2 ^ k)).symm
theorem bU{σ ρ:Type}{step:σ->Option (σ⊕ρ)}{s:σ}{r:ρ}(h:step s=some (.inr r)):aE step s=some r:=by rw[ik,h]
theorem bl{σ ρ:Type}{step:σ->Option (σ⊕ρ)}{s s':σ}(h:step s=some (.inl s')):aE step s=aE step s':=by rw[ik,h]
theorem JA{σ ρ:Type}{step:σ->Option (σ⊕ρ)}{s:σ}(h:step s=none):aE step s=none:=by rw[ik,h]
theorem Yd.loop{σ ρ:Type}{step:σ->Option (σ⊕ρ)}{s:σ}{p:ρ->Prop}(h:Yd (step s) fun y=>match y with| .inl s'=>Yd (aE step s') p| .inr r=>p r):Yd (aE step s) p:=by
 obtain⟨y,h1,h2⟩:=h
 cases y with
 |inl s'=>rw[bl h1];exact h2
 |inr r=>exact⟨r,bU h1,h2⟩
theorem Yd.join{σ ρ:Type}{j:σ->Option ρ}{f:(σ->Option ρ)->Option ρ}{p:ρ->Prop}(inv:σ->Prop)(h1:∀v,inv v->Yd (j v) p)(h2:∀j':σ->Option ρ,(∀v,inv v->Yd (j' v) p)->Yd (f j') p):Yd (bj j f) p:=h2 j h1
theorem Yd.inr{σ ρ:Type}{o:Option ρ}{p:σ⊕ρ->Prop}(h:Yd o fun r=>p (.inr r)):Yd (Option.map Sum.inr o) p:=h.map
def eG{α σ ρ:Type}(g:α->σ->Option (σ⊕ρ))(fin:σ->Option ρ):List α->σ->Option ρ
 |[],s=>fin s
 |x::l,s=>match g x s with
  |none=>none
  |some (.inr r)=>some r
  |some (.inl s')=>eG g fin l s'
theorem TP{α σ τ ρ:Type}(l:List α)(mk:Int->σ->τ){step:τ->Option (τ⊕ρ)}(g:α->σ->Option (σ⊕ρ))(fin:σ->Option ρ)
  (h1:∀(i:Nat) (x:α) (s:σ),i<l.length->l[i]?=some x->step (mk i s)=match g x s with|none=>none|some (.inr r)=>some (.inr r)|some (.inl s')=>some (.inl (mk (i+1:Nat) s')))
  (h2:∀s,step (mk l.length s)=(fin s).map Sum.inr) (s:σ):aE step (mk 0 s)=eG g fin l s:=by
 suffices h:∀(k:Nat) (i:Nat) (s:σ),i+k=l.length->aE step (mk i s)=eG g fin (l.drop i) s by
  have:=h l.length 0 s (by omega)
  simpa using this
 intro k
 induction k with
 |zero=>
  intro i s hi;obtain rfl:i=l.length:=by omega
  rw[List.drop_length,eG,ik,h2];cases fin s<;>rfl
 |succ k ih=>
  intro i s hi;have hlt:i<l.length:=by omega
  rw[QM hlt,eG,ik,h1 i l[i] s hlt (Qv hlt)]
  cases hg:g l[i] s with
  |none=>rfl
  |some y=>
   cases y with
   |inr r=>rfl
   |inl s'=>exact ih (i+1) s' (by omega)
theorem gb{α σ τ ρ:Type}(l:List α)(hl:l.length<=9223372036854775807)(mk:Int->σ->τ){step:τ->Option (τ⊕ρ)}(g:α->σ->Option (σ⊕ρ))(fin:σ->Option ρ)
  (h1:∀(i:Nat) (x:α) (s:σ),decide ((i:Int)<((l.length:Nat):Int))=true->idx l (i:Int)=some x->aB .i64 (i:Int) 1=((i+1:Nat):Int)->step (mk i s)=match g x s with|none=>none|some (.inr r)=>some (.inr r)|some (.inl s')=>some (.inl (mk (i+1:Nat) s')))
  (h2:∀s,decide (((l.length:Nat):Int)<((l.length:Nat):Int))=false->step (mk l.length s)=(fin s).map Sum.inr) (s:σ):aE step (mk 0 s)=eG g fin l s:=
 TP l mk g fin (fun i x s hi hx=>h1 i x s (Qg (Int.ofNat_lt.2 hi)) (by rw[bz];exact hx) (bH (by omega) (by omega))) (fun s=>h2 s (Qh (Int.lt_irrefl _))) s
end Go.TQ
namespace Go.Proofs.YtkgenianmdfmdaaGreat
open Go.TQ
def fb:ByteArray:=⟨#[]⟩
def aA(b:ae):Bool:=decide (b.aj=0)&&decide (b.Value=fb)
def jm(a b:ByteArray):Bool:=if a.size=b.size then jS a b else decide (a.size<b.size)
def bd(a b:ae):Bool:=if a.aj=b.aj then jm a.Value b.Value else decide (a.aj<b.aj)
def bC(a b:ae):Bool:=decide (a.Value=b.Value)
def hZ(p b:ae):Bool:= !aA p&&bC p b&&decide (b.aj<=p.aj)
def dt(p q b:ae):Bool:=hZ p b||hZ q b||(!aA q&&bd b q)
def dK(p b:ae):Bool:= !aA p&& !bC p b&&bd b p
def cq(b:ae):Bool:=(decide (1<=b.aj)&&decide (b.aj<=1000)||decide (b.aj=1000000))&&decide (1<=b.Value.size)&&decide (b.Value.size<=200)
theorem M1:∀x:List UInt8,Op.bytesLess x x=false
 |[]=>rfl
 |a::l=>by simp[Op.bytesLess,M1 l]
theorem P5:∀{x y:List UInt8},x≠y->Op.bytesLess x y=true\/Op.bytesLess y x=true
 |[],[],h=>absurd rfl h
 |[],_::_,_=> .inl rfl
 |_::_,[],_=> .inr rfl
 |a::l,b::m,h=>by
  simp only[Op.bytesLess]
  by_cases hab:a=b
  ·subst hab;have:l≠m:=fun e=>h (by rw[e])
   simpa using P5 this
  ·rcases Nat.lt_or_gt_of_ne (fun e=>hab (UInt8.toNat_inj.1 e))with h1|h1
   ·have h2:a<b:=h1;simp[h2]
   ·have h2:b<a:=h1;simp[h2]
theorem Oi(a:ByteArray):jS a a=false:=M1 _
@[simp] theorem cx (b:ae):bh b=some (aA b):=by unfold bh aA;rw[w5];rfl
@[simp] theorem di (b:ae):bA b=some (aA b):=by unfold bA aA;rw[w5];rfl
@[simp] theorem eL (a b:ae):bN a b=some (bC a b):=rfl
@[simp] theorem fu (a b:ae):cd a b=some (bC a b):=rfl
@[simp] theorem rq (b:ae):fH b=some (cq b):=by
 have h1:decide ((1:Int)<=(b.Value.size:Nat))=decide (1<=b.Value.size):=by rw[decide_eq_decide];omega
 have h2:decide (((b.Value.size:Nat):Int)<=200)=decide (b.Value.size<=200):=by rw[decide_eq_decide];omega
 simp only[fH,cq,h1,h2,jB,Qa,Bool.cond_false_right,Bool.cond_true_left]
@[simp] theorem zk (b:ae):iY b=some (cq b):=rq b
@[simp] theorem vp (a b:ByteArray):lF a b=some (jm a b):=by
 simp only[lF,jm,BI,Int.ofNat_inj,Int.ofNat_lt,BJ,yX]
@[simp] theorem iG (a b:ae):eA a b=some (bd a b):=by
 simp[eA,bd,BJ,yX]
@[simp] theorem xC (a b:ae):kg a b=some (hZ a b):=by simp[kg,hZ]
@[simp] theorem Uy (a b:ae):jf a b=some (hZ a b):=by simp[jf,hZ]
@[simp] theorem qa (p q b:ae):gP p q b=some (dt p q b):=by simp[gP,dt]
@[simp] theorem xD (p b:ae):fA p b=some (dK p b):=by simp[fA,dK]
def xn(a b:Int):Int:=if a<b then -1 else if b<a then 1 else 0
def PQ(a b:ByteArray):Int:=if jS a b then -1 else if jS a b||decide (a=b)then 0 else 1
def XQ:List Int->Int
 |[]=>0
 |x::l=>if x=0 then XQ l else x
@[simp] theorem C3 (a b:Int):iz a b=some (xn a b):=by
 simp[iz,qq,xn,BJ,yX]
@[simp] theorem Rp (a b:ByteArray):lT a b=some (PQ a b):=by
 simp only[lT,nK,PQ];cases h1:jS a b<;>by_cases h2:a=b<;>simp[h2]
theorem KC(l:List Int)(hl:l.length<=1000000):oI l=some (XQ l):=by
 unfold oI;rw[gb l (by omega) (fun i (_:Unit)=>(i,())) (fun x _=>some (if x=0 then .inl ()else .inr x)) (fun _=>some 0) (fun i x s hd hx hw=> ?_) (fun s hd=> ?_) ()]
 ·induction l with
  |nil=>rfl
  |cons x l ih=>
   rw[eG,XQ]
   by_cases h:x=0
   ·simp only[h,Qt];exact ih (by simp at hl;omega)
   ·simp only[Qs h]
 ·by_cases h:x=0<;>simp only[hd,hx,hw,h,Qk,Qa]<;>simp
 ·simp only[hd,Ql]
@[simp] theorem XA (a b:Int):oI [a,b]=some (if a=0 then b else a):=by
 rw[KC _ (by simp)]
 simp only[XQ]
 by_cases h:a=0<;>by_cases h':b=0<;>simp[h,h']
def LH(a b:ByteArray):Int:=if xn a.size b.size=0 then PQ a b else xn a.size b.size
def PS(a b:ae):Int:=if xn a.aj b.aj=0 then LH a.Value b.Value else xn a.aj b.aj
@[simp] theorem xp (a b:ByteArray):fP a b=some (LH a b):=by simp[fP,LH]
@[simp] theorem Uv (a b:ae):lL a b=some (PS a b):=by simp[lL,PS]
theorem z8(a b:Int):xn a b=0↔a=b:=by unfold xn;split<;>(try split)<;>omega
theorem Ic(a b:Int):xn a b<0↔a<b:=by unfold xn;split<;>(try split)<;>omega
theorem Xh(a b:ByteArray):PQ a b<0↔jS a b=true:=by
 unfold PQ;split
 ·rename_i h;simp[h]
 ·rename_i h;split<;>simp[h]
theorem PO(a b:ByteArray):decide (LH a b<0)=jm a b:=by
 unfold LH jm
 by_cases h:a.size=b.size
 ·rw[Qr ((z8 _ _).2 (by rw[h])),Qr h]
  rw[QW,Qi,Xh]
 ·rw[Qs (fun e=>h (by have:=(z8 _ _).1 e;omega)),Qs h,decide_eq_decide,Ic]
  omega
theorem PR(a b:ae):decide (PS a b<0)=bd a b:=by
 unfold PS bd
 by_cases h:a.aj=b.aj
 ·rw[Qr ((z8 _ _).2 h),Qr h,PO]
 ·rw[Qs (fun e=>h ((z8 _ _).1 e)),Qs h,decide_eq_decide,Ic]
@[simp] theorem iA (a b:ae):dB a b=some (bd a b):=by simp[dB,PR]
@[simp] theorem oJ (p q b:ae):fO p q b=some (dt p q b):=by simp[fO,dt]
@[simp] theorem qc (p b:ae):dC p b=some (dK p b):=by simp[dC,dK]
def finite(b:ae):Bool:=cq b&&decide (b.aj<=1000)
@[simp] theorem BP (b:ae):kL b=some (finite b):=by simp[kL,finite]
@[simp] theorem zD (b:ae):jJ b=some (aA b||cq b):=by simp[jJ]
@[simp] theorem xE (e:ai) (n:Int):mh e n=some ⟨n,e.ab.Value⟩:=rfl
end Go.Proofs.YtkgenianmdfmdaaGreat
namespace Go.Proofs.YtkgenianmdfmdaaGreat
open Go.TQ
theorem LR{rec:(an×Unit)->Option Int}{t:an}(hl:t.aN.length<=9223372036854775807):
  iC rec t=eG (fun u m=>(rec (u,())).map fun r=> .inl (bo m r)) (fun m=>some (aB .i64 m 1)) t.aN 0:=by
 unfold iC;rw[gb t.aN hl (fun i (m:Int)=>(m,i,())) (fun u m=>(rec (u,())).map fun r=> .inl (bo m r)) (fun m=>some (aB .i64 m 1)) (fun i x s hd hx hw=> ?_) (fun s hd=> ?_) 0]
 ·simp only[hd,hx,hw,Qk,Qa,an.eta];cases rec (x,())<;>rfl
 ·simp only[hd,Ql]
theorem Ro{rec:(an×Unit)->Option Int}{t:an}(hl:t.aN.length<=9223372036854775807):
  jg rec t=eG (fun u m=>(rec (u,())).map fun r=> .inl (aB .i64 m r)) (fun m=>some m) t.aN (aB .i64 t.bm.length t.aN.length):=by
 unfold jg;rw[gb t.aN hl (fun i (m:Int)=>(m,i,())) (fun u m=>(rec (u,())).map fun r=> .inl (aB .i64 m r)) (fun m=>some m) (fun i x s hd hx hw=> ?_) (fun s hd=> ?_) (aB .i64 t.bm.length t.aN.length)]
 ·simp only[hd,hx,hw,Qk,Qa,an.eta];cases rec (x,())<;>rfl
 ·simp only[hd,Ql]
theorem Mh(t:an):xo t=jL t:=rfl
theorem OC(t:an):zl t=ke t:=rfl
def dV(x:Int):Bool:=decide (0<=x)&&decide (x<10)
def wc(s x:Int):Bool:=decide (0<=s)&&decide (s<1024)&&dV x&&s.toNat.testBit x.toNat
theorem FJ(s:Int):eu s=some (decide (0<=s)&&decide (s<1024)):=by
 have:iL .i64 1 10=1024:=tF 10 (by omega)
 simp[eu,vr,this]
theorem Q5{s x:Int}(h1:0<=s)(h2:s<1024)(h3:0<=x)(h4:x<10):(E7 .i64 s (iL .i64 1 x)=0)=(s.toNat.testBit x.toNat=false):=by
 obtain⟨n,rfl⟩:=Int.eq_ofNat_of_zero_le h1;obtain⟨j,rfl⟩:=Int.eq_ofNat_of_zero_le h3;have hj:2 ^ j<=2 ^ 10:=Nat.pow_le_pow_right (by omega) (by omega)
 rw[tF j (by omega),zd n (2 ^ j) (by omega) (by omega),ZB]
 simp only[QV];have hp:2 ^ j≠0:=Nat.pos_iff_ne_zero.1 (Nat.pow_pos (by omega))
 cases n.testBit j
 ·simp
 ·rw[Qr rfl];simp only[Bool.true_eq_false,eq_iff_iff,iff_false];omega
@[simp] theorem km (s x:Int):iZ s x=some (wc s x):=by
 unfold iZ wc dV;rw[FJ]
 by_cases h1:0<=s
 ·by_cases h2:s<1024
  ·by_cases h3:0<=x
   ·by_cases h4:x<10
    ·have h5:¬x<0:=by omega
     have:=Q5 h1 h2 h3 h4;simp[h1,h2,h3,h4,h5,this]
    ·simp[h1,h2,h3,h4]
   ·simp[h1,h2,h3]
  ·simp[h1,h2]
 ·simp[h1]
theorem Ru{s x:Int}(h1:0<=s)(h2:s<1024)(h3:0<=x)(h4:x<10):(E7 .i64 (Wf .i64 s x) 1=1)=(s.toNat.testBit x.toNat=true):=by
 obtain⟨n,rfl⟩:=Int.eq_ofNat_of_zero_le h1;obtain⟨j,rfl⟩:=Int.eq_ofNat_of_zero_le h3;have hle:n>>>j<=n:=by rw[Nat.shiftRight_eq_div_pow];exact Nat.div_le_self _ _
 rw[We n j (by omega),show(1:Int)=((1:Nat):Int)from rfl,zd _ 1 (by omega) (by omega)]
 simp only[QV,Int.ofNat_inj,Nat.testBit,eq_iff_iff];rw[Nat.and_comm];simp
@[simp] theorem se (s x:Int):kD s x=some (wc s x):=by
 unfold kD et wc dV
 by_cases h1:0<=s
 ·by_cases h2:s<1024
  ·have h2':s<=1023:=by omega
   by_cases h3:0<=x
   ·by_cases h4:x<10
    ·have h5:¬x<0:=by omega
     have:=Ru h1 h2 h3 h4;simp[h1,h2,h2',h3,h4,h5,this]
    ·simp[h1,h2,h2',h3,h4]
   ·simp[h1,h2,h2',h3]
  ·have h2':¬s<=1023:=by omega
   simp[h1,h2,h2']
 ·simp[h1]
theorem yj{s:Nat}{x:Int}(h1:s<1024)(h3:0<=x)(h4:x<10):uu .i64 (s:Int) (iL .i64 1 x)=((s|||2 ^ x.toNat:Nat):Int):=by
 obtain⟨j,rfl⟩:=Int.eq_ofNat_of_zero_le h3;have hj:2 ^ j<=2 ^ 9:=Nat.pow_le_pow_right (by omega) (by omega)
 rw[tF j (by omega)]
 exact Bl s (2 ^ j) (by omega) (by omega)
theorem Jh{s:Nat}{x:Int}(h1:s<1024)(h4:x<10):s|||2 ^ x.toNat<1024:=by
 have hj:2 ^ x.toNat<=2 ^ 9:=Nat.pow_le_pow_right (by omega) (by omega)
 exact Nat.or_lt_two_pow (n:=10) h1 (by omega)
def oS(s:Nat):List Int->Int×Int×Unit
 |[]=>(s,0,())
 |x::l=>if dV x then(if s.testBit x.toNat then(0,6,())else oS (s|||2 ^ x.toNat) l)else(0,5,())
theorem Sh(g:Int->Int->Option (Int⊕(Int×Int×Unit)))
  (hg:∀x (s:Nat),s<1024->g x s=some (if dV x then(if s.testBit x.toNat then .inr (0,6,())else .inl ((s|||2 ^ x.toNat:Nat):Int))else .inr (0,5,()))):
  ∀(l:List Int) (s:Nat),s<1024->eG g (fun s=>some (s,0,())) l s=some (oS s l)
 |[],s,_=>rfl
 |x::l,s,hs=>by
  rw[eG,hg x s hs,oS]
  cases h1:dV x with
  |false=>simp
  |true=>
   cases h2:s.testBit x.toNat with
   |true=>simp
   |false=>
    simp only[Qt,Qq,Qu];have h3:x<10:=by simp[dV]at h1;omega
    exact Sh g hg l _ (Jh hs h3)
theorem Ae(l:List Int)(hl:l.length<=9223372036854775807):oF l=some (oS 0 l):=by
 unfold oF;rw[gb l hl (fun i (s:Int)=>(s,i,())) (fun x s=>if dV x then(if wc s x then some (.inr (0,6,()))else some (.inl (uu .i64 s (iL .i64 1 x))))else some (.inr (0,5,()))) (fun s=>some (s,0,())) (fun i x s hd hx hw=> ?_) (fun s hd=> ?_) 0]
 ·refine Sh _ (fun x s hs=> ?_) l 0 (by omega)
  cases h1:dV x with
  |false=>simp
  |true=>
   have h3:0<=x/\x<10:=by simp[dV]at h1;omega
   have h2:wc s x=s.testBit x.toNat:=by simp[wc,h1];omega
   rw[h2,yj hs h3.1 h3.2];cases s.testBit x.toNat<;>simp
 ·simp only[hd,hx,hw,Qk,Qa,km]
  by_cases h0:x<0
  ·have:¬0<=x:=by omega
   simp[h0,dV,this]
  ·have h0':0<=x:=by omega
   by_cases h10:10<=x
   ·have:¬x<10:=by omega
    simp[h0,h10,dV,this,h0']
   ·have h10':x<10:=by omega
    cases h:wc s x<;>simp[h0,h10,dV,h0',h10']
 ·simp only[hd,Ql]
theorem NN(l:List Int)(hl:l.length<=9223372036854775807):vq l=some (oS 0 l):=by
 have:vq l=oF l:=by
  unfold vq oF;simp only[se,km]
 rw[this,Ae l hl]
@[simp] theorem td (x:Int):jY x=some (!dV x):=by simp[jY,uc,dV]
theorem Gy(l:List Int)(hl:l.length<=9223372036854775807):fm l=some (l.any fun x=> !dV x):=by
 have key:∀(i:Nat) (k:Nat),i+k=l.length->Yd (aE (fun(v1:Int×Unit)=>bif (decide (v1.1<((List.length l:Nat):Int)))then Option.bind (idx l v1.1) fun x2=>Option.bind (jY x2) fun r3=>bif r3 then Option.map Sum.inr (some v1.1)else some (Sum.inl ((aB .i64 v1.1 (1:Int)),()))else Option.map Sum.inr (some (-1:Int))) ((i:Int),())) fun r=>decide (0<=r)=(l.drop i).any fun x=> !dV x:=by
  intro i k
  induction k generalizing i with
  |zero=>
   intro hi;refine⟨-1,bU ?_,?_⟩
   ·have:¬((i:Int)<(l.length:Int)):=by omega
    simp[this]
   ·rw[List.drop_eq_nil_of_le (by omega)];rfl
  |succ k ih=>
   intro hi;have hlt:i<l.length:=by omega
   have hd:decide ((i:Int)<((l.length:Nat):Int))=true:=Qg (Int.ofNat_lt.2 hlt);have hx:idx l (i:Int)=some l[i]:=by rw[bz];exact Qv hlt
   have hw:aB .i64 (i:Int) 1=((i+1:Nat):Int):=bH (by omega) (by omega)
   rw[QM hlt,List.any_cons]
   cases h:dV l[i]with
   |true=>
    rw[bl (s':=(((i+1:Nat):Int),())) (by simp only[hd,hx,hw,Qk,Qa,td,h];rfl)]
    exact(ih (i+1) (by omega)).mono fun r hr=>by simpa using hr
   |false=>
    refine⟨i,bU (by simp only[hd,hx,Qk,Qa,td,h];rfl),?_⟩
    simp
 obtain⟨r,h1,h2⟩:=key 0 l.length (by omega)
 unfold fm js;simp only[Int.natCast_zero]at h1;rw[h1];simpa using h2
def om(rec:an->Option Int)(t:an):Option Int:=
 if t.aP<1\/aB .i64 t.bm.length t.aN.length<t.aP then some 4
 else if(t.bm.any fun x=> !dV x)then some 5
 else if(oS 0 t.bm).2.1=0 then eG (fun u (_:Unit)=>(rec u).map fun r=>if r=0 then .inl ()else .inr r) (fun _=>some 0) t.aN ()
 else some (oS 0 t.bm).2.1
theorem LQ{rec:(an×Unit)->Option Int}{t:an}(hn:t.bm.length<=9223372036854775807)(hl:t.aN.length<=9223372036854775807):iB rec t=om (fun u=>rec (u,())) t:=by
 unfold iB om;rw[Gy _ hn,Ae _ hn];rw[gb t.aN hl (fun i (_:Unit)=>(i,())) (fun u (_:Unit)=>(rec (u,())).map fun r=>if r=0 then .inl ()else .inr r) (fun _=>some 0) (fun i x s hd hx hw=> ?_) (fun s hd=> ?_) ()]
 ·by_cases h1:t.aP<1
  ·simp[h1]
  ·by_cases h2:aB .i64 t.bm.length t.aN.length<t.aP
   ·simp[h1,h2]
   ·simp only[h1,h2,decide_false,Ql,Qa,or_self,Qu]
    cases (t.bm.any fun x=> !dV x)with
    |true=>simp
    |false=>
     by_cases h3:(oS 0 t.bm).2.1=0<;>simp[h3]
 ·simp only[hd,hx,hw,Qk,Qa,an.eta]
  cases rec (x,())with
  |none=>rfl
  |some r=>by_cases h:r=0<;>simp[h]
 ·simp only[hd,Ql]
theorem LS{rec:(an×Unit)->Option Int}{t:an}(hn:t.bm.length<=9223372036854775807)(hl:t.aN.length<=9223372036854775807):lx rec t=om (fun u=>rec (u,())) t:=by
 unfold lx om;rw[gb t.bm hn (fun i (_:Unit)=>(i,())) (fun x (_:Unit)=>some (if dV x then .inl ()else .inr 5)) (fun _=>if(oS 0 t.bm).2.1=0 then eG (fun u (_:Unit)=>(rec (u,())).map fun r=>if r=0 then .inl ()else .inr r) (fun _=>some 0) t.aN ()else some (oS 0 t.bm).2.1) (fun i x s hd hx hw=> ?_) (fun s hd=> ?_) ()]
 ·by_cases h1:t.aP<1
  ·simp[h1]
  ·by_cases h2:aB .i64 t.bm.length t.aN.length<t.aP
   ·simp[h1,h2]
   ·simp only[h1,h2,decide_false,Ql,Qa,or_self,Qu]
    have:∀(l:List Int) (fin:Unit->Option Int),eG (fun x (_:Unit)=>some (if dV x then .inl ()else .inr 5)) fin l ()=if(l.any fun x=> !dV x)then some 5 else fin ():=by
     intro l fin
     induction l with
     |nil=>rfl
     |cons x l ih=>
      rw[eG,List.any_cons]
      cases h:dV x with
      |true=>simpa using ih
      |false=>simp
    exact this _ _
 ·simp only[hd,hx,hw,Qk,Qa,dV]
  by_cases h0:x<0
  ·have h0':¬0<=x:=by omega
   simp[h0,h0']
  ·have h0':0<=x:=by omega
   by_cases h1:10<=x
   ·have h1':¬x<10:=by omega
    simp[h0,h0',h1,h1']
   ·have h1':x<10:=by omega
    simp[h0,h0',h1,h1']
 ·simp only[hd,Ql];rw[NN _ hn,Qa];rw[gb t.aN hl (fun i (_:Unit)=>(i,())) (fun u (_:Unit)=>(rec (u,())).map fun r=>if r=0 then .inl ()else .inr r) (fun _=>some 0) (fun i x s hd hx hw=> ?_) (fun s hd=> ?_) ()]
  ·by_cases h3:(oS 0 t.bm).2.1=0<;>simp[h3]
  ·simp only[hd,hx,hw,Qk,Qa,an.eta]
   cases rec (x,())with
   |none=>rfl
   |some r=>by_cases h:r=0<;>simp[h]
  ·simp only[hd,Ql]
structure gC (t:an):Prop where
 nodes:∀x∈t.bm,0<=x/\x<10
 nodup:t.bm.Nodup
 len:t.bm.length<=10
 inner:t.aN=[]\/∃x,0<=x/\x<10/\t.aN=[⟨1,[x],[]⟩]
 th:1<=t.aP/\t.aP<=t.bm.length+t.aN.length
theorem Co:∀(l:List Int) (s:Nat),(∀x∈l,0<=x/\x<10)->l.Nodup->(∀x∈l,s.testBit x.toNat=false)->(oS s l).2.1=0
 |[],s,_,_,_=>rfl
 |x::l,s,h1,h2,h3=>by
  rw[List.nodup_cons]at h2;have hx:=h1 x (by simp)
  have:dV x=true:=by simp[dV];omega
  rw[oS,this,h3 x (by simp)]
  simp only[Qt,Qq,Qu];refine Co l _ (fun y hy=>h1 y (by simp[hy])) h2.2 fun y hy=> ?_
  have hy1:=h1 y (by simp[hy])
  rw[Nat.testBit_or,h3 y (by simp[hy]),Nat.testBit_two_pow]
  have:x.toNat≠y.toNat:=fun e=>by
   have:x=y:=by omega
   subst this;exact h2.1 hy
  simp[this]
theorem P9{l:List Int}(h:∀x∈l,0<=x/\x<10):(l.any fun x=> !dV x)=false:=by
 rw[List.any_eq_false];intro x hx;have:=h x hx;simp[dV];omega
theorem GL{rec:an->Option Int}{x:Int}(h0:0<=x)(h1:x<10):om rec ⟨1,[x],[]⟩=some 0:=by
 have h2:aB .i64 (1:Nat) (0:Nat)=1:=rfl;have h3:(oS 0 [x]).2.1=0:=Co [x] 0 (by simp;omega) (by simp) (by simp)
 have h4:([x].any fun x=> !dV x)=false:=P9 (by simp;omega)
 simp only[om,QE,QZ,Nat.zero_add,h2,h3,h4];simp[eG]
theorem JB{t:an}(h:gC t){rec:an->Option Int}(hr:∀x,0<=x->x<10->rec ⟨1,[x],[]⟩=some 0):om rec t=some 0:=by
 have hil:t.aN.length<=1:=by rcases h.inner with e|⟨x,_,_,e⟩<;>rw[e]<;>simp
 have hlen:=h.len;have h2:aB .i64 t.bm.length t.aN.length=t.bm.length+t.aN.length:=bH (by omega) (by omega)
 have h3:(oS 0 t.bm).2.1=0:=Co _ 0 h.nodes h.nodup (by simp)
 have h4:=P9 h.nodes;have h5:=h.th;unfold om;rw[h2,Qs (by omega),h4,h3]
 simp only[Qq,Qu,Qt];rcases h.inner with e|⟨x,hx0,hx1,e⟩
 ·rw[e];rfl
 ·rw[e,eG,hr x hx0 hx1];rfl
theorem Ip(t:an):∃n,SizeOf.sizeOf t=n+1:=by
 have:1<=SizeOf.sizeOf t:=by
  cases t;simp only[an.mk.sizeOf_spec];omega
 exact⟨SizeOf.sizeOf t - 1,by omega⟩
theorem Uc(n:Nat)(th:Int)(l:List Int):lC (n+1) (⟨th,l,[]⟩,())=some 1:=by
 show iC _ _=_;rw[LR (by simp)]
 rfl
theorem size_leaf(n:Nat)(th:Int)(l:List Int):my (n+1) (⟨th,l,[]⟩,())=some (aB .i64 l.length (0:Nat)):=by
 show jg _ _=_;rw[Ro (by simp)]
 rfl
theorem Kd{t:an}(h:gC t):∃d,jL t=some d/\d<=2:=by
 obtain⟨n,hn⟩:=Ip t;have hil:t.aN.length<=1:=by rcases h.inner with e|⟨x,_,_,e⟩<;>rw[e]<;>simp
 unfold jL;rw[hn];show∃d,iC (lC (n+1)) t=some d/\d<=2;rw[LR (by omega)]
 rcases h.inner with e|⟨x,_,_,e⟩
 ·rw[e];exact⟨1,rfl,by omega⟩
 ·rw[e,eG,Uc n 1 [x]];exact⟨2,rfl,by omega⟩
theorem LZ{t:an}(h:gC t):∃d,ke t=some d/\d<=200:=by
 obtain⟨n,hn⟩:=Ip t;have hil:t.aN.length<=1:=by rcases h.inner with e|⟨x,_,_,e⟩<;>rw[e]<;>simp
 have hlen:=h.len;unfold ke;rw[hn];show∃d,jg (my (n+1)) t=some d/\d<=200;rw[Ro (by omega),bH (by omega) (by omega)]
 rcases h.inner with e|⟨x,_,_,e⟩
 ·rw[e];exact⟨_,rfl,by simp;omega⟩
 ·rw[e,eG,size_leaf n 1 [x]];have h1:aB .i64 (([x]:List Int).length:Nat) (0:Nat)=1:=rfl;rw[h1];refine⟨_,rfl,?_⟩;simp only[QE,QZ];rw[bH (by omega) (by omega)]
  omega
theorem nS{t:an}(h:gC t):dE t=some 0:=by
 obtain⟨d,h1,h2⟩:=Kd h;obtain⟨z,h3,h4⟩:=LZ h;obtain⟨n,hn⟩:=Ip t;have hil:t.aN.length<=1:=by rcases h.inner with e|⟨x,_,_,e⟩<;>rw[e]<;>simp
 have hlen:=h.len
 have h5:lD t=some 0:=by
  unfold lD;rw[hn];show iB (il (n+1)) t=some 0;rw[LQ (by omega) (by omega)]
  refine JB h fun x hx0 hx1=> ?_
  show iB (il n) ⟨1,[x],[]⟩=some 0;rw[LQ (by simp) (by simp)]
  exact GL hx0 hx1
 have h6:¬4<d:=by omega
 have h7:¬200<z:=by omega
 simp[dE,h1,h3,h5,h6,h7]
theorem nG{t:an}(h:gC t):fo t=some 0:=by
 obtain⟨d,h1,h2⟩:=Kd h;obtain⟨z,h3,h4⟩:=LZ h;obtain⟨n,hn⟩:=Ip t;have hil:t.aN.length<=1:=by rcases h.inner with e|⟨x,_,_,e⟩<;>rw[e]<;>simp
 have hlen:=h.len
 have h5:pJ t=some 0:=by
  unfold pJ;rw[hn];show lx (mY (n+1)) t=some 0;rw[LS (by omega) (by omega)]
  refine JB h fun x hx0 hx1=> ?_
  show lx (mY n) ⟨1,[x],[]⟩=some 0;rw[LS (by simp) (by simp)]
  exact GL hx0 hx1
 have h6:¬4<d:=by omega
 have h7:¬200<z:=by omega
 simp[fo,Mh,OC,h1,h3,h5,h6,h7]
end Go.Proofs.YtkgenianmdfmdaaGreat
namespace Go.Proofs.YtkgenianmdfmdaaGreat
open Go.TQ
structure lV (s:dH):Prop where
 len:s.L.length<=800
 lo:0<=s.At
 hi:s.At<=800
theorem aaP(l:List Int):Yd (yb l) fun s=>lV s:=by
 have h:de (l.length:Int) 800=((min l.length 800:Nat):Int):=by unfold de;split<;>omega
 have h2:cp 0 ((min l.length 800:Nat):Int) l.length=true:=by
  simp only[cp,Qm,Qi];omega
 unfold yb;rw[h,h2];refine Yd.some ⟨?_,by simp,by simp⟩
 simp only[QV,List.length_drop,List.length_take];omega
theorem Yh(x n:Int)(hn:1<=n): -n<x.tmod n/\x.tmod n<n:=by
 have h2:=Int.emod_nonneg x (show n≠0 by omega)
 have h3:=Int.emod_lt_of_pos x (show 0<n by omega)
 rw[Int.tmod_eq_emod];split
 ·omega
 ·rw[Int.natAbs_of_nonneg (by omega)];omega
theorem q8{s:dH}(h:lV s){n:Int}(hn:n<=1000000000):Yd (bZ s n) fun p=>lV p.2/\0<=p.1/\(1<=n->p.1<n)/\(n<1->p.1=0):=by
 unfold bZ;simp only[aU];refine Yd.cond (fun h1=> ?_) (fun h1=> ?_)
 ·exact Yd.some ⟨h,by simp,fun _=>by simp;omega,fun _=>rfl⟩
 ·simp only[Qj,Int.not_le]at h1;refine Yd.cond (fun h2=> ?_) (fun h2=> ?_)
  ·simp only[Qi]at h2;exact Yd.some ⟨h,by simp,fun _=>by simp;omega,fun _=>rfl⟩
  ·simp only[Qj,Int.not_lt]at h2;obtain⟨hl,hlo,hhi⟩:=h;have e1:aB .i64 s.At 1=s.At+1:=bH (by omega) (by omega)
   have e2:dz .i64 (s.At+1) 1=s.At:=by rw[tf (by omega) (by omega)];omega
   rw[e1,e2];have hlt:s.At.toNat<s.L.length:=by omega
   rw[Pm _ hlo,Qv hlt,Qa,Qs (by omega),Qs (by omega)]
   have hb:=Yh s.L[s.At.toNat] n h2;have e3:To .i64 s.L[s.At.toNat] n=s.L[s.At.toNat].tmod n:=rfl;rw[e3];generalize s.L[s.At.toNat].tmod n=y at hb;have e4:aB .i64 y n=y+n:=bH (by omega) (by omega)
   rw[e4];have h5:To .i64 (y+n) n=(y+n) % n:=Int.tmod_eq_emod_of_nonneg (by omega)
   rw[h5];exact Yd.some ⟨⟨hl,by simp;omega,by simp;omega⟩,Int.emod_nonneg _ (by omega),fun _=>Int.emod_lt_of_pos _ (by omega),fun _=>by omega⟩
theorem pf{s:dH}(h:lV s){a b:Int}(h1:0<=a)(h2:a<=b+1)(h3:b<=1000000):Yd (cP s a b) fun p=>lV p.2/\a<=p.1/\(a<=b->p.1<=b)/\(b<a->p.1=a):=by
 unfold cP;have e1:dz .i64 b a=b - a:=tf (by omega) (by omega)
 have e2:aB .i64 (b - a) 1=b - a+1:=bH (by omega) (by omega)
 rw[e1,e2];refine(q8 h (by omega)).bind fun p ⟨h4,h5,h6,h7⟩=> ?_
 have e3:aB .i64 a p.1=a+p.1:=by
  by_cases hq:b - a+1<1
  ·rw[h7 hq];exact bH (by omega) (by omega)
  ·have:=h6 (by omega);exact bH (by omega) (by omega)
 rw[e3];refine Yd.some ⟨h4,by simp;omega,fun hab=> ?_,fun hab=> ?_⟩
 ·have:=h6 (by omega)
  show a+p.1<=b;omega
 ·have:=h7 (by omega)
  show a+p.1=a;omega
theorem ZI{s:dH}(h:lV s){l:List ByteArray}(h1:1<=l.length)(h2:l.length<=1000):Yd (qm s l) fun p=>lV p.2/\p.1∈l:=by
 unfold qm;refine(q8 h (by omega)).bind fun p ⟨h4,h5,h6,_⟩=> ?_
 have:=h6 (by omega)
 have hlt:p.1.toNat<l.length:=by omega
 rw[Pm _ h5,Qv hlt];exact Yd.some ⟨h4,Q0 hlt⟩
def Kw(v:ByteArray):Prop:=v∈[(ByteArray.mk #[97]),(ByteArray.mk #[98]),(ByteArray.mk #[99]),(ByteArray.mk #[97,97])]
theorem Kw.size{v:ByteArray}(h:Kw v):1<=v.size/\v.size<=2:=by
 simp only[Kw,QA,QR,or_false]at h;rcases h with rfl|rfl|rfl|rfl<;>exact⟨by decide,by decide⟩
theorem Ii{s:dH}(h:lV s):Yd (kj s) fun p=>lV p.2/\Kw p.1:=by
 unfold kj;exact(ZI h (by simp) (by simp)).bind fun p hp=>Yd.some hp
theorem VZ{s:dH}(h:lV s):Yd (oE s) fun p=>lV p.2/\1<=p.1.aj/\p.1.aj<=6/\Kw p.1.Value:=by
 unfold oE;refine(pf h (by omega) (by omega) (by omega)).bind fun p ⟨h1,h2,h3,_⟩=> ?_
 refine(Ii h1).bind fun q ⟨h4,h5⟩=> ?_
 exact Yd.some ⟨h4,h2,h3 (by omega),h5⟩
theorem Ij{s:dH}(h:lV s){n:Nat}(hn1:1<=n)(hn:n<=10):Yd (kl s n) fun p=>lV p.2/\gC p.1/\(∀x∈p.1.bm,x<n)/\p.1.bm≠[]:=by
 unfold kl;simp only[aU]
 let I (i:Nat) (s:dH) (t:an) (ns:List Int) (is:List an):Prop:=lV s/\t.aP=0/\(∀x∈ns,0<=x/\x<i)/\ns.Nodup/\ns.length<=i/\is=[]
 suffices key:∀(k i:Nat) (s:dH) (t:an) (ns:List Int) (is:List an),i+k=n->I i s t ns is->Yd (aE _ ((i:Int),s,t,ns,is,())) _ from key n 0 s _ _ _ (by omega) ⟨h,rfl,by simp,by simp,by simp,rfl⟩
 intro k
 induction k with
 |zero=>
  intro i s t ns is hi ⟨h1,h2,h3,h4,h5,h6⟩;obtain rfl:i=n:=by omega
  subst h6;have hd:decide ((i:Int)<(i:Int))=false:=Qh (Int.lt_irrefl _);refine Yd.loop ?_;simp only[hd,Ql];refine Yd.inr ?_
  have fin:∀(s:dH) (ns:List Int) (is:List an) (th:Int),lV s->(∀x∈ns,0<=x/\x<i)->ns.Nodup->ns.length<=10->ns≠[]->(is=[]\/∃x,0<=x/\x<10/\is=[⟨1,[x],[]⟩])->1<=th->th<=ns.length+is.length->
    lV s/\gC ⟨th,ns,is⟩/\(∀x∈ns,x<(i:Int))/\ns≠[]:=by
   intro s ns is th a1 a2 a3 a4 a5 a6 a7 a8;exact⟨a1,⟨fun x hx=>by have:=a2 x hx;exact⟨this.1,by omega⟩,a3,a4,a6,a7,a8⟩,fun x hx=>(a2 x hx).2,a5⟩
  have tail:∀(s:dH) (ns:List Int) (is:List an),lV s->(∀x∈ns,0<=x/\x<i)->ns.Nodup->ns.length<=10->ns≠[]->(is=[]\/∃x,0<=x/\x<10/\is=[⟨1,[x],[]⟩])->
    Yd (Option.bind (cP s (OM .i64 (aB .i64 (aB .i64 ((List.length ns:Nat):Int) ((List.length is:Nat):Int)) (1:Int)) (2:Int)) (aB .i64 ((List.length ns:Nat):Int) ((List.length is:Nat):Int))) fun p9=>
     Option.bind (bZ p9.2 (6:Int)) fun p12=>
     bif (decide (p12.1=(5:Int)))then some ((an.mk (1:Int) ns is),p12.2)else some ((an.mk p9.1 ns is),p12.2)) fun p=>lV p.2/\gC p.1/\(∀x∈p.1.bm,x<(i:Int))/\p.1.bm≠[]:=by
   intro s ns is a1 a2 a3 a4 a5 a6;have hp:1<=ns.length:=by cases ns with|nil=>exact absurd rfl a5|cons x l=>simp
   have hil:is.length<=1:=by rcases a6 with e|⟨x,_,_,e⟩<;>rw[e]<;>simp
   have e1:aB .i64 ((List.length ns:Nat):Int) ((List.length is:Nat):Int)=ns.length+is.length:=bH (by omega) (by omega)
   have e2:aB .i64 ((ns.length:Int)+is.length) 1=ns.length+is.length+1:=bH (by omega) (by omega)
   have e3:OM .i64 ((ns.length:Int)+is.length+1) 2=(ns.length+is.length+1) / 2:=by
    show IntKind.i64.wrap (Int.tdiv _ _)=_;rw[Int.tdiv_eq_ediv_of_nonneg (by omega)]
    exact wrap64 (by omega) (by omega)
   rw[e1,e2,e3];refine(pf a1 (by omega) (by omega) (by omega)).bind fun p ⟨b1,b2,b3,_⟩=> ?_
   refine(q8 b1 (by omega)).bind fun q ⟨c1,_⟩=> ?_
   have b4:=b3 (by omega)
   refine Yd.cond (fun _=>Yd.some (fin q.2 ns is 1 c1 a2 a3 a4 a5 a6 (by omega) (by omega))) (fun _=>Yd.some (fin q.2 ns is p.1 c1 a2 a3 a4 a5 a6 (by omega) (by omega)))
  have mid:∀(s:dH) (ns:List Int),lV s->(∀x∈ns,0<=x/\x<i)->ns.Nodup->ns.length<=10->ns≠[]->
    Yd (Option.bind (bZ s (4:Int)) fun p13=>
     bif (decide (p13.1=(3:Int)))then
     Option.bind (bZ p13.2 (i:Int)) fun p14=>
     bif bx 56 (List.length ([]:List an)+List.length [(an.mk (1:Int) [p14.1] ([]:List an))])then
     (Option.bind (cP p14.2 (OM .i64 (aB .i64 (aB .i64 ((List.length ns:Nat):Int) ((List.length (([]:List an)++[(an.mk (1:Int) [p14.1] ([]:List an))]):Nat):Int)) (1:Int)) (2:Int)) (aB .i64 ((List.length ns:Nat):Int) ((List.length (([]:List an)++[(an.mk (1:Int) [p14.1] ([]:List an))]):Nat):Int))) fun p9=>
     Option.bind (bZ p9.2 (6:Int)) fun p12=>
     bif (decide (p12.1=(5:Int)))then some ((an.mk (1:Int) ns (([]:List an)++[(an.mk (1:Int) [p14.1] ([]:List an))])),p12.2)else some ((an.mk p9.1 ns (([]:List an)++[(an.mk (1:Int) [p14.1] ([]:List an))])),p12.2))
     else none
     else
     (Option.bind (cP p13.2 (OM .i64 (aB .i64 (aB .i64 ((List.length ns:Nat):Int) ((List.length ([]:List an):Nat):Int)) (1:Int)) (2:Int)) (aB .i64 ((List.length ns:Nat):Int) ((List.length ([]:List an):Nat):Int))) fun p9=>
     Option.bind (bZ p9.2 (6:Int)) fun p12=>
     bif (decide (p12.1=(5:Int)))then some ((an.mk (1:Int) ns []),p12.2)else some ((an.mk p9.1 ns []),p12.2))) fun p=>lV p.2/\gC p.1/\(∀x∈p.1.bm,x<(i:Int))/\p.1.bm≠[]:=by
   intro s ns a1 a2 a3 a4 a5;refine(q8 a1 (by omega)).bind fun p ⟨b1,b2,b3,_⟩=> ?_
   refine Yd.cond (fun _=> ?_) (fun _=> ?_)
   ·refine(q8 b1 (by omega)).bind fun q ⟨c1,c2,c3,_⟩=> ?_
    have c4:=c3 (by omega)
    rw[b0 (by simp)]
    exact tail q.2 ns _ c1 a2 a3 a4 a5 (.inr ⟨q.1,c2,by omega,rfl⟩)
   ·exact tail p.2 ns [] b1 a2 a3 a4 a5 (.inl rfl)
  refine Yd.cond (fun hz=> ?_) (fun hz=> ?_)
  ·refine(q8 h1 (by omega)).bind fun p ⟨b1,b2,b3,_⟩=> ?_
   have b4:=b3 (by omega)
   exact mid p.2 [p.1] b1 (by simp;omega) (by simp) (by simp) (by simp)
  ·have hne:ns≠[]:=by
    intro e;subst e;simp at hz
   exact mid s ns h1 h3 h4 (by omega) hne
 |succ k ih=>
  intro i s t ns is hi ⟨h1,h2,h3,h4,h5,h6⟩;have hd:decide ((i:Int)<(n:Int))=true:=Qg (by omega)
  have hw:aB .i64 (i:Int) 1=((i+1:Nat):Int):=bH (by omega) (by omega)
  refine Yd.loop ?_;simp only[hd,Qk,hw];refine(q8 h1 (by omega)).bind fun p ⟨b1,b2,b3,_⟩=> ?_
  refine Yd.cond (fun _=> ?_) (fun _=> ?_)
  ·rw[b0 (by simp;omega)]
   refine Yd.some (ih (i+1) p.2 _ _ _ (by omega) ⟨b1,h2,?_,?_,by simp;omega,h6⟩)
   ·intro x hx;rcases Qz.1 hx with hx|hx
    ·have:=h3 x hx;omega
    ·simp at hx;omega
   ·refine List.nodup_append.2 ⟨h4,by simp,?_⟩
    intro x hx y hy;simp at hy;have:=h3 x hx;omega
  ·refine Yd.some (ih (i+1) p.2 _ _ _ (by omega) ⟨b1,h2,?_,h4,by omega,h6⟩)
   intro x hx;have:=h3 x hx;omega
end Go.Proofs.YtkgenianmdfmdaaGreat
namespace Go.Proofs.YtkgenianmdfmdaaGreat
open Go.TQ
def at_(e:ai)(n:Int):ae:=⟨n,e.ab.Value⟩
def yh(e:ai):Bool:=aA e.aw||(!aA e.ao&&bd e.aw e.ao&& !bC e.aw e.ao)
def fL(e:ai):Bool:=
 finite e.ab&&(aA e.ao||cq e.ao)&&(aA e.aw||cq e.aw)&&yh e&&decide (0<=e.aI)&&decide (e.aI<=e.aR)&&decide (e.aR<=e.ab.aj)
  &&(decide (e.aR=0)||dt e.ao e.aw (at_ e e.aR))&&(decide (e.aI=0)||(!dK e.ao (at_ e e.aI)&& !dK e.aw (at_ e e.aI)))
def pB(e:ai):Bool:=decide (1<=e.aI)&&decide (e.aI<=e.aR)&&decide (e.aR<=1000)
def qX(e:ai):Bool:=finite e.ab&&cq e.ao&&bC e.ao e.ab&&aA e.aw&&pB e&&decide (e.aR<=e.ao.aj)
def wJ(e:ai):Bool:=cq e.ab&&aA e.ao&&aA e.aw&&pB e
def vi(e:ai):Bool:=decide (0<=e.ar)&&decide (e.ar<10)&&decide (1<=e.bp)&&decide (e.bp<=1000000)&&decide (1<=e.aF)&&decide (e.aF<=1000000)
def fK(tv:Int)(e:ai):Bool:=
 vi e&&decide (tv=0)&&(if e.bs=1 then fL e else if e.bs=2 then qX e else if e.bs=3 then wJ e else false)
theorem dlt(a b:Int):decide (a<b)= !decide (b<=a):=by by_cases h:a<b<;>simp[h]<;>omega
theorem NO(e:ai):lS e=some (fL e):=by
 unfold lS fL yh at_
 simp only[cx,iA,eL,BP,zD,xE,qc,oJ,Qa,jB,aU,dlt,BI];cases finite e.ab<;>cases (aA e.ao||cq e.ao)<;>cases (aA e.aw||cq e.aw)<;>simp
 by_cases h:e.aR=0<;>simp[h,Bool.and_assoc]
theorem vz{e:ai}{tv:Int}(hT:dE e.aa=some tv):cU e=some (fK tv e):=by
 unfold cU fK vi;simp[NO,hT,dlt,qX,wJ,pB]
 grind
theorem po{e:ai}{tv:Int}(hT:fo e.aa=some tv):bY e=some (fK tv e):=by
 unfold bY fK vi;simp[hT,dlt,qX,wJ,pB,fL,finite,yh,at_]
 have h9:decide (e.ar<=9)= !decide (10<=e.ar):=by by_cases h:e.ar<=9<;>simp[h]<;>omega
 rw[h9];generalize (decide (0<=e.ar)&& !decide (10<=e.ar)&&decide (1<=e.bp)&&decide (e.bp<=1000000)&&decide (1<=e.aF)&&decide (e.aF<=1000000)&&decide (tv=0))=hd
 by_cases k1:e.bs=1
 ·simp only[k1,decide_true,Qk,Qt]
  by_cases hl:0<=e.aI
  ·by_cases hh:e.aI<=e.aR
   ·have:decide (e.aR<=0)=decide (e.aR=0):=by rw[decide_eq_decide];omega
    rw[this]
    grind
   ·simp[hh]
  ·simp[hl]
 ·by_cases k2:e.bs=2
  ·simp only[k2,decide_true,Qk,Qt]
   grind
  ·simp only[k1,k2,decide_false,Ql,Qu]
   grind
def Fz(e:ai)(v:ByteArray)(lo hi:Int):Bool:=decide (1<=lo)&&decide (lo<=hi)&&decide (e.ab.Value=v)&&decide (e.aI<=lo)
def pz(e:ai)(v:ByteArray)(lo hi:Int):Bool:=Fz e v lo hi&&(!decide (e.bs=1)||(!decide (e.aI=0)&&decide (hi<=e.aR)))
def eK(e:ai)(v:ByteArray)(lo hi:Int):Bool:=Fz e v lo hi&&(decide (e.bs=3)||(decide (e.bs=2)&&decide (hi<=e.aR)))
def nb(e:ai)(b:ae):Bool:= !aA b&&(if e.bs=1 then hZ e.ab b else bC e.ab b)
def cD(e:ai)(b:ae):Bool:= !aA b&&(if e.bs=1 then dt e.ao e.aw b else if e.bs=2 then hZ e.ao b else bC e.ab b)
def dW(e:ai):Int:=if e.bs=3 then 1000000 else e.ab.aj
@[simp] theorem AU (r:br) (v:ByteArray) (lo hi:Int):gJ r v lo hi=some (pz r.av v lo hi):=by
 simp[gJ,iT,pz,Fz]
@[simp] theorem ru (r:br) (v:ByteArray) (lo hi:Int):ga r v lo hi=some (eK r.av v lo hi):=by
 simp[ga,iT,eK,Fz]
@[simp] theorem zF (r:br) (b:ae):gF r b=some (nb r.av b):=by
 simp only[gF,nb];cases hz:aA b<;>by_cases h:r.av.bs=1<;>simp[h,hz]
@[simp] theorem qt (r:br) (b:ae):fT r b=some (cD r.av b):=by
 simp only[fT,cD];cases hz:aA b<;>by_cases h:r.av.bs=1<;>by_cases h2:r.av.bs=2<;>simp[h,h2,hz]
@[simp] theorem XB (r:br):jW r=some (dW r.av):=by
 simp[jW,dW,BJ,yX]
section
variable {e : ai} {tv : Int} (hT : dE e.aa = some tv)
 include hT
theorem Rl:iK e=some (if fK tv e then dW e else 0):=by
 simp only[iK,an.eta,ai.eta,vz hT,Qa];cases fK tv e<;>simp
end
def sK(n:Nat):List Int:=(List.range n).map fun i:Nat=>(i:Int)
theorem N9(n:Nat):sK (n+1)=sK n++[(n:Int)]:=by simp[sK,List.range_succ]
@[simp] theorem aa2 (n:Nat):(sK n).length=n:=by simp[sK]
theorem ZK(n:Nat)(hn:n<=1000)(k:Int):te n k=some ⟨k,sK n,[]⟩:=by
 unfold te
 suffices key:∀(m i:Nat) (t:an),i+m=n->t.aP=k->t.aN=[]->aE (fun(v1:Int×an×(List Int)×Unit)=>
   bif (decide (v1.1<(n:Int)))then
   bif bx 8 (List.length v1.2.2.1+List.length [v1.1])then
   some (Sum.inl ((aB .i64 v1.1 (1:Int)),(an.mk v1.2.1.aP ([]:List Int) v1.2.1.aN),(v1.2.2.1++[v1.1]),()))
   else none
   else
   Option.map Sum.inr (some (an.mk v1.2.1.aP v1.2.2.1 v1.2.1.aN))) ((i:Int),t,sK i,())=some ⟨k,sK n,[]⟩from key n 0 _ (by omega) rfl rfl
 intro m
 induction m with
 |zero=>
  intro i t hi h1 h2;obtain rfl:i=n:=by omega
  refine bU ?_;have hd:decide ((i:Int)<(i:Int))=false:=Qh (Int.lt_irrefl _);simp only[hd,Ql,h1,h2,Qe]
 |succ m ih=>
  intro i t hi h1 h2;have hd:decide ((i:Int)<(n:Int))=true:=Qg (by omega)
  have hw:aB .i64 (i:Int) 1=((i+1:Nat):Int):=bH (by omega) (by omega)
  rw[bl (s':=(((i+1:Nat):Int),⟨t.aP,[],t.aN⟩,sK (i+1),()))]
  ·exact ih (i+1) _ (by omega) h1 h2
  ·simp only[hd,hw,Qk];rw[b0 (by simp;omega)]
   simp[N9]
theorem z1(n:Nat)(hn:n<=10)(k:Int)(h1:1<=k)(h2:k<=n):gC ⟨k,sK n,[]⟩:=by
 refine⟨fun x hx=> ?_,?_,by simpa using hn,.inl rfl,h1,by simpa using h2⟩
 ·simp only[sK,QP,List.mem_range]at hx;obtain⟨i,hi,rfl⟩:=hx;omega
 ·show(sK n).Nodup;exact List.Pairwise.map _ (fun a b h e=>h (by omega)) List.nodup_range
structure KE (ax bB n:Int) (e:ai):Prop where
 ax:e.ar=ax
 bB:e.bp=bB
 seq:1<=e.aF/\e.aF<=9
 aO:gC e.aa
 nodes:∀x∈e.aa.bm,x<n
 ne:e.aa.bm≠[]
 val:Kw e.ab.Value
 valid:fK 0 e=true
theorem DA{b:ae}(h1:1<=b.aj)(h2:b.aj<=1000)(h3:Kw b.Value):cq b=true:=by
 have:=h3.size;have h4:b.Value.size<=200:=by omega
 simp[cq,h1,h2,h4,this.1]
theorem R0{s:dH}(h:lV s){ax bB:Int}(hn0:0<=ax)(hn1:ax<10)(hs0:1<=bB)(hs1:bB<=1000000){n:Nat}(hn2:1<=n)(hn:n<=10):
  Yd (mL s ax bB n) fun p=>lV p.2/\KE ax bB n p.1:=by
 unfold mL;refine(pf h (by omega) (by omega) (by omega)).bind fun p1 ⟨a1,a2,a3,_⟩=> ?_
 have a4:=a3 (by omega)
 refine(Ij a1 hn2 hn).bind fun p2 ⟨b1,b2,b3,b4⟩=> ?_
 refine(Ii b1).bind fun p3 ⟨c1,c2⟩=> ?_
 have c3:=c2.size;have hv:∀k:Int,1<=k->k<=1000->cq ⟨k,p3.1⟩=true:=fun k h1 h2=>DA h1 h2 c2
 simp only[an.eta,ai.eta]
 have hd:∀e:ai,e.ar=ax->e.bp=bB->e.aF=p1.1->vi e=true:=by
  intro e h1 h2 h3;simp only[vi,h1,h2,h3,Qm,Qi];omega
 refine Yd.join (fun v=>lV v.1/\KE ax bB n v.2.1) (fun v hv=>Yd.some hv) fun j5 hj5=> ?_
 refine(q8 c1 (by omega)).bind fun p6 ⟨d1,_⟩=> ?_
 refine Yd.join (fun v=>lV v.1/\v.2.1=ai.mk ax bB p1.1 p2.1 0 ⟨0,fb⟩ ⟨0,fb⟩ ⟨0,fb⟩ 0 0) (fun v ⟨hv1,hv2⟩=> ?_) fun j8 hj8=> ?_
 ·
  refine Yd.join (fun v=>lV v.1/\KE ax bB n v.2.1) (fun v hv=>hj5 _ hv) fun j10 hj10=> ?_
  refine(pf hv1 (by omega) (by omega) (by omega)).bind fun p11 ⟨e1,e2,e3,_⟩=> ?_
  have e4:=e3 (by omega)
  simp only[hv2];refine Yd.join (fun v=>lV v.1/\v.2.1.ar=ax/\v.2.1.bp=bB/\v.2.1.aF=p1.1/\v.2.1.aa=p2.1/\v.2.1.bs=1/\v.2.1.ab=⟨p11.1,p3.1⟩/\(aA v.2.1.ao=true\/cq v.2.1.ao=true)) (fun v ⟨f0,f1,f2,f3,f4,f5,f6,f7⟩=> ?_) fun j13 hj13=> ?_
  ·rw[f6];have g1:aB .i64 p11.1 1=p11.1+1:=bH (by omega) (by omega)
   simp only[g1];refine(q8 f0 (by omega)).bind fun p14 ⟨k1,k2,k3,_⟩=> ?_
   have k4:=k3 (by omega)
   have g2:aB .i64 p14.1 1=p14.1+1:=bH (by omega) (by omega)
   simp only[g2];refine(q8 k1 (by omega)).bind fun p15 ⟨l1,l2,l3,_⟩=> ?_
   have hTr:∀t,t=p2.1->fo t=some 0:=fun t ht=>by rw[ht];exact nG b2
   have done:∀e:ai,e.ar=ax->e.bp=bB->e.aF=p1.1->e.aa=p2.1->e.ab=⟨p11.1,p3.1⟩->fK 0 e=true->KE ax bB n e:=by
    intro e h1 h2 h3 h4 h5 h6;exact⟨h1,h2,by rw[h3];exact⟨a2,a4⟩,by rw[h4];exact b2,by rw[h4];exact b3,by rw[h4];exact b4,by rw[h5];exact c2,h6⟩
   refine Yd.join (fun w=>w.1.ar=ax/\w.1.bp=bB/\w.1.aF=p1.1/\w.1.aa=p2.1/\w.1.bs=1/\w.1.ab=⟨p11.1,p3.1⟩/\(aA w.1.ao=true\/cq w.1.ao=true)/\(fK 0 w.1=true\/w.1.aI=0)) (fun w ⟨m1,m2,m3,m4,m5,m6,m7,m8⟩=> ?_) fun j17 hj17=> ?_
   ·refine Yd.join (fun w=>w.1.ar=ax/\w.1.bp=bB/\w.1.aF=p1.1/\w.1.aa=p2.1/\w.1.bs=1/\w.1.ab=⟨p11.1,p3.1⟩/\(aA w.1.ao=true\/cq w.1.ao=true)/\(fK 0 w.1=true\/w.1.aI=0/\w.1.aR=0)) (fun w ⟨o1,o2,o3,o4,o5,o6,o7,o8⟩=> ?_) fun j19 hj19=> ?_
    ·rw[po (hTr _ o4)];simp only[Qa,BI];refine Yd.cond (fun hx=>hj10 _ ⟨l1,done _ o1 o2 o3 o4 o6 hx⟩) (fun hx=>hj10 _ ⟨l1,done _ o1 o2 o3 o4 o6 ?_⟩)
     rcases o8 with o8|⟨o8,o9⟩
     ·rw[o8]at hx;cases hx
     ·have q1:finite w.1.ab=true:=by rw[o6];simp[finite,hv p11.1 e2 (by omega)];omega
      have q2:aA (ae.mk 0 (ByteArray.mk #[]))=true:=by decide+kernel
      have q3:(aA w.1.ao||cq w.1.ao)=true:=by simpa using o7
      have q4:=hd w.1 o1 o2 o3;have q5:0<=w.1.ab.aj:=by rw[o6];show 0<=p11.1;omega
      simp only[fK,vi,fL,yh,o5,o8,o9,q1,q2,q3,Qt]at q4 ⊢;simp[q4,q5]
    ·rw[po (hTr _ m4)];simp only[Qa,BI];refine Yd.cond (fun hx=>hj19 _ ⟨m1,m2,m3,m4,m5,m6,m7,.inl hx⟩) (fun hx=>hj19 _ ⟨m1,m2,m3,m4,m5,m6,m7,.inr ⟨?_,rfl⟩⟩)
     rcases m8 with m8|m8
     ·rw[m8]at hx;cases hx
     ·exact m8
   ·rw[po (e:=ai.mk v.2.1.ar v.2.1.bp v.2.1.aF v.2.1.aa v.2.1.bs ⟨p11.1,p3.1⟩ v.2.1.ao v.2.1.aw p15.1 p14.1) (tv:=0) (hTr _ f4)];simp only[Qa,BI];refine Yd.cond (fun hx=>hj17 _ ⟨f1,f2,f3,f4,f5,rfl,f7,.inl hx⟩) (fun hx=>hj17 _ ⟨f1,f2,f3,f4,f5,rfl,f7,.inr rfl⟩)
  ·refine(q8 e1 (by omega)).bind fun p23 ⟨k1,_⟩=> ?_
   refine Yd.cond (fun _=> ?_) (fun _=> ?_)
   ·refine(VZ k1).bind fun p24 ⟨l1,l2,l3,l4⟩=> ?_
    refine(q8 l1 (by omega)).bind fun p25 ⟨m1,_⟩=> ?_
    have hvl:=DA (b:=p24.1) l2 (by omega) l4
    refine Yd.cond (fun _=> ?_) (fun _=> ?_)
    ·refine(VZ m1).bind fun p26 ⟨o1,_⟩=> ?_
     exact hj13 _ ⟨o1,rfl,rfl,rfl,rfl,rfl,rfl,.inr hvl⟩
    ·exact hj13 _ ⟨m1,rfl,rfl,rfl,rfl,rfl,rfl,.inr hvl⟩
   ·have z0:aA (ae.mk 0 fb)=true:=by decide+kernel
    exact hj13 _ ⟨k1,rfl,rfl,rfl,rfl,rfl,rfl,.inl z0⟩
 ·have z0:aA (ae.mk 0 (ByteArray.mk #[]))=true:=by decide+kernel
  refine Yd.cond (fun _=> ?_) (fun _=> ?_)
  ·refine(pf d1 (by omega) (by omega) (by omega)).bind fun p27 ⟨e1,e2,e3,_⟩=> ?_
   refine(pf e1 (by omega) (by omega) (by omega)).bind fun p28 ⟨f1,f2,f3,_⟩=> ?_
   refine(q8 f1 (by omega)).bind fun p29 ⟨k1,k2,k3,_⟩=> ?_
   refine(q8 k1 (by omega)).bind fun p30 ⟨l1,l2,l3,_⟩=> ?_
   have e4:=e3 (by omega)
   have f4:=f3 (by omega)
   have k4:=k3 (by omega)
   have l4:=l3 (by omega)
   have g1:aB .i64 p28.1 p29.1=p28.1+p29.1:=bH (by omega) (by omega)
   have g2:aB .i64 (p28.1+p29.1) p30.1=p28.1+p29.1+p30.1:=bH (by omega) (by omega)
   simp only[g1,g2];refine hj5 _ ⟨l1,⟨rfl,rfl,⟨a2,a4⟩,b2,b3,b4,c2,?_⟩⟩;have q4:=hd ⟨ax,bB,p1.1,p2.1,2,⟨p27.1,p3.1⟩,⟨p28.1+p29.1+p30.1,p3.1⟩,⟨0,ByteArray.mk #[]⟩,p28.1,p28.1+p29.1⟩ rfl rfl rfl;have q5:=hv p27.1 e2 (by omega)
   have q6:=hv (p28.1+p29.1+p30.1) (by omega) (by omega)
   have r1:p27.1<=1000:=by omega
   have r2:p28.1<=p28.1+p29.1:=by omega
   have r3:p28.1+p29.1<=1000:=by omega
   have r4:p28.1+p29.1<=p28.1+p29.1+p30.1:=by omega
   simp[fK,q4,qX,finite,q5,q6,bC,z0,pB,r1,f2,r3,r4];omega
  ·refine Yd.cond (fun _=> ?_) (fun _=> ?_)
   ·refine(q8 d1 (by omega)).bind fun p31 ⟨e1,_⟩=> ?_
    refine Yd.cond (fun _=> ?_) (fun _=>hj8 _ ⟨e1,rfl⟩)
    refine(pf e1 (by omega) (by omega) (by omega)).bind fun p32 ⟨f1,f2,f3,_⟩=> ?_
    refine(pf f1 (by omega) (by omega) (by omega)).bind fun p33 ⟨k1,k2,k3,_⟩=> ?_
    refine(q8 k1 (by omega)).bind fun p34 ⟨l1,l2,l3,_⟩=> ?_
    have f4:=f3 (by omega)
    have k4:=k3 (by omega)
    have l4:=l3 (by omega)
    have g1:aB .i64 p33.1 p34.1=p33.1+p34.1:=bH (by omega) (by omega)
    simp only[g1];refine hj5 _ ⟨l1,⟨rfl,rfl,⟨a2,a4⟩,b2,b3,b4,c2,?_⟩⟩;have q4:=hd ⟨ax,bB,p1.1,p2.1,3,⟨p32.1,p3.1⟩,⟨0,ByteArray.mk #[]⟩,⟨0,ByteArray.mk #[]⟩,p33.1,p33.1+p34.1⟩ rfl rfl rfl;have q5:=hv p32.1 f2 (by omega)
    have r3:p33.1+p34.1<=1000:=by omega
    simp[fK,q4,wJ,q5,z0,pB,k2,r3];omega
   ·exact hj8 _ ⟨d1,rfl⟩
end Go.Proofs.YtkgenianmdfmdaaGreat
namespace Go.Proofs.YtkgenianmdfmdaaGreat
open Go.TQ
inductive dD:an->Prop where
 |mk (t:an) (h1:t.bm.length<=1000000) (h2:t.aN.length<=1000000) (h3:∀u∈t.aN,dD u):dD t
theorem dD.nodes{t:an}:dD t->t.bm.length<=1000000| .mk _ h _ _=>h
theorem dD.len{t:an}:dD t->t.aN.length<=1000000| .mk _ _ h _=>h
theorem dD.inner{t:an}:dD t->∀u∈t.aN,dD u| .mk _ _ _ h=>h
theorem qP{t u:an}(h:u∈t.aN):SizeOf.sizeOf u<SizeOf.sizeOf t:=by
 have h1:=List.sizeOf_lt_of_mem h
 cases t with
 |mk th ns is=>
  simp only[an.mk.sizeOf_spec]at h1 ⊢;omega
theorem gC.sm{t:an}(h:gC t):dD t:=by
 have:=h.len;refine .mk t (by omega) ?_ fun u hu=> ?_
 ·rcases h.inner with e|⟨x,_,_,e⟩<;>rw[e]<;>simp
 ·rcases h.inner with e|⟨x,_,_,e⟩
  ·rw[e]at hu;cases hu
  ·rw[e]at hu;simp only[List.mem_singleton]at hu;subst hu;exact .mk _ (by simp) (by simp) (by simp)
@[simp] theorem Xj (l:List Int) (h:l.length<=1000000):ky l=some l:=by
 unfold ky;rw[b0 (by simp;omega)]
 cases l with
 |nil=>simp
 |cons x l=>simp
theorem Xz{n:Nat}:∀{t:an},SizeOf.sizeOf t<n->dD t->sb n (t,())=some t:=by
 induction n with
 |zero=>intro t h;omega
 |succ n ih=>
  intro t hs hm;show sg (sb n) t=some t;unfold sg;have hl:=hm.len;rw[Xj _ hm.nodes,Qa]
  suffices key:∀(k i:Nat) (t':an),i+k=t.aN.length->t'.aP=t.aP->t'.bm=t.bm->aE (fun(v2:Int×an×(List an)×Unit)=>
    bif (decide (v2.1<((List.length t.aN:Nat):Int)))then
    Option.bind (idx t.aN v2.1) fun x3=>
    Option.bind (sb n ((an.mk x3.aP x3.bm x3.aN),())) fun r4=>
    bif bx 56 (List.length v2.2.2.1+List.length [(an.mk r4.aP r4.bm r4.aN)])then
    some (Sum.inl ((aB .i64 v2.1 (1:Int)),(an.mk v2.2.1.aP v2.2.1.bm ([]:List an)),(v2.2.2.1++[(an.mk r4.aP r4.bm r4.aN)]),()))
    else none
    else
    Option.map Sum.inr (some (an.mk v2.2.1.aP v2.2.1.bm v2.2.2.1))) ((i:Int),t',t.aN.take i,())=some t by
   have:=key t.aN.length 0 ⟨t.aP,t.bm,[]⟩ (by omega) rfl rfl
   simpa using this
  intro k
  induction k with
  |zero=>
   intro i t' hi h1 h2;refine bU ?_;have hd:decide ((i:Int)<((t.aN.length:Nat):Int))=false:=Qh (by omega)
   simp only[hd,Ql,Qe,h1,h2];rw[List.take_of_length_le (by omega),an.eta]
  |succ k ihk=>
   intro i t' hi h1 h2;have hlt:i<t.aN.length:=by omega
   have hd:decide ((i:Int)<((t.aN.length:Nat):Int))=true:=Qg (by omega)
   have hx:idx t.aN (i:Int)=some t.aN[i]:=by rw[bz];exact Qv hlt
   have hw:aB .i64 (i:Int) 1=((i+1:Nat):Int):=bH (by omega) (by omega)
   have hmem:t.aN[i]∈t.aN:=Q0 hlt;have hr:=ih (t:=t.aN[i]) (by have:=qP hmem;omega) (hm.inner _ hmem)
   rw[bl (s':=(((i+1:Nat):Int),⟨t'.aP,t'.bm,[]⟩,t.aN.take (i+1),()))]
   ·exact ihk (i+1) _ (by omega) h1 h2
   ·simp only[hd,Qk,hx,hw,Qa,an.eta,hr];rw[b0 (by simp;omega),List.take_succ_eq_append_getElem hlt]
    rfl
@[simp] theorem uB {t:an} (h:dD t):kp t=some t:=Xz (by omega) h
theorem wI{α σ ρ:Type}{g:α->σ->Option (σ⊕ρ)}{fin:σ->Option ρ}(hf:∀s,∃r,fin s=some r):∀(l:List α),(∀x∈l,∀s,∃y,g x s=some y)->∀s,∃r,eG g fin l s=some r
 |[],_,s=>hf s
 |x::l,h,s=>by
  obtain⟨y,hy⟩:=h x (by simp) s
  rw[eG,hy]
  cases y with
  |inr r=>exact⟨r,rfl⟩
  |inl s'=>exact wI hf l (fun x hx=>h x (by simp[hx])) s'
theorem GP{α σ ρ:Type}{g g':α->σ->Option (σ⊕ρ)}{fin:σ->Option ρ}:∀(l:List α),(∀x∈l,∀s,g x s=g' x s)->∀s,eG g fin l s=eG g' fin l s
 |[],_,s=>rfl
 |x::l,h,s=>by
  rw[eG,eG,h x (by simp) s]
  cases g' x s with
  |none=>rfl
  |some y=>
   cases y with
   |inr r=>rfl
   |inl s'=>exact GP l (fun x hx=>h x (by simp[hx])) s'
theorem RR{n:Nat}:∀{t:an},SizeOf.sizeOf t<n->dD t->∃d,lC n (t,())=some d:=by
 induction n with
 |zero=>intro t h;omega
 |succ n ih=>
  intro t hs hm;show∃d,iC (lC n) t=some d;have hl:=hm.len;rw[LR (by omega)]
  refine wI (fun s=>⟨_,rfl⟩) _ (fun u hu s=> ?_) _
  obtain⟨d,hd⟩:=ih (t:=u) (by have:=qP hu;omega) (hm.inner u hu)
  exact⟨_,by rw[hd];rfl⟩
theorem Ti{n:Nat}:∀{t:an},SizeOf.sizeOf t<n->dD t->∃d,my n (t,())=some d:=by
 induction n with
 |zero=>intro t h;omega
 |succ n ih=>
  intro t hs hm;show∃d,jg (my n) t=some d;have hl:=hm.len;rw[Ro (by omega)]
  refine wI (fun s=>⟨_,rfl⟩) _ (fun u hu s=> ?_) _
  obtain⟨d,hd⟩:=ih (t:=u) (by have:=qP hu;omega) (hm.inner u hu)
  exact⟨_,by rw[hd];rfl⟩
theorem O4{rec:an->Option Int}{t:an}(h:∀u∈t.aN,∃r,rec u=some r):∃r,om rec t=some r:=by
 unfold om;split
 ·exact⟨_,rfl⟩
 ·split
  ·exact⟨_,rfl⟩
  ·split
   ·refine wI (fun s=>⟨_,rfl⟩) _ (fun u hu s=> ?_) _
    obtain⟨r,hr⟩:=h u hu;exact⟨_,by rw[hr];rfl⟩
   ·exact⟨_,rfl⟩
theorem O5{rec rec':an->Option Int}{t:an}(h:∀u∈t.aN,rec u=rec' u):om rec t=om rec' t:=by
 unfold om;rw[GP _ fun u hu s=>by rw[h u hu]]
theorem RL{n:Nat}:∀{t:an},SizeOf.sizeOf t<n->dD t->∃d,il n (t,())=some d/\mY n (t,())=some d:=by
 induction n with
 |zero=>intro t h;omega
 |succ n ih=>
  intro t hs hm;show∃d,iB (il n) t=some d/\lx (mY n) t=some d;have hl:=hm.len;have hn:=hm.nodes;rw[LQ (by omega) (by omega),LS (by omega) (by omega)]
  have hih:∀u∈t.aN,∃r,il n (u,())=some r/\mY n (u,())=some r:=fun u hu=>ih (t:=u) (by have:=qP hu;omega) (hm.inner u hu)
  obtain⟨r,hr⟩:=O4 (rec:=fun u=>il n (u,())) (t:=t) fun u hu=>by obtain⟨r,h1,_⟩:=hih u hu;exact⟨r,h1⟩
  refine⟨r,hr,?_⟩;rw[<-hr];refine O5 fun u hu=> ?_
  obtain⟨r,h1,h2⟩:=hih u hu;rw[h1,h2]
theorem Il{t:an}(h:dD t):∃v,dE t=some v/\fo t=some v:=by
 obtain⟨d,hd⟩:∃d,jL t=some d:=RR (by omega) h
 obtain⟨z,hz⟩:∃z,ke t=some z:=Ti (by omega) h
 obtain⟨l,hl1,hl2⟩:∃l,lD t=some l/\pJ t=some l:=RL (by omega) h
 simp[dE,fo,Mh,OC,hd,hz,hl1,hl2]
 def DB(t:an):Int:=(dE t).getD 1
theorem R3{t:an}(h:dD t):dE t=some (DB t):=by
 obtain⟨v,h1,_⟩:=Il h;rw[DB,h1];rfl
theorem V9{t:an}(h:dD t):fo t=some (DB t):=by
 obtain⟨v,h1,h2⟩:=Il h;rw[DB,h1,h2];rfl
theorem LW{t:an}(h:gC t):DB t=0:=by rw[DB,nS h];rfl
 def aL(e:ai):Bool:=fK (DB e.aa) e
theorem nQ{e:ai}(h:dD e.aa):cU e=some (aL e):=vz (R3 h)
theorem gm{e:ai}(h:dD e.aa):bY e=some (aL e):=po (V9 h)
def jR(s:Nat)(x:Int):Bool:=dV x&&s.testBit x.toNat
theorem oZ{s:Nat}(h:s<1024)(x:Int):wc s x=jR s x:=by
 have h1:decide (0<=(s:Int))=true:=Qg (by omega)
 have h2:decide ((s:Int)<1024)=true:=Qg (by omega)
 simp only[wc,jR,h1,h2,Bool.true_and,QV]
mutual
def jw(s:Nat):an->Bool
 |⟨th,ns,is⟩=>decide (th<=((ns.countP (jR s)+tG s is:Nat):Int))
def tG(s:Nat):List an->Nat
 |[]=>0
 |t::l=>(if jw s t then 1 else 0)+tG s l
end
theorem Fj(s:Nat)(t:an):jw s t=decide (t.aP<=((t.bm.countP (jR s)+tG s t.aN:Nat):Int)):=by
 cases t;rw[jw]
theorem CR(s:Nat)(hs:s<1024)(fin:Int->Option Bool):∀(l:List Int) (n:Nat),n+l.length<=9000000->
  eG (fun x (m:Int)=>some (.inl (if wc s x then aB .i64 m 1 else m))) fin l n=fin ((n+l.countP (jR s):Nat):Int)
 |[],n,_=>by simp[eG]
 |x::l,n,h=>by
  simp at h;rw[eG,oZ hs,List.countP_cons]
  cases hx:jR s x with
  |false=>
   simp only[Qq,Qu,Nat.add_zero];exact CR s hs fin l n (by omega)
  |true=>
   simp only[Qt];rw[bH (by omega) (by omega)]
   rw[show(n:Int)+1=((n+1:Nat):Int)by omega,CR s hs fin l (n+1) (by omega)]
   congr 2;omega
theorem Hb(s:Nat)(rec:an->Option Bool)(fin:Int->Option Bool):∀(l:List an) (n:Nat),n+l.length<=9000000->(∀u∈l,rec u=some (jw s u))->
  eG (fun u (m:Int)=>(rec u).map fun r=> .inl (if r then aB .i64 m 1 else m)) fin l n=fin ((n+tG s l:Nat):Int)
 |[],n,_,_=>by simp[eG,tG]
 |u::l,n,h,hr=>by
  simp at h;rw[eG,hr u (by simp),tG]
  cases hx:jw s u with
  |false=>
   simp only[Qe,Qq,Qu,Nat.zero_add];exact Hb s rec fin l n (by omega) fun u hu=>hr u (by simp[hu])
  |true=>
   simp only[Qe,Qt];rw[bH (by omega) (by omega)]
   rw[show(n:Int)+1=((n+1:Nat):Int)by omega,Hb s rec fin l (n+1) (by omega) fun u hu=>hr u (by simp[hu])]
   congr 2;omega
theorem abW{rec:(an×Int×Unit)->Option Bool}{t:an}{s:Nat}(hs:s<1024)(hm:dD t)(hr:∀u∈t.aN,rec (u,(s:Int),())=some (jw s u)):fB rec t s=some (jw s t):=by
 unfold fB;have hn:=hm.nodes;have hl:=hm.len;have hv:eu (s:Int)=some true:=by rw[FJ];simp;omega
 rw[hv];simp only[Qa,Qo,Ql,aU];rw[gb t.bm (by omega) (fun i (m:Int)=>(m,i,())) (fun x (m:Int)=>some (.inl (if wc s x then aB .i64 m 1 else m))) (fun m=>eG (fun u (m:Int)=>(rec (u,(s:Int),())).map fun r=> .inl (if r then aB .i64 m 1 else m)) (fun m=>some (decide (t.aP<=m))) t.aN m) (fun i x m hd hx hw=> ?_) (fun m hd=> ?_) 0]
 ·rw[show(0:Int)=((0:Nat):Int)from rfl,CR s hs _ t.bm 0 (by omega)]
  rw[Hb s (fun u=>rec (u,(s:Int),())) _ t.aN _ (by have:=List.countP_le_length (p:=jR s) (l:=t.bm);omega) hr,Fj]
  simp
 ·simp only[hd,hx,hw,Qk,Qa,km];cases wc s x<;>rfl
 ·simp only[hd,Ql];rw[gb t.aN (by omega) (fun i (m:Int)=>(m,i,())) (fun u (m:Int)=>(rec (u,(s:Int),())).map fun r=> .inl (if r then aB .i64 m 1 else m)) (fun m=>some (decide (t.aP<=m))) (fun i x m hd hx hw=> ?_) (fun m hd=> ?_) m]
  ·simp only[hd,hx,hw,Qk,Qa,an.eta]
   cases rec (x,(s:Int),())with
   |none=>rfl
   |some r=>cases r<;>rfl
  ·simp only[hd,Ql]
theorem abT{s:Nat}(hs:s<1024){n:Nat}:∀{t:an},SizeOf.sizeOf t<n->dD t->kW n (t,(s:Int),())=some (jw s t):=by
 induction n with
 |zero=>intro t h;omega
 |succ n ih=>
  intro t hz hm;show fB (kW n) t s=some (jw s t);exact abW hs hm fun u hu=>ih (t:=u) (by have:=qP hu;omega) (hm.inner u hu)
theorem zh{s:Nat}(hs:s<1024){t:an}(hm:dD t):gI t s=some (jw s t):=abT hs (by omega) hm
theorem Tw(t:an)(s:Int):im t s=gI t s:=by
 have hB:∀(rec:(an×Int×Unit)->Option Bool) (t:an) (s:Int),n9 rec t s=fB rec t s:=by
  intro rec t s;unfold n9 fB
  have hv:et s=eu s:=by
   rw[FJ];unfold et;simp;congr 1;rw[decide_eq_decide];omega
  simp only[hv,se,km]
 unfold im gI xA kW;congr 1;congr 1
 funext rec a
 exact hB rec a.1 a.2.1
theorem C6{s:Nat}(hs:s<1024){t:an}(hm:dD t):im t s=some (jw s t):=by rw[Tw];exact zh hs hm
theorem ML{s s':Nat}(h:∀k,s.testBit k=true->s'.testBit k=true)(x:Int)(hx:jR s x=true):jR s' x=true:=by
 simp only[jR,Qm]at hx ⊢;exact⟨hx.1,h _ hx.2⟩
mutual
theorem L9{s s':Nat}(h:∀k,s.testBit k=true->s'.testBit k=true):∀(t:an),jw s t=true->jw s' t=true
 |⟨th,ns,is⟩,ht=>by
  rw[jw,Qi]at ht ⊢;have h1:=Ma h is;have h2:ns.countP (jR s)<=ns.countP (jR s'):=List.countP_mono_left fun x _ hx=>ML h x hx
  omega
theorem Ma{s s':Nat}(h:∀k,s.testBit k=true->s'.testBit k=true):∀(l:List an),tG s l<=tG s' l
 |[]=>by simp[tG]
 |t::l=>by
  have h1:=Ma h l;have h2:=L9 h t;rw[tG,tG]
  cases hs:jw s t with
  |false=>simp;omega
  |true=>rw[h2 hs];simp;omega
end
end Go.Proofs.YtkgenianmdfmdaaGreat
namespace Go.Proofs.YtkgenianmdfmdaaGreat
open Go.TQ
theorem Ym(s:Int):et s=some (decide (0<=s)&&decide (s<1024)):=by
 unfold et;simp;congr 1;rw[decide_eq_decide];omega
theorem xF{s:Nat}(h:s<1024):eu (s:Int)=some true:=by rw[FJ];simp;omega
theorem sR{s:Nat}(h:s<1024):et (s:Int)=some true:=by rw[Ym];simp;omega
theorem GZ(a b:Nat)(ha:a<2 ^ 62)(hb:b<2 ^ 62):∃c:Nat,wu .i64 (a:Int) (b:Int)=(c:Int)/\c<=a/\∀k,c.testBit k=(a.testBit k&& !b.testBit k):=by
 refine⟨((BitVec.ofInt 64 (a:Int)&&& ~~~ BitVec.ofInt 64 (b:Int)).toNat),?_,?_,fun k=> ?_⟩
 ·have hle:(BitVec.ofInt 64 (a:Int)&&& ~~~ BitVec.ofInt 64 (b:Int)).toNat<=a:=by
   rw[BitVec.toNat_and,qH a ha];exact Nat.and_le_left
  show IntKind.i64.wrap (((BitVec.ofInt 64 (a:Int)&&& ~~~ BitVec.ofInt 64 (b:Int)).toNat:Nat):Int)=_;exact BS _ (by omega)
 ·rw[BitVec.toNat_and,qH a ha];exact Nat.and_le_left
 ·have h1:∀i (x:Nat),x<2 ^ 62->(BitVec.ofInt 64 (x:Int)).getLsbD i=x.testBit i:=by
   intro i x hx;rw[<-BitVec.testBit_toNat,qH x hx]
  rw[BitVec.testBit_toNat,BitVec.getLsbD_and,BitVec.getLsbD_not,h1 k a ha,h1 k b hb]
  by_cases hk:k<64
  ·simp[hk]
  ·have:a.testBit k=false:=Nat.testBit_lt_two_pow (QJ ha (Nat.pow_le_pow_right (by omega) (by omega)))
   simp[this]
theorem ym{a b:Nat}(h:∀k,a.testBit k=b.testBit k):a=b:=Nat.eq_of_testBit_eq h
theorem Kk{s k:Nat}(hs:s<1024)(hk:s.testBit k=true):k<10:=by
 rcases Nat.lt_or_ge k 10 with h|h
 ·exact h
 ·have:s.testBit k=false:=Nat.testBit_lt_two_pow (QJ hs (show 2 ^ 10<=2 ^ k from Nat.pow_le_pow_right (by omega) h))
  rw[this]at hk;cases hk
theorem Bn{s:Nat}(h:∀k,s.testBit k=true->k<10):s<1024:=by
 rcases Nat.lt_or_ge s 1024 with h1|h1
 ·exact h1
 ·obtain⟨k,hk1,hk2⟩:=Nat.exists_ge_and_testBit_of_ge_two_pow (n:=10) h1;have:=h k hk2;omega
theorem qQ(s k:Nat):jR s (k:Int)=(decide (k<10)&&s.testBit k):=by
 have h1:decide ((k:Int)<10)=decide (k<10):=by rw[decide_eq_decide];omega
 have h2:decide (0<=(k:Int))=true:=Qg (by omega)
 simp only[jR,dV,h1,h2,Bool.true_and,QV]
def CO(i:Nat)(s:Nat):List bg->Nat
 |[]=>s
 |m::l=>CO (i+1) (if m.dj&&decide (i<10)then s|||2 ^ i else s) l
def iD(l:List bg):Nat:=CO 0 0 l
theorem MW:∀(l:List bg) (i s k:Nat),(CO i s l).testBit k=(s.testBit k||(decide (i<=k)&&decide (k<10)&&((l[k - i]?).any (·.dj))))
 |[],i,s,k=>by simp[CO]
 |m::l,i,s,k=>by
  rw[CO,MW l (i+1)]
  by_cases hk:k=i
  ·subst hk;have h1:¬(k+1<=k):=by omega
   cases hm:m.dj<;>by_cases hi:k<10<;>simp[hm,hi,h1,Nat.testBit_or]
  ·have h2:i<=k↔i+1<=k:=by omega
   have h3:∀b:Bool,(if(b&&decide (i<10))=true then s|||2 ^ i else s).testBit k=s.testBit k:=by
    intro b;split
    ·rw[Nat.testBit_or,Nat.testBit_two_pow];have:¬i=k:=fun e=>hk e.symm
     simp[this]
    ·rfl
   rw[h3]
   by_cases hik:i+1<=k
   ·have h4:(m::l)[k - i]?=l[k - (i+1)]?:=by
     rw[show k - i=(k - (i+1))+1 by omega,List.getElem?_cons_succ]
    rw[h4];have:i<=k:=by omega
    simp[this,hik]
   ·have:¬i<=k:=by omega
    simp[this,hik]
theorem EU(l:List bg)(k:Nat):(iD l).testBit k=(decide (k<10)&&((l[k]?).any (·.dj))):=by
 rw[iD,MW];simp
theorem y4(l:List bg):iD l<1024:=Bn fun k hk=>by
 rw[EU]at hk;simp at hk;exact hk.1
theorem MV(step:(Int×Int×Unit)->Option ((Int×Int×Unit)⊕Int))(l:List bg)
  (h1:∀(i:Nat) (m:bg) (s:Nat),l[i]?=some m->s<1024->step ((s:Int),(i:Int),())=some (.inl (((if m.dj&&decide (i<10)then s|||2 ^ i else s:Nat):Int),((i+1:Nat):Int),())))
  (h2:∀s:Int,step (s,(l.length:Int),())=some (.inr s)):aE step (0,0,())=some ((iD l:Nat):Int):=by
 suffices key:∀(k i s:Nat),i+k=l.length->s<1024->aE step ((s:Int),(i:Int),())=some ((CO i s (l.drop i):Nat):Int)by
  have:=key l.length 0 0 (by omega) (by omega)
  simpa[iD]using this
 intro k
 induction k with
 |zero=>
  intro i s hi hs;obtain rfl:i=l.length:=by omega
  rw[bU (h2 s),List.drop_length];rfl
 |succ k ih=>
  intro i s hi hs;have hlt:i<l.length:=by omega
  rw[QM hlt,CO,bl (h1 i l[i] s (Qv hlt) hs)];refine ih (i+1) _ (by omega) ?_
  split
  ·rename_i hc;simp only[Qm,Qi]at hc;have:=Jh (x:=(i:Int)) hs (by omega)
   simpa using this
  ·exact hs
theorem G6{c:bq}(h:c.aW.length<=1000000):gQ c=some ((iD c.aW:Nat):Int):=by
 unfold gQ;refine MV _ _ (fun i m s hm hs=> ?_) (fun s=> ?_)
 ·have hlt:i<c.aW.length:=(Qw.1 hm).1;have hd:decide ((i:Int)<((c.aW.length:Nat):Int))=true:=Qg (by omega)
  have hw:aB .i64 (i:Int) 1=((i+1:Nat):Int):=bH (by omega) (by omega)
  have hx:idx c.aW (i:Int)=some m:=by rw[bz];exact hm
  have h0:¬(i:Int)<0:=by omega
  simp only[hd,hx,hw,Qk,Qa,aU,h0,Qu]
  cases m.dj with
  |false=>simp
  |true=>
   by_cases h10:i<10
   ·have:(i:Int)<10:=by omega
    have ho:=yj (x:=(i:Int)) hs (by omega) (by omega)
    simp only[QV]at ho;simp[this,h10,ho]
   ·have:¬(i:Int)<10:=by omega
    simp[this,h10]
 ·have hd:decide (((c.aW.length:Nat):Int)<((c.aW.length:Nat):Int))=false:=Qh (Int.lt_irrefl _);simp only[hd,Ql,Qe]
theorem yI{c:bq}(h:c.aW.length<=1000000):kh c=some ((iD c.aW:Nat):Int):=by
 unfold kh;refine MV _ _ (fun i m s hm hs=> ?_) (fun s=> ?_)
 ·have hlt:i<c.aW.length:=(Qw.1 hm).1;have hd:decide ((i:Int)<((c.aW.length:Nat):Int))=true:=Qg (by omega)
  have hw:aB .i64 (i:Int) 1=((i+1:Nat):Int):=bH (by omega) (by omega)
  have hx:idx c.aW (i:Int)=some m:=by rw[bz];exact hm
  have h0:¬(i:Int)<0:=by omega
  simp only[hd,hx,hw,Qk,Qa,aU,h0,Qu]
  by_cases h10:i<10
  ·have:(i:Int)<10:=by omega
   have ho:=yj (x:=(i:Int)) hs (by omega) (by omega)
   simp only[QV]at ho;cases m.dj<;>simp[this,h10,ho]
  ·have:¬(i:Int)<10:=by omega
   cases m.dj<;>simp[this,h10]
 ·have hd:decide (((c.aW.length:Nat):Int)<((c.aW.length:Nat):Int))=false:=Qh (Int.lt_irrefl _);simp only[hd,Ql,Qe]
structure Ad (c:bq):Prop where
 len:c.aW.length<=1000000
 aO:∀m∈c.aW,dD m.aa
def j0(l:List bg)(k:Nat):an:=((l[k]?).map (·.aa)).getD ⟨0,[],[]⟩
def lA(l:List bg)(k:Nat):Bool:=(iD l).testBit k
theorem vg{l:List bg}{k:Nat}(h:lA l k=true):k<10/\∃m,l[k]?=some m/\m.dj=true:=by
 rw[lA,EU]at h;simp only[Qm,Qi,Option.any_eq_true]at h;obtain⟨h1,m,h2,h3⟩:=h;exact⟨h1,m,h2,h3⟩
theorem pN{l:List bg}{k:Nat}{m:bg}(h:l[k]?=some m):j0 l k=m.aa:=by rw[j0,h];rfl
def vQ(s v:Nat):Nat:=(1023^^^s)|||2 ^ v
def rX(l:List bg)(v s:Nat):Bool:=lA l v&& !jw (vQ s v) (j0 l v)
theorem XG(k:Nat):(1023:Nat).testBit k=decide (k<10):=by
 rw[show(1023:Nat)=2 ^ 10 - 1 from rfl,Nat.testBit_two_pow_sub_one]
theorem xP{s:Nat}(hs:s<1024)(v k:Nat):(vQ s v).testBit k=(decide (k<10)&& !s.testBit k||decide (v=k)):=by
 rw[vQ,Nat.testBit_or,Nat.testBit_xor,XG,Nat.testBit_two_pow]
 by_cases hk:k<10
 ·simp[hk]
 ·have:s.testBit k=false:=by
   cases h:s.testBit k with
   |false=>rfl
   |true=>exact absurd (Kk hs h) hk
  simp[hk,this]
theorem MC{s v:Nat}(hs:s<1024)(hv:v<10):vQ s v<1024:=Bn fun k hk=>by
 rw[xP hs]at hk;simp at hk;omega
theorem RF{s v:Nat}(hs:s<1024)(hv:v<10):uu .i64 (wu .i64 1023 (s:Int)) (iL .i64 1 (v:Int))=((vQ s v:Nat):Int):=by
 obtain⟨c,h1,h2,h3⟩:=GZ 1023 s (by omega) (by omega)
 have h1':wu .i64 1023 (s:Int)=(c:Int):=h1;rw[h1',tF v (by omega),Bl c (2 ^ v) (by omega) (Nat.pow_lt_pow_right (by omega) (by omega))]
 congr 1;refine ym fun k=> ?_
 rw[xP hs,Nat.testBit_or,h3,XG,Nat.testBit_two_pow]
theorem TI{s v:Nat}(hs:s<1024)(hv:v<10):uu .i64 (dz .i64 1023 (s:Int)) (iL .i64 1 (v:Int))=((vQ s v:Nat):Int):=by
 have h1:dz .i64 1023 (s:Int)=((1023 - s:Nat):Int):=by rw[tf (by omega) (by omega)];omega
 rw[h1,tF v (by omega),Bl _ (2 ^ v) (by omega) (Nat.pow_lt_pow_right (by omega) (by omega))]
 congr 1;refine ym fun k=> ?_
 rw[xP hs,Nat.testBit_or,Nat.testBit_two_pow]
 have h2:(1023 - s).testBit k=(decide (k<10)&& !s.testBit k):=by
  have:=Nat.testBit_two_pow_sub_succ (x:=s) (n:=10) (by omega) k
  rw[show 2 ^ 10 - (s+1)=1023 - s by omega]at this
  exact this
 rw[h2]
theorem Na{c:bq}(hc:Ad c){v s:Nat}(hs:s<1024):lK c v s=some (rX c.aW v s):=by
 unfold lK rX;rw[xF hs,G6 hc.len];simp only[Qa,Qo,Ql,km,oZ (y4 _),qQ]
 cases hd:lA c.aW v with
 |false=>
  have:(decide (v<10)&&(iD c.aW).testBit v)=false:=by
   rw[show(iD c.aW).testBit v=lA c.aW v from rfl,hd];simp
  simp[this]
 |true=>
  obtain⟨h10,m,hm,hdm⟩:=vg hd
  have:(decide (v<10)&&(iD c.aW).testBit v)=true:=by
   rw[show(iD c.aW).testBit v=lA c.aW v from rfl,hd];simp[h10]
  rw[bz,hm,RF hs h10];have h0:¬(v:Int)<0:=by omega
  have hmem:m∈c.aW:=List.mem_of_getElem? hm;simp only[this,Qo,Ql,Qa,h0,Qu,an.eta,zh (MC hs h10) (hc.aO m hmem),pN hm,Bool.true_and]
theorem Jb{c:bq}(hc:Ad c){v s:Nat}(hs:s<1024):me c v s=some (rX c.aW v s):=by
 unfold me rX;rw[sR hs,yI hc.len];simp only[Qa,Qo,Ql,se,oZ (y4 _),qQ]
 cases hd:lA c.aW v with
 |false=>
  have:(decide (v<10)&&(iD c.aW).testBit v)=false:=by
   rw[show(iD c.aW).testBit v=lA c.aW v from rfl,hd];simp
  simp[this]
 |true=>
  obtain⟨h10,m,hm,hdm⟩:=vg hd
  have:(decide (v<10)&&(iD c.aW).testBit v)=true:=by
   rw[show(iD c.aW).testBit v=lA c.aW v from rfl,hd];simp[h10]
  rw[bz,hm,TI hs h10];have h0:¬(v:Int)<0:=by omega
  have hmem:m∈c.aW:=List.mem_of_getElem? hm;simp only[this,Qo,Ql,Qa,h0,Qu,an.eta,C6 (MC hs h10) (hc.aO m hmem),pN hm,Bool.true_and]
end Go.Proofs.YtkgenianmdfmdaaGreat
namespace Go.Proofs.YtkgenianmdfmdaaGreat
open Go.TQ
def pD(s:Nat):List Int:=(sK 10).filter (jR s)
theorem YP{n:Nat}{x:Int}:x∈sK n↔∃k:Nat,k<n/\x=k:=by
 simp only[sK,QP,List.mem_range];exact⟨fun⟨k,h1,h2⟩=>⟨k,h1,h2.symm⟩,fun⟨k,h1,h2⟩=>⟨k,h1,h2.symm⟩⟩
theorem xS{s:Nat}{x:Int}:x∈pD s↔∃k:Nat,k<10/\x=k/\s.testBit k=true:=by
 rw[pD,List.mem_filter,YP];constructor
 ·rintro⟨⟨k,h1,rfl⟩,h2⟩;rw[qQ]at h2;simp at h2;exact⟨k,h1,rfl,h2.2⟩
 ·rintro⟨k,h1,rfl,h2⟩;exact⟨⟨k,h1,rfl⟩,by rw[qQ];simp[h1,h2]⟩
theorem Js(step:(Int×List Int×Unit)->Option ((Int×List Int×Unit)⊕List Int))(s:Nat)
  (h1:∀(i:Nat) (acc:List Int),i<10->acc.length<=i->step ((i:Int),acc,())=some (.inl (((i+1:Nat):Int),(if jR s i then acc++[(i:Int)]else acc),())))
  (h2:∀acc,step (((10:Nat):Int),acc,())=some (.inr acc)):aE step (0,[],())=some (pD s):=by
 suffices key:∀(k i:Nat) (acc:List Int),i+k=10->acc=(sK i).filter (jR s)->aE step ((i:Int),acc,())=some (pD s)from key 10 0 [] rfl rfl
 intro k
 induction k with
 |zero=>
  intro i acc hi ha;obtain rfl:i=10:=by omega
  rw[bU (h2 acc),ha];rfl
 |succ k ih=>
  intro i acc hi ha;have hlen:acc.length<=i:=by rw[ha];exact QK (List.length_filter_le _ _) (by simp)
  rw[bl (h1 i acc (by omega) hlen)]
  refine ih (i+1) _ (by omega) ?_
  rw[N9,List.filter_append,<-ha];cases hh:jR s i<;>simp[hh]
theorem Xv{s:Nat}(hs:s<1024):qn (s:Int)=some (pD s):=by
 unfold qn;refine Js _ s (fun i acc hi hl=> ?_) (fun acc=> ?_)
 ·have hd:decide ((i:Int)<10)=true:=Qg (by omega)
  have hw:aB .i64 (i:Int) 1=((i+1:Nat):Int):=bH (by omega) (by omega)
  simp only[hd,hw,Qk,aU,km,oZ hs,Qa];rw[b0 (by simp;omega)]
  cases jR s i<;>simp
 ·rfl
theorem UU{s:Nat}(hs:s<1024):pL (s:Int)=some (pD s):=by
 unfold pL;refine Js _ s (fun i acc hi hl=> ?_) (fun acc=> ?_)
 ·have hd:decide ((i:Int)<10)=true:=Qg (by omega)
  have hw:aB .i64 (i:Int) 1=((i+1:Nat):Int):=bH (by omega) (by omega)
  simp only[hd,hw,Qk,aU,se,oZ hs,Qa];rw[b0 (by simp;omega)]
  cases jR s i<;>simp
 ·rfl
def BN(l:List bg)(s r:Nat):Prop:=∀k,r.testBit k=true->s.testBit k=true/\lA l k=true/\jw r (j0 l k)=true
structure wx (l:List bg) (s q:Nat):Prop where
 inside:BN l s q
 max:∀r,BN l s r->∀k,r.testBit k=true->q.testBit k=true
theorem wx.unique{l:List bg}{s q q':Nat}(h:wx l s q)(h':wx l s q'):q=q':=by
 refine ym fun k=> ?_
 rw[QW];exact⟨h'.max q h.inside k,h.max q' h'.inside k⟩
theorem wx.lt{l:List bg}{s q:Nat}(h:wx l s q):q<1024:=Bn fun k hk=>(vg (h.inside k hk).2.1).1
def nL(l:List bg)(s:Nat):Option Int:=(pD s).find? fun x=> !jw s (j0 l x.toNat)
theorem C5{l:List bg}{s:Nat}{x:Int}(h:nL l s=some x):∃k:Nat,x=k/\k<10/\s.testBit k=true/\jw s (j0 l k)=false:=by
 have h1:=List.mem_of_find?_eq_some h;have h2:=List.find?_some h;obtain⟨k,hk,rfl,hb⟩:=xS.1 h1;simp at h2;exact⟨k,rfl,hk,hb,h2⟩
theorem Nb{l:List bg}{s:Nat}(hs:s<1024)(h:nL l s=none):∀k,s.testBit k=true->jw s (j0 l k)=true:=by
 intro k hk;have:=List.find?_eq_none.1 h (k:Int) (xS.2 ⟨k,Kk hs hk,rfl,hk⟩);simpa using this
theorem Yj:∀s,s<1024->∀k,k<10->s.testBit k=true->s - 2 ^ k=s^^^2 ^ k:=by decide+kernel
theorem Fi{s k:Nat}(hs:s<1024)(hk:s.testBit k=true):2 ^ k<=s/\∀j,(s - 2 ^ k).testBit j=(s.testBit j&& !decide (k=j)):=by
 have hle:2 ^ k<=s:=Nat.ge_two_pow_of_testBit hk;refine⟨hle,?_⟩;have hx:s - 2 ^ k=s^^^2 ^ k:=Yj s hs k (Kk hs hk) hk;intro j;rw[hx,Nat.testBit_xor,Nat.testBit_two_pow]
 by_cases hj:k=j
 ·subst hj;simp[hk]
 ·simp[hj]
structure oK (l:List bg) (s0 s:Nat):Prop where
 lt:s<1024
 sub:∀k,s.testBit k=true->s0.testBit k=true/\lA l k=true
 max:∀r,BN l s0 r->∀k,r.testBit k=true->s.testBit k=true
theorem oK.first(l:List bg){s:Nat}(hs:s<1024):oK l s (s&&&iD l):=by
 refine⟨Nat.lt_of_le_of_lt Nat.and_le_left hs,fun k hk=> ?_,fun r hr k hk=> ?_⟩
 ·rw[Nat.testBit_and,Qm]at hk;exact hk
 ·rw[Nat.testBit_and,Qm];exact⟨(hr k hk).1,(hr k hk).2.1⟩
theorem oK.next{l:List bg}{s0 s k:Nat}(h:oK l s0 s)(hk:s.testBit k=true)(hu:jw s (j0 l k)=false):oK l s0 (s - 2 ^ k):=by
 obtain⟨h1,h2⟩:=Fi h.lt hk;refine⟨Nat.lt_of_le_of_lt (Nat.sub_le _ _) h.lt,fun j hj=> ?_,fun r hr j hj=> ?_⟩
 ·rw[h2]at hj;simp at hj;exact h.sub j hj.1
 ·rw[h2,h.max r hr j hj]
  have:k≠j:=by
   intro e;subst e;have:=L9 (fun i hi=>h.max r hr i hi) _ (hr k hj).2.2
   rw[hu]at this;cases this
  simp[this]
theorem oK.done{l:List bg}{s0 s:Nat}(h:oK l s0 s)(hn:nL l s=none):wx l s0 s:=
 ⟨fun k hk=>⟨(h.sub k hk).1,(h.sub k hk).2,Nb h.lt hn k hk⟩,h.max⟩
theorem MP{l:List Int}{ρ:Type}{f:Int->Bool}{hit:Int->ρ}{fin:Unit->Option ρ}{g:Int->Unit->Option (Unit⊕ρ)}(hg:∀x∈l,∀s,g x s=some (if f x then .inr (hit x)else .inl ())):
  eG g fin l ()=match l.find? f with|some x=>some (hit x)|none=>fin ():=by
 induction l with
 |nil=>rfl
 |cons x l ih=>
  rw[eG,hg x (by simp),List.find?_cons]
  cases hx:f x with
  |true=>simp
  |false=>
   simp only[Qq,Qu];exact ih fun y hy=>hg y (by simp[hy])
theorem Jt(s:Nat):(pD s).length<=10:=QK (List.length_filter_le _ _) (by simp)
theorem Tf{c:bq}(hc:Ad c){s:Nat}(hs:s<1024)(hsub:∀k,s.testBit k=true->lA c.aW k=true):
  lI c s=some (match nL c.aW s with|some x=>(x,true,())|none=>(0,false,())):=by
 unfold lI;rw[Xv hs,Qa];have hlen:=Jt s;rw[gb (pD s) (by omega) (fun i (_:Unit)=>(i,())) (fun x (_:Unit)=>(lJ c x s).map fun r=>if r then .inl ()else .inr (x,true,())) (fun _=>some (0,false,())) (fun i x u hd hx hw=> ?_) (fun u hd=> ?_) ()]
 ·rw[MP (f:=fun x=> !jw s (j0 c.aW x.toNat)) (hit:=fun x=>(x,true,()))]
  ·unfold nL;cases (pD s).find? _<;>rfl
  ·intro x hx u;obtain⟨k,hk,rfl,hb⟩:=xS.1 hx;obtain⟨_,m,hm,_⟩:=vg (hsub k hb);unfold lJ;rw[bz,hm];simp only[Qa,an.eta,zh hs (hc.aO m (List.mem_of_getElem? hm)),Qe,QV,pN hm];cases jw s m.aa<;>rfl
 ·simp only[hd,hx,hw,Qk,Qa]
  cases lJ c x s with
  |none=>rfl
  |some r=>cases r<;>rfl
 ·simp only[hd,Ql]
theorem Up{s k:Nat}(hs:s<1024)(hk:s.testBit k=true):wu .i64 (s:Int) (iL .i64 1 (k:Int))=((s - 2 ^ k:Nat):Int):=by
 have h10:=Kk hs hk;obtain⟨c,h1,_,h3⟩:=GZ s (2 ^ k) (by omega) (Nat.pow_lt_pow_right (by omega) (by omega))
 rw[tF k (by omega),h1]
 congr 1;refine ym fun j=> ?_
 rw[h3,(Fi hs hk).2,Nat.testBit_two_pow]
theorem G4{c:bq}(hc:Ad c){s:Nat}(hs:s<1024):Yd (jl c s) fun q=>∃n:Nat,q=n/\wx c.aW s n:=by
 unfold jl qb;rw[xF hs,G6 hc.len];simp only[Qa,Qo,Ql];have hdl:=y4 c.aW;rw[zd s (iD c.aW) (by omega) (by omega)]
 suffices key:∀(n t:Nat) (out:List Int),t<n->oK c.aW s t->out.length+t<=1024->Yd (aE (fun(v3:Int×(List Int)×Unit)=>
   Option.bind (lI c v3.1) fun r4=>
   bif (!r4.2.1)then
   Option.map Sum.inr (some (v3.1,v3.2.1,()))
   else
   bif bx 8 (List.length v3.2.1+List.length [r4.1])then
   if r4.1<0 then none else
   some (Sum.inl ((wu .i64 v3.1 (iL .i64 (1:Int) r4.1)),(v3.2.1++[r4.1]),()))
   else none) ((t:Int),out,())) fun p=>∃n:Nat,p.1=n/\wx c.aW s n by
  have hfirst:=oK.first c.aW hs
  have hb:=hfirst.lt;refine(key 1024 (s&&&iD c.aW) [] hb hfirst (by simp;omega)).bind fun p hp=>Yd.some hp
 intro n
 induction n with
 |zero=>intro t out h;omega
 |succ n ih=>
  intro t out ht hinv hout;refine Yd.loop ?_;rw[Tf hc hinv.lt fun k hk=>(hinv.sub k hk).2]
  simp only[Qa]
  cases hu:nL c.aW t with
  |none=>exact Yd.some ⟨t,rfl,hinv.done hu⟩
  |some x=>
   obtain⟨k,rfl,hk10,hkb,hks⟩:=C5 hu;have h0:¬(k:Int)<0:=by omega
   have hlb:=(Fi hinv.lt hkb).1;have hp:0<2 ^ k:=Nat.pow_pos (by omega)
   simp only[Qo,Ql];rw[b0 (by simp;omega),Qs h0,Up hinv.lt hkb]
   exact Yd.some (ih (t - 2 ^ k) _ (by omega) (hinv.next hkb hks) (by simp;omega))
theorem Vo{c:bq}(hc:Ad c){s:Nat}(hs:s<1024):∃q,wx c.aW s q:=by
 obtain⟨_,_,n,_,h⟩:=G4 hc hs;exact⟨n,h⟩
open Classical in
 def gq(l:List bg)(s:Nat):Nat:=if h:∃q,wx l s q then Classical.choose h else 0
theorem zX{c:bq}(hc:Ad c){s:Nat}(hs:s<1024):wx c.aW s (gq c.aW s):=by
 have h:=Vo hc hs;rw[gq,dif_pos h];exact Classical.choose_spec h
theorem G5{c:bq}(hc:Ad c){s:Nat}(hs:s<1024):jl c s=some ((gq c.aW s:Nat):Int):=by
 obtain⟨q,h1,n,rfl,h2⟩:=G4 hc hs;rw[h1,h2.unique (zX hc hs)]
def sL(s:Nat):List Int->Nat
 |[]=>s
 |x::l=>sL (s - 2 ^ x.toNat) l
theorem Ir(s:Nat):∀(l:List Int) (x:Int),sL s (l++[x])=sL s l - 2 ^ x.toNat
 |[],x=>rfl
 |y::l,x=>by rw[List.cons_append,sL,Ir _ l x,sL]
def FK(s:Nat):List Int->Prop
 |[]=>True
 |x::l=>(∃k:Nat,x=k/\k<10/\2 ^ k<=s)/\FK (s - 2 ^ x.toNat) l
theorem M9{s:Nat}:∀{l:List Int} {k:Nat},FK s l->k<10->2 ^ k<=sL s l->FK s (l++[(k:Int)])
 |[],k,_,h1,h2=>⟨⟨k,rfl,h1,h2⟩,trivial⟩
 |_::_,_,h,h1,h2=>⟨h.1,M9 h.2 h1 h2⟩
theorem Of{t k:Nat}(hk:k<10)(h:2 ^ k<=t)(ht:t<1024):dz .i64 (t:Int) (iL .i64 1 (k:Int))=((t - 2 ^ k:Nat):Int):=by
 rw[tF k (by omega)]
 generalize 2 ^ k=z at*;rw[tf (by omega) (by omega)]
 omega
theorem ZM{c:bq}(hc:Ad c){s:Nat}(hs:s<1024):Yd (mK c s) fun out=>FK (s&&&iD c.aW) out/\wx c.aW s (sL (s&&&iD c.aW) out)/\out.length<=1024:=by
 unfold mK;rw[sR hs,yI hc.len];simp only[Qa,Qo,Ql];have hdl:=y4 c.aW;rw[zd s (iD c.aW) (by omega) (by omega)]
 generalize hs0:s&&&iD c.aW=s0
 suffices key:∀(n t:Nat) (b:Bool) (out:List Int),t<n->oK c.aW s t->(b=false->nL c.aW t=none)->out.length+t<=1024->FK s0 out->sL s0 out=t->
   Yd (aE (fun(v3:Int×Bool×(List Int)×Unit)=>
    bif v3.2.1 then
    Option.bind (pL v3.1) fun r4=>
    aE (fun(v5:Int×Bool×Int×(List Int)×Unit)=>
    bif (decide (v5.2.2.1<((List.length r4:Nat):Int)))then
    Option.bind (idx r4 v5.2.2.1) fun x6=>
    Option.bind (idx c.aW x6) fun x7=>
    Option.bind (im (an.mk x7.aa.aP x7.aa.bm x7.aa.aN) v5.1) fun r8=>
    bif (!r8)then
    if x6<0 then none else
    bif bx 8 (List.length v5.2.2.2.1+List.length [x6])then
    Option.map Sum.inr (some (Sum.inl ((dz .i64 v5.1 (iL .i64 (1:Int) x6)),true,(v5.2.2.2.1++[x6]),())))
    else none
    else
    some (Sum.inl (v5.1,v5.2.1,(aB .i64 v5.2.2.1 (1:Int)),v5.2.2.2.1,()))
    else
    Option.map Sum.inr (some (Sum.inl (v5.1,v5.2.1,v5.2.2.2.1,())))) (v3.1,false,(0:Int),v3.2.2.1,())
    else
    Option.map Sum.inr (some v3.2.2.1)) ((t:Int),b,out,())) fun out=>FK s0 out/\wx c.aW s (sL s0 out)/\out.length<=1024 by
  have hfirst:=oK.first c.aW hs
  rw[hs0]at hfirst;have hb:=hfirst.lt;exact key 1024 s0 true [] hb hfirst (fun h=>by cases h) (by simp;omega) trivial rfl
 intro n
 induction n with
 |zero=>intro t b out h;omega
 |succ n ih=>
  intro t b out ht hinv hb hout hso hsub;refine Yd.loop ?_
  cases b with
  |false=>
   simp only[Ql];refine Yd.inr (Yd.some ⟨hso,?_,by omega⟩)
   rw[hsub];exact hinv.done (hb rfl)
  |true=>
   simp only[Qk];rw[UU hinv.lt,Qa];have hlen:=Jt t;rw[gb (pD t) (by omega) (fun i (_:Unit)=>((t:Int),false,i,out,())) (fun x (_:Unit)=>some (if !jw t (j0 c.aW x.toNat)then .inr (Sum.inl ((dz .i64 (t:Int) (iL .i64 (1:Int) x)),true,(out++[x]),()))else .inl ())) (fun _=>some (Sum.inl ((t:Int),false,out,()))) (fun i x u hd hx hw=> ?_) (fun u hd=> ?_) ()]
   ·rw[MP (f:=fun x=> !jw t (j0 c.aW x.toNat)) (hit:=fun x=>Sum.inl ((dz .i64 (t:Int) (iL .i64 (1:Int) x)),true,(out++[x]),())) (fun x hx u=>rfl)]
    cases hu:nL c.aW t with
    |none=>
     rw[nL]at hu;rw[hu];refine Yd.some ?_;refine Yd.loop ?_;simp only[Ql];refine Yd.inr (Yd.some ⟨hso,?_,by omega⟩)
     rw[hsub];exact hinv.done hu
    |some x=>
     obtain⟨k,rfl,hk10,hkb,hks⟩:=C5 hu;rw[nL]at hu;rw[hu];have hlb:=(Fi hinv.lt hkb).1;have hp:0<2 ^ k:=Nat.pow_pos (by omega)
     simp only;rw[Of hk10 hlb hinv.lt];refine Yd.some (ih (t - 2 ^ k) true _ (by omega) (hinv.next hkb hks) (fun h=>by cases h) (by simp;omega) (M9 hso hk10 (by rw[hsub];exact hlb)) (by rw[Ir,hsub];rfl))
   ·have hmem:x∈pD t:=by
     rw[bz]at hx;exact List.mem_of_getElem? hx
    obtain⟨k,hk10,rfl,hkb⟩:=xS.1 hmem;obtain⟨_,m,hm,_⟩:=vg (hinv.sub k hkb).2;have h0:¬(k:Int)<0:=by omega
    simp only[hd,hx,hw,Qk,Qa,bz c.aW,hm,an.eta,C6 hinv.lt (hc.aO m (List.mem_of_getElem? hm)),h0,Qu,QV,pN hm];rw[b0 (by simp;omega)]
    cases jw t m.aa<;>rfl
   ·simp only[hd,Ql]
theorem Ei{c:bq}(hc:Ad c){s:Nat}(hs:s<1024):mE c s=some ((gq c.aW s:Nat):Int):=by
 unfold mE;rw[sR hs,yI hc.len];simp only[Qa,Qo,Ql];have hdl:=y4 c.aW;rw[zd s (iD c.aW) (by omega) (by omega)]
 obtain⟨out,h1,h2,h3,h4⟩:=ZM hc hs;rw[h1,Qa];rw[gb out (by omega) (fun i (t:Int)=>(t,i,())) (fun x (t:Int)=>if x<0 then none else some (.inl (dz .i64 t (iL .i64 1 x)))) (fun t=>some t) (fun i x u hd hx hw=> ?_) (fun u hd=> ?_) _]
 ·rw[<-h3.unique (zX hc hs)];have hlt:s&&&iD c.aW<1024:=Nat.lt_of_le_of_lt Nat.and_le_left hs;generalize s&&&iD c.aW=t at h2 hlt;clear h1 h3 h4
  induction out generalizing t with
  |nil=>rfl
  |cons x l ih=>
   obtain⟨⟨k,rfl,hk,hle⟩,h2⟩:=h2;have h0:¬(k:Int)<0:=by omega
   rw[eG,Qs h0,Of hk hle hlt,sL];simp only[QV]at h2 ⊢;exact ih _ h2 (Nat.lt_of_le_of_lt (Nat.sub_le _ _) hlt)
 ·simp only[hd,hx,hw,Qk,Qa];split<;>rfl
 ·simp only[hd,Ql]
end Go.Proofs.YtkgenianmdfmdaaGreat
namespace Go.Proofs.YtkgenianmdfmdaaGreat
open Go.TQ
structure oy (l:List ai):Prop where
 len:l.length<=100000
 aO:∀e∈l,dD e.aa
theorem iQ{e:ai}(h:aL e=true):0<=e.ar/\e.ar<10:=by
 simp only[aL,fK,vi,Qm,Qi]at h;exact⟨h.1.1.1.1.1.1.1,h.1.1.1.1.1.1.2⟩
def ft:bg:=⟨false,⟨0,[],[]⟩⟩
 def c5(ms:List bg)(e:ai):List bg:=
 if aL e&& !((ms[e.ar.toNat]?).any (·.dj))then ms.set e.ar.toNat ⟨true,e.aa⟩else ms
 def fj(ax:Nat)(t:an)(l:List ai):List bg:=l.foldl c5 ((List.replicate 10 ft).set ax ⟨true,t⟩)
theorem uJ(ms:List bg)(e:ai):(c5 ms e).length=ms.length:=by
 unfold c5;split
 ·rw[QY]
 ·rfl
theorem AW:∀(l:List ai) (ms:List bg),(l.foldl c5 ms).length=ms.length
 |[],_=>rfl
 |e::l,ms=>by rw[QU,AW l,uJ]
theorem Dz(ax:Nat)(t:an)(l:List ai):(fj ax t l).length=10:=by
 rw[fj,AW,QY,List.length_replicate]
theorem NY{ms:List bg}(hl:ms.length=10){n:Int}(h0:0<=n)(h1:n<10):∃m,ms[n.toNat]?=some m/\idx ms n=some m:=by
 have:n.toNat<ms.length:=by omega
 exact⟨ms[n.toNat],Qv this,by rw[Pm _ h0];exact Qv this⟩
theorem SZ{ax:Nat}(hn:ax<10){t:an}(ht:dD t){l:List ai}(hl:oy l):oD ax t l=some ⟨fj ax t l⟩:=by
 unfold oD
 have h1:(decide ((10:Int)=10)&&decide ((0:Int)<=10)&&bx 64 (Int.toNat 10))=true:=by
  rw[b0 (by decide)];rfl
 have h2:¬(ax:Int)<0:=by omega
 have h3:¬(10:Int)<=ax:=by omega
 rw[h1];simp only[Qk,h2,h3,decide_false,Ql,Qa,an.eta,uB ht,aU];obtain⟨m,hm1,hm2⟩:=NY (ms:=List.replicate 10 ft) (by simp) (n:=(ax:Int)) (by omega) (by omega)
 have e10:List.replicate (Int.toNat 10) (bg.mk false (an.mk 0 [] []))=List.replicate 10 ft:=rfl;rw[e10,hm2,hm1,Qa,Qa];have hlen:=hl.len
 suffices key:∀(k i:Nat) (ms:List bg) (c:bq),i+k=l.length->ms.length=10->aE _ ((i:Int),c,ms,())=some (bq.mk ((l.drop i).foldl c5 ms))by
  have:=key l.length 0 ((List.replicate 10 ft).set ax ⟨true,t⟩) ⟨[]⟩ (by omega) (by simp)
  simpa[fj]using this
 intro k
 induction k with
 |zero=>
  intro i ms c hi hms;obtain rfl:i=l.length:=by omega
  refine bU ?_;have hd:decide (((l.length:Nat):Int)<((l.length:Nat):Int))=false:=Qh (Int.lt_irrefl _);simp only[hd,Ql,List.drop_length,List.foldl_nil]
 |succ k ih=>
  intro i ms c hi hms;have hlt:i<l.length:=by omega
  have hd:decide ((i:Int)<((l.length:Nat):Int))=true:=Qg (by omega)
  have hw:aB .i64 (i:Int) 1=((i+1:Nat):Int):=bH (by omega) (by omega)
  have hx:idx l (i:Int)=some l[i]:=by rw[bz];exact Qv hlt
  have hsm:=hl.aO _ (Q0 hlt);rw[QM hlt,QU];refine Eq.trans (bl (s':=(((i+1:Nat):Int),⟨[]⟩,c5 ms l[i],())) ?_) (ih (i+1) _ _ (by omega) (by rw[uJ];exact hms))
  simp only[hd,hx,hw,Qk,Qa,nQ hsm];unfold c5
  cases hv:aL l[i]with
  |false=>simp
  |true=>
   obtain⟨h4,h5⟩:=iQ hv;obtain⟨m,hm1,hm2⟩:=NY hms h4 h5;simp only[Qk,hm1,hm2,Qa,uB hsm,Option.any_some,Bool.true_and];cases m.dj<;>simp
theorem yH{ax:Nat}(hn:ax<10){t:an}{l:List ai}(hl:oy l):jG ax t l=some ⟨fj ax t l⟩:=by
 unfold jG
 have h1:(decide ((10:Int)=10)&&decide ((0:Int)<=10)&&bx 64 (Int.toNat 10))=true:=by
  rw[b0 (by decide)];rfl
 have h2:¬(ax:Int)<0:=by omega
 have h3:¬(9:Int)<ax:=by omega
 rw[h1];simp only[Qk,h2,h3,decide_false,Ql,Qa,an.eta,aU];obtain⟨m,hm1,hm2⟩:=NY (ms:=List.replicate 10 ft) (by simp) (n:=(ax:Int)) (by omega) (by omega)
 have e10:List.replicate (Int.toNat 10) (bg.mk false (an.mk 0 [] []))=List.replicate 10 ft:=rfl;rw[e10,hm2,hm1,Qa,Qa];have hlen:=hl.len
 suffices key:∀(k i:Nat) (ms:List bg) (c:bq),i+k=l.length->ms.length=10->aE _ ((i:Int),c,ms,())=some (bq.mk ((l.drop i).foldl c5 ms))by
  have:=key l.length 0 ((List.replicate 10 ft).set ax ⟨true,t⟩) ⟨[]⟩ (by omega) (by simp)
  simpa[fj]using this
 intro k
 induction k with
 |zero=>
  intro i ms c hi hms;obtain rfl:i=l.length:=by omega
  refine bU ?_;have hd:decide (((l.length:Nat):Int)<((l.length:Nat):Int))=false:=Qh (Int.lt_irrefl _);simp only[hd,Ql,List.drop_length,List.foldl_nil]
 |succ k ih=>
  intro i ms c hi hms;have hlt:i<l.length:=by omega
  have hd:decide ((i:Int)<((l.length:Nat):Int))=true:=Qg (by omega)
  have hw:aB .i64 (i:Int) 1=((i+1:Nat):Int):=bH (by omega) (by omega)
  have hx:idx l (i:Int)=some l[i]:=by rw[bz];exact Qv hlt
  have hsm:=hl.aO _ (Q0 hlt);rw[QM hlt,QU];refine Eq.trans (bl (s':=(((i+1:Nat):Int),⟨[]⟩,c5 ms l[i],())) ?_) (ih (i+1) _ _ (by omega) (by rw[uJ];exact hms))
  simp only[hd,hx,hw,Qk,Qa,gm hsm];unfold c5
  cases hv:aL l[i]with
  |false=>simp
  |true=>
   obtain⟨h4,h5⟩:=iQ hv;obtain⟨m,hm1,hm2⟩:=NY hms h4 h5;simp only[Qk,hm1,hm2,Qa,Option.any_some,Bool.true_and];cases m.dj<;>simp
theorem lh{ax:Nat}{t:an}(ht:dD t){l:List ai}(hl:oy l):Ad ⟨fj ax t l⟩:=by
 refine⟨by rw[Dz];omega,?_⟩
 have key:∀(l:List ai) (ms:List bg),(∀e∈l,dD e.aa)->(∀m∈ms,dD m.aa)->∀m∈l.foldl c5 ms,dD m.aa:=by
  intro l
  induction l with
  |nil=>intro ms _ h;exact h
  |cons e l ih=>
   intro ms he h;rw[QU];refine ih _ (fun e' h'=>he e' (by simp[h'])) fun m hm=> ?_
   unfold c5 at hm;split at hm
   ·rcases List.mem_or_eq_of_mem_set hm with hm|rfl
    ·exact h m hm
    ·exact he e (by simp)
   ·exact h m hm
 refine key l _ hl.aO fun m hm=> ?_
 rcases List.mem_or_eq_of_mem_set hm with hm|rfl
 ·rw[List.eq_of_mem_replicate hm];exact .mk _ (by simp[ft]) (by simp[ft]) (by simp[ft])
 ·exact ht
 def bK(l:List ai):List ai:=l.filter aL
theorem VY{l:List ai}(hl:oy l):nI l=some ((bK l).map br.mk):=by
 unfold nI;have hlen:=hl.len;simp only[aU]
 suffices key:∀(k i:Nat) (acc:List br),i+k=l.length->acc=(bK (l.take i)).map br.mk->aE _ ((i:Int),acc,())=some ((bK l).map br.mk)from key l.length 0 [] (by omega) rfl
 intro k
 induction k with
 |zero=>
  intro i acc hi ha;obtain rfl:i=l.length:=by omega
  refine bU ?_;have hd:decide (((l.length:Nat):Int)<((l.length:Nat):Int))=false:=Qh (Int.lt_irrefl _);simp only[hd,Ql,Qe,ha,List.take_length]
 |succ k ih=>
  intro i acc hi ha;have hlt:i<l.length:=by omega
  have hd:decide ((i:Int)<((l.length:Nat):Int))=true:=Qg (by omega)
  have hw:aB .i64 (i:Int) 1=((i+1:Nat):Int):=bH (by omega) (by omega)
  have hx:idx l (i:Int)=some l[i]:=by rw[bz];exact Qv hlt
  have hsm:=hl.aO _ (Q0 hlt)
  have hal:acc.length<=i:=by
   rw[ha,QC];exact QK (List.length_filter_le _ _) (by rw[List.length_take];omega)
  refine Eq.trans (bl (s':=(((i+1:Nat):Int),(if aL l[i]then acc++[br.mk l[i]]else acc),())) ?_) (ih (i+1) _ (by omega) ?_)
  ·simp only[hd,hx,hw,Qk,Qa,an.eta,ai.eta,nQ hsm];rw[b0 (by simp;omega)]
   cases aL l[i]<;>simp
  ·rw[List.take_succ_eq_append_getElem hlt,bK,List.filter_append,ha];cases hv:aL l[i]<;>simp[bK,hv]
def c8(p:ai->Bool):List ai->Nat
 |[]=>0
 |e::l=>(if p e then 2 ^ e.ar.toNat else 0)|||c8 p l
theorem tD(p:ai->Bool)(k:Nat):∀(l:List ai),(c8 p l).testBit k=l.any fun e=>p e&&decide (e.ar.toNat=k)
 |[]=>by simp[c8]
 |e::l=>by
  rw[c8,Nat.testBit_or,tD p k l,List.any_cons];cases p e<;>simp[Nat.testBit_two_pow]
def uD(l:List ai):Prop:=∀e∈l,0<=e.ar/\e.ar<10
theorem kF(l:List ai):uD (bK l):=fun _ he=>iQ (List.mem_filter.1 he).2
theorem xL(l:List ai):(bK l).length<=l.length:=List.length_filter_le _ _
theorem kP{p:ai->Bool}{l:List ai}(h:uD l):c8 p l<1024:=Bn fun k hk=>by
 rw[tD,List.any_eq_true]at hk;obtain⟨e,he,h1⟩:=hk;simp only[Qm,Qi]at h1;have:=h e he;omega
theorem BT(p:ai->Bool)(l:List ai)(hin:uD l)(step:(Int×Int×Unit)->Option ((Int×Int×Unit)⊕Int))
  (h1:∀(i:Nat) (e:ai) (s:Int),l[i]?=some e->step (s,(i:Int),())=if p e then(if e.ar<0 then none else some (.inl (uu .i64 s (iL .i64 1 e.ar),((i+1:Nat):Int),())))else some (.inl (s,((i+1:Nat):Int),())))
  (h2:∀s:Int,step (s,(l.length:Int),())=some (.inr s)):aE step (0,0,())=some ((c8 p l:Nat):Int):=by
 suffices key:∀(k i s:Nat),i+k=l.length->s<1024->aE step ((s:Int),(i:Int),())=some ((s|||c8 p (l.drop i):Nat):Int)by
  have:=key l.length 0 0 (by omega) (by omega)
  simpa using this
 intro k
 induction k with
 |zero=>
  intro i s hi hs;obtain rfl:i=l.length:=by omega
  rw[bU (h2 s),List.drop_length,c8];simp
 |succ k ih=>
  intro i s hi hs;have hlt:i<l.length:=by omega
  have hm:=hin l[i] (Q0 hlt);rw[QM hlt,c8];have hst:=h1 i l[i] s (Qv hlt)
  cases hp:p l[i]with
  |false=>
   rw[hp]at hst;rw[bl hst,ih (i+1) s (by omega) hs]
   simp
  |true=>
   rw[hp,Qr rfl,Qs (by omega),yj hs hm.1 hm.2]at hst
   rw[bl hst,ih (i+1) _ (by omega) (Jh hs hm.2)]
   simp[Nat.or_assoc]
theorem G0{v:bq}{ax:Int}{l:List ai}(hl:l.length<=1000000)(hin:uD l)(b:ae):ig ⟨ax,v,l.map br.mk⟩ b=some ((c8 (cD · b) l:Nat):Int):=by
 unfold ig;refine BT (cD · b) l hin _ (fun i e s he=> ?_) (fun s=> ?_)
 ·have hlt:i<l.length:=(Qw.1 he).1;have hd:decide ((i:Int)<(((l.map br.mk).length:Nat):Int))=true:=Qg (by rw[QC];omega)
  have hw:aB .i64 (i:Int) 1=((i+1:Nat):Int):=bH (by omega) (by omega)
  have hx:idx (l.map br.mk) (i:Int)=some ⟨e⟩:=by rw[bz,QT,he];rfl
  simp only[hd,hx,hw,Qk,Qa,an.eta,ai.eta,jZ,qt,aU];cases cD e b<;>simp
 ·have hd:decide (((l.length:Nat):Int)<(((l.map br.mk).length:Nat):Int))=false:=Qh (by rw[QC];exact Int.lt_irrefl _)
  simp only[hd,Ql,Qe]
theorem Us{v:bq}{ax:Int}{l:List ai}(hl:l.length<=1000000)(hin:uD l)(b:ae):fG ⟨ax,v,l.map br.mk⟩ b b=some ((c8 (fun e=>nb e b||cD e b) l:Nat):Int):=by
 unfold fG;refine BT (fun e=>nb e b||cD e b) l hin _ (fun i e s he=> ?_) (fun s=> ?_)
 ·have hlt:i<l.length:=(Qw.1 he).1;have hd:decide ((i:Int)<(((l.map br.mk).length:Nat):Int))=true:=Qg (by rw[QC];omega)
  have hw:aB .i64 (i:Int) 1=((i+1:Nat):Int):=bH (by omega) (by omega)
  have hx:idx (l.map br.mk) (i:Int)=some ⟨e⟩:=by rw[bz,QT,he];rfl
  simp only[hd,hx,hw,Qk,Qa,an.eta,ai.eta,iu,jZ,nU,qt,zF,aU,jB,Bool.cond_true_left];cases (nb e b||cD e b)<;>simp
 ·have hd:decide (((l.length:Nat):Int)<(((l.map br.mk).length:Nat):Int))=false:=Qh (by rw[QC];exact Int.lt_irrefl _)
  simp only[hd,Ql,Qe]
 def nv(ms:List bg)(v votes accepts:Nat):Bool:=rX ms v accepts||(gq ms (votes|||accepts)).testBit v
theorem Db{c:bq}(hc:Ad c){v votes accepts:Nat}(hv:v<10)(h1:votes<1024)(h2:accepts<1024):iJ c v votes accepts=some (nv c.aW v votes accepts):=by
 unfold iJ nv;have h3:votes|||accepts<1024:=Nat.or_lt_two_pow (n:=10) h1 h2
 rw[xF h1,xF h2,Na hc h2,Bl votes accepts (by omega) (by omega),G5 hc h3]
 simp[oZ (zX hc h3).lt,qQ,hv]
theorem BA{c:bq}(hc:Ad c){v accepts:Nat}(hv:v<10)(h2:accepts<1024):hY c v accepts=some ((gq c.aW accepts).testBit v):=by
 unfold hY;rw[G5 hc h2];simp[oZ (zX hc h2).lt,qQ,hv]
 def jt(ax:Nat)(t:an)(l:List ai)(b:ae):Bool:=
 nv (fj ax t l) ax (c8 (fun e=>nb e b||cD e b) (bK l)) (c8 (cD · b) (bK l))
 def iO(ax:Nat)(t:an)(l:List ai)(b:ae):Bool:=
 (gq (fj ax t l) (c8 (cD · b) (bK l))).testBit ax
theorem LN{ax:Nat}(hn:ax<10){t:an}(ht:dD t){l:List ai}(hl:oy l):eN ax t l=some ⟨ax,⟨fj ax t l⟩,(bK l).map br.mk⟩:=by
 unfold eN;simp only[an.eta,SZ hn ht hl,VY hl,Qa]
end Go.Proofs.YtkgenianmdfmdaaGreat
namespace Go.Proofs.YtkgenianmdfmdaaGreat
open Go.TQ
theorem Xr{α:Type}{l l':List α}(h:l.Perm l')(p:α->Bool):l.any p=l'.any p:=by
 rw[QW,List.any_eq_true,List.any_eq_true];exact⟨fun⟨x,h1,h2⟩=>⟨x,h.mem_iff.1 h1,h2⟩,fun⟨x,h1,h2⟩=>⟨x,h.mem_iff.2 h1,h2⟩⟩
theorem Uz{l l':List ai}(h:l.Perm l')(p:ai->Bool):c8 p l=c8 p l':=ym fun k=>by rw[tD,tD,Xr h]
theorem Rz{l l':List ai}(h:l.Perm l'):(bK l).Perm (bK l'):=h.filter _
def wO(l:List ai):Prop:=∀a∈l,∀b∈l,a.ar=b.ar->a=b
theorem wO.perm{l l':List ai}(h:wO l)(hp:l.Perm l'):wO l':=fun a ha b hb=>h a (hp.mem_iff.2 ha) b (hp.mem_iff.2 hb)
 def ml(l:List ai)(k:Nat):Option ai:=l.find? fun e=>aL e&&decide (e.ar.toNat=k)
theorem As{l:List ai}{k:Nat}{e:ai}(h:ml l k=some e):e∈l/\aL e=true/\e.ar=k:=by
 unfold ml at h;have h1:=List.mem_of_find?_eq_some h;have h2:=List.find?_some h;simp only[Qm,Qi]at h2;have:=iQ h2.1;exact⟨h1,h2.1,by omega⟩
theorem Jq{l:List ai}(ha:wO l){k:Nat}{e:ai}(h1:e∈l)(h2:aL e=true)(h3:e.ar=k):ml l k=some e:=by
 cases h:ml l k with
 |none=>
  unfold ml at h;rw[List.find?_eq_none]at h;have:=h e h1;simp[h2,h3]at this
 |some e'=>
  obtain⟨g1,g2,g3⟩:=As h;rw[ha e' g1 e h1 (by omega)]
theorem RG{l l':List ai}(ha:wO l)(h:l.Perm l')(k:Nat):ml l k=ml l' k:=by
 cases h1:ml l k with
 |some e=>
  obtain⟨g1,g2,g3⟩:=As h1;exact(Jq (ha.perm h) (h.mem_iff.1 g1) g2 g3).symm
 |none=>
  cases h2:ml l' k with
  |none=>rfl
  |some e=>
   obtain⟨g1,g2,g3⟩:=As h2;rw[Jq ha (h.mem_iff.2 g1) g2 g3]at h1;cases h1
theorem LV:∀(l:List ai) (ms:List bg),ms.length=10->(∀m∈ms,m.dj=false->m=ft)->∀k,k<10->(l.foldl c5 ms)[k]?=some (match ms[k]? with
  |some m=>if m.dj then m else(match ml l k with
   |some e=>⟨true,e.aa⟩
   |none=>ft)
  |none=>ft)
 |[],ms,hl,hn,k,hk=>by
  have hk':k<ms.length:=by omega
  rw[List.foldl_nil,Qv hk']
  cases hd:ms[k].dj with
  |true=>simp[hd]
  |false=>
   have:=hn _ (Q0 hk') hd;simp[hd,ml,this]
 |e::l,ms,hl,hn,k,hk=>by
  have hk':k<ms.length:=by omega
  rw[QU];have hlen:(c5 ms e).length=10:=by rw[uJ];exact hl
  have hn':∀m∈c5 ms e,m.dj=false->m=ft:=by
   unfold c5;split
   ·intro m hm hd;rcases List.mem_or_eq_of_mem_set hm with hm|rfl
    ·exact hn m hm hd
    ·cases hd
   ·exact hn
  rw[LV l (c5 ms e) hlen hn' k hk];congr 1
  have hof:ml (e::l) k=if(aL e&&decide (e.ar.toNat=k))=true then some e else ml l k:=by
   unfold ml;rw[List.find?_cons];cases aL e&&decide (e.ar.toNat=k)<;>rfl
  rw[hof];unfold c5
  by_cases hv:aL e=true
  ·have hnode:=iQ hv;have hi:e.ar.toNat<ms.length:=by omega
   rw[hv,Bool.true_and,Bool.true_and]
   by_cases hke:e.ar.toNat=k
   ·subst hke;rw[Qv hi]
    cases hd:ms[e.ar.toNat].dj with
    |true=>simp[hd,Qv hi]
    |false=>simp[hd,hi]
   ·have hne:decide (e.ar.toNat=k)=false:=Qh hke
    have hset:∀c:Bool,(if c=true then ms.set e.ar.toNat ⟨true,e.aa⟩else ms)[k]?=ms[k]?:=fun c=>by
     cases c
     ·rfl
     ·rw[Qr rfl,List.getElem?_set_ne hke]
    rw[hne,hset];simp
  ·have hv':aL e=false:=by simpa using hv
   simp[hv']
theorem Dy{ax:Nat}(hn:ax<10)(t:an)(l:List ai){k:Nat}(hk:k<10):(fj ax t l)[k]?=some (if k=ax then⟨true,t⟩else match ml l k with
  |some e=>⟨true,e.aa⟩
  |none=>ft):=by
 rw[fj,LV l _ (by simp) (fun m hm hd=> ?_) k hk]
 ·by_cases h:k=ax
  ·subst h;simp[hn]
  ·rw[List.getElem?_set_ne (fun e=>h e.symm),List.getElem?_replicate,Qr hk]
   simp[h,ft]
 ·rcases List.mem_or_eq_of_mem_set hm with hm|rfl
  ·exact(List.mem_replicate.1 hm).2
  ·cases hd
theorem Te{ax:Nat}(hn:ax<10)(t:an){l l':List ai}(ha:wO l)(h:l.Perm l'):fj ax t l=fj ax t l':=by
 refine List.ext_getElem? fun k=> ?_
 by_cases hk:k<10
 ·rw[Dy hn t l hk,Dy hn t l' hk,RG ha h]
 ·rw[List.getElem?_eq_none (by rw[Dz];omega),List.getElem?_eq_none (by rw[Dz];omega)]
end Go.Proofs.YtkgenianmdfmdaaGreat
namespace Go.Proofs.YtkgenianmdfmdaaGreat
open Go.TQ
theorem Ac{τ ρ:Type}(n:Nat)(mk:Int->τ){step:τ->Option (τ⊕ρ)}{fin:Option ρ}(h1:∀i:Nat,i<n->step (mk (i:Int))=some (.inl (mk ((i+1:Nat):Int))))(h2:step (mk (n:Int))=Option.map Sum.inr fin):aE step (mk 0)=fin:=by
 suffices key:∀(k i:Nat),i+k=n->aE step (mk (i:Int))=fin from key n 0 (by omega)
 intro k
 induction k with
 |zero=>
  intro i hi;obtain rfl:i=n:=by omega
  rw[ik,h2];cases fin<;>rfl
 |succ k ih=>exact fun i hi=>(bl (h1 i (by omega))).trans (ih (i+1) (by omega))
theorem ZZ(s:List Int)(h:s.length<=1000000):rp s s=some true:=by
 unfold rp;simp only[decide_true,Qo,Ql];refine Ac s.length (fun i=>(i,())) (fun i hi=> ?_) ?_
 ·have hd:decide ((i:Int)<((s.length:Nat):Int))=true:=Qg (by omega)
  have hw:aB .i64 (i:Int) 1=((i+1:Nat):Int):=bH (by omega) (by omega)
  have hx:idx s (i:Int)=some s[i]:=by rw[bz];exact Qv hi
  simp only[hd,hx,hw,Qk,Qa,decide_true,Qo,Ql]
 ·have hd:decide (((s.length:Nat):Int)<((s.length:Nat):Int))=false:=Qh (Int.lt_irrefl _);simp only[hd,Ql]
theorem aaR{n:Nat}:∀{t:an},SizeOf.sizeOf t<n->dD t->q9 n (t,t,())=some true:=by
 induction n with
 |zero=>intro t h;omega
 |succ n ih=>
  intro t hs hm;show oL (q9 n) t t=some true;have hl:=hm.len;have hns:=hm.nodes;unfold oL;simp only[decide_true,Qo,Ql,ZZ _ hns,Qa];refine Ac t.aN.length (fun i=>(i,())) (fun i hi=> ?_) ?_
  ·have hd:decide ((i:Int)<((t.aN.length:Nat):Int))=true:=Qg (by omega)
   have hw:aB .i64 (i:Int) 1=((i+1:Nat):Int):=bH (by omega) (by omega)
   have hx:idx t.aN (i:Int)=some t.aN[i]:=by rw[bz];exact Qv hi
   have hu:=Q0 hi;have:=ih (t:=t.aN[i]) (by have:=qP hu;omega) (hm.inner _ hu)
   simp only[hd,hx,hw,Qk,Qa,an.eta,this,Qo,Ql]
  ·have hd:decide (((t.aN.length:Nat):Int)<((t.aN.length:Nat):Int))=false:=Qh (Int.lt_irrefl _);simp only[hd,Ql]
theorem UP{t:an}(h:dD t):rn t t=some true:=aaR (by omega) h
theorem NL(a:Int)(s:ByteArray):jz false a a s s=true:=by simp
theorem UO{e:ai}(h:dD e.aa):jH e e=some true:=by
 simp only[jH,an.eta,UP h,decide_true,Qk,Qa,NL]
theorem aax{l:List ai}(hlen:l.length<=1000000)(hl:∀e∈l,dD e.aa):lE l l=some true:=by
 unfold lE;simp only[decide_true,Qo,Ql];refine Ac l.length (fun i=>(i,())) (fun i hi=> ?_) ?_
 ·have hd:decide ((i:Int)<((l.length:Nat):Int))=true:=Qg (by omega)
  have hw:aB .i64 (i:Int) 1=((i+1:Nat):Int):=bH (by omega) (by omega)
  have hx:idx l (i:Int)=some l[i]:=by rw[bz];exact Qv hi
  simp only[hd,hx,hw,Qk,Qa,an.eta,ai.eta,UO (hl _ (Q0 hi)),Qo,Ql]
 ·have hd:decide (((l.length:Nat):Int)<((l.length:Nat):Int))=false:=Qh (Int.lt_irrefl _);simp only[hd,Ql]
theorem Mg{ρ:Type}(n:Nat)(hn:n<=1000000){fin:Option ρ}{step:Int×Unit->Option ((Int×Unit)⊕ρ)}
  (h1:∀i:Nat,i<n->decide ((i:Int)<((n:Nat):Int))=true->aB .i64 (i:Int) 1=((i+1:Nat):Int)->step ((i:Int),())=some (.inl (((i+1:Nat):Int),())))
  (h2:decide (((n:Nat):Int)<((n:Nat):Int))=false->step ((n:Int),())=Option.map Sum.inr fin):aE step (0,())=fin:=
 Ac n (fun i=>(i,())) (fun i hi=>h1 i hi (Qg (by omega)) (bH (by omega) (by omega))) (h2 (Qh (Int.lt_irrefl _)))
end Go.Proofs.YtkgenianmdfmdaaGreat
namespace Go.Proofs.YtkgenianmdfmdaaGreat
open Go.TQ
def CL:List UInt8->Nat
 |[]=>0
 |a::l=>a.toNat*256 ^ l.length+CL l
theorem FC:∀l:List UInt8,CL l<256 ^ l.length
 |[]=>by simp[CL]
 |a::l=>by
  have h1:=FC l;have h2:a.toNat<256:=a.toNat_lt;rw[CL,QE,Nat.pow_succ];have h3:(a.toNat+1)*256 ^ l.length<=256*256 ^ l.length:=Nat.mul_le_mul_right _ h2;rw[Nat.add_mul,Nat.one_mul,Nat.mul_comm 256]at h3;omega
theorem VM:∀{x y:List UInt8},x.length=y.length->Op.bytesLess x y=true->CL x<CL y
 |[],[],_,h=>by simp[Op.bytesLess]at h
 |[],_::_,hl,_=>by simp at hl
 |_::_,[],hl,_=>by simp at hl
 |a::x,b::y,hl,h=>by
  simp only[QE,Nat.add_right_cancel_iff]at hl;simp only[Op.bytesLess,Qn,Qi,Qm,beq_iff_eq]at h;rw[CL,CL,hl];rcases h with h|⟨rfl,h⟩
  ·have h1:=FC x;rw[hl]at h1;have h2:a.toNat<b.toNat:=UInt8.lt_iff_toNat_lt.1 h;have h3:(a.toNat+1)*256 ^ y.length<=b.toNat*256 ^ y.length:=Nat.mul_le_mul_right _ h2;rw[Nat.add_mul,Nat.one_mul]at h3;omega
  ·have:=VM hl h;omega
def WV:Nat:=256 ^ 201
def LF(v:ByteArray):Nat:=v.size*256 ^ 200+CL v.toList
theorem toList_len(v:ByteArray):v.toList.length=v.size:=by
 rw[Lib.toList_data];cases v;simp[ByteArray.size]
theorem UY{a b:Nat}(h:a<=b):(256:Nat) ^ a<=256 ^ b:=Nat.pow_le_pow_right (by omega) h
theorem SI{v:ByteArray}(h:v.size<=200):LF v<WV:=by
 have h1:=FC v.toList;rw[toList_len]at h1;have h2:=UY h;have h3:v.size*256 ^ 200<=200*256 ^ 200:=Nat.mul_le_mul_right _ h;have h4:WV=256*256 ^ 200:=by rw[WV,Nat.pow_succ,Nat.mul_comm]
 unfold LF;rw[h4];generalize (256:Nat) ^ 200=Z at*;omega
theorem Vf{a b:ByteArray}(hb:b.size<=200)(h:jm a b=true):LF a<LF b:=by
 unfold jm at h;unfold LF
 by_cases hs:a.size=b.size
 ·rw[Qr hs]at h;have:=VM (x:=a.toList) (y:=b.toList) (by rw[toList_len,toList_len,hs]) h
  rw[hs];omega
 ·rw[Qs hs,Qi]at h;have h1:=FC a.toList;rw[toList_len]at h1;have h2:=UY (show a.size<=200 by omega)
  have h3:(a.size+1)*256 ^ 200<=b.size*256 ^ 200:=Nat.mul_le_mul_right _ h;rw[Nat.add_mul,Nat.one_mul]at h3;generalize (256:Nat) ^ 200=Z at*;omega
def Sm(b:ae):Prop:=0<=b.aj/\b.aj<=1000/\b.Value.size<=200
def lN(b:ae):Nat:=b.aj.toNat*WV+LF b.Value
def WB:Nat:=1001*WV
theorem mW{b:ae}(h:Sm b):lN b<WB:=by
 obtain⟨h1,h2,h3⟩:=h;have h4:=SI h3;unfold lN WB;have h5:b.aj.toNat*WV<=1000*WV:=Nat.mul_le_mul_right _ (by omega)
 generalize WV=Z at*;omega
theorem qJ{a b:ae}(ha:Sm a)(hb:Sm b)(h:bd a b=true):lN a<lN b:=by
 unfold bd at h;unfold lN
 by_cases hc:a.aj=b.aj
 ·rw[Qr hc]at h;have:=Vf hb.2.2 h;rw[hc];omega
 ·rw[Qs hc,Qi]at h;have h1:=SI ha.2.2;have h2:=ha.1;have h3:(a.aj.toNat+1)*WV<=b.aj.toNat*WV:=Nat.mul_le_mul_right _ (by omega)
  rw[Nat.add_mul,Nat.one_mul]at h3;generalize WV=Z at*;omega
theorem Yd.down{σ ρ:Type}{step:σ->Option (σ⊕ρ)}{p:ρ->Prop}(inv:σ->Prop)(μ:σ->Nat)(h:∀s,inv s->Yd (step s) fun y=>match y with| .inl s'=>inv s'/\μ s'<μ s| .inr r=>p r){s:σ}(hs:inv s):Yd (aE step s) p:=by
 suffices key:∀(n:Nat) (s:σ),μ s<n->inv s->Yd (aE step s) p from key _ s (Nat.lt_succ_self _) hs
 intro n
 induction n with
 |zero=>intro s h0;omega
 |succ n ih=>
  intro s hn hi;refine Yd.loop ((h s hi).mono fun y hy=> ?_)
  cases y with
  |inl s'=>exact ih s' (by have:=hy.2;omega) hy.1
  |inr r=>exact hy
end Go.Proofs.YtkgenianmdfmdaaGreat
namespace Go.Proofs.YtkgenianmdfmdaaGreat
open Go.TQ
def bM:ae:=⟨0,fb⟩
def er(m:af):Int:=if(!aA m.au&&bC m.au m.ab)=true then m.au.aj else 0
def bO(m:af):ai:=
 if m.aH=1 then⟨m.ar,m.bp,m.aF,m.aa,m.aH,m.ab,m.ao,m.aw,m.aI,er m⟩
 else if m.aH=2 then⟨m.ar,m.bp,m.aF,m.aa,m.aH,m.ab,m.ao,bM,m.aI,m.aR⟩
 else⟨m.ar,m.bp,m.aF,m.aa,m.aH,m.ab,bM,bM,m.aI,m.aR⟩
theorem qV(m:af):(bO m).ar=m.ar:=by unfold bO;split<;>(try split)<;>rfl
theorem w6(m:af):(bO m).bp=m.bp:=by unfold bO;split<;>(try split)<;>rfl
theorem qU(m:af):(bO m).aF=m.aF:=by unfold bO;split<;>(try split)<;>rfl
theorem ku(m:af):(bO m).aa=m.aa:=by unfold bO;split<;>(try split)<;>rfl
theorem Vw(m:af):(bO m).bs=m.aH:=by unfold bO;split<;>(try split)<;>rfl
theorem xY(m:af):gO m=some (bO m):=by
 unfold gO bO er;simp only[aU,an.eta,di,fu,Qa]
 by_cases h1:m.aH=1
 ·rw[Qg h1,Qr h1];cases aA m.au<;>cases bC m.au m.ab<;>rfl
 ·rw[Qh h1,Qs h1]
  by_cases h2:m.aH=2
  ·rw[Qg h2,Qr h2];rfl
  ·rw[Qh h2,Qs h2];rfl
def gK(m:af):ai:={bO m with aF:=bo (bO m).aF 1}
def vh(e:ai):List ai->List ai
 |[]=>[e]
 |x::l=>if e.ar<x.ar then e::x::l else x::vh e l
theorem zW(e:ai):∀l,(vh e l).Perm (l++[e])
 |[]=> .refl _
 |x::l=>by
  unfold vh;split
  ·exact(List.perm_append_singleton e (x::l)).symm
  ·exact(zW e l).cons x
def aQ(m:af):List ai:=if aA m.ab=true then m.az else vh (gK m) m.az
theorem Ks{m:af}(h:m.az.length<=1000):ju m=some (aQ m):=by
 unfold ju aQ;simp only[af.eta,an.eta,ai.eta,di,xY,Qa]
 cases aA m.ab with
 |true=>rfl
 |false=>
  simp only[Ql,Qq,Qu];have hown:ai.mk (bO m).ar (bO m).bp (bo (bO m).aF 1) (bO m).aa (bO m).bs (bO m).ab (bO m).ao (bO m).aw (bO m).aI (bO m).aR=gK m:=rfl;have hnode:(bO m).ar=(gK m).ar:=rfl;rw[hown,hnode];generalize gK m=e
  suffices key:∀(k i:Nat) (b:Bool) (o:List ai),i+k=m.az.length->o.length<=i+(bif b then 1 else 0)->aE _ (b,(i:Int),o,())=some (o++if b=true then m.az.drop i else vh e (m.az.drop i))from(key m.az.length 0 false [] (by omega) (by simp)).trans (by simp)
  intro k
  induction k with
  |zero=>
   intro i b o hi ho;obtain rfl:i=m.az.length:=by omega
   have hd:decide (((m.az.length:Nat):Int)<((m.az.length:Nat):Int))=false:=Qh (Int.lt_irrefl _);refine bU ?_;rw[List.drop_length];simp only[hd,Ql,aU]
   cases b with
   |true=>simp
   |false=>
    simp only[Ql]at ho;rw[b0 (by simp;omega)]
    simp[vh]
  |succ k ih=>
   intro i b o hi ho;have hlt:i<m.az.length:=by omega
   have hd:decide ((i:Int)<((m.az.length:Nat):Int))=true:=Qg (by omega)
   have hw:aB .i64 (i:Int) 1=((i+1:Nat):Int):=bH (by omega) (by omega)
   have hx:idx m.az (i:Int)=some m.az[i]:=by rw[bz];exact Qv hlt
   rw[QM hlt]
   cases b with
   |true=>
    simp only[Qk]at ho;have:=ih (i+1) true (o++[m.az[i]]) (by omega) (by simp;omega)
    simp only[Qt]at this ⊢;rw[show o++m.az[i]::m.az.drop (i+1)=(o++[m.az[i]])++m.az.drop (i+1)by simp]
    refine Eq.trans (bl ?_) this;simp only[hd,hx,hw,Qk,aU,Qa,Qo,Ql,an.eta,ai.eta];rw[b0 (by simp;omega),Qk]
   |false=>
    simp only[Ql]at ho
    by_cases hn:e.ar<m.az[i].ar
    ·have:=ih (i+1) true (o++[e]++[m.az[i]]) (by omega) (by simp;omega)
     simp only[Qt,Qq,Qu]at this ⊢;rw[vh,Qr hn,show o++e::m.az[i]::m.az.drop (i+1)=(o++[e]++[m.az[i]])++m.az.drop (i+1)by simp]
     refine Eq.trans (bl ?_) this;simp only[hd,hx,hw,Qk,aU,Qa,Qp,Qg hn,an.eta,ai.eta];rw[b0 (by simp;omega),Qk,b0 (by simp;omega),Qk]
    ·have:=ih (i+1) false (o++[m.az[i]]) (by omega) (by simp;omega)
     simp only[Qq,Qu]at this ⊢;rw[vh,Qs hn,show o++m.az[i]::vh e (m.az.drop (i+1))=(o++[m.az[i]])++vh e (m.az.drop (i+1))by simp]
     refine Eq.trans (bl ?_) this;simp only[hd,hx,hw,Qk,aU,Qa,Qp,Qh hn,Ql,an.eta,ai.eta];rw[b0 (by simp;omega),Qk]
def wA(a b:ae):Bool:=decide (a.aj=b.aj)&&decide (a.Value=b.Value)
theorem qw{a b:ae}:wA a b=true↔a=b:=by
 cases a;cases b;simp[wA]
def lM(a b:af):Bool:=decide (a.aH=b.aH)&&wA a.ab b.ab&&wA a.ao b.ao&&wA a.aw b.aw&&wA a.au b.au&&decide (a.aI=b.aI)&&decide (a.aR=b.aR)
theorem Xg(a b:Bool):(bif a then b else false)=(a&&b):=by cases a<;>rfl
theorem UN(a b:af):jF a b=some (lM a b):=by
 unfold jF lM wA;simp only[w5,Qa,jB,Xg]
end Go.Proofs.YtkgenianmdfmdaaGreat
namespace Go.Proofs.YtkgenianmdfmdaaGreat
open Go.TQ
def ti(v:ByteArray)(n:Int)(x:ae):Int:=
 if(cq x&&dK x ⟨n,v⟩)=true then(if dK x ⟨x.aj,v⟩=true then x.aj+1 else x.aj)else n
def jr(v:ByteArray)(n:Int)(p q:ae):Int:=ti v (ti v (bo n 1) p) q
theorem O2(v:ByteArray)(n:Int)(p q:ae):oC v n p q=some (jr v n p q):=by
 unfold oC jr;generalize bo n 1=k
 have hst:∀(i:Nat) (x:ae) (k:Int),i<2->[p,q][i]?=some x->
   (fun(v1:Int×Int×Unit)=>
    bif (decide (v1.2.1<(2:Int)))then
    bj (fun(v2:Int×Unit)=>some (Sum.inl (v2.1,(aB .i64 v1.2.1 (1:Int)),v2.2))) fun j3=>
    Option.bind (idx [p,q] v1.2.1) fun x4=>
    Option.bind (iY x4) fun r5=>
    Option.bind (bif r5 then Option.bind (fA x4 (ae.mk v1.1 v)) fun r6=>some r6 else some false) fun b7=>
    bif b7 then Option.bind (fA x4 (ae.mk x4.aj v)) fun r8=>
     bif r8 then j3 ((aB .i64 x4.aj (1:Int)),())else j3 (x4.aj,())
    else j3 (v1.1,())
    else(Option.map Sum.inr (some v1.1):Option ((Int×Int×Unit)⊕Int))) (k,(i:Int),())=some (Sum.inl (ti v k x,((i+1:Nat):Int),())):=by
  intro i x k hi hx;have hd:decide ((i:Int)<2)=true:=Qg (by omega)
  have hw:aB .i64 (i:Int) 1=((i+1:Nat):Int):=bH (by omega) (by omega)
  have hx':idx [p,q] (i:Int)=some x:=by rw[bz];exact hx
  simp only[hd,hw,hx',Qk,aU,Qa,zk,xD];unfold ti
  cases hv:cq x with
  |false=>simp
  |true=>
   have hc:aB .i64 x.aj 1=x.aj+1:=by
    have:1<=x.aj/\x.aj<=1000000:=by
     simp only[cq,Qm,Qn,Qi]at hv;omega
    exact bH (by omega) (by omega)
   cases h1:dK x ⟨k,v⟩with
   |false=>simp
   |true=>cases h2:dK x ⟨x.aj,v⟩<;>simp[hc]
 refine(bl (hst 0 p k (by omega) rfl)).trans ((bl (hst 1 q _ (by omega) rfl)).trans (bU ?_))
 rfl
theorem WW(b:ae):oz b=some (if 1000<b.aj then⟨1000,b.Value⟩else b):=by
 unfold oz
 by_cases h:1000<b.aj
 ·simp[h]
 ·simp[h]
end Go.Proofs.YtkgenianmdfmdaaGreat
namespace Go.Proofs.YtkgenianmdfmdaaGreat
open Go.TQ
theorem TR{lo k:Int}{v:ByteArray}{p:ae}(h:lo<=k)(hl:bd ⟨k,v⟩ p=true):bd ⟨lo,v⟩ p=true:=by
 unfold bd at hl ⊢;simp only at hl ⊢
 by_cases h1:lo=k
 ·rw[h1];exact hl
 ·have h2:lo<p.aj:=by
   split at hl
   ·omega
   ·simp only[Qi]at hl;omega
  rw[Qs (by omega)]
  simpa using h2
theorem RY{lo k:Int}{v:ByteArray}{p:ae}(h:lo<=k)(ha:dK p ⟨lo,v⟩=false):dK p ⟨k,v⟩=false:=by
 cases hk:dK p ⟨k,v⟩with
 |false=>rfl
 |true=>
  simp only[dK,Qm,bC]at hk;simp only[dK,bC,hk.1.1,hk.1.2,TR h hk.2]at ha;cases ha
theorem jA(p b:ae):hZ p b=true↔aA p=false/\p.Value=b.Value/\b.aj<=p.aj:=by
 simp[hZ,bC,and_assoc]
theorem Jz{b:ae}(h:1<=b.aj):aA b=false:=by
 have:¬b.aj=0:=by omega
 simp[aA,this]
end Go.Proofs.YtkgenianmdfmdaaGreat
namespace Go.Proofs.YtkgenianmdfmdaaGreat
open Go.TQ
theorem abI{n:Nat}(h:n<1000000):FF .u64 (n:Int)=n:=by
 unfold FF IntKind.wrap;simp[IntKind.signed,IntKind.bits];omega
def vE(b p:ae)(j:Nat)(t:an):ai:=⟨j,1,1,t,1,b,p,⟨0,ByteArray.mk #[]⟩,0,0⟩
structure Ri (b:ae):Prop where
 lo:1<=b.aj
 hi:b.aj<=6
 val:Kw b.Value
theorem Ri.valid{b:ae}(h:Ri b):cq b=true:=DA h.lo (by have:=h.hi;omega) h.val
theorem Ri.nz{b:ae}(h:Ri b):aA b=false:=Jz h.lo
theorem I8{l:List ai}(h:∀e∈l,aL e=true):bK l=l:=List.filter_eq_self.2 h
end Go.Proofs.YtkgenianmdfmdaaGreat
namespace Go.Proofs.YtkgenianmdfmdaaGreat
open Go.TQ
theorem yu:∀(l:List ai) (ms:List bg) (k:Nat) (m:bg),ms[k]?=some m->
  (l.foldl c5 ms)[k]?=some (if m.dj then m else match(bK l).find? (fun e=>decide (e.ar.toNat=k))with|some e=>⟨true,e.aa⟩|none=>m)
 |[],ms,k,m,h=>by simp[bK,h]
 |e::l,ms,k,m,h=>by
  rw[QU]
  by_cases hv:aL e=true
  ·have hr:bK (e::l)=e::bK l:=by simp[bK,hv]
   rw[hr,List.find?_cons]
   by_cases hk:e.ar.toNat=k
   ·have hstep:(c5 ms e)[k]?=some (if m.dj then m else⟨true,e.aa⟩):=by
     unfold c5;rw[hv,hk,h]
     cases hm:m.dj with
     |true=>simp[hm,h]
     |false=>
      have hlt:k<ms.length:=(Qw.1 h).1;simp[hm,hlt]
    rw[yu l _ k _ hstep]
    cases hm:m.dj with
    |true=>simp[hm]
    |false=>simp[hk]
   ·have hstep:(c5 ms e)[k]?=some m:=by
     unfold c5;split
     ·rw[List.getElem?_set_ne hk];exact h
     ·exact h
    rw[yu l _ k m hstep];simp[hk]
  ·have hv':aL e=false:=by simpa using hv
   have hr:bK (e::l)=bK l:=by simp[bK,hv']
   have hstep:c5 ms e=ms:=by simp[c5,hv']
   rw[hr,hstep];exact yu l ms k m h
theorem UD{ax:Nat}{t:an}{l:List ai}{k:Nat}(hk:k<10)(hn:ax<10):
  (fj ax t l)[k]?=some (if k=ax then⟨true,t⟩else match(bK l).find? (fun e=>decide (e.ar.toNat=k))with|some e=>⟨true,e.aa⟩|none=>ft):=by
 unfold fj
 by_cases h:k=ax
 ·subst h;rw[yu l _ k ⟨true,t⟩ (by simp[hk])]
  simp
 ·rw[yu l _ k ft (by
   rw[List.getElem?_set_ne (fun e=>h e.symm),List.getElem?_replicate,Qr hk])]
  simp[h,ft]
theorem MH{l:List bg}{k:Nat}{m:bg}(hk:k<10)(h:l[k]?=some m)(hd:m.dj=true):lA l k=true:=by
 rw[lA,EU,h];simp[hk,hd]
theorem UC{ax:Nat}(hn:ax<10){t:an}{l:List ai}(T:Nat->an)(ht:T ax=t)(hT:∀e∈bK l,e.aa=T e.ar.toNat){k:Nat}(hk:k<10)(hs:k=ax\/∃e∈bK l,e.ar.toNat=k):
  lA (fj ax t l) k=true/\j0 (fj ax t l) k=T k:=by
 have hg:=UD (t:=t) (l:=l) hk hn
 by_cases h:k=ax
 ·rw[Qr h]at hg;exact⟨MH hk hg rfl,by rw[pN hg,h,ht]⟩
 ·rw[Qs h]at hg;obtain⟨e,he,hek⟩:=hs.resolve_left h
  cases hf:(bK l).find? (fun e=>decide (e.ar.toNat=k))with
  |none=>
   have:=List.find?_eq_none.1 hf e he;simp[hek]at this
  |some e'=>
   rw[hf]at hg;have h1:=List.mem_of_find?_eq_some hf;have h2:=List.find?_some hf;simp only[Qi]at h2;exact⟨MH hk hg rfl,by rw[pN hg,<-h2];exact hT e' h1⟩
def BQ(b p:ae)(ts:List an)(q n:Nat)(l:List ai):Prop:=
 l.length<=n/\(∀e∈l,∃i t,i<n/\q.testBit i=true/\ts[i]?=some t/\e=vE b p i t)/\∀i t,i<n->q.testBit i=true->ts[i]?=some t->vE b p i t∈l
theorem BQ.nil(b p:ae)(ts:List an)(q:Nat):BQ b p ts q 0 []:=⟨by simp,by simp,fun i t h=>by omega⟩
theorem BQ.take{b p:ae}{ts:List an}{q n:Nat}{l:List ai}(h:BQ b p ts q n l)(hq:q.testBit n=true){t:an}(ht:ts[n]?=some t):BQ b p ts q (n+1) (l++[vE b p n t]):=by
 obtain⟨h1,h2,h3⟩:=h;refine⟨by simp;omega,fun e he=> ?_,fun i t' hi hb ht'=> ?_⟩
 ·rcases Qz.1 he with he|he
  ·obtain⟨i,t,a,b,c⟩:=h2 e he;exact⟨i,t,by omega,b,c⟩
  ·simp only[List.mem_singleton]at he;exact⟨n,t,by omega,hq,ht,he⟩
 ·rcases Nat.lt_or_ge i n with h|h
  ·exact Qz.2 (.inl (h3 i t' h hb ht'))
  ·obtain rfl:i=n:=by omega
   rw[ht]at ht';injection ht' with ht'
   subst ht';exact Qz.2 (.inr (by simp))
section
variable {b p : ae} (hb : Ri b) (hp : aA p = true \/ cq p = true) {ts : List an} (hts : ∀ t ∈ ts, gC t) {q : Nat} {l : List ai} (hlen : ts.length <= 5) (hc : BQ b p ts q ts.length l)
 include hb hp hts hlen hc
end
end Go.Proofs.YtkgenianmdfmdaaGreat
namespace Go.Proofs.YtkgenianmdfmdaaGreat
open Go.TQ
section
variable {α : Type}
structure SWO (lt:α->α->Bool):Prop where
 asymm:∀x y,lt x y=true->lt y x=false
 trans:∀x y z,lt y x=false->lt z y=false->lt z x=false
end
end Go.Proofs.YtkgenianmdfmdaaGreat
namespace Go.Proofs.YtkgenianmdfmdaaGreat
open Go.TQ
section
variable {α : Type}
 def PL(eq ne:α->α->Bool)(z:α)(K:Int)(n:Nat)(v6:Int×Int×(List α)×Unit):Option ((Int×Int×(List α)×Unit)⊕((Int×(List α)×Unit)⊕List α)):=
 bif (decide (v6.2.1<((List.length ((v6.2.2.1.drop (Int.toNat K)).take (Int.toNat (n:Int) - Int.toNat K)):Nat):Int)))then
 bj (fun(v7:Int×(List α)×Unit)=>
 some (Sum.inl (v7.1,(aB .i64 v6.2.1 (1:Int)),v7.2.1,()))) fun j8=>
 Option.bind (idx ((v6.2.2.1.drop (Int.toNat K)).take (Int.toNat (n:Int) - Int.toNat K)) v6.2.1) fun x9=>
 Option.bind (v6.2.2.1[((Int.toNat K)+Int.toNat v6.2.1)]?) fun x10=>
 Option.bind (idx ((v6.2.2.1.drop (Int.toNat K)).take (Int.toNat (n:Int) - Int.toNat K)) (dz .i64 v6.2.1 (1:Int))) fun x11=>
 Option.bind (v6.2.2.1[((Int.toNat K)+Int.toNat (dz .i64 v6.2.1 (1:Int)))]?) fun x12=>
 bif (ne x10 x12)then
 Option.bind (idx ((v6.2.2.1.drop (Int.toNat K)).take (Int.toNat (n:Int) - Int.toNat K)) v6.2.1) fun x13=>
 Option.bind (v6.2.2.1[((Int.toNat K)+Int.toNat v6.2.1)]?) fun x14=>
 Option.bind (idx v6.2.2.1 v6.1) fun x15=>
 Option.bind (v6.2.2.1[(Int.toNat v6.1)]?) fun x16=>
 j8 ((aB .i64 v6.1 (1:Int)),(v6.2.2.1.set (Int.toNat v6.1) x14),())
 else
 j8 (v6.1,v6.2.2.1,())
 else
 Option.map Sum.inr (bif cp v6.1 ((List.length v6.2.2.1):Int) (List.length v6.2.2.1)then
 bif cp (0:Int) v6.1 (List.length (v6.2.2.1.take (Int.toNat v6.1)++List.replicate (Int.toNat ((List.length v6.2.2.1):Int) - Int.toNat v6.1) z++v6.2.2.1.drop ((Int.toNat v6.1)+(Int.toNat ((List.length v6.2.2.1):Int) - Int.toNat v6.1))))then
 Option.map Sum.inr (some ((v6.2.2.1.take (Int.toNat v6.1)++List.replicate (Int.toNat ((List.length v6.2.2.1):Int) - Int.toNat v6.1) z++v6.2.2.1.drop ((Int.toNat v6.1)+(Int.toNat ((List.length v6.2.2.1):Int) - Int.toNat v6.1))).take (Int.toNat v6.1 - Int.toNat (0:Int))))
 else none
 else none)
 def Ke(eq ne:α->α->Bool)(z:α)(v1:Int×(List α)×Unit):Option ((Int×(List α)×Unit)⊕List α):=
 bif (decide (v1.1<((List.length v1.2.1:Nat):Int)))then
 Option.bind (idx v1.2.1 v1.1) fun x2=>
 Option.bind (v1.2.1[(Int.toNat v1.1)]?) fun x3=>
 Option.bind (idx v1.2.1 (dz .i64 v1.1 (1:Int))) fun x4=>
 Option.bind (v1.2.1[(Int.toNat (dz .i64 v1.1 (1:Int)))]?) fun x5=>
 bif (eq x3 x5)then
 bif cp v1.1 ((List.length v1.2.1):Int) (List.length v1.2.1)then
 aE (PL eq ne z v1.1 (List.length v1.2.1)) (v1.1,(1:Int),v1.2.1,())
 else none
 else
 some (Sum.inl ((aB .i64 v1.1 (1:Int)),v1.2.1,()))
 else
 Option.map Sum.inr (some v1.2.1)
 def H2(eq ne:α->α->Bool)(z:α)(s:List α):Option (List α):=
 bif (decide (((List.length s:Nat):Int)<(2:Int)))then
 some s
 else
 aE (Ke eq ne z) ((1:Int),s,())
theorem N7(d:List α){K n m:Nat}(hm:m<n - K):idx ((d.drop K).take (n - K)) (m:Int)=d[K+m]?:=by
 rw[bz,List.getElem?_take,Qr hm,List.getElem?_drop]
variable [DecidableEq α]
def ox(acc:List α)(x:α):List α:=if acc.getLast?=some x then acc else acc++[x]
def dd(l:List α):List α:=l.foldl ox []
theorem SN(l:List α)(x:α):dd (l++[x])=ox (dd l) x:=by simp[dd,List.foldl_append]
theorem Zr(l:List α):(dd l).getLast?=l.getLast?:=by
 suffices h:∀r:List α,(dd r.reverse).getLast?=r.reverse.getLast? by
  have:=h l.reverse
  rwa [List.reverse_reverse]at this
 intro r
 induction r with
 |nil=>rfl
 |cons x r ih=>
  rw[List.reverse_cons,SN,ox];split
  ·rename_i h;rw[h];simp
  ·simp
theorem SM{s:List α}{k:Nat}{x:α}(h:s[k]?=some x):dd (s.take (k+1))=ox (dd (s.take k)) x:=by
 obtain⟨hl,hx⟩:=Qw.1 h;rw[List.take_succ_eq_append_getElem hl,hx,SN]
theorem MG{s:List α}{k:Nat}{x:α}(h:s[k]?=some x):(dd (s.take (k+1))).getLast?=some x:=by
 obtain⟨hl,hx⟩:=Qw.1 h;rw[Zr,List.take_succ_eq_append_getElem hl,hx];simp
variable {eq ne : α -> α -> Bool} {z : α}
theorem Ib(hne:∀x y,ne x y= !decide (x=y)){s:List α}{K:Nat}(hn:s.length<1000000000):∀(r i k2:Nat) (d:List α),k2+r=s.length - K->1<=k2->i<=K+k2 - 1->d.length=s.length->d.take i=dd (s.take (K+k2))->(∀j,K+k2 - 1<=j->d[j]?=s[j]?)->
  aE (PL eq ne z (K:Int) s.length) ((i:Int),(k2:Int),d,())=some (.inr (dd s))
 |0,i,k2,d,hr,h1,hi,hd,ht,hs=>by
  have hKn:K+k2=s.length:=by omega
  refine bU ?_;have e1:(((d.drop K).take (s.length - K)).length)=s.length - K:=by simp;omega
  have e2:decide ((k2:Int)<((s.length - K:Nat):Int))=false:=Qh (by omega)
  have e3:∀n,cp (i:Int) (d.length:Int) n=decide (d.length<=n):=by
   intro n;have:i<=d.length:=by omega
   simp only[cp];have h1:decide ((0:Int)<=(i:Int))=true:=Qg (by omega)
   have h2:decide ((i:Int)<=(d.length:Int))=true:=Qg (by omega)
   rw[h1,h2,Bool.and_self,Bool.true_and,decide_eq_decide];omega
  have e4:(d.take i++List.replicate (d.length - i) z++d.drop (i+(d.length - i))).length=d.length:=by simp;omega
  have e5:cp (0:Int) (i:Int) d.length=true:=by
   simp only[cp,Qm,Qi];omega
  have e6:(d.take i++List.replicate (d.length - i) z++d.drop (i+(d.length - i))).take (i - 0)=dd s:=by
   rw[Nat.sub_zero,QL,List.take_append_of_le_length (by simp;omega),List.take_take,Nat.min_self,ht,hKn,List.take_length]
  simp only[PL,QV,e1,e2,Ql,e3,QI,decide_true,Qk,e4,e5,Int.toNat_zero,e6,Qe]
 |r+1,i,k2,d,hr,h1,hi,hd,ht,hs=>by
  have hKn:K+k2<s.length:=by omega
  obtain⟨x,hx⟩:∃x,s[K+k2]?=some x:=⟨_,Qv hKn⟩;obtain⟨y,hy⟩:∃y,s[K+(k2 - 1)]?=some y:=⟨_,Qv (by omega)⟩
  have e1:(((d.drop K).take (s.length - K)).length)=s.length - K:=by simp;omega
  have e2:decide ((k2:Int)<((s.length - K:Nat):Int))=true:=Qg (by omega)
  have e3:dz .i64 (k2:Int) 1=((k2 - 1:Nat):Int):=by rw[tf (by omega) (by omega)];omega
  have e4:aB .i64 (k2:Int) 1=((k2+1:Nat):Int):=bH (by omega) (by omega)
  have e5:aB .i64 (i:Int) 1=((i+1:Nat):Int):=bH (by omega) (by omega)
  have hdx:d[K+k2]?=some x:=by rw[hs _ (by omega),hx]
  have hdy:d[K+(k2 - 1)]?=some y:=by rw[hs _ (by omega),hy]
  have hv1:=N7 d (K:=K) (n:=s.length) (m:=k2) (by omega)
  have hv2:=N7 d (K:=K) (n:=s.length) (m:=k2 - 1) (by omega)
  obtain⟨w,hw⟩:∃w,d[i]?=some w:=⟨_,Qv (by omega)⟩
  have hstep:=SM hx
  have hlast:(dd (s.take (K+k2))).getLast?=some y:=by
   have:=MG hy
   rwa [show K+(k2 - 1)+1=K+k2 by omega]at this
  rw[ox,hlast]at hstep;have hil:i<d.length:=by omega
  by_cases hxy:x=y
  ·refine Eq.trans (bl (s':=((i:Int),((k2+1:Nat):Int),d,())) ?_) (Ib hne hn r i (k2+1) d (by omega) (by omega) (by omega) hd ?_ fun j hj=>hs j (by omega))
   ·simp only[PL,QV,e1,e2,Qk,aU,hv1,hdx,Qa,e3,hv2,hdy,hne,hxy,decide_true,Qo,Ql,e4]
   ·rw[show K+(k2+1)=K+k2+1 by omega,hstep,Qr (by rw[hxy]),ht]
  ·refine Eq.trans (bl (s':=(((i+1:Nat):Int),((k2+1:Nat):Int),d.set i x,())) ?_) (Ib hne hn r (i+1) (k2+1) (d.set i x) (by omega) (by omega) (by omega) (by rw[QY];exact hd) ?_ fun j hj=> ?_)
   ·simp only[PL,QV,e1,e2,Qk,aU,hv1,hdx,Qa,e3,hv2,hdy,hne,hxy,decide_false,Qp,e4,e5,bz,hw]
   ·rw[show K+(k2+1)=K+k2+1 by omega,hstep,Qs (fun e=>hxy (by injection e with e;exact e.symm)),<-ht,List.take_succ_eq_append_getElem (by rw[QY];exact hil)]
    congr 1
    ·rw[List.take_set_of_le (QI _)]
    ·simp
   ·rw[List.getElem?_set,Qs (by omega)]
    exact hs j (by omega)
theorem PK(heq:∀x y,eq x y=decide (x=y))(hne:∀x y,ne x y= !decide (x=y)){s:List α}(hn:s.length<1000000000):∀(r k:Nat),k+r=s.length->1<=k->dd (s.take k)=s.take k->aE (Ke eq ne z) ((k:Int),s,())=some (dd s)
 |0,k,hr,h1,h=>by
  refine bU ?_;have hk:k=s.length:=by omega
  have e2:decide ((k:Int)<((s.length:Nat):Int))=false:=Qh (by omega)
  rw[hk,List.take_length]at h;simp only[Ke,e2,Ql,Qe,h]
 |r+1,k,hr,h1,h=>by
  have hk:k<s.length:=by omega
  obtain⟨x,hx⟩:∃x,s[k]?=some x:=⟨_,Qv hk⟩;obtain⟨y,hy⟩:∃y,s[k - 1]?=some y:=⟨_,Qv (by omega)⟩
  have e2:decide ((k:Int)<((s.length:Nat):Int))=true:=Qg (by omega)
  have e3:dz .i64 (k:Int) 1=((k - 1:Nat):Int):=by rw[tf (by omega) (by omega)];omega
  have e4:aB .i64 (k:Int) 1=((k+1:Nat):Int):=bH (by omega) (by omega)
  have hstep:=SM hx
  have hlast:(dd (s.take k)).getLast?=some y:=by
   have:=MG hy
   rwa [show k - 1+1=k by omega]at this
  rw[ox,hlast]at hstep
  by_cases hxy:x=y
  ·rw[Qr (by rw[hxy])]at hstep
   have e5:cp (k:Int) (s.length:Int) s.length=true:=by
    simp only[cp,Qm,Qi];omega
   have hin:=Ib (eq:=eq) (z:=z) (K:=k) hne hn (s.length - k - 1) k 1 s (by omega) (by omega) (by omega) rfl (by rw[hstep,h]) (fun _ _=>rfl)
   refine bU ?_;simp only[Ke,e2,Qk,bz,QV,hx,hy,e3,Qa,heq,hxy,decide_true,e5];exact hin
  ·rw[Qs (fun e=>hxy (by injection e with e;exact e.symm))]at hstep
   refine Eq.trans (bl (s':=(((k+1:Nat):Int),s,())) ?_) (PK heq hne hn r (k+1) (by omega) (by omega) ?_)
   ·simp only[Ke,e2,Qk,bz,QV,hx,hy,e3,Qa,heq,hxy,decide_false,Ql,e4]
   ·obtain⟨hl,hx'⟩:=Qw.1 hx;rw[hstep,h,List.take_succ_eq_append_getElem hl,hx']
theorem CS(heq:∀x y,eq x y=decide (x=y))(hne:∀x y,ne x y= !decide (x=y))(s:List α)(hn:s.length<1000000000):H2 eq ne z s=some (dd s):=by
 unfold H2
 by_cases h:s.length<2
 ·have e:decide (((s.length:Nat):Int)<2)=true:=Qg (by omega)
  rw[e,Qk]
  match s,h with
  |[],_=>rfl
  |[x],_=>rfl
 ·have e:decide (((s.length:Nat):Int)<2)=false:=Qh (by omega)
  rw[e,Ql];refine PK heq hne hn (s.length - 1) 1 (by omega) (by omega) ?_
  cases s with
  |nil=>rfl
  |cons x l=>rfl
theorem Ud(acc:List α)(x:α):∀y,y∈ox acc x↔y∈acc\/y=x:=by
 intro y;unfold ox;split
 ·rename_i h;have:=List.mem_of_getLast? h;exact⟨.inl,fun h'=>h'.elim id fun e=>e▸this⟩
 ·simp
theorem Es:∀(l acc:List α) (y:α),y∈l.foldl ox acc↔y∈acc\/y∈l
 |[],acc,y=>by simp
 |x::l,acc,y=>by
  rw[QU,Es l,Ud];simp[or_assoc]
theorem aae(l:List α)(y:α):y∈dd l↔y∈l:=by rw[dd,Es];simp
theorem PI(l:List α):(dd l).length<=l.length:=by
 suffices h:∀(l acc:List α),(l.foldl ox acc).length<=acc.length+l.length by simpa[dd]using h l []
 intro l
 induction l with
 |nil=>intro acc;simp
 |cons x l ih=>
  intro acc;rw[QU];refine QK (ih _) ?_;unfold ox;split<;>simp<;>omega
theorem Vz{lt:α->α->Bool}(ho:SWO lt)(hto:∀x y,lt x y=false->lt y x=false->x=y){l:List α}(hl:l.Pairwise (fun a b=>lt b a=false)):(dd l).Pairwise (fun a b=>lt a b=true):=by
 suffices h:∀(l acc:List α),(acc++l).Pairwise (fun a b=>lt b a=false)->acc.Pairwise (fun a b=>lt a b=true)->(l.foldl ox acc).Pairwise (fun a b=>lt a b=true)from h l [] (by simpa using hl) .nil
 intro l
 induction l with
 |nil=>intro acc _ h;exact h
 |cons x l ih=>
  intro acc h1 h2;rw[QU];unfold ox;split
  ·rename_i hlast;refine ih acc ?_ h2;rw[List.pairwise_append]at h1 ⊢;exact⟨h1.1,(Q4.1 h1.2.1).2,fun a ha b hb=>h1.2.2 a ha b (by simp[hb])⟩
  ·rename_i hlast;refine ih _ (by simpa using h1) ?_
   rw[List.pairwise_append]at h1 ⊢;refine⟨h2,by simp,fun a ha b hb=> ?_⟩
   rw[List.mem_singleton.1 hb];have hax:lt x a=false:=h1.2.2 a ha x (by simp)
   cases hc:lt a x with
   |true=>rfl
   |false=>
    exfalso;have e:=hto a x hc hax;subst e
    obtain⟨y,hy⟩:∃y,acc.getLast?=some y:=by
     cases hg:acc.getLast? with
     |none=>rw[List.getLast?_eq_none_iff.1 hg]at ha;cases ha
     |some y=>exact⟨y,rfl⟩
    obtain⟨pre,rfl⟩:∃pre,acc=pre++[y]:=by
     have:=List.getLast?_eq_some_iff.1 hy;exact this
    rcases Qz.1 ha with ha|ha
    ·rw[List.pairwise_append]at h2;have h3:=h2.2.2 a ha y (by simp)
     have h4:=h1.2.2 y (by simp) a (by simp)
     rw[h3]at h4;cases h4
    ·rw[List.mem_singleton.1 ha]at hlast;exact hlast hy
end
end Go.Proofs.YtkgenianmdfmdaaGreat
namespace Go.Proofs.YtkgenianmdfmdaaGreat
open Go.TQ
theorem Xf(s:List Int):mz s=H2 (fun x y=>decide (x=y)) (fun x y=> !decide (x=y)) 0 s:=rfl
 def gp(v:ByteArray)(e:ai):Bool:=aL e&&decide (e.ab.Value=v)&& !decide (e.aI=0)
 def ends(v:ByteArray)(l:List ai):List Int:=l.flatMap fun e=>if gp v e then[e.aI,e.aR]else[]
theorem vU{v:ByteArray}{l:List ai}{x:Int}:x∈ends v l↔∃e∈l,gp v e=true/\(x=e.aI\/x=e.aR):=by
 simp only[ends,QQ];constructor
 ·rintro⟨e,he,hx⟩;split at hx
  ·rename_i h;exact⟨e,he,h,by simpa using hx⟩
  ·cases hx
 ·rintro⟨e,he,h,hx⟩;exact⟨e,he,by rw[Qr h];simpa using hx⟩
end Go.Proofs.YtkgenianmdfmdaaGreat
namespace Go.Proofs.YtkgenianmdfmdaaGreat
open Go.TQ
theorem E9{v:bq}{ax:Int}{l:List ai}(hl:l.length<=1000000)(hin:uD l)(val:ByteArray)(lo hi:Int):ic ⟨ax,v,l.map br.mk⟩ val lo hi=some ((c8 (eK · val lo hi) l:Nat):Int):=by
 unfold ic;refine BT (eK · val lo hi) l hin _ (fun i e s he=> ?_) (fun s=> ?_)
 ·have hlt:i<l.length:=(Qw.1 he).1;have hd:decide ((i:Int)<(((l.map br.mk).length:Nat):Int))=true:=Qg (by rw[QC];omega)
  have hw:aB .i64 (i:Int) 1=((i+1:Nat):Int):=bH (by omega) (by omega)
  have hx:idx (l.map br.mk) (i:Int)=some ⟨e⟩:=by rw[bz,QT,he];rfl
  simp only[hd,hx,hw,Qk,Qa,an.eta,ai.eta,kM,ru,aU];cases eK e val lo hi<;>simp
 ·have hd:decide (((l.length:Nat):Int)<(((l.map br.mk).length:Nat):Int))=false:=Qh (by rw[QC];exact Int.lt_irrefl _)
  simp only[hd,Ql,Qe]
theorem RZ{v:bq}{ax:Int}{l:List ai}(hl:l.length<=1000000)(hin:uD l)(val:ByteArray)(lo hi:Int):fF ⟨ax,v,l.map br.mk⟩ val lo hi val lo hi=some ((c8 (fun e=>pz e val lo hi||eK e val lo hi) l:Nat):Int):=by
 unfold fF;refine BT (fun e=>pz e val lo hi||eK e val lo hi) l hin _ (fun i e s he=> ?_) (fun s=> ?_)
 ·have hlt:i<l.length:=(Qw.1 he).1;have hd:decide ((i:Int)<(((l.map br.mk).length:Nat):Int))=true:=Qg (by rw[QC];omega)
  have hw:aB .i64 (i:Int) 1=((i+1:Nat):Int):=bH (by omega) (by omega)
  have hx:idx (l.map br.mk) (i:Int)=some ⟨e⟩:=by rw[bz,QT,he];rfl
  simp only[hd,hx,hw,Qk,Qa,an.eta,ai.eta,ir,kM,ue,ru,AU,aU,jB,Bool.cond_true_left];cases (pz e val lo hi||eK e val lo hi)<;>simp
 ·have hd:decide (((l.length:Nat):Int)<(((l.map br.mk).length:Nat):Int))=false:=Qh (by rw[QC];exact Int.lt_irrefl _)
  simp only[hd,Ql,Qe]
 def DI(ax:Nat)(t:an)(l:List ai):fE:=⟨ax,⟨fj ax t l⟩,(bK l).map br.mk⟩
 def jO(ax:Nat)(t:an)(l:List ai)(val:ByteArray)(lo hi:Int):Bool:=
 nv (fj ax t l) ax (c8 (fun e=>pz e val lo hi||eK e val lo hi) (bK l)) (c8 (eK · val lo hi) (bK l))
 def pc(ax:Nat)(t:an)(l:List ai)(val:ByteArray)(lo hi:Int):Bool:=
 (gq (fj ax t l) (c8 (eK · val lo hi) (bK l))).testBit ax
section
variable {ax : Nat} (hn : ax < 10) {t : an} (ht : dD t) {l : List ai} (hl : oy l)
 include hn ht hl
theorem OE(val:ByteArray)(lo hi:Int):gi (DI ax t l) val lo hi=some (jO ax t l val lo hi):=by
 have hlen:=hl.len;have hrl:=xL l;have hin:=kF l
 simp only[DI,gi,mF,jc,Qa,RZ (by omega:(bK l).length<=1000000) hin,E9 (by omega:(bK l).length<=1000000) hin,
  Db (lh ht hl) hn (kP hin) (kP hin),jO]
theorem Yi(val:ByteArray)(lo hi:Int):lv (DI ax t l) val lo hi=some (pc ax t l val lo hi):=by
 have hlen:=hl.len;have hrl:=xL l;have hin:=kF l;simp only[DI,lv,mF,ki,Qa,E9 (by omega:(bK l).length<=1000000) hin,BA (lh ht hl) hn (kP hin),pc]
theorem look_eq:eN ax t l=some (DI ax t l):=LN hn ht hl
end
def cm(q:Int->Bool):List Int->Int->Int
 |[],lo=>lo
 |e::l,lo=>if lo<=e then cm q l lo else if q e then cm q l e else lo
theorem yq{p:Int->Option Bool}{q:Int->Bool}(h:∀e,p e=some (q e)):∀(l:List Int) (lo:Int),kT (fun(m5:Nat) (e6:Int) (v4:Int×Unit)=>
  bif (decide (v4.1<=e6))then some (Sum.inl (v4.1,()))else
  Option.bind (p e6) fun r7=>bif (!r7)then Option.map Sum.inr (some v4.1)else some (Sum.inl (e6,()))) (fun v8=>some v8.1) l (lo,())=some (cm q l lo)
 |[],lo=>rfl
 |e::l,lo=>by
  rw[kT,cm]
  by_cases hle:lo<=e
  ·rw[Qr hle];simp only[hle,decide_true,Qk];exact yq h l lo
  ·rw[Qs hle];simp only[hle,decide_false,Ql,h,Qa]
   cases hq:q e with
   |true=>
    simp only[Qo,Ql,Qt];have:=yq h l e;simp only[h,Qa]at this;exact this
   |false=>rfl
def flat(n:Nat)(k:Int):an:=⟨k,sK n,[]⟩
theorem Hc(s n:Nat)(k:Int):jw s (flat n k)=decide (k<=(((sK n).countP (jR s):Nat):Int)):=by
 rw[Fj];simp[flat,tG]
theorem Uf{s s':Nat}(h:∀k,s.testBit k=true->s'.testBit k=true)(l:List Int):l.countP (jR s)<=l.countP (jR s'):=List.countP_mono_left fun x _ hx=>ML h x hx
structure C2 (n:Nat) (k:Int) (l:List ai):Prop where
 n10:n<=10
 k1:1<=k
 kn:k<=n
 valid:∀e∈l,aL e=true
 aO:∀e∈l,e.aa=flat n k
 few:l.length<=1000
 all:∀i,i<n->∃e∈l,e.ar.toNat=i
theorem C2.fQ{n:Nat}{k:Int}{l:List ai}(h:C2 n k l):gC (flat n k):=z1 n h.n10 k h.k1 h.kn
theorem C2.sm{n:Nat}{k:Int}{l:List ai}(h:C2 n k l):oy l:=⟨by have:=h.few;omega,fun e he=>by rw[h.aO e he];exact h.fQ.sm⟩
theorem C2.bK{n:Nat}{k:Int}{l:List ai}(h:C2 n k l):Go.Proofs.YtkgenianmdfmdaaGreat.bK l=l:=I8 h.valid
def cE(n:Nat)(k:Int)(c:Int)(v:ByteArray)(lo hi:Nat->Int)(i:Nat):ai:=⟨i,1,1,flat n k,2,⟨c,v⟩,⟨c,v⟩,⟨0,ByteArray.mk #[]⟩,lo i,hi i⟩
end Go.Proofs.YtkgenianmdfmdaaGreat
namespace Go.Proofs.YtkgenianmdfmdaaGreat
open Go.TQ
def s8(b:List Int)(sure:Int->Int->Bool):Int×Int×Bool×Unit:=
 match b.reverse.find? (fun e=>sure e e)with
 |some e=>(cm (fun x=>sure x e) b.reverse e,e,true,())
 |none=>(0,0,false,())
theorem SE{p:Int->Option Bool}{q:Int->Bool}{d:Int->Option Int}{f:Int->Int}(hp:∀e,p e=some (q e))(hd:∀e,d e=some (f e)):∀r:List Int,kT (fun(m5:Nat) (e6:Int) (v4:Int×Int×Bool×Unit)=>
  Option.bind (p e6) fun r7=>bif r7 then Option.bind (d e6) fun r8=>Option.map Sum.inr (some (r8,e6,true,()))else some (Sum.inl (v4.1,v4.2.1,v4.2.2.1,()))) (fun(v9:Int×Int×Bool×Unit)=>some ((0:Int),(0:Int),false,())) r ((0:Int),(0:Int),false,())=
  some (match r.find? q with|some e=>(f e,e,true,())|none=>(0,0,false,()))
 |[]=>rfl
 |e::r=>by
  have ih:=SE hp hd r;rw[kT,List.find?_cons];simp only[hp,hd,Qa,Qe]at ih ⊢
  cases q e with
  |true=>rfl
  |false=>simp only[Ql];exact ih
section
variable {ax : Nat} (hn : ax < 10) {t : an} (ht : dD t) {l : List ai} (hl : oy l)
 include hn ht hl
end
section
variable {n : Nat} {k c : Int} {v : ByteArray} {lo hi : Nat -> Int} (h : C2 n k ((List.range n).map (cE n k c v lo hi))) {i : Nat} (hi' : i < n)
 include h hi'
end
end Go.Proofs.YtkgenianmdfmdaaGreat
namespace Go.Proofs.YtkgenianmdfmdaaGreat
open Go.TQ
section
variable {α : Type}
structure tc (lt:α->α->Bool):Prop where
 irrefl:∀x,lt x x=false
 trans:∀x y z,lt x y=true->lt y z=true->lt x z=true
 total:∀x y,lt x y=false->lt y x=false->x=y
variable {lt : α -> α -> Bool}
theorem tc.asymm(h:tc lt){x y:α}(hxy:lt x y=true):lt y x=false:=by
 cases hc:lt y x with
 |false=>rfl
 |true=>have:=h.trans x y x hxy hc;rw[h.irrefl]at this;cases this
theorem tc.ntrans(h:tc lt){x y z:α}(h1:lt x y=false)(h2:lt y z=false):lt x z=false:=by
 cases hc:lt x z with
 |false=>rfl
 |true=>
  cases hyx:lt y x with
  |false=>rw[h.total x y h1 hyx,h2]at hc;cases hc
  |true=>have:=h.trans y x z hyx hc;rw[h2]at this;cases this
theorem tc.kit(h:tc lt):Go.Sort.SWO lt:=⟨h.irrefl,h.trans,fun _ _ _=>h.ntrans⟩
theorem tc.own(h:tc lt):SWO lt:=⟨fun _ _=>h.asymm,fun _ _ _ h1 h2=>h.ntrans h2 h1⟩
theorem tc.flip(h:tc lt):tc fun a b=>lt b a:=⟨h.irrefl,fun x y z h1 h2=>h.trans z y x h2 h1,fun x y h1 h2=>h.total x y h2 h1⟩
theorem tc.unique(h:tc lt):∀{a b:List α},a.Pairwise (fun x y=>lt x y=true)->b.Pairwise (fun x y=>lt x y=true)->(∀x,x∈a↔x∈b)->a=b
 |[],[],_,_,_=>rfl
 |[],y::b,_,_,h'=>by have:=(h' y).2 (by simp);cases this
 |x::a,[],_,_,h'=>by have:=(h' x).1 (by simp);cases this
 |x::a,y::b,ha,hb,h'=>by
  rw[Q4]at ha hb
  have hxy:x=y:=by
   have h1:=(h' x).1 (by simp)
   have h2:=(h' y).2 (by simp)
   rcases QA.1 h1 with h1|h1
   ·exact h1
   ·rcases QA.1 h2 with h2|h2
    ·exact h2.symm
    ·have q1:=ha.1 y h2;have q2:=hb.1 x h1;rw[h.asymm q1]at q2;cases q2
  subst hxy;congr 1;refine h.unique ha.2 hb.2 fun z=>⟨fun hz=> ?_,fun hz=> ?_⟩
  ·rcases QA.1 ((h' z).1 (by simp[hz]))with e|e
   ·subst e;have:=ha.1 z hz;rw[h.irrefl]at this;cases this
   ·exact e
  ·rcases QA.1 ((h' z).2 (by simp[hz]))with e|e
   ·subst e;have:=hb.1 z hz;rw[h.irrefl]at this;cases this
   ·exact e
theorem tc.Wd[DecidableEq α](h:tc lt){cmp:α->α->Option Int}{c:α->α->Int}(hc:∀x y,cmp x y=some (c x y))(hlt:∀x y,decide (c x y<0)=lt x y)(s:List α)(hs:s.length<1000000000):
  ∃t,yw cmp s=some ((),t)/\t.length=s.length/\(dd t).Pairwise (fun x y=>lt x y=true)/\∀x,x∈dd t↔x∈s:=by
 have hcf:E2 cmp=c:=funext fun x=>funext fun y=>by unfold E2;rw[hc];rfl
 have hl:Go.Proofs.ltOf (E2 cmp)=lt:=by
  rw[hcf];exact funext fun x=>funext fun y=>hlt x y
 have hok:X8 cmp:=⟨fun x y=>by rw[hcf];exact hc x y,by rw[hl];exact h.kit,fun x y h1 h2=>by rw[hl]at h1 h2;exact h.total x y h1 h2⟩
 refine⟨s.mergeSort fun x y=> !lt y x,?_,List.length_mergeSort s,Vz h.own h.total ?_,fun x=>by rw[aae,List.mem_mergeSort]⟩
 ·unfold yw;rw[Qr ⟨hok,by omega⟩,hl]
 ·refine(List.pairwise_mergeSort (le:=fun x y=> !lt y x) (fun a b c h1 h2=> ?_) (fun a b=> ?_) s).imp fun{a b} hab=>by simpa using hab
  ·simp only[Bool.not_eq_true']at h1 h2 ⊢;exact h.ntrans h2 h1
  ·cases hab:lt a b with
   |false=>simp
   |true=>rw[h.asymm hab];rfl
end
theorem yc:tc fun a b:Int=>decide (a<b):=
 ⟨fun x=>Qh (Int.lt_irrefl x),fun x y z h1 h2=>by simp only[Qi]at*;omega,fun x y h1 h2=>by simp only[Qj]at*;omega⟩
theorem P4:∀{x y z:List UInt8},Op.bytesLess x y=true->Op.bytesLess y z=true->Op.bytesLess x z=true
 |[],[],_,h,_=>by simp[Op.bytesLess]at h
 |_::_,[],_,h,_=>by simp[Op.bytesLess]at h
 |[],_::_,[],_,h=>by simp[Op.bytesLess]at h
 |[],_::_,_::_,_,_=>rfl
 |_::_,_::_,[],_,h=>by simp[Op.bytesLess]at h
 |a::x,b::y,c::z,h,h'=>by
  simp only[Op.bytesLess,Qn,Qi,Qm,beq_iff_eq]at h h' ⊢;rcases h with h|⟨rfl,h⟩
  ·rcases h' with h'|⟨rfl,h'⟩
   ·exact .inl (UInt8.lt_trans h h')
   ·exact .inl h
  ·rcases h' with h'|⟨rfl,h'⟩
   ·exact .inl h'
   ·exact .inr ⟨rfl,P4 h h'⟩
theorem Rs{a b c:ByteArray}(h:jS a b=true)(h':jS b c=true):jS a c=true:=P4 h h'
theorem Rt{a b:ByteArray}(h:a≠b):jS a b=true\/jS b a=true:=
 P5 fun e=>h (by
  rw[Lib.toList_data,Lib.toList_data]at e;cases a;cases b;rename_i x y;cases x;cases y
  simp_all)
theorem wy:tc jm:=by
 refine⟨fun x=>by rw[jm,Qr rfl,Oi],fun x y z h1 h2=> ?_,fun x y h1 h2=> ?_⟩
 ·unfold jm at*
  by_cases e1:x.size=y.size
  ·rw[Qr e1]at h1
   by_cases e2:y.size=z.size
   ·rw[Qr e2]at h2;rw[Qr (e1.trans e2)];exact Rs h1 h2
   ·rw[Qs e2]at h2;rw[Qs (by omega),e1]
    exact h2
  ·rw[Qs e1,Qi]at h1
   by_cases e2:y.size=z.size
   ·rw[Qs (by omega),<-e2]
    exact Qg h1
   ·rw[Qs e2,Qi]at h2;rw[Qs (by omega)]
    exact Qg (by omega)
 ·unfold jm at*
  by_cases e1:x.size=y.size
  ·rw[Qr e1]at h1;rw[Qr e1.symm]at h2;refine Classical.byContradiction fun hne=> ?_
   rcases Rt hne with h|h
   ·rw[h]at h1;cases h1
   ·rw[h]at h2;cases h2
  ·rw[Qs e1,Qj]at h1;rw[Qs (fun e=>e1 e.symm),Qj]at h2
   omega
theorem wz:tc bd:=by
 refine⟨fun x=>by rw[bd,Qr rfl,wy.irrefl],fun x y z h1 h2=> ?_,fun x y h1 h2=> ?_⟩
 ·unfold bd at*
  by_cases e1:x.aj=y.aj
  ·rw[Qr e1]at h1
   by_cases e2:y.aj=z.aj
   ·rw[Qr e2]at h2;rw[Qr (e1.trans e2)];exact wy.trans _ _ _ h1 h2
   ·rw[Qs e2]at h2;rw[Qs (by omega),e1]
    exact h2
  ·rw[Qs e1,Qi]at h1
   by_cases e2:y.aj=z.aj
   ·rw[Qs (by omega),<-e2]
    exact Qg h1
   ·rw[Qs e2,Qi]at h2;rw[Qs (by omega)]
    exact Qg (by omega)
 ·unfold bd at*
  by_cases e1:x.aj=y.aj
  ·rw[Qr e1]at h1;rw[Qr e1.symm]at h2;have:=wy.total _ _ h1 h2;cases x;cases y
   simp_all
  ·rw[Qs e1,Qj]at h1;rw[Qs (fun e=>e1 e.symm),Qj]at h2
   omega
end Go.Proofs.YtkgenianmdfmdaaGreat
namespace Go.Proofs.YtkgenianmdfmdaaGreat
open Go.TQ
structure KD (n:Nat) (l:List ai):Prop where
 of:∀e∈l,∃i:Nat,i<n/\KE i 1 n e
 asc:l.Pairwise fun a b=>a.ar<b.ar
 len:l.length<=n
theorem KD.valid{n:Nat}{l:List ai}(h:KD n l):∀e∈l,aL e=true:=fun e he=>by
 obtain⟨i,_,hi⟩:=h.of e he;rw[aL,LW hi.aO];exact hi.valid
theorem KD.sm{n:Nat}{l:List ai}(h:KD n l)(hn:n<=1000):oy l:=⟨by have:=h.len;omega,fun e he=>by
 obtain⟨i,_,hi⟩:=h.of e he
 exact hi.aO.sm⟩
theorem BN.mono{l:List bg}{s s' r:Nat}(h:∀k,s.testBit k=true->s'.testBit k=true)(hi:BN l s r):BN l s' r:=fun k hk=>⟨h k (hi k hk).1,(hi k hk).2⟩
section
variable {ax : Nat} {t : an} (ht : dD t) {l : List ai} (hl : oy l) {v : ByteArray} {lo hi k : Int} (h1 : lo <= k) (h2 : k <= hi)
 include ht hl h1 h2
end
end Go.Proofs.YtkgenianmdfmdaaGreat
namespace Go.Proofs.YtkgenianmdfmdaaGreat
open Go.TQ
section
variable {α : Type}
 def pT(p:α->Option Bool)(a0:List α)(v1:Int×Unit):Option ((Int×Unit)⊕Int):=
 bif (decide (v1.1<((List.length a0:Nat):Int)))then
  Option.bind (idx a0 v1.1) fun x2=>Option.bind (p x2) fun r3=>bif r3 then Option.map Sum.inr (some v1.1)else some (Sum.inl ((aB .i64 v1.1 (1:Int)),()))
 else Option.map Sum.inr (some (-1:Int))
 def Vp(p:α->Option Bool)(a0:List α):Option Int:=aE (pT p a0) ((0:Int),())
 def BC(p:α->Option Bool)(z:α)(v2:Int×Int×(List α)×Unit):Option ((Int×Int×(List α)×Unit)⊕List α):=
 bif (decide (v2.2.1<((List.length v2.2.2.1:Nat):Int)))then
  bj (fun(v3:Int×(List α)×Unit)=>some (Sum.inl (v3.1,(aB .i64 v2.2.1 (1:Int)),v3.2.1,()))) fun j4=>
  Option.bind (idx v2.2.2.1 v2.2.1) fun x5=>Option.bind (v2.2.2.1[(Int.toNat v2.2.1)]?) fun x6=>Option.bind (p x6) fun r7=>
  bif (!r7)then
   Option.bind (idx v2.2.2.1 v2.1) fun x8=>Option.bind (v2.2.2.1[(Int.toNat v2.1)]?) fun x9=>j4 ((aB .i64 v2.1 (1:Int)),(v2.2.2.1.set (Int.toNat v2.1) x6),())
  else j4 (v2.1,v2.2.2.1,())
 else
  Option.map Sum.inr (bif cp v2.1 ((List.length v2.2.2.1):Int) (List.length v2.2.2.1)then
   bif cp (0:Int) v2.1 (List.length (v2.2.2.1.take (Int.toNat v2.1)++List.replicate (Int.toNat ((List.length v2.2.2.1):Int) - Int.toNat v2.1) z++v2.2.2.1.drop ((Int.toNat v2.1)+(Int.toNat ((List.length v2.2.2.1):Int) - Int.toNat v2.1))))then
    some ((v2.2.2.1.take (Int.toNat v2.1)++List.replicate (Int.toNat ((List.length v2.2.2.1):Int) - Int.toNat v2.1) z++v2.2.2.1.drop ((Int.toNat v2.1)+(Int.toNat ((List.length v2.2.2.1):Int) - Int.toNat v2.1))).take (Int.toNat v2.1 - Int.toNat (0:Int)))
   else none
  else none)
 def Sx(p:α->Option Bool)(z:α)(s:List α):Option (List α):=
 Option.bind (Vp p s) fun r1=>bif (decide (r1=(-1:Int)))then some s else aE (BC p z) (r1,(aB .i64 r1 (1:Int)),s,())
theorem AK{q:α->Bool}{s:List α}{j:Nat}{x:α}(h:s[j]?=some x):(s.take (j+1)).filter q=(s.take j).filter q++if q x then[x]else[]:=by
 obtain⟨hl,hx⟩:=Qw.1 h;rw[List.take_succ_eq_append_getElem hl,List.filter_append,hx];congr 1;cases hq:q x<;>simp[hq]
variable {p : α -> Option Bool} {q : α -> Bool} (hp : ∀ x, p x = some (q x)) {z : α}
 include hp
theorem Pn{s:List α}(hs:s.length<1000000000):∀(k i:Nat),i+k=s.length->(s.take i).filter (fun x=> !q x)=s.take i->
  (∃m:Nat,∃x,aE (pT p s) ((i:Int),())=some (m:Int)/\(s.take m).filter (fun x=> !q x)=s.take m/\s[m]?=some x/\q x=true)\/(aE (pT p s) ((i:Int),())=some (-1)/\s.filter (fun x=> !q x)=s)
 |0,i,hi,hf=>by
  have hd:decide ((i:Int)<((s.length:Nat):Int))=false:=Qh (by omega)
  refine .inr ⟨bU ?_,?_⟩
  ·simp only[pT,hd,Ql,Qe]
  ·rwa [show i=s.length by omega,List.take_length]at hf
 |k+1,i,hi,hf=>by
  have hd:decide ((i:Int)<((s.length:Nat):Int))=true:=Qg (by omega)
  have hw:aB .i64 (i:Int) 1=((i+1:Nat):Int):=bH (by omega) (by omega)
  obtain⟨x,hx⟩:∃x,s[i]?=some x:=⟨_,Qv (by omega)⟩
  cases hq:q x with
  |true=>
   refine .inl ⟨i,x,bU ?_,hf,hx,hq⟩;simp only[pT,hd,Qk,bz,hx,Qa,hp,hq,Qe]
  |false=>
   have hstep:aE (pT p s) ((i:Int),())=aE (pT p s) (((i+1:Nat):Int),()):=bl (by simp only[pT,hd,Qk,bz,hx,Qa,hp,hq,Ql,hw])
   rw[hstep];refine Pn hs k (i+1) (by omega) ?_
   rw[AK hx,hf,hq];obtain⟨hl,hx'⟩:=Qw.1 hx;rw[List.take_succ_eq_append_getElem hl,hx'];rfl
theorem H6{s:List α}(hs:s.length<1000000000):∀(r i j:Nat) (d:List α),j+r=s.length->i<j->d.length=s.length->d.take i=(s.take j).filter (fun x=> !q x)->(∀m,j<=m->d[m]?=s[m]?)->
  aE (BC p z) ((i:Int),(j:Int),d,())=some (s.filter fun x=> !q x)
 |0,i,j,d,hr,hij,hd,ht,hm=>by
  have e2:decide ((j:Int)<((d.length:Nat):Int))=false:=Qh (by omega)
  refine bU ?_
  have e3:∀n,cp (i:Int) (d.length:Int) n=decide (d.length<=n):=by
   intro n;simp only[cp];have h1:decide ((0:Int)<=(i:Int))=true:=Qg (by omega)
   have h2:decide ((i:Int)<=(d.length:Int))=true:=Qg (by omega)
   rw[h1,h2,Bool.and_self,Bool.true_and,decide_eq_decide];omega
  have e4:(d.take i++List.replicate (d.length - i) z++d.drop (i+(d.length - i))).length=d.length:=by simp;omega
  have e5:cp (0:Int) (i:Int) d.length=true:=by
   simp only[cp,Qm,Qi];omega
  have e6:(d.take i++List.replicate (d.length - i) z++d.drop (i+(d.length - i))).take (i - 0)=s.filter fun x=> !q x:=by
   rw[Nat.sub_zero,QL,List.take_append_of_le_length (by simp;omega),List.take_take,Nat.min_self,ht,show j=s.length by omega,List.take_length]
  simp only[BC,e2,Ql,QV,e3,QI,decide_true,Qk,e4,e5,Int.toNat_zero,e6,Qe]
 |r+1,i,j,d,hr,hij,hd,ht,hm=>by
  have e2:decide ((j:Int)<((d.length:Nat):Int))=true:=Qg (by omega)
  have ej:aB .i64 (j:Int) 1=((j+1:Nat):Int):=bH (by omega) (by omega)
  have ei:aB .i64 (i:Int) 1=((i+1:Nat):Int):=bH (by omega) (by omega)
  obtain⟨x,hx⟩:∃x,s[j]?=some x:=⟨_,Qv (by omega)⟩
  obtain⟨y,hy⟩:∃y,d[i]?=some y:=⟨_,Qv (by omega)⟩
  have hdx:d[j]?=some x:=by rw[hm j (QI _),hx]
  have hstep:=AK (q:=fun x=> !q x) hx
  cases hq:q x with
  |true=>
   rw[hq]at hstep;refine(bl (s':=((i:Int),((j+1:Nat):Int),d,())) ?_).trans (H6 hs r i (j+1) d (by omega) (by omega) hd (by rw[hstep,ht];simp) fun m h=>hm m (by omega))
   simp only[BC,e2,Qk,aU,bz,QV,hdx,Qa,hp,hq,Qo,Ql,ej]
  |false=>
   rw[hq]at hstep;refine(bl (s':=(((i+1:Nat):Int),((j+1:Nat):Int),d.set i x,())) ?_).trans (H6 hs r (i+1) (j+1) (d.set i x) (by omega) (by omega) (by rw[QY];exact hd) ?_ fun m h=> ?_)
   ·simp only[BC,e2,Qk,aU,bz,QV,hdx,hy,Qa,hp,hq,Qp,ej,ei]
   ·rw[hstep,<-ht,List.take_succ_eq_append_getElem (by rw[QY];omega),List.take_set_of_le (QI _)]
    simp
   ·rw[List.getElem?_set,Qs (by omega)]
    exact hm m (by omega)
theorem TY(s:List α)(hs:s.length<1000000000):Sx p z s=some (s.filter fun x=> !q x):=by
 rw[Sx,Vp];rcases Pn hp hs s.length 0 (by omega) (by simp)with⟨m,x,h1,h2,h3,h4⟩|⟨h1,h2⟩
 ·have hm:m<s.length:=(Qw.1 h3).1;have h1':aE (pT p s) ((0:Int),())=some (m:Int):=h1;have e:decide ((m:Int)= -1)=false:=Qh (by omega)
  rw[h1',Qa,e,Ql,show aB .i64 (m:Int) 1=((m+1:Nat):Int)from bH (by omega) (by omega)]
  refine H6 hp hs (s.length - (m+1)) m (m+1) s (by omega) (by omega) rfl ?_ fun _ _=>rfl
  rw[AK h3,h2,h4];simp
 ·have h1':aE (pT p s) ((0:Int),())=some (-1):=h1;rw[h1',Qa,h2];rfl
end
theorem CT{α β ρ:Type}(l:List α)(hl:l.length<=1000000)(f:α->List β)(hf:∀x∈l,(f x).length<=3){step:Int×List β×Unit->Option ((Int×List β×Unit)⊕ρ)}{fin:List β->Option ρ}
  (h1:∀(i:Nat) (x:α) (acc:List β),x∈l->decide ((i:Int)<((l.length:Nat):Int))=true->idx l (i:Int)=some x->aB .i64 (i:Int) 1=((i+1:Nat):Int)->(∀bytes n:Nat,bytes<=40->n<=3->acc.length<=3000000->bx bytes (acc.length+n)=true)->acc.length<=3000000->step ((i:Int),acc,())=some (.inl (((i+1:Nat):Int),acc++f x,())))
  (h2:∀acc,decide (((l.length:Nat):Int)<((l.length:Nat):Int))=false->step (((l.length:Nat):Int),acc,())=Option.map Sum.inr (fin acc)):aE step ((0:Int),([]:List β),())=fin (l.flatMap f):=by
 suffices key:∀(k i:Nat) (acc:List β),i+k=l.length->acc=(l.take i).flatMap f->acc.length<=3*i->aE step ((i:Int),acc,())=fin (l.flatMap f)from key l.length 0 [] (by omega) (by simp) (by simp)
 intro k
 induction k with
 |zero=>
  intro i acc hi ha hal;obtain rfl:i=l.length:=by omega
  rw[List.take_length]at ha;rw[ik,h2 acc (Qh (Int.lt_irrefl _)),ha];cases fin (l.flatMap f)<;>rfl
 |succ k ih=>
  intro i acc hi ha hal;have hlt:i<l.length:=by omega
  have hx:l[i]?=some l[i]:=Qv hlt;have:=hf _ (Q0 hlt);refine(bl (h1 i l[i] acc (Q0 hlt) (Qg (by omega)) (by rw[bz];exact hx) (bH (by omega) (by omega)) (fun bytes n hb hn ha=> ?_) (by omega))).trans (ih (i+1) _ (by omega) ?_ (by rw[QB];omega))
  ·simp only[bx,Qm,Qi];exact⟨QK (Nat.mul_le_mul (show acc.length+n<=3000003 by omega) hb) (show 3000003*40<=140737488355328 by decide),QK (show acc.length+n<=3000003 by omega) (by simp[maxLen])⟩
  ·rw[List.take_succ_eq_append_getElem hlt,List.flatMap_append,ha];simp
instance:Inhabited ae:=⟨⟨0,ByteArray.mk #[]⟩⟩
instance:DecidableEq ae:=fun a b=>decidable_of_iff (a.aj=b.aj/\a.Value=b.Value) (by cases a;cases b;simp)
theorem Yg(s:List ae)(hs:s.length<1000000000):∃b,dX s=some b/\b.Pairwise (fun x y=>bd y x=true)/\b.length<=s.length/\∀x,x∈b↔x∈s:=by
 obtain⟨t,h1,h2,h3,h4⟩:=wz.flip.Wd (cmp:=lf) (c:=fun x y=>PS y x) (fun x y=>by simp[lf]) (fun x y=>PR y x) s hs
 have hc:=CS (eq:=fun x y:ae=>jz false x.aj y.aj x.Value y.Value) (ne:=fun x y=>jz true x.aj y.aj x.Value y.Value) (z:=ae.mk 0 (ByteArray.mk #[])) (fun x y=>by
  rw[w5,QW];cases x;cases y;simp) (fun x y=>by
  rw[WY];congr 1;rw[QW];cases x;cases y
  simp) t (by omega)
 refine⟨dd t,?_,h3,by have:=PI t;omega,h4⟩
 have h1':eW s=some ((),t):=h1;have hc':gw t=some (dd t):=hc;simp only[dX,h1',hc',Qa]
theorem Ye(s:List ByteArray)(hs:s.length<1000000000):∃b,eU s=some b/\b.Pairwise (fun x y=>jm x y=true)/\b.length<=s.length/\∀x,x∈b↔x∈s:=by
 obtain⟨t,h1,h2,h3,h4⟩:=wy.Wd (cmp:=fP) (c:=LH) (fun x y=>xp x y) PO s hs
 have hc:=CS (eq:=fun x y:ByteArray=>decide (x=y)) (ne:=fun x y=> !decide (x=y)) (z:=ByteArray.mk #[]) (fun _ _=>rfl) (fun _ _=>rfl) t (by omega)
 refine⟨dd t,?_,h3,by have:=PI t;omega,h4⟩
 have h1':gN s=some ((),t):=h1;have hc':jE t=some (dd t):=hc;simp only[eU,h1',hc',Qa]
theorem Xi(a b:Int):decide (xn a b<0)=decide (a<b):=by rw[decide_eq_decide];exact Ic a b
theorem Yf(s:List Int)(hs:s.length<1000000000):∃b,fN s=some b/\b.Pairwise (·<·)/\b.length<=s.length/\∀x,x∈b↔x∈s:=by
 obtain⟨t,h1,h2,h3,h4⟩:=yc.Wd (cmp:=iz) (c:=xn) (fun x y=>C3 x y) Xi s hs
 have hc:=CS (eq:=fun x y:Int=>decide (x=y)) (ne:=fun x y=> !decide (x=y)) (z:=0) (fun _ _=>rfl) (fun _ _=>rfl) t (by omega)
 refine⟨dd t,?_,h3.imp fun h=>of_decide_eq_true h,by have:=PI t;omega,h4⟩
 have h1':jD s=some ((),t):=h1;simp only[fN,h1',Qa,Xf,hc]
 def said(e:ai):List ae:=if aL e then(if e.bs=1 then[e.ab,e.ao,e.aw]else if e.bs=2 then[e.ao,at_ e 1000000]else[at_ e 1000000])else[]
theorem B1(e:ai):(said e).length<=3:=by
 unfold said;split
 ·split
  ·simp
  ·split<;>simp
 ·simp
theorem qS{α β:Type}(f:α->List β)(hf:∀x,(f x).length<=3):∀l:List α,(l.flatMap f).length<=3*l.length
 |[]=>by simp
 |x::l=>by
  have:=qS f hf l;have:=hf x;rw[List.flatMap_cons,QB,QE];omega
section
variable {l : List ai} (hl : ∀ e ∈ l, dD e.aa) (hlen : l.length <= 1000)
 include hl hlen
theorem Ux:∃b,gy l=some b/\b.Pairwise (fun x y=>bd y x=true)/\b.length<=3000/\∀x,x∈b↔∃e∈l,x∈said e/\aA x=false:=by
 have hd:=TY (p:=bh) (q:=aA) cx (z:=ae.mk 0 (ByteArray.mk #[])) (l.flatMap said) (by have:=qS said B1 l;omega)
 obtain⟨b,h1,h2,hbl,h3⟩:=Yg ((l.flatMap said).filter fun x=> !aA x) (by have:=qS said B1 l;have:=List.length_filter_le (fun x=> !aA x) (l.flatMap said);omega)
 refine⟨b,?_,h2,by have:=qS said B1 l;have:=List.length_filter_le (fun x=> !aA x) (l.flatMap said);omega,fun x=> ?_⟩
 ·unfold gy;refine(CT l (by omega) said (fun e _=>B1 e) (fin:=fun acc=>Option.bind (dy acc) fun r8=>Option.bind (dX r8) fun r9=>some r9) (fun i e acc he hd hx hw hok hal=> ?_) (fun acc hd=> ?_)).trans ?_
  ·have o1:=hok 24 3 (by omega) (by omega) hal
   have o2:=hok 24 2 (by omega) (by omega) hal
   have o3:=hok 24 1 (by omega) (by omega) hal
   simp only[hd,hx,hw,Qk,aU,Qa,an.eta,ai.eta,nQ (hl e he),xE,QE,QZ,o1,o2,o3,Nat.zero_add,Nat.reduceAdd];unfold said at_
   cases aL e<;>by_cases k1:e.bs=1<;>by_cases k2:e.bs=2<;>simp[k1,k2]
  ·simp only[hd,Ql]
  ·have hd':dy (l.flatMap said)=_:=hd;simp only[hd',h1,Qa]
 ·rw[h3,List.mem_filter,QQ];constructor
  ·rintro⟨⟨e,he,hx⟩,hz⟩;exact⟨e,he,hx,by simpa using hz⟩
  ·rintro⟨e,he,hx,hz⟩;exact⟨⟨e,he,hx⟩,by simpa using hz⟩
theorem VV:∃b,jk l=some b/\b.Pairwise (fun x y=>jm x y=true)/\b.length<=3000/\∀x,x∈b↔∃e∈l,aL e=true/\x=e.ab.Value:=by
 have hf:∀e:ai,(if aL e then[e.ab.Value]else[]).length<=3:=fun e=>by split<;>simp
 obtain⟨b,h1,h2,hbl,h3⟩:=Ye (l.flatMap fun e=>if aL e then[e.ab.Value]else[]) (by have:=qS _ hf l;omega)
 refine⟨b,?_,h2,by have:=qS _ hf l;omega,fun x=> ?_⟩
 ·unfold jk;refine(CT l (by omega) (fun e=>if aL e then[e.ab.Value]else[]) (fun e _=>hf e) (fin:=fun acc=>Option.bind (eU acc) fun r6=>some r6) (fun i e acc he hd hx hw hok hal=> ?_) (fun acc hd=> ?_)).trans ?_
  ·have o3:=hok 16 1 (by omega) (by omega) hal
   simp only[hd,hx,hw,Qk,aU,Qa,an.eta,ai.eta,nQ (hl e he),QE,QZ,o3,Nat.zero_add];cases aL e<;>simp
  ·simp only[hd,Ql]
  ·simp only[h1,Qa]
 ·rw[h3,QQ];constructor
  ·rintro⟨e,he,hx⟩;split at hx
   ·rename_i hv;exact⟨e,he,hv,by simpa using hx⟩
   ·cases hx
  ·rintro⟨e,he,hv,hx⟩;exact⟨e,he,by rw[Qr hv];simpa using hx⟩
theorem Uw(v:ByteArray):∃b,eV l v=some b/\b.Pairwise (·<·)/\b.length<=3000/\∀x,x∈b↔x∈ends v l:=by
 have hf:∀e:ai,(if gp v e then[e.aI,e.aR]else[]).length<=3:=fun e=>by split<;>simp
 obtain⟨b,h1,h2,hbl,h3⟩:=Yf (ends v l) (by have:=qS _ hf l;unfold ends;omega)
 refine⟨b,?_,h2,by have:=qS _ hf l;unfold ends at hbl;omega,h3⟩
 unfold eV;refine(CT l (by omega) (fun e=>if gp v e then[e.aI,e.aR]else[]) (fun e _=>hf e) (fin:=fun acc=>Option.bind (fN acc) fun r6=>some r6) (fun i e acc he hd hx hw hok hal=> ?_) (fun acc hd=> ?_)).trans ?_
 ·have o3:=hok 8 2 (by omega) (by omega) hal
  simp only[hd,hx,hw,Qk,aU,Qa,an.eta,ai.eta,nQ (hl e he),QE,QZ,o3,Nat.zero_add,Nat.reduceAdd];unfold gp;cases aL e<;>cases decide (e.ab.Value=v)<;>cases decide (e.aI=0)<;>simp
 ·simp only[hd,Ql]
 ·exact(congrArg (fun o=>Option.bind o fun r6=>some r6) h1)
end
end Go.Proofs.YtkgenianmdfmdaaGreat
namespace Go.Proofs.YtkgenianmdfmdaaGreat
open Go.TQ
theorem YQ{e:ai}(hv:aL e=true):e.bs=1/\0<=e.aI/\e.aI<=e.aR\/e.bs≠1/\1<=e.aI/\e.aI<=e.aR:=by
 unfold aL fK at hv;rw[Qm]at hv;have h:=hv.2
 by_cases k1:e.bs=1
 ·rw[Qr k1]at h;simp only[fL,Qm,Qi]at h;omega
 ·rw[Qs k1]at h
  by_cases k2:e.bs=2
  ·rw[Qr k2]at h;simp only[qX,pB,Qm,Qi]at h;omega
  ·rw[Qs k2]at h
   by_cases k3:e.bs=3
   ·rw[Qr k3]at h;simp only[wJ,pB,Qm,Qi]at h;omega
   ·rw[Qs k3]at h;cases h
end Go.Proofs.YtkgenianmdfmdaaGreat
namespace Go.Proofs.YtkgenianmdfmdaaGreat
open Go.TQ
def vD:ae:=⟨0,fb⟩
theorem xX{α τ:Type}(l:List α)(hl:l.length<=1000000)(mk:Int->τ)(P:α->Bool)(z:α){step:τ->Option (τ⊕α)}
  (h1:∀(i:Nat) (x:α),decide ((i:Int)<((l.length:Nat):Int))=true->idx l (i:Int)=some x->aB .i64 (i:Int) 1=((i+1:Nat):Int)->step (mk (i:Int))=some (bif P x then .inr x else .inl (mk ((i+1:Nat):Int))))
  (h2:decide (((l.length:Nat):Int)<((l.length:Nat):Int))=false->step (mk ((l.length:Nat):Int))=some (.inr z)):aE step (mk 0)=some ((l.find? P).getD z):=by
 suffices key:∀(k i:Nat),i+k=l.length->aE step (mk (i:Int))=some (((l.drop i).find? P).getD z)from key l.length 0 (by omega)
 intro k
 induction k with
 |zero=>
  intro i hi;obtain rfl:i=l.length:=by omega
  rw[bU (h2 (Qh (Int.lt_irrefl _))),List.drop_length];rfl
 |succ k ih=>
  intro i hi;have hlt:i<l.length:=by omega
  have hs:=h1 i l[i] (Qg (by omega)) (by rw[bz];exact Qv hlt) (bH (by omega) (by omega))
  rw[QM hlt,List.find?_cons]
  cases hP:P l[i]with
  |true=>rw[hP]at hs;rw[bU hs];rfl
  |false=>rw[hP]at hs;rw[bl hs];exact ih (i+1) (by omega)
 def dP(l:List ai):List ae:=(gy l).getD []
section
variable {l : List ai} (hl : ∀ e ∈ l, dD e.aa) (hlen : l.length <= 1000)
 include hl hlen
theorem kv:gy l=some (dP l)/\(dP l).Pairwise (fun x y=>bd y x=true)/\(dP l).length<=3000/\∀x,x∈dP l↔∃e∈l,x∈said e/\aA x=false:=by
 obtain⟨b,h1,h2,h3,h4⟩:=Ux hl hlen;have:dP l=b:=by rw[dP,h1];rfl
 rw[this];exact⟨h1,h2,h3,h4⟩
end
def ou(b:ae):ae:=if 1000<=b.aj then⟨1000000,b.Value⟩else b
theorem Ka(b:ae):iq b=some (ou b):=by
 unfold iq ou;simp only[aU,BJ,yX]
section
variable {ax : Nat} (hn : ax < 10) {t : an} (ht : dD t) {l : List ai} (hl : oy l)
 include hn ht hl
end
theorem OJ{e:ai}(h:dD e.aa)(b:ae):kC e b=some (aL e&&cD e b):=by
 simp only[kC,an.eta,ai.eta,gm h,Qa,di,fu,qa]
 cases hv:aL e with
 |false=>simp
 |true=>
  cases hz:aA b with
  |true=>simp[cD,hz]
  |false=>
   by_cases k1:e.bs=1
   ·simp[cD,hz,k1]
   ·by_cases k3:e.bs=3
    ·simp[cD,hz,k3]
    ·by_cases k2:e.bs=2
     ·have hp:aA e.aw=true:=by
       unfold aL fK at hv;rw[Qm,Qs k1,Qr k2]at hv;simp only[qX,Qm]at hv;exact hv.2.1.1.2
      simp[cD,hz,k2,dt,hZ,hp]
     ·unfold aL fK at hv;rw[Qs k1,Qs k2,Qs k3]at hv;simp at hv
end Go.Proofs.YtkgenianmdfmdaaGreat
namespace Go.Proofs.YtkgenianmdfmdaaGreat
open Go.TQ
 def eZ(l:List ai):List ByteArray:=(jk l).getD []
 def bb(l:List ai)(v:ByteArray):List Int:=(eV l v).getD []
section
variable {l : List ai} (hl : ∀ e ∈ l, dD e.aa) (hlen : l.length <= 1000)
 include hl hlen
theorem nc:jk l=some (eZ l)/\(eZ l).Pairwise (fun x y=>jm x y=true)/\(eZ l).length<=3000/\∀x,x∈eZ l↔∃e∈l,aL e=true/\x=e.ab.Value:=by
 obtain⟨b,h1,h2,h3,h4⟩:=VV hl hlen;have:eZ l=b:=by rw[eZ,h1];rfl
 rw[this];exact⟨h1,h2,h3,h4⟩
theorem gB(v:ByteArray):eV l v=some (bb l v)/\(bb l v).Pairwise (·<·)/\(bb l v).length<=3000/\∀x,x∈bb l v↔x∈ends v l:=by
 obtain⟨b,h1,h2,h3,h4⟩:=Uw hl hlen v;have:bb l v=b:=by rw[bb,h1];rfl
 rw[this];exact⟨h1,h2,h3,h4⟩
end
theorem Aa{l:List ai}(hl:oy l)(hlen:l.length<=1000)(v:ByteArray):∀x∈bb l v,1<=x/\x<=1000:=by
 obtain⟨_,_,_,h⟩:=gB hl.aO hlen v;intro x hx;obtain⟨e,he,hb,hy⟩:=vU.1 ((h x).1 hx);simp only[gp,Qm,Bool.not_eq_true',Qj]at hb;have hv:=hb.1.1;have h0:=hb.2;unfold aL fK at hv;rw[Qm]at hv;have hv:=hv.2
 by_cases k1:e.bs=1
 ·rw[Qr k1]at hv;simp only[fL,finite,Qm,Qi]at hv;omega
 ·rw[Qs k1]at hv
  by_cases k2:e.bs=2
  ·rw[Qr k2]at hv;simp only[qX,pB,Qm,Qi]at hv;omega
  ·rw[Qs k2]at hv
   by_cases k3:e.bs=3
   ·rw[Qr k3]at hv;simp only[wJ,pB,Qm,Qi]at hv;omega
   ·rw[Qs k3]at hv;cases hv
theorem J7{α A B ρ:Type}(l:List α)(hl:l.length<=1000000)(f:A×B->α->A×B){step:A×Int×B×Unit->Option ((A×Int×B×Unit)⊕ρ)}{fin:A×B->Option ρ}
  (h1:∀(i:Nat) (x:α) (a:A) (b:B),x∈l->decide ((i:Int)<((l.length:Nat):Int))=true->idx l (i:Int)=some x->aB .i64 (i:Int) 1=((i+1:Nat):Int)->step (a,(i:Int),b,())=some (.inl ((f (a,b) x).1,((i+1:Nat):Int),(f (a,b) x).2,())))
  (h2:∀a b,decide (((l.length:Nat):Int)<((l.length:Nat):Int))=false->step (a,((l.length:Nat):Int),b,())=Option.map Sum.inr (fin (a,b))) (a:A) (b:B):aE step (a,(0:Int),b,())=fin (l.foldl f (a,b)):=by
 suffices key:∀(k i:Nat) (a:A) (b:B),i+k=l.length->aE step (a,(i:Int),b,())=fin ((l.drop i).foldl f (a,b))from key l.length 0 a b (by omega)
 intro k
 induction k with
 |zero=>
  intro i a b hi;obtain rfl:i=l.length:=by omega
  rw[ik,h2 a b (Qh (Int.lt_irrefl _)),List.drop_length,List.foldl_nil];cases fin (a,b)<;>rfl
 |succ k ih=>
  intro i a b hi;have hlt:i<l.length:=by omega
  rw[bl (h1 i l[i] a b (Q0 hlt) (Qg (by omega)) (by rw[bz];exact Qv hlt) (bH (by omega) (by omega))),ih (i+1) _ _ (by omega),QM hlt,QU]
def kK(p q:ae)(v:ByteArray)(n:Int):Bool:=dK p ⟨n,v⟩||dK q ⟨n,v⟩
theorem KB(v:ByteArray)(n:Int)(p q:ae):mG v n p q=some (kK p q v n):=by
 simp only[mG,qc,Qa,jB,Bool.cond_true_left,kK]
 def AM(b:List Int)(ready:Int->Int->Bool)(low bI:Int):Int×Int:=
 match b.reverse.find? (fun n=>decide (bI<n)&&ready n n)with
 |none=>(cm (fun x=>ready x bI) b.reverse low,bI)
 |some n=>
  let bottom:=cm (fun x=>ready x n) b.reverse n
  (cm (fun x=>ready x n) b.reverse (if bI<bottom - 1\/bottom<low then bottom else low),n)
 def yp(S:fE)(b:List Int)(v:ByteArray)(m8:Nat)(e9:Int)(v7:Int×Int×Unit):Option ((Int×Int×Unit)⊕(Int×Int×Unit)):=
 Option.bind (bif (decide (e9<=v7.2.1))then some true else Option.bind (gi S v e9 e9) fun r10=>some (!r10)) fun b11=>
 bif b11 then some (Sum.inl (v7.1,v7.2.1,()))else
 Option.bind (iV b e9 S v e9) fun r12=>
 bj (fun(v13:Int×Unit)=>Option.map Sum.inr (Option.bind (gk b v13.1 S v e9) fun r5=>some (r5,e9,()))) fun j14=>
 Option.bind (bif (decide (v7.2.1<(dz .i64 r12 (1:Int))))then some true else some (decide (r12<v7.1))) fun b15=>
 bif b15 then j14 (r12,())else j14 (v7.1,())
 def Vu(S:fE)(b:List Int)(v:ByteArray)(v16:Int×Int×Unit):Option (Int×Int×Unit):=Option.bind (gk b v16.1 S v v16.2.1) fun r5=>some (r5,v16.2.1,())
section
variable {ax : Nat} (hn : ax < 10) {t : an} (ht : dD t) {l : List ai} (hl : oy l)
 include hn ht hl
end
end Go.Proofs.YtkgenianmdfmdaaGreat
namespace Go.Proofs.YtkgenianmdfmdaaGreat
open Go.TQ
section
variable {α : Type} [DecidableEq α] {lt : α -> α -> Bool}
def ew(lt:α->α->Bool)(x:α):List α->List α
 |[]=>[x]
 |y::l=>if lt y x then y::ew lt x l else if y=x then y::l else x::y::l
theorem HJ(x:α):∀(l:List α) (z:α),z∈ew lt x l↔z=x\/z∈l
 |[],z=>by simp[ew]
 |y::l,z=>by
  rw[ew];split
  ·rw[QA,HJ x l z,QA];constructor
   ·rintro(h|h|h)
    ·exact .inr (.inl h)
    ·exact .inl h
    ·exact .inr (.inr h)
   ·rintro(h|h|h)
    ·exact .inr (.inl h)
    ·exact .inl h
    ·exact .inr (.inr h)
  ·split
   ·rename_i h;rw[QA];constructor
    ·exact .inr
    ·rintro(h1|h1)
     ·exact .inl (h1.trans h.symm)
     ·exact h1
   ·rw[QA]
theorem tc.ew(h:tc lt)(x:α):∀{l:List α},l.Pairwise (fun a b=>lt a b=true)->(Go.Proofs.YtkgenianmdfmdaaGreat.ew lt x l).Pairwise (fun a b=>lt a b=true)
 |[],_=>by rw[Go.Proofs.YtkgenianmdfmdaaGreat.ew];exact List.pairwise_singleton _ _
 |y::l,hp=>by
  rw[Q4]at hp;rw[Go.Proofs.YtkgenianmdfmdaaGreat.ew];split
  ·rename_i hy;rw[Q4];refine⟨fun z hz=> ?_,h.ew x hp.2⟩
   rcases(HJ x l z).1 hz with rfl|hz
   ·exact hy
   ·exact hp.1 z hz
  ·rename_i hy;split
   ·exact Q4.2 hp
   ·rename_i hne
    have hxy:lt x y=true:=by
     cases hc:lt x y with
     |true=>rfl
     |false=>exact absurd (h.total y x (by simpa using hy) hc) hne
    rw[Q4,Q4];refine⟨fun z hz=> ?_,hp⟩
    rcases QA.1 hz with rfl|hz
    ·exact hxy
    ·exact h.trans _ _ _ hxy (hp.1 z hz)
theorem wb(x:α):∀l:List α,(ew lt x l).length<=l.length+1
 |[]=>by simp[ew]
 |y::l=>by
  have:=wb x l;rw[ew];split
  ·simp;omega
  ·split<;>simp
theorem Su(x:α):∀(l:List α) (i:Nat),(∀j,j<i->∃y,l[j]?=some y/\lt y x=true)->(∀y,l[i]?=some y->lt y x=false)->ew lt x l=if l[i]?=some x then l else l.take i++x::l.drop i
 |[],i,h1,h2=>by
  cases i with
  |zero=>simp[ew]
  |succ i=>obtain⟨y,hy,_⟩:=h1 0 (by omega);simp at hy
 |y::l,i,h1,h2=>by
  cases i with
  |zero=>
   have hy:=h2 y rfl;rw[ew,hy,Qs (by simp)]
   by_cases h:y=x
   ·simp[h]
   ·simp[h]
  |succ i=>
   obtain⟨y',hy',hlt⟩:=h1 0 (by omega)
   simp only[List.getElem?_cons_zero,Qf]at hy';subst hy'
   rw[ew,Qr hlt,Su x l i (fun j hj=>by
    obtain⟨z,hz,h⟩:=h1 (j+1) (by omega)
    exact⟨z,by simpa using hz,h⟩) (fun z hz=>h2 z (by simpa using hz))]
   simp only[List.getElem?_cons_succ,List.take_succ_cons,List.drop_succ_cons];split<;>simp
theorem yY(h:tc lt):∀(xs l:List α),l.Pairwise (fun a b=>lt a b=true)->(xs.foldl (fun l x=>ew lt x l) l).Pairwise (fun a b=>lt a b=true)/\∀z,z∈xs.foldl (fun l x=>ew lt x l) l↔z∈xs\/z∈l
 |[],l,hp=>⟨hp,by simp⟩
 |x::xs,l,hp=>by
  obtain⟨h1,h2⟩:=yY h xs _ (h.ew x hp);rw[QU];refine⟨h1,fun z=> ?_⟩
  rw[h2,HJ,QA];constructor
  ·rintro(a|a|a)
   ·exact .inl (.inr a)
   ·exact .inl (.inl a)
   ·exact .inr a
  ·rintro((a|a)|a)
   ·exact .inr (.inl a)
   ·exact .inl a
   ·exact .inr (.inr a)
end
theorem rF{α:Type}(l:List α)(i:Nat):(l.take (Int.toNat (i:Int))).drop (Int.toNat (0:Int))=l.take i:=by simp
theorem vL{α:Type}(l:List α)(i:Nat):(l.take (Int.toNat ((l.length:Nat):Int))).drop (Int.toNat (i:Int))=l.drop i:=by simp
theorem AZ{i n:Nat}(h:i<=n):cp (0:Int) (i:Int) n=true:=by
 simp only[cp,Qm,Qi];omega
theorem A0{i n:Nat}(h:i<=n):cp (i:Int) (n:Int) n=true:=by
 simp only[cp,Qm,Qi];omega
theorem gM{bytes n:Nat}(h:bytes<=200)(hn:n<=1000000):bx bytes n=true:=
 b0 ⟨QK (Nat.mul_le_mul hn h) (by decide),hn⟩
theorem V3{α ρ:Type}(l:List α)(hl:l.length<=1000000)(P:α->Bool){step:Int×Unit->Option ((Int×Unit)⊕ρ)}{r:Nat->Option ρ}
  (h1:∀(i:Nat) (y:α),l[i]?=some y->decide ((i:Int)<((l.length:Nat):Int))=true->idx l (i:Int)=some y->P y=true->aB .i64 (i:Int) 1=((i+1:Nat):Int)->step ((i:Int),())=some (.inl (((i+1:Nat):Int),())))
  (h2:∀(i:Nat) (y:α),l[i]?=some y->decide ((i:Int)<((l.length:Nat):Int))=true->idx l (i:Int)=some y->P y=false->step ((i:Int),())=Option.map Sum.inr (r i))
  (h3:decide (((l.length:Nat):Int)<((l.length:Nat):Int))=false->step (((l.length:Nat):Int),())=Option.map Sum.inr (r l.length)):
  ∃i,i<=l.length/\(∀j,j<i->∃y,l[j]?=some y/\P y=true)/\(∀y,l[i]?=some y->P y=false)/\aE step ((0:Int),())=r i:=by
 suffices key:∀(k i:Nat),i+k=l.length->(∀j,j<i->∃y,l[j]?=some y/\P y=true)->∃m,m<=l.length/\(∀j,j<m->∃y,l[j]?=some y/\P y=true)/\(∀y,l[m]?=some y->P y=false)/\aE step ((i:Int),())=r m from key l.length 0 (by omega) (fun j hj=>absurd hj (Nat.not_lt_zero _))
 intro k
 induction k with
 |zero=>
  intro i hi hj;obtain rfl:i=l.length:=by omega
  refine⟨l.length,QI _,hj,fun y hy=>by simp at hy,?_⟩
  rw[ik,h3 (Qh (Int.lt_irrefl _))];cases r l.length<;>rfl
 |succ k ih=>
  intro i hi hj;have hx:l[i]?=some l[i]:=Qv (by omega)
  have hd:decide ((i:Int)<((l.length:Nat):Int))=true:=Qg (by omega)
  cases hP:P l[i]with
  |true=>
   rw[bl (h1 i _ hx hd (by rw[bz];exact hx) hP (bH (by omega) (by omega)))]
   refine ih (i+1) (by omega) fun j hj'=> ?_
   rcases Nat.lt_or_ge j i with h|h
   ·exact hj j h
   ·obtain rfl:j=i:=by omega
    exact⟨_,hx,hP⟩
  |false=>
   refine⟨i,by omega,hj,fun y hy=> ?_,?_⟩
   ·rw[hx]at hy;injection hy with hy
    rw[<-hy];exact hP
   ·rw[ik,h2 i _ hx hd (by rw[bz];exact hx) hP]
    cases r i<;>rfl
theorem EJ{α ρ:Type}[DecidableEq α]{lt:α->α->Bool}(l:List α)(hl:l.length<=1000000)(x:α){step:Int×Unit->Option ((Int×Unit)⊕ρ)}{k:List α->Option ρ}
  (h1:∀(i:Nat) (y:α),decide ((i:Int)<((l.length:Nat):Int))=true->idx l (i:Int)=some y->lt y x=true->aB .i64 (i:Int) 1=((i+1:Nat):Int)->step ((i:Int),())=some (.inl (((i+1:Nat):Int),())))
  (h2:∀(i:Nat) (y:α),i<l.length->decide ((i:Int)<((l.length:Nat):Int))=true->decide ((i:Int)=((l.length:Nat):Int))=false->idx l (i:Int)=some y->lt y x=false->step ((i:Int),())=Option.map Sum.inr (k (if y=x then l else l.take i++x::l.drop i)))
  (h3:decide (((l.length:Nat):Int)<((l.length:Nat):Int))=false->decide (((l.length:Nat):Int)=((l.length:Nat):Int))=true->step (((l.length:Nat):Int),())=Option.map Sum.inr (k (l++[x]))):aE step ((0:Int),())=k (ew lt x l):=by
 obtain⟨i,hi,g1,g2,g3⟩:=V3 l hl (fun y=>lt y x) (step:=step) (r:=fun i=>k (if l[i]?=some x then l else l.take i++x::l.drop i)) (fun i y hy hd hx hP hw=>h1 i y hd hx hP hw) (fun i y hy hd hx hP=>by
   have hlt:=(Qw.1 hy).1;rw[h2 i y hlt hd (Qh (by omega)) hx hP,hy]
   by_cases hyx:y=x
   ·simp[hyx]
   ·have:¬(some y=some x):=fun h=>hyx (by injection h)
    rw[Qs hyx,Qs this]) (fun hd=>by
   rw[h3 hd (Qg rfl),Qs (by simp),List.take_length,List.drop_length])
 rw[g3,Su x l i g1 g2]
theorem YW(l:List ae)(hl:l.length<=900000)(b:ae):rl l b=some (if aA b then l else ew (fun x y=>bd y x) b l):=by
 unfold rl;rw[di,Qa]
 cases hz:aA b with
 |true=>rfl
 |false=>
  simp only[Ql,aU]
  have he:∀y:ae,(decide (y.aj=b.aj)&&decide (y.Value=b.Value))=decide (y=b):=fun y=>by
   rw[QW];cases y;cases b;simp
  refine EJ (lt:=fun x y=>bd y x) l (by omega) b (k:=fun t=>some t) (fun i y hd hx hlt hw=> ?_) (fun i y hi hd hde hx hlt=> ?_) (fun hd hde=> ?_)
  ·simp only[hd,hx,hw,Qk,Qa,iG,hlt]
  ·have e1:=rF l i;have e2:=vL l i;simp only[hd,hx,Qk,Qa,iG,hlt,Ql,w5,e1,e2,AZ (show i<=l.length by omega),A0 (show i<=l.length by omega),he]
   rw[gM (by omega) (by simp;omega),gM (by omega) (by simp;omega),gM (by omega) (by simp;omega)]
   by_cases hyb:y=b<;>simp[hyb]
  ·have e1:=rF l l.length;have e2:=vL l l.length;simp only[hd,Ql,e1,e2,AZ (QI l.length),A0 (QI l.length),Qk];rw[gM (by omega) (by simp;omega),gM (by omega) (by simp;omega),gM (by omega) (by simp;omega)]
   simp
theorem zZ{α σ ρ:Type}(l:List α)(hl:l.length<=1000000)(f:σ->α->σ)(Inv:Nat->σ->Prop){step:σ×Int×Unit->Option ((σ×Int×Unit)⊕ρ)}{fin:σ->Option ρ}
  (hI:∀i s x,x∈l->Inv i s->Inv (i+1) (f s x))
  (h1:∀(i:Nat) (x:α) (s:σ),Inv i s->i<=l.length->x∈l->decide ((i:Int)<((l.length:Nat):Int))=true->idx l (i:Int)=some x->aB .i64 (i:Int) 1=((i+1:Nat):Int)->step (s,(i:Int),())=some (.inl (f s x,((i+1:Nat):Int),())))
  (h2:∀s,decide (((l.length:Nat):Int)<((l.length:Nat):Int))=false->step (s,((l.length:Nat):Int),())=Option.map Sum.inr (fin s)) (s:σ) (hs:Inv 0 s):aE step (s,(0:Int),())=fin (l.foldl f s):=by
 suffices key:∀(k i:Nat) (s:σ),i+k=l.length->Inv i s->aE step (s,(i:Int),())=fin ((l.drop i).foldl f s)from key l.length 0 s (by omega) hs
 intro k
 induction k with
 |zero=>
  intro i s hi hs;obtain rfl:i=l.length:=by omega
  rw[ik,h2 s (Qh (Int.lt_irrefl _)),List.drop_length,List.foldl_nil];cases fin s<;>rfl
 |succ k ih=>
  intro i s hi hs;have hlt:i<l.length:=by omega
  rw[bl (h1 i l[i] s hs (by omega) (Q0 hlt) (Qg (by omega)) (by rw[bz];exact Qv hlt) (bH (by omega) (by omega))),ih (i+1) _ (by omega) (hI i s _ (Q0 hlt) hs),QM hlt,QU]
 def qd(e:ai):List ae:=if aL e then(if e.bs=1 then[e.ab,e.ao,e.aw]else[e.ao,at_ e 1000000])else[]
theorem I4{e:ai}{x:ae}(hz:aA x=false):x∈qd e↔x∈said e:=by
 unfold qd said
 cases hv:aL e with
 |false=>simp
 |true=>
  by_cases k1:e.bs=1
  ·simp[k1]
  ·by_cases k2:e.bs=2
   ·simp[k2]
   ·have hp:aA e.ao=true:=by
     unfold aL fK at hv;rw[Qm,Qs k1,Qs k2]at hv;have h:=hv.2
     by_cases k3:e.bs=3
     ·rw[Qr k3]at h;simp only[wJ,Qm]at h;exact h.1.1.2
     ·rw[Qs k3]at h;cases h
    simp only[Qt,k1,k2,Qu,QA,QR,or_false];constructor
    ·rintro(h|h)
     ·rw[h,hp]at hz;cases hz
     ·exact h
    ·exact .inr
def rQ(l:List ae)(b:ae):List ae:=if aA b then l else ew (fun x y=>bd y x) b l
theorem GN:∀(xs l:List ae),xs.foldl rQ l=(xs.filter fun b=> !aA b).foldl (fun l x=>ew (fun x y=>bd y x) x l) l
 |[],l=>rfl
 |x::xs,l=>by
  rw[QU,GN xs,List.filter_cons];cases hz:aA x<;>simp[rQ,hz]
theorem MI(l:List ae)(b:ae):(rQ l b).length<=l.length+1:=by
 unfold rQ;split
 ·omega
 ·exact wb b l
section
variable {l : List ai} (hl : ∀ e ∈ l, dD e.aa) (hlen : l.length <= 1000)
 include hl hlen
theorem GF:kZ l=some (dP l):=by
 have hfold:∀xs:List ae,xs.length<=3->∀s:List ae,(xs.foldl rQ s).length<=s.length+xs.length:=by
  intro xs _
  induction xs with
  |nil=>intro s;simp
  |cons x xs ih=>
   intro s;have:=ih (by simp at*;omega) (rQ s x)
   have:=MI s x;rw[QU,QE];omega
 have hr3:∀e,(qd e).length<=3:=fun e=>by
  unfold qd;split
  ·split<;>simp
  ·simp
 have hF:kZ l=some (l.foldl (fun s e=>(qd e).foldl rQ s) []):=by
  unfold kZ;refine zZ l (by omega) (fun s e=>(qd e).foldl rQ s) (fun i s=>s.length<=3*i) (fin:=fun s=>some s) (fun i s x _ hs=> ?_) (fun i e s hs hi he hd hx hw=> ?_) (fun s hd=> ?_) [] (by simp)
  ·have:=hfold (qd x) (hr3 x) s;have:=hr3 x;show(List.foldl rQ s (qd x)).length<=3*(i+1);omega
  ·simp only[hd,hx,hw,Qk,aU,Qa,an.eta,ai.eta,gm (hl e he)]
   have inner:∀L:List ae,L.length<=3->aE (fun(v8:(List ae)×Int×Unit)=>
     bif (decide (v8.2.1<((List.length L:Nat):Int)))then Option.bind (idx L v8.2.1) fun x9=>Option.bind (rl v8.1 x9) fun r10=>some (Sum.inl (r10,(aB .i64 v8.2.1 (1:Int)),()))
     else Option.map Sum.inr (some (Sum.inl (v8.1,((i+1:Nat):Int),()):((List ae)×Int×Unit)⊕(List ae)))) (s,(0:Int),())=some (Sum.inl (L.foldl rQ s,((i+1:Nat):Int),())):=by
    intro L hL;refine zZ L (by omega) rQ (fun k t=>t.length<=s.length+k) (fin:=fun t=>some (Sum.inl (t,((i+1:Nat):Int),()))) (fun k t x _ ht=> ?_) (fun k x t ht hk hx' hd' hxx hw'=> ?_) (fun t hd'=> ?_) s (by simp)
    ·have:=MI t x;omega
    ·simp only[hd',hxx,hw',Qk,Qa,YW t (by omega)]
     rfl
    ·simp only[hd',Ql]
   cases hv:aL e with
   |false=>simp[qd,hv]
   |true=>
    by_cases k1:e.bs=1
    ·have i3:=inner [e.ab,e.ao,e.aw] (by simp)
     simp only[Qo,Ql,k1,decide_true,i3,qd,hv,Qt]
    ·have i2:=inner [e.ao,⟨1000000,e.ab.Value⟩] (by simp)
     simp only[Qo,Qp,Ql,Qk,k1,decide_false,i2,qd,hv,Qt,Qu,at_]
  ·simp only[hd,Ql]
 obtain⟨_,h2,_,h4⟩:=kv hl hlen;have hflat:l.foldl (fun s e=>(qd e).foldl rQ s) []=(l.flatMap qd).foldl rQ []:=by rw[List.foldl_flatMap]
 rw[hF,hflat,GN];obtain⟨h5,h6⟩:=yY wz.flip ((l.flatMap qd).filter fun b=> !aA b) [] .nil
 congr 1;refine wz.flip.unique h5 h2 fun x=> ?_
 rw[h6,h4];simp only[List.mem_filter,QQ,QR,or_false,Bool.not_eq_true'];constructor
 ·rintro⟨⟨e,he,hx⟩,hz⟩;exact⟨e,he,(I4 hz).1 hx,hz⟩
 ·rintro⟨e,he,hx,hz⟩;exact⟨⟨e,he,(I4 hz).2 hx⟩,hz⟩
end
section
variable {l : List ai} (hl : ∀ e ∈ l, dD e.aa) (hlen : l.length <= 1000)
 include hl hlen
theorem Tv:oB l=some (eZ l):=by
 have hF:oB l=some (l.foldl (fun s e=>if aL e then ew jm e.ab.Value s else s) []):=by
  unfold oB;refine zZ l (by omega) (fun s e=>if aL e then ew jm e.ab.Value s else s) (fun i s=>s.length<=i) (fin:=fun s=>some s) (fun i s x _ hs=> ?_) (fun i e s hs hi he hd hx hw=> ?_) (fun s hd=> ?_) [] (by simp)
  ·show(if aL x then ew jm x.ab.Value s else s).length<=i+1
   have:=wb (lt:=jm) x.ab.Value s;split<;>omega
  ·simp only[hd,hx,hw,Qk,aU,Qa,an.eta,ai.eta,gm (hl e he)]
   cases hv:aL e with
   |false=>simp
   |true=>
    simp only[Qo,Ql,Qt];refine EJ (lt:=jm) s (by omega) e.ab.Value (k:=fun t=>some (Sum.inl (t,((i+1:Nat):Int),()))) (fun j y hd' hx' hlt hw'=> ?_) (fun j y hj hd' hde hx' hlt=> ?_) (fun hd' hde=> ?_)
    ·simp only[hd',hx',hw',Qk,Qa,vp,hlt]
    ·have e1:=rF s j;have e2:=vL s j;simp only[hd',hx',hde,Qk,Ql,Qa,vp,hlt,e1,e2,AZ (show j<=s.length by omega),A0 (show j<=s.length by omega)]
     rw[gM (by omega) (by simp;omega),gM (by omega) (by simp;omega),gM (by omega) (by simp;omega)]
     by_cases hyx:y=e.ab.Value<;>simp[hyx]
    ·have e1:=rF s s.length;have e2:=vL s s.length;simp only[hd',hde,Qk,Ql,e1,e2,AZ (QI s.length),A0 (QI s.length)];rw[gM (by omega) (by simp;omega),gM (by omega) (by simp;omega),gM (by omega) (by simp;omega)]
     simp
  ·simp only[hd,Ql]
 obtain⟨_,h2,_,h4⟩:=nc hl hlen
 have hflat:l.foldl (fun s e=>if aL e then ew jm e.ab.Value s else s) []=(l.flatMap fun e=>if aL e then[e.ab.Value]else[]).foldl (fun l x=>ew jm x l) []:=by
  rw[List.foldl_flatMap];congr 1
  funext s e
  split<;>rfl
 rw[hF,hflat];obtain⟨h5,h6⟩:=yY wy (l.flatMap fun e=>if aL e then[e.ab.Value]else[]) [] .nil
 congr 1;refine wy.unique h5 h2 fun x=> ?_
 rw[h6,h4];simp only[QQ,QR,or_false];constructor
 ·rintro⟨e,he,hx⟩;split at hx
  ·rename_i hv;exact⟨e,he,hv,by simpa using hx⟩
  ·cases hx
 ·rintro⟨e,he,hv,hx⟩;exact⟨e,he,by rw[Qr hv];simpa using hx⟩
theorem uU(v:ByteArray):gZ l v=some (bb l v):=by
 have hF:gZ l v=some (l.foldl (fun s e=>if gp v e then ew (fun a b=>decide (a<b)) e.aR (ew (fun a b=>decide (a<b)) e.aI s)else s) []):=by
  unfold gZ;refine zZ l (by omega) (fun s e=>if gp v e then ew (fun a b=>decide (a<b)) e.aR (ew (fun a b=>decide (a<b)) e.aI s)else s) (fun i s=>s.length<=2*i) (fin:=fun s=>some s) (fun i s x _ hs=> ?_) (fun i e s hs hi he hd hx hw=> ?_) (fun s hd=> ?_) [] (by simp)
  ·show(if gp v x then ew (fun a b=>decide (a<b)) x.aR (ew (fun a b=>decide (a<b)) x.aI s)else s).length<=2*(i+1)
   have h1:=wb (lt:=fun a b:Int=>decide (a<b)) x.aI s
   have h2:=wb (lt:=fun a b:Int=>decide (a<b)) x.aR (ew (fun a b=>decide (a<b)) x.aI s)
   split<;>omega
  ·simp only[hd,hx,hw,Qk,aU,Qa,an.eta,ai.eta,gm (hl e he)]
   have inner:∀(t:List Int) (x:Int) (z:Int),t.length<=3000->aE (fun(v12:Int×Unit)=>
     Option.bind (bif (decide (v12.1<((List.length t:Nat):Int)))then Option.bind (idx t v12.1) fun x13=>some (decide (x13<x))else some false) fun b14=>
     bif b14 then some (Sum.inl ((aB .i64 v12.1 (1:Int)),()))else
     Option.map Sum.inr (Option.bind (bif (decide (v12.1=((List.length t:Nat):Int)))then some true else Option.bind (idx t v12.1) fun x15=>some (!decide (x15=x))) fun b16=>
     bif b16 then
     bif cp (0:Int) v12.1 (List.length t)then
     bif bx 8 (List.length ((t.take (Int.toNat v12.1)).drop (Int.toNat (0:Int))))then
     bif bx 8 (List.length ((t.take (Int.toNat v12.1)).drop (Int.toNat (0:Int)))+List.length [x])then
     bif cp v12.1 (t.length:Int) (List.length t)then
     bif bx 8 (List.length (((t.take (Int.toNat v12.1)).drop (Int.toNat (0:Int)))++[x])+List.length ((t.take (Int.toNat (t.length:Int))).drop (Int.toNat v12.1)))then
     some (Sum.inl (((((t.take (Int.toNat v12.1)).drop (Int.toNat (0:Int)))++[x])++((t.take (Int.toNat (t.length:Int))).drop (Int.toNat v12.1))),z,()):((List Int)×Int×Unit)⊕(((List Int)×Int×Unit)⊕(List Int)))
     else none else none else none else none else none
     else some (Sum.inl (t,z,())))) ((0:Int),())=some (Sum.inl (ew (fun a b=>decide (a<b)) x t,z,())):=by
    intro t x z ht;refine EJ (lt:=fun a b:Int=>decide (a<b)) t (by omega) x (k:=fun t=>some (Sum.inl (t,z,()))) (fun j y hd' hx' hlt hw'=> ?_) (fun j y hj hd' hde hx' hlt=> ?_) (fun hd' hde=> ?_)
    ·simp only[hd',hx',hw',Qk,Qa,hlt]
    ·have e1:=rF t j;have e2:=vL t j;simp only[hd',hx',hde,Qk,Ql,Qa,hlt,e1,e2,AZ (show j<=t.length by omega),A0 (show j<=t.length by omega)]
     rw[gM (by omega) (by simp;omega),gM (by omega) (by simp;omega),gM (by omega) (by simp;omega)]
     by_cases hyx:y=x<;>simp[hyx]
    ·have e1:=rF t t.length;have e2:=vL t t.length;simp only[hd',hde,Qk,Ql,Qa,e1,e2,AZ (QI t.length),A0 (QI t.length)];rw[gM (by omega) (by simp;omega),gM (by omega) (by simp;omega),gM (by omega) (by simp;omega)]
     simp
   have hw1:aB .i64 (0:Int) 1=1:=rfl;have hw2:aB .i64 (1:Int) 1=2:=rfl;have hd0:decide ((0:Int)<2)=true:=rfl;have hd1:decide ((1:Int)<2)=true:=rfl;have hd2:decide ((2:Int)<2)=false:=rfl;have hx0:idx [e.aI,e.aR] 0=some e.aI:=rfl;have hx1:idx [e.aI,e.aR] 1=some e.aR:=rfl;have hl1:=wb (lt:=fun a b:Int=>decide (a<b)) e.aI s
   unfold gp
   cases hv:aL e with
   |false=>simp
   |true=>
    by_cases hvv:e.ab.Value=v
    ·by_cases hlo:e.aI=0
     ·simp[hvv,hlo]
     ·simp only[Qo,Ql,hvv,decide_true,hlo,decide_false,Bool.and_self,Qp,Qa,Qt];refine(bl (s':=(ew (fun a b=>decide (a<b)) e.aI s,(1:Int),())) ?_).trans ((bl (s':=(ew (fun a b=>decide (a<b)) e.aR (ew (fun a b=>decide (a<b)) e.aI s),(2:Int),())) ?_).trans (bU ?_))
      ·simp only[hd0,hx0,hw1,Qk,Qa];exact inner s e.aI 1 (by omega)
      ·simp only[hd1,hx1,hw2,Qk,Qa];exact inner _ e.aR 2 (by omega)
      ·simp only[hd2,Ql,Qe]
    ·simp[hvv]
  ·simp only[hd,Ql]
 obtain⟨_,h2,_,h4⟩:=gB hl hlen v
 have hflat:l.foldl (fun s e=>if gp v e then ew (fun a b=>decide (a<b)) e.aR (ew (fun a b=>decide (a<b)) e.aI s)else s) []=(ends v l).foldl (fun l x=>ew (fun a b=>decide (a<b)) x l) []:=by
  rw[ends,List.foldl_flatMap];congr 1
  funext s e
  split<;>rfl
 rw[hF,hflat];obtain⟨h5,h6⟩:=yY yc (ends v l) [] .nil;congr 1;refine yc.unique h5 (h2.imp fun h=>Qg h) fun x=> ?_
 rw[h6,h4];simp
end
end Go.Proofs.YtkgenianmdfmdaaGreat
namespace Go.Proofs.YtkgenianmdfmdaaGreat
open Go.TQ
theorem kinds{e:ai}(hv:aL e=true):e.bs=1\/e.bs=2\/e.bs=3:=by
 unfold aL fK at hv;rw[Qm]at hv;have h:=hv.2
 by_cases k1:e.bs=1
 ·exact .inl k1
 ·by_cases k2:e.bs=2
  ·exact .inr (.inl k2)
  ·by_cases k3:e.bs=3
   ·exact .inr (.inr k3)
   ·rw[Qs k1,Qs k2,Qs k3]at h;cases h
theorem Tt{e:ai}(h:dD e.aa)(b:ae):lQ e b=some (aL e&&nb e b):=by
 simp only[lQ,an.eta,ai.eta,gm h,Qa,di,fu,xC]
 cases hv:aL e with
 |false=>simp
 |true=>
  cases hz:aA b with
  |true=>simp[nb,hz]
  |false=>by_cases k1:e.bs=1<;>simp[nb,hz,k1]
theorem OL{e:ai}(h:dD e.aa)(v:ByteArray)(lo hi:Int):k7 e v lo hi=some (aL e&&eK e v lo hi):=by
 simp only[k7,an.eta,ai.eta,gm h,Qa,jB,eK,Fz]
 cases hv:aL e with
 |false=>simp
 |true=>
  have hk:=kinds hv
  by_cases a1:lo<1<;>by_cases a2:hi<lo<;>by_cases a3:e.ab.Value=v<;>by_cases a4:lo<e.aI<;>by_cases k1:e.bs=1<;>by_cases k3:e.bs=3<;>simp_all<;>grind
theorem Tu{e:ai}(h:dD e.aa)(v:ByteArray)(lo hi:Int):mJ e v lo hi=some (aL e&&pz e v lo hi):=by
 simp only[mJ,an.eta,ai.eta,gm h,Qa,jB,pz,Fz]
 cases hv:aL e with
 |false=>simp
 |true=>
  have hl:=YQ hv
  by_cases a1:lo<1<;>by_cases a2:hi<lo<;>by_cases a3:e.ab.Value=v<;>by_cases a4:lo<e.aI<;>by_cases k1:e.bs=1<;>by_cases a5:e.aI=0<;>simp_all<;>grind
theorem sJ(p:ai->Bool):∀l:List ai,c8 (fun e=>aL e&&p e) l=c8 p (bK l)
 |[]=>rfl
 |e::l=>by
  have ih:=sJ p l;rw[c8,ih];cases hv:aL e<;>simp[bK,hv,c8]
theorem zg(l:List ai)(hlen:l.length<=1000)(p:ai->Bool)(hp:∀e∈l,p e=true->0<=e.ar/\e.ar<10):gf l (l.map p)=some ((c8 p l:Nat):Int):=by
 unfold gf
 suffices key:∀(k i s:Nat),i+k=l.length->s<1024->aE _ ((s:Int),(i:Int),())=some ((s|||c8 p (l.drop i):Nat):Int)by
  have:=key l.length 0 0 (by omega) (by omega)
  rw[Nat.zero_or,List.drop_zero]at this;exact this
 intro k
 induction k with
 |zero=>
  intro i s hi hs;obtain rfl:i=l.length:=by omega
  have hd:decide (((l.length:Nat):Int)<((l.length:Nat):Int))=false:=Qh (Int.lt_irrefl _);rw[bU (r:=(s:Int)) (by simp only[hd,Ql,Qe]),List.drop_length,c8]
  simp
 |succ k ih=>
  intro i s hi hs;have hlt:i<l.length:=by omega
  have hd:decide ((i:Int)<((l.length:Nat):Int))=true:=Qg (by omega)
  have hd2:decide ((i:Int)<(((l.map p).length:Nat):Int))=true:=Qg (by rw[QC];omega)
  have hw:aB .i64 (i:Int) 1=((i+1:Nat):Int):=bH (by omega) (by omega)
  have hx:idx l (i:Int)=some l[i]:=by rw[bz];exact Qv hlt
  have hx2:idx (l.map p) (i:Int)=some (p l[i]):=by rw[bz,QT,Qv hlt];rfl
  rw[QM hlt,c8]
  cases hpe:p l[i]with
  |false=>
   rw[bl (s':=((s:Int),((i+1:Nat):Int),())) (by simp only[hd,hd2,hx,hx2,hw,hpe,Qk,Ql,aU,Qa]),ih (i+1) s (by omega) hs]
   simp
  |true=>
   obtain⟨h0,h1⟩:=hp _ (Q0 hlt) hpe
   have hc:FF .u64 l[i].ar=l[i].ar:=by
    obtain⟨n,hn⟩:∃n:Nat,l[i].ar=n:=⟨l[i].ar.toNat,by omega⟩
    rw[hn];exact abI (by omega)
   have hn0:¬l[i].ar<0:=by omega
   have d1:decide ((0:Int)<=l[i].ar)=true:=Qg h0;have d2:decide (l[i].ar<=(9:Int))=true:=Qg (by omega)
   rw[bl (s':=(((s|||2 ^ l[i].ar.toNat:Nat):Int),((i+1:Nat):Int),())) (by
    simp only[hd,hd2,hx,hx2,hw,hpe,Qk,aU,Qa,d1,d2,hc,hn0,Qu]
    rw[yj hs h0 h1]),ih (i+1) _ (by omega) (Jh hs h1)]
   simp[Nat.or_assoc]
theorem Od{ρ:Type}(l:List ai)(hl:l.length<=1000)(p q:ai->Bool){step:Int×List Bool×List Bool×Unit->Option ((Int×List Bool×List Bool×Unit)⊕ρ)}{fin:List Bool->List Bool->Option ρ}
  (h1:∀(i:Nat) (e:ai) (vs as_:List Bool),e∈l->decide ((i:Int)<((l.length:Nat):Int))=true->idx l (i:Int)=some e->aB .i64 (i:Int) 1=((i+1:Nat):Int)->(∀x:Bool,bx 1 (vs.length+[x].length)=true)->(∀x:Bool,bx 1 (as_.length+[x].length)=true)->step ((i:Int),vs,as_,())=some (.inl (((i+1:Nat):Int),vs++[p e],as_++[q e],())))
  (h2:∀vs as_,decide (((l.length:Nat):Int)<((l.length:Nat):Int))=false->step (((l.length:Nat):Int),vs,as_,())=Option.map Sum.inr (fin vs as_)):aE step ((0:Int),[],[],())=fin (l.map p) (l.map q):=by
 suffices key:∀(k i:Nat),i+k=l.length->aE step ((i:Int),(l.take i).map p,(l.take i).map q,())=fin (l.map p) (l.map q)from key l.length 0 (by omega)
 intro k
 induction k with
 |zero=>
  intro i hi;obtain rfl:i=l.length:=by omega
  rw[ik,h2 _ _ (Qh (Int.lt_irrefl _)),List.take_length];cases fin (l.map p) (l.map q)<;>rfl
 |succ k ih=>
  intro i hi;have hlt:i<l.length:=by omega
  rw[bl (h1 i l[i] _ _ (Q0 hlt) (Qg (by omega)) (by rw[bz];exact Qv hlt) (bH (by omega) (by omega)) (fun x=>gM (by omega) (by simp;omega)) (fun x=>gM (by omega) (by simp;omega))),<-ih (i+1) (by omega),List.take_succ_eq_append_getElem hlt,List.map_append,List.map_append]
  rfl
theorem BU{p:ai->Bool}{l:List ai}:∀e∈l,(aL e&&p e)=true->0<=e.ar/\e.ar<10:=fun e _ h=>by
 rw[Qm]at h;exact iQ h.1
section
variable {l : List ai} (hl : ∀ e ∈ l, dD e.aa) (hlen : l.length <= 1000)
 include hl hlen
theorem L6(b:ae):rj l b=some (((c8 (fun e=>nb e b||cD e b) (bK l):Nat):Int),((c8 (cD · b) (bK l):Nat):Int),()):=by
 unfold rj;refine(Od l hlen (fun e=>aL e&&(nb e b||cD e b)) (fun e=>aL e&&cD e b) (fin:=fun vs as_=>Option.bind (gf l vs) fun r6=>Option.bind (gf l as_) fun r7=>some (r6,r7,())) (fun i e vs as_ he hd hx hw o1 o2=> ?_) (fun vs as_ hd=> ?_)).trans ?_
 ·simp only[hd,hx,hw,Qk,Qa,an.eta,ai.eta,OJ (hl e he),Tt (hl e he),jB,o1,o2];cases aL e<;>cases nb e b<;>cases cD e b<;>rfl
 ·simp only[hd,Ql]
 ·rw[zg l hlen _ BU,zg l hlen _ BU,Qa,Qa,sJ,sJ]
theorem L0(v:ByteArray)(lo hi:Int):ra l v lo hi=some (((c8 (fun e=>pz e v lo hi||eK e v lo hi) (bK l):Nat):Int),((c8 (eK · v lo hi) (bK l):Nat):Int),()):=by
 unfold ra;refine(Od l hlen (fun e=>aL e&&(pz e v lo hi||eK e v lo hi)) (fun e=>aL e&&eK e v lo hi) (fin:=fun vs as_=>Option.bind (gf l vs) fun r6=>Option.bind (gf l as_) fun r7=>some (r6,r7,())) (fun i e vs as_ he hd hx hw o1 o2=> ?_) (fun vs as_ hd=> ?_)).trans ?_
 ·simp only[hd,hx,hw,Qk,Qa,an.eta,ai.eta,OL (hl e he),Tu (hl e he),jB,o1,o2];cases aL e<;>cases pz e v lo hi<;>cases eK e v lo hi<;>rfl
 ·simp only[hd,Ql]
 ·rw[zg l hlen _ BU,zg l hlen _ BU,Qa,Qa,sJ,sJ]
end
theorem Bf{c:bq}(hc:Ad c){v a b:Nat}(hv:v<10)(h1:a<1024)(h2:b<1024):nF c v a b=some (nv c.aW v a b):=by
 unfold nF nv;have h3:a|||b<1024:=Nat.or_lt_two_pow (n:=10) h1 h2
 rw[sR h1,sR h2,Jb hc h2,Bl a b (by omega) (by omega),Ei hc h3]
 simp[oZ (zX hc h3).lt,qQ,hv]
theorem zL{c:bq}(hc:Ad c){v b:Nat}(hv:v<10)(h2:b<1024):mD c v b=some ((gq c.aW b).testBit v):=by
 unfold mD;rw[Ei hc h2];simp[oZ (zX hc h2).lt,qQ,hv]
end Go.Proofs.YtkgenianmdfmdaaGreat
namespace Go.Proofs.YtkgenianmdfmdaaGreat
open Go.TQ
theorem Iz{c:bq}{ax:Int}{l:List ai}(hlen:l.length<=100000)(b:ae):fS ⟨ax,c,(bK l).map br.mk⟩ b=iJ c ax ((c8 (fun e=>nb e b||cD e b) (bK l):Nat):Int) ((c8 (cD · b) (bK l):Nat):Int):=by
 have hrl:=xL l;have hin:=kF l;simp only[fS,lG,jd,Qa,Option.bind_fun_some,Us (by omega:(bK l).length<=1000000) hin,G0 (by omega:(bK l).length<=1000000) hin]
theorem Ha{c:bq}{ax:Int}{l:List ai}(hlen:l.length<=100000)(b:ae):eo ⟨ax,c,(bK l).map br.mk⟩ b=hY c ax ((c8 (cD · b) (bK l):Nat):Int):=by
 have hrl:=xL l;have hin:=kF l;simp only[eo,Qa,Option.bind_fun_some,G0 (by omega:(bK l).length<=1000000) hin]
theorem UT(b:ae):ma b=some (ou b):=Ka b
def tl(x:ae->Bool)(p q:ae)(v:ByteArray)(b:ae):Bool:=(decide (v=fb)||decide (b.Value=v))&& !dt (ou p) (ou q) b&&x b
def tq(y:ae->Bool)(a b:ae):Bool:=bd a b&&decide (b.aj<=1000)&&y b
section
variable {ax : Int} {t : an} {l : List ai} (hl : oy l) (hlen : l.length <= 1000) {c : bq} {x y : ae -> Bool}
 include hl hlen
theorem YN(hL:eN ax t l=some ⟨ax,c,(bK l).map br.mk⟩)(hx:∀b,fS ⟨ax,c,(bK l).map br.mk⟩ b=some (x b))(p q:ae)(v:ByteArray):mf ax t l p q v=some (((dP l).find? (tl x p q v)).getD vD):=by
 obtain⟨h1,_,h3,_⟩:=kv hl.aO hlen;unfold mf;simp only[an.eta,hL,h1,Qa];refine xX (dP l) (by omega) (fun i=>(i,ae.mk (0:Int) (ByteArray.mk #[]),())) (tl x p q v) vD (fun i b hd hx' hw=> ?_) (fun hd=> ?_)
 ·simp only[hd,hx',hw,Qk,aU,Qa,Ka,oJ,hx];unfold tl fb;cases decide (v=ByteArray.mk #[])<;>cases decide (b.Value=v)<;>cases dt (ou p) (ou q) b<;>cases x b<;>simp
 ·simp only[hd,Ql,Qe];rfl
theorem Wh(hx:∀b,nC ax t l b=some (x b))(p q:ae)(v:ByteArray):oA ax t l p q v=some (((dP l).find? (tl x p q v)).getD vD):=by
 obtain⟨h1,_,h3,_⟩:=kv hl.aO hlen;unfold oA;simp only[an.eta,GF hl.aO hlen,Qa];refine xX (dP l) (by omega) (fun i=>(i,ae.mk (0:Int) (ByteArray.mk #[]),())) (tl x p q v) vD (fun i b hd hx' hw=> ?_) (fun hd=> ?_)
 ·simp only[hd,hx',hw,Qk,aU,Qa,UT,qa,hx];unfold tl fb;cases decide (v=ByteArray.mk #[])<;>cases decide (b.Value=v)<;>cases dt (ou p) (ou q) b<;>cases x b<;>simp
 ·simp only[hd,Ql,Qe];rfl
theorem YZ(hL:eN ax t l=some ⟨ax,c,(bK l).map br.mk⟩)(hy:∀b,eo ⟨ax,c,(bK l).map br.mk⟩ b=some (y b))(a:ae):jM ax t l a=some (((dP l).find? (tq y a)).getD vD):=by
 obtain⟨h1,_,h3,_⟩:=kv hl.aO hlen;unfold jM;simp only[an.eta,hL,h1,Qa];refine xX (dP l) (by omega) (fun i=>(i,ae.mk (0:Int) (ByteArray.mk #[]),())) (tq y a) vD (fun i b hd hx' hw=> ?_) (fun hd=> ?_)
 ·simp only[hd,hx',hw,Qk,aU,Qa,iA,lG,hy];unfold tq;cases bd a b<;>cases decide (b.aj<=1000)<;>cases y b<;>simp
 ·simp only[hd,Ql,Qe];rfl
theorem Wi(hy:∀b,mB ax t l b=some (y b))(a:ae):kY ax t l a=some (((dP l).find? (tq y a)).getD vD):=by
 obtain⟨h1,_,h3,_⟩:=kv hl.aO hlen;unfold kY;simp only[an.eta,GF hl.aO hlen,Qa];refine xX (dP l) (by omega) (fun i=>(i,ae.mk (0:Int) (ByteArray.mk #[]),())) (tq y a) vD (fun i b hd hx' hw=> ?_) (fun hd=> ?_)
 ·simp only[hd,hx',hw,Qk,Qa,iG,hy];unfold tq;cases bd a b<;>cases decide (b.aj<=1000)<;>cases y b<;>simp
 ·simp only[hd,Ql,Qe];rfl
end
end Go.Proofs.YtkgenianmdfmdaaGreat
end
