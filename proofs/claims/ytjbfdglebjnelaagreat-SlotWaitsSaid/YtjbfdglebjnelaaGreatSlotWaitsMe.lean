/-
  Texts made small by a program (see NOTES). Conditions: those that each theorem names.
-/
import Derived.Test.YtjbfdglebjnelaaGreatSlotWaitsMd
set_option linter.unusedVariables false
set_option linter.unusedSimpArgs false
set_option linter.unusedSectionVars false
set_option maxHeartbeats 2000000
noncomputable section
namespace Go.TQ
@[simp] theorem aP {σ ρ:Type} (j:σ->Option ρ) (f:(σ->Option ρ)->Option ρ):aZ j f=f j:=rfl
@[simp] theorem kW {α:Type} (b:Bool) (x y:α):(bif b then some x else some y)=some (bif b then x else y):=by cases b<;>rfl
@[simp] theorem afo {α:Type} (b:Bool) (x:α):(bif b then x else x)=x:=by cases b<;>rfl
theorem D2{α:Type}(p:Prop)[Decidable p](x y:α):(bif decide p then x else y)=if p then x else y:=by
 by_cases h:p<;>simp[h]
theorem BU{α:Type}(p:Prop)[Decidable p](x y:α):(if p then some x else some y)=some (if p then x else y):=by split<;>rfl
@[simp] theorem T3 {α:Type} (b:Bool) (x y:α):(bif !b then x else y)=bif b then y else x:=by cases b<;>rfl
@[simp] theorem zZ (a b:Int) (s t:ByteArray):lu false a b s t=(decide (a=b)&&decide (s=t)):=by simp[lu]
@[simp] theorem YI (a b:Int) (s t:ByteArray):lu true a b s t= !(decide (a=b)&&decide (s=t)):=by simp[lu]
def Yd{α:Type}(o:Option α)(p:α->Prop):Prop:=∃x,o=some x/\p x
theorem Yd.bind{α β:Type}{o:Option α}{p:α->Prop}{f:α->Option β}{q:β->Prop}(h:Yd o p)(k:∀x,p x->Yd (f x) q):Yd (o.bind f) q:=by
 obtain⟨x,rfl,hx⟩:=h;exact k x hx
theorem Yd.mono{α:Type}{o:Option α}{p q:α->Prop}(h:Yd o p)(k:∀x,p x->q x):Yd o q:=by
 obtain⟨x,h1,hx⟩:=h;exact⟨x,h1,k x hx⟩
theorem Yd.some{α:Type}{x:α}{p:α->Prop}(h:p x):Yd (Option.some x) p:=⟨x,rfl,h⟩
theorem Yd.of_eq{α:Type}{o:Option α}{x:α}{p:α->Prop}(h:o=Option.some x)(hp:p x):Yd o p:=⟨x,h,hp⟩
theorem Yd.cond{α:Type}{b:Bool}{x y:Option α}{p:α->Prop}(h1:b=true->Yd x p)(h2:b=false->Yd y p):Yd (bif b then x else y) p:=by
 cases b
 ·exact h2 rfl
 ·exact h1 rfl
theorem Yd.map{α β:Type}{o:Option α}{f:α->β}{p:β->Prop}(h:Yd o fun x=>p (f x)):Yd (o.map f) p:=by
 obtain⟨x,rfl,hx⟩:=h;exact⟨f x,rfl,hx⟩
theorem Yd.eq_true{o:Option Bool}(h:Yd o (·=true)):o=Option.some true:=by
 obtain⟨x,h1,rfl⟩:=h;exact h1
theorem wrap64{n:Int}(h1: -9223372036854775808<=n)(h2:n<=9223372036854775807):IntKind.i64.wrap n=n:=i64_in h1 h2
theorem bE{a b:Int}(h1: -9223372036854775808<=a+b)(h2:a+b<=9223372036854775807):ay .i64 a b=a+b:=wrap64 h1 h2
theorem rl{a b:Int}(h1: -9223372036854775808<=a - b)(h2:a - b<=9223372036854775807):dm .i64 a b=a - b:=wrap64 h1 h2
theorem bh{α:Type}(l:List α)(i:Nat):idx l (i:Int)=l[i]?:=by simp[idx]
theorem Lh{α:Type}(l:List α){n:Int}(h:0<=n):idx l n=l[n.toNat]?:=by simp[idx,h]
@[simp] theorem ade (n:Nat) (h:n<256):bq .i64 (n:Int)=n:=wrap64 (by omega) (by omega)
@[simp] theorem bz {bytes n:Nat} (h:n*bytes<=140737488355328/\n<=1000000):bp bytes n=true:=by
 simp only[bp,Qm,Qi];exact⟨h.1,QK h.2 (by simp[maxLen])⟩
theorem tc(a:Nat)(h:a<2 ^ 62):(BitVec.ofInt 64 (a:Int)).toNat=a:=by
 grind
theorem Br(n:Nat)(h:n<2 ^ 62):IntKind.i64.wrap (n:Int)=n:=wrap64 (by omega) (by omega)
theorem B6(a b:Nat)(ha:a<2 ^ 62)(hb:b<2 ^ 62):B7 .i64 (a:Int) (b:Int)=((a&&&b:Nat):Int):=by
 show IntKind.i64.wrap (((BitVec.ofInt 64 (a:Int)&&&BitVec.ofInt 64 (b:Int)).toNat:Nat):Int)=_;rw[BitVec.toNat_and,tc a ha,tc b hb];exact Br _ (Nat.lt_of_le_of_lt Nat.and_le_left ha)
theorem DG(a b:Nat)(ha:a<2 ^ 62)(hb:b<2 ^ 62):oi .i64 (a:Int) (b:Int)=((a|||b:Nat):Int):=by
 show IntKind.i64.wrap (((BitVec.ofInt 64 (a:Int)|||BitVec.ofInt 64 (b:Int)).toNat:Nat):Int)=_
 rw[BitVec.toNat_or,tc a ha,tc b hb];exact Br _ (Nat.or_lt_two_pow ha hb)
theorem abI(s k:Nat):s&&&2 ^ k=if s.testBit k then 2 ^ k else 0:=by
 refine Nat.eq_of_testBit_eq fun i=> ?_
 grind
theorem we(k:Nat)(h:k<=60):bS .i64 1 (k:Int)=((2 ^ k:Nat):Int):=by
 show IntKind.i64.wrap (1*2 ^ min (k:Int).toNat 64)=_;rw[QV,show min k 64=k from Nat.min_eq_left (by omega),Int.one_mul]
 have:=Br (2 ^ k) (Nat.pow_lt_pow_right (by omega) (by omega))
 simpa using this
theorem XV(a k:Nat)(h:k<=60):lC .i64 (a:Int) (k:Int)=((a>>>k:Nat):Int):=by
 show(a:Int).fdiv (2 ^ min (k:Int).toNat 64)=_;rw[QV,show min k 64=k from Nat.min_eq_left (by omega),Nat.shiftRight_eq_div_pow]
 grind
theorem bw{σ ρ:Type}{step:σ->Option (σ⊕ρ)}{s:σ}{r:ρ}(h:step s=some (.inr r)):aA step s=some r:=by rw[eO,h]
theorem bd{σ ρ:Type}{step:σ->Option (σ⊕ρ)}{s s':σ}(h:step s=some (.inl s')):aA step s=aA step s':=by rw[eO,h]
theorem KY{σ ρ:Type}{step:σ->Option (σ⊕ρ)}{s:σ}(h:step s=none):aA step s=none:=by rw[eO,h]
theorem Yd.loop{σ ρ:Type}{step:σ->Option (σ⊕ρ)}{s:σ}{p:ρ->Prop}(h:Yd (step s) fun y=>match y with| .inl s'=>Yd (aA step s') p| .inr r=>p r):Yd (aA step s) p:=by
 obtain⟨y,h1,h2⟩:=h
 cases y with
 |inl s'=>rw[bd h1];exact h2
 |inr r=>exact⟨r,bw h1,h2⟩
theorem Yd.join{σ ρ:Type}{j:σ->Option ρ}{f:(σ->Option ρ)->Option ρ}{p:ρ->Prop}(inv:σ->Prop)(h1:∀v,inv v->Yd (j v) p)(h2:∀j':σ->Option ρ,(∀v,inv v->Yd (j' v) p)->Yd (f j') p):Yd (aZ j f) p:=h2 j h1
theorem Yd.inr{σ ρ:Type}{o:Option ρ}{p:σ⊕ρ->Prop}(h:Yd o fun r=>p (.inr r)):Yd (Option.map Sum.inr o) p:=h.map
def fq{α σ ρ:Type}(g:α->σ->Option (σ⊕ρ))(fin:σ->Option ρ):List α->σ->Option ρ
 |[],s=>fin s
 |x::l,s=>match g x s with
  |none=>none
  |some (.inr r)=>some r
  |some (.inl s')=>fq g fin l s'
theorem UW{α σ τ ρ:Type}(l:List α)(mk:Int->σ->τ){step:τ->Option (τ⊕ρ)}(g:α->σ->Option (σ⊕ρ))(fin:σ->Option ρ)
  (h1:∀(i:Nat) (x:α) (s:σ),i<l.length->l[i]?=some x->step (mk i s)=match g x s with|none=>none|some (.inr r)=>some (.inr r)|some (.inl s')=>some (.inl (mk (i+1:Nat) s')))
  (h2:∀s,step (mk l.length s)=(fin s).map Sum.inr) (s:σ):aA step (mk 0 s)=fq g fin l s:=by
 suffices h:∀(k:Nat) (i:Nat) (s:σ),i+k=l.length->aA step (mk i s)=fq g fin (l.drop i) s by
  have:=h l.length 0 s (by omega)
  simpa using this
 intro k
 induction k with
 |zero=>
  intro i s hi;obtain rfl:i=l.length:=by omega
  rw[Qq66,fq,eO,h2];cases fin s<;>rfl
 |succ k ih=>
  intro i s hi;have hlt:i<l.length:=by omega
  rw[QM hlt,fq,eO,h1 i l[i] s hlt (Qv hlt)]
  cases hg:g l[i] s with
  |none=>rfl
  |some y=>
   cases y with
   |inr r=>rfl
   |inl s'=>exact ih (i+1) s' (by omega)
theorem il{α σ τ ρ:Type}(l:List α)(hl:l.length<=9223372036854775807)(mk:Int->σ->τ){step:τ->Option (τ⊕ρ)}(g:α->σ->Option (σ⊕ρ))(fin:σ->Option ρ)
  (h1:∀(i:Nat) (x:α) (s:σ),decide ((i:Int)<((l.length:Nat):Int))=true->idx l (i:Int)=some x->ay .i64 (i:Int) 1=((i+1:Nat):Int)->step (mk i s)=match g x s with|none=>none|some (.inr r)=>some (.inr r)|some (.inl s')=>some (.inl (mk (i+1:Nat) s')))
  (h2:∀s,decide (((l.length:Nat):Int)<((l.length:Nat):Int))=false->step (mk l.length s)=(fin s).map Sum.inr) (s:σ):aA step (mk 0 s)=fq g fin l s:=
 UW l mk g fin (fun i x s hi hx=>h1 i x s (Qg (Int.ofNat_lt.2 hi)) (by rw[bh];exact hx) (bE (by omega) (by omega))) (fun s=>h2 s (Qh (Qq64 _))) s
end Go.TQ
namespace Go.Proofs.YtjbfdglebjnelaaGreat
open Go.TQ
section
def fD:ByteArray:=⟨#[]⟩
def aI(b:af):Bool:=decide (b.ae=0)&&decide (b.Value=fD)
def bH(a b:ByteArray):Bool:=if a.size=b.size then jR a b else decide (a.size<b.size)
def bx(a b:af):Bool:=if a.ae=b.ae then bH a.Value b.Value else decide (a.ae<b.ae)
def bM(a b:af):Bool:=decide (a.Value=b.Value)
def jj(p b:af):Bool:= !aI p&&bM p b&&decide (b.ae<=p.ae)
def dK(p q b:af):Bool:=jj p b||jj q b||(!aI q&&bx b q)
def ez(p b:af):Bool:= !aI p&& !bM p b&&bx b p
def c9(b:af):Bool:=(decide (1<=b.ae)&&decide (b.ae<=1000)||decide (b.ae=1000000))&&decide (1<=b.Value.size)&&decide (b.Value.size<=200)
theorem Of:∀x:List UInt8,Op.bytesLess x x=false
 |[]=>rfl
 |a::l=>by simp[Op.bytesLess,Of l]
theorem RU:∀{x y:List UInt8},x≠y->Op.bytesLess x y=true\/Op.bytesLess y x=true
 |[],[],h=>absurd rfl h
 |[],_::_,_=> .inl rfl
 |_::_,[],_=> .inr rfl
 |a::l,b::m,h=>by
  simp only[Op.bytesLess]
  by_cases hab:a=b
  ·subst hab;have:l≠m:=fun e=>h (by rw[e])
   simpa using RU this
  ·rcases Nat.lt_or_gt_of_ne (fun e=>hab (UInt8.toNat_inj.1 e))with h1|h1
   ·have h2:a<b:=h1;simp[h2]
   ·have h2:b<a:=h1;simp[h2]
theorem Bw(a:ByteArray):jR a a=false:=Of _
@[simp] theorem cy (b:af):bu b=some (aI b):=by unfold bu aI;rw[zZ];rfl
@[simp] theorem cU (b:af):bK b=some (aI b):=by unfold bK aI;rw[zZ];rfl
@[simp] theorem fF (a b:af):cg a b=some (bM a b):=rfl
@[simp] theorem gC (a b:af):cO a b=some (bM a b):=rfl
@[simp] theorem tN (b:af):gM b=some (c9 b):=by
 have h1:decide ((1:Int)<=(b.Value.size:Nat))=decide (1<=b.Value.size):=by rw[decide_eq_decide];omega
 have h2:decide (((b.Value.size:Nat):Int)<=200)=decide (b.Value.size<=200):=by rw[decide_eq_decide];omega
 simp only[gM,c9,h1,h2,kW,Qa,Bool.cond_false_right,Bool.cond_true_left]
@[simp] theorem Ci (b:af):lA b=some (c9 b):=tN b
@[simp] theorem yf (a b:ByteArray):ql a b=some (bH a b):=by
 simp only[ql,bH,T3,Int.ofNat_inj,Int.ofNat_lt,D2,BU]
@[simp] theorem jA (a b:af):fL a b=some (bx a b):=by
 simp[fL,bx,D2,BU]
@[simp] theorem AI (a b:af):n9 a b=some (jj a b):=by simp[n9,jj]
@[simp] theorem VN (a b:af):kl a b=some (jj a b):=by simp[kl,jj]
@[simp] theorem sF (p q b:af):kb p q b=some (dK p q b):=by simp[kb,dK]
@[simp] theorem AJ (p b:af):im p b=some (ez p b):=by simp[im,ez]
def Ar(a b:Int):Int:=if a<b then -1 else if b<a then 1 else 0
def JQ(a b:ByteArray):Int:=if jR a b then -1 else if jR a b||decide (a=b)then 0 else 1
def ZB:List Int->Int
 |[]=>0
 |x::l=>if x=0 then ZB l else x
@[simp] theorem Fu (a b:Int):fB a b=some (Ar a b):=by
 simp[fB,sU,Ar,D2,BU]
@[simp] theorem Sl (a b:ByteArray):lf a b=some (JQ a b):=by
 simp only[lf,pP,JQ];cases h1:jR a b<;>by_cases h2:a=b<;>simp[h2]
theorem Md(l:List Int)(hl:l.length<=1000000):mF l=some (ZB l):=by
 unfold mF;rw[il l (by omega) (fun i (_:Unit)=>(i,())) (fun x _=>some (if x=0 then .inl ()else .inr x)) (fun _=>some 0) (fun i x s hd hx hw=> ?_) (fun s hd=> ?_) ()]
 ·induction l with
  |nil=>rfl
  |cons x l ih=>
   grind [fq,ZB]
 ·grind
 ·simp only[hd,Ql]
@[simp] theorem Zj (a b:Int):mF [a,b]=some (if a=0 then b else a):=by
 rw[Md _ (by simp)]
 simp only[ZB]
 by_cases h:a=0<;>by_cases h':b=0<;>simp[h,h']
def tE(a b:ByteArray):Int:=if Ar a.size b.size=0 then JQ a b else Ar a.size b.size
def RO(a b:af):Int:=if Ar a.ae b.ae=0 then tE a.Value b.Value else Ar a.ae b.ae
@[simp] theorem Ax (a b:ByteArray):gV a b=some (tE a b):=by simp[gV,tE]
@[simp] theorem VG (a b:af):nJ a b=some (RO a b):=by simp[nJ,RO]
theorem w6(a b:Int):Ar a b=0↔a=b:=by unfold Ar;split<;>(try split)<;>omega
theorem JR(a b:Int):Ar a b<0↔a<b:=by unfold Ar;split<;>(try split)<;>omega
theorem YW(a b:ByteArray):JQ a b<0↔jR a b=true:=by
 grind [JQ]
theorem rG(a b:ByteArray):decide (tE a b<0)=bH a b:=by
 grind [tE,bH,w6,YW,JR]
theorem RM(a b:af):decide (RO a b<0)=bx a b:=by
 grind [RO,bx,w6,rG,JR]
@[simp] theorem jv (a b:af):dW a b=some (bx a b):=by simp[dW,RM]
@[simp] theorem q7 (p q b:af):gU p q b=some (dK p q b):=by simp[gU,dK]
@[simp] theorem sI (p b:af):dX p b=some (ez p b):=by simp[dX,ez]
def finite(b:af):Bool:=c9 b&&decide (b.ae<=1000)
@[simp] theorem D7 (b:af):mD b=some (finite b):=by simp[mD,finite]
@[simp] theorem Cq (b:af):k9 b=some (aI b||c9 b):=by simp[k9]
@[simp] theorem AK (e:aj) (n:Int):og e n=some ⟨n,e.aa.Value⟩:=rfl
end
section
theorem M6{rec:(al×Unit)->Option Int}{t:al}(hl:t.aN.length<=9223372036854775807):
  jw rec t=fq (fun u m=>(rec (u,())).map fun r=> .inl (bB m r)) (fun m=>some (ay .i64 m 1)) t.aN 0:=by
 unfold jw;rw[il t.aN hl (fun i (m:Int)=>(m,i,())) (fun u m=>(rec (u,())).map fun r=> .inl (bB m r)) (fun m=>some (ay .i64 m 1)) (fun i x s hd hx hw=> ?_) (fun s hd=> ?_) 0]
 ·simp only[hd,hx,hw,Qk,Qa,etas];cases rec (x,())<;>rfl
 ·simp only[hd,Ql]
theorem Sj{rec:(al×Unit)->Option Int}{t:al}(hl:t.aN.length<=9223372036854775807):
  km rec t=fq (fun u m=>(rec (u,())).map fun r=> .inl (ay .i64 m r)) (fun m=>some m) t.aN (ay .i64 t.bb.length t.aN.length):=by
 unfold km;rw[il t.aN hl (fun i (m:Int)=>(m,i,())) (fun u m=>(rec (u,())).map fun r=> .inl (ay .i64 m r)) (fun m=>some m) (fun i x s hd hx hw=> ?_) (fun s hd=> ?_) (ay .i64 t.bb.length t.aN.length)]
 ·simp only[hd,hx,hw,Qk,Qa,etas];cases rec (x,())<;>rfl
 ·simp only[hd,Ql]
theorem Ns(t:al):FF t=jo t:=rfl
theorem Po(t:al):Hf t=ka t:=rfl
def fj(x:Int):Bool:=decide (0<=x)&&decide (x<10)
def tw(s x:Int):Bool:=decide (0<=s)&&decide (s<1024)&&fj x&&s.toNat.testBit x.toNat
theorem HR(s:Int):fh s=some (decide (0<=s)&&decide (s<1024)):=by
 have:bS .i64 1 10=1024:=we 10 (by omega)
 simp[fh,yh,this]
theorem R1{s x:Int}(h1:0<=s)(h2:s<1024)(h3:0<=x)(h4:x<10):(B7 .i64 s (bS .i64 1 x)=0)=(s.toNat.testBit x.toNat=false):=by
 obtain⟨n,rfl⟩:=Int.eq_ofNat_of_zero_le h1;obtain⟨j,rfl⟩:=Int.eq_ofNat_of_zero_le h3;have hj:2 ^ j<=2 ^ 10:=Nat.pow_le_pow_right (by omega) (by omega)
 rw[we j (by omega),B6 n (2 ^ j) (by omega) (by omega),abI]
 grind
@[simp] theorem ki (s x:Int):jb s x=some (tw s x):=by
 unfold jb tw fj;rw[HR]
 by_cases h1:0<=s
 ·by_cases h2:s<1024
  ·by_cases h3:0<=x
   ·by_cases h4:x<10
    ·have h5:¬x<0:=by omega
     have:=R1 h1 h2 h3 h4;simp[h1,h2,h3,h4,h5,this]
    ·simp[h1,h2,h3,h4]
   ·simp[h1,h2,h3]
  ·simp[h1,h2]
 ·simp[h1]
theorem Iu{s x:Int}(h1:0<=s)(h2:s<1024)(h3:0<=x)(h4:x<10):(B7 .i64 (lC .i64 s x) 1=1)=(s.toNat.testBit x.toNat=true):=by
 obtain⟨n,rfl⟩:=Int.eq_ofNat_of_zero_le h1;obtain⟨j,rfl⟩:=Int.eq_ofNat_of_zero_le h3;have hle:n>>>j<=n:=by rw[Nat.shiftRight_eq_div_pow];exact Nat.div_le_self _ _
 rw[XV n j (by omega),show(1:Int)=((1:Nat):Int)from rfl,B6 _ 1 (by omega) (by omega)]
 simp only[QV,Int.ofNat_inj,Nat.testBit,eq_iff_iff];rw[Nat.and_comm];simp
@[simp] theorem oa (s x:Int):kP s x=some (tw s x):=by
 unfold kP gn tw fj
 by_cases h1:0<=s
 ·by_cases h2:s<1024
  ·have h2':s<=1023:=by omega
   by_cases h3:0<=x
   ·by_cases h4:x<10
    ·have h5:¬x<0:=by omega
     have:=Iu h1 h2 h3 h4;simp[h1,h2,h2',h3,h4,h5,this]
    ·simp[h1,h2,h2',h3,h4]
   ·simp[h1,h2,h2',h3]
  ·have h2':¬s<=1023:=by omega
   simp[h1,h2,h2']
 ·simp[h1]
theorem mL{s:Nat}{x:Int}(h1:s<1024)(h3:0<=x)(h4:x<10):oi .i64 (s:Int) (bS .i64 1 x)=((s|||2 ^ x.toNat:Nat):Int):=by
 obtain⟨j,rfl⟩:=Int.eq_ofNat_of_zero_le h3;have hj:2 ^ j<=2 ^ 9:=Nat.pow_le_pow_right (by omega) (by omega)
 rw[we j (by omega)]
 exact DG s (2 ^ j) (by omega) (by omega)
theorem zp{s:Nat}{x:Int}(h1:s<1024)(h4:x<10):s|||2 ^ x.toNat<1024:=by
 have hj:2 ^ x.toNat<=2 ^ 9:=Nat.pow_le_pow_right (by omega) (by omega)
 exact Nat.or_lt_two_pow (n:=10) h1 (by omega)
def ud(s:Nat):List Int->Int×Int×Unit
 |[]=>(s,0,())
 |x::l=>if fj x then(if s.testBit x.toNat then(0,6,())else ud (s|||2 ^ x.toNat) l)else(0,5,())
theorem Tw(g:Int->Int->Option (Int⊕(Int×Int×Unit)))
  (hg:∀x (s:Nat),s<1024->g x s=some (if fj x then(if s.testBit x.toNat then .inr (0,6,())else .inl ((s|||2 ^ x.toNat:Nat):Int))else .inr (0,5,()))):
  ∀(l:List Int) (s:Nat),s<1024->fq g (fun s=>some (s,0,())) l s=some (ud s l)
 |[],s,_=>rfl
 |x::l,s,hs=>by
  rw[fq,hg x s hs,ud]
  cases h1:fj x with
  |false=>simp
  |true=>
   cases h2:s.testBit x.toNat with
   |true=>simp
   |false=>
    simp only[Qt,Qq,Qu];have h3:x<10:=by simp[fj]at h1;omega
    exact Tw g hg l _ (zp hs h3)
theorem CS(l:List Int)(hl:l.length<=9223372036854775807):qW l=some (ud 0 l):=by
 unfold qW;rw[il l hl (fun i (s:Int)=>(s,i,())) (fun x s=>if fj x then(if tw s x then some (.inr (0,6,()))else some (.inl (oi .i64 s (bS .i64 1 x))))else some (.inr (0,5,()))) (fun s=>some (s,0,())) (fun i x s hd hx hw=> ?_) (fun s hd=> ?_) 0]
 ·refine Tw _ (fun x s hs=> ?_) l 0 (by omega)
  grind [fj,tw,mL]
 ·grind [ki,fj,tw]
 ·simp only[hd,Ql]
theorem OD(l:List Int)(hl:l.length<=9223372036854775807):Bb l=some (ud 0 l):=by
 have:Bb l=qW l:=by
  unfold Bb qW;simp only[oa,ki]
 rw[this,CS l hl]
@[simp] theorem vD (x:Int):lM x=some (!fj x):=by simp[lM,wL,fj]
theorem Ip(l:List Int)(hl:l.length<=9223372036854775807):gl l=some (l.any fun x=> !fj x):=by
 have key:∀(i:Nat) (k:Nat),i+k=l.length->Yd (aA (fun(v1:Int×Unit)=>bif (decide (v1.1<((List.length l:Nat):Int)))then Option.bind (idx l v1.1) fun x2=>Option.bind (lM x2) fun r3=>bif r3 then Option.map Sum.inr (some v1.1)else some (Sum.inl ((ay .i64 v1.1 (1:Int)),()))else Option.map Sum.inr (some (-1:Int))) ((i:Int),())) fun r=>decide (0<=r)=(l.drop i).any fun x=> !fj x:=by
  intro i k
  induction k generalizing i with
  |zero=>
   intro hi;refine⟨-1,bw ?_,?_⟩
   ·grind
   ·rw[List.drop_eq_nil_of_le (by omega)];rfl
  |succ k ih=>
   intro hi;have hlt:i<l.length:=by omega
   have hd:decide ((i:Int)<((l.length:Nat):Int))=true:=Qg (Int.ofNat_lt.2 hlt);have hx:idx l (i:Int)=some l[i]:=by rw[bh];exact Qv hlt
   have hw:ay .i64 (i:Int) 1=((i+1:Nat):Int):=bE (by omega) (by omega)
   rw[QM hlt,List.any_cons]
   cases h:fj l[i]with
   |true=>
    rw[bd (s':=(((i+1:Nat):Int),())) (by simp only[hd,hx,hw,Qk,Qa,vD,h];rfl)]
    exact(ih (i+1) (by omega)).mono fun r hr=>by simpa using hr
   |false=>
    refine⟨i,bw (by simp only[hd,hx,Qk,Qa,vD,h];rfl),?_⟩
    simp
 obtain⟨r,h1,h2⟩:=key 0 l.length (by omega)
 unfold gl kM;simp only[Int.natCast_zero]at h1;rw[h1];simpa using h2
def qz(rec:al->Option Int)(t:al):Option Int:=
 if t.aL<1\/ay .i64 t.bb.length t.aN.length<t.aL then some 4
 else if(t.bb.any fun x=> !fj x)then some 5
 else if(ud 0 t.bb).2.1=0 then fq (fun u (_:Unit)=>(rec u).map fun r=>if r=0 then .inl ()else .inr r) (fun _=>some 0) t.aN ()
 else some (ud 0 t.bb).2.1
theorem HX{rec:(al×Unit)->Option Int}{t:al}(hn:t.bb.length<=9223372036854775807)(hl:t.aN.length<=9223372036854775807):iA rec t=qz (fun u=>rec (u,())) t:=by
 unfold iA qz;rw[Ip _ hn,CS _ hn];rw[il t.aN hl (fun i (_:Unit)=>(i,())) (fun u (_:Unit)=>(rec (u,())).map fun r=>if r=0 then .inl ()else .inr r) (fun _=>some 0) (fun i x s hd hx hw=> ?_) (fun s hd=> ?_) ()]
 ·grind
 ·simp only[hd,hx,hw,Qk,Qa,etas]
  cases rec (x,())with
  |none=>rfl
  |some r=>by_cases h:r=0<;>simp[h]
 ·simp only[hd,Ql]
theorem M7{rec:(al×Unit)->Option Int}{t:al}(hn:t.bb.length<=9223372036854775807)(hl:t.aN.length<=9223372036854775807):o6 rec t=qz (fun u=>rec (u,())) t:=by
 unfold o6 qz;rw[il t.bb hn (fun i (_:Unit)=>(i,())) (fun x (_:Unit)=>some (if fj x then .inl ()else .inr 5)) (fun _=>if(ud 0 t.bb).2.1=0 then fq (fun u (_:Unit)=>(rec (u,())).map fun r=>if r=0 then .inl ()else .inr r) (fun _=>some 0) t.aN ()else some (ud 0 t.bb).2.1) (fun i x s hd hx hw=> ?_) (fun s hd=> ?_) ()]
 ·by_cases h1:t.aL<1
  ·simp[h1]
  ·by_cases h2:ay .i64 t.bb.length t.aN.length<t.aL
   ·simp[h1,h2]
   ·simp only[h1,h2,decide_false,Ql,Qa,or_self,Qu]
    have:∀(l:List Int) (fin:Unit->Option Int),fq (fun x (_:Unit)=>some (if fj x then .inl ()else .inr 5)) fin l ()=if(l.any fun x=> !fj x)then some 5 else fin ():=by
     intro l fin
     induction l with
     |nil=>rfl
     |cons x l ih=>
      grind [fq,fj]
    exact this _ _
 ·grind [fj]
 ·simp only[hd,Ql];rw[OD _ hn,Qa];rw[il t.aN hl (fun i (_:Unit)=>(i,())) (fun u (_:Unit)=>(rec (u,())).map fun r=>if r=0 then .inl ()else .inr r) (fun _=>some 0) (fun i x s hd hx hw=> ?_) (fun s hd=> ?_) ()]
  ·grind
  ·simp only[hd,hx,hw,Qk,Qa,etas]
   cases rec (x,())with
   |none=>rfl
   |some r=>by_cases h:r=0<;>simp[h]
  ·simp only[hd,Ql]
structure fe (t:al):Prop where
 nodes:∀x∈t.bb,0<=x/\x<10
 nodup:t.bb.Nodup
 len:t.bb.length<=10
 inner:t.aN=[]\/∃x,0<=x/\x<10/\t.aN=[⟨1,[x],[]⟩]
 th:1<=t.aL/\t.aL<=t.bb.length+t.aN.length
theorem EH:∀(l:List Int) (s:Nat),(∀x∈l,0<=x/\x<10)->l.Nodup->(∀x∈l,s.testBit x.toNat=false)->(ud s l).2.1=0
 |[],s,_,_,_=>rfl
 |x::l,s,h1,h2,h3=>by
  rw[List.nodup_cons]at h2;have hx:=h1 x (by simp)
  have:fj x=true:=by simp[fj];omega
  rw[ud,this,h3 x (by simp)]
  simp only[Qt,Qq,Qu];refine EH l _ (fun y hy=>h1 y (by simp[hy])) h2.2 fun y hy=> ?_
  have hy1:=h1 y (by simp[hy])
  rw[Nat.testBit_or,h3 y (by simp[hy]),Nat.testBit_two_pow]
  have:x.toNat≠y.toNat:=fun e=>by
   have:x=y:=by omega
   subst this;exact h2.1 hy
  simp[this]
theorem R0{l:List Int}(h:∀x∈l,0<=x/\x<10):(l.any fun x=> !fj x)=false:=by
 grind [fj]
theorem IE{rec:al->Option Int}{x:Int}(h0:0<=x)(h1:x<10):qz rec ⟨1,[x],[]⟩=some 0:=by
 have h2:ay .i64 (1:Nat) (0:Nat)=1:=rfl
 grind [ud,EH,fj,R0,qz,fq]
theorem KZ{t:al}(h:fe t){rec:al->Option Int}(hr:∀x,0<=x->x<10->rec ⟨1,[x],[]⟩=some 0):qz rec t=some 0:=by
 have hil:t.aN.length<=1:=by rcases h.inner with e|⟨x,_,_,e⟩<;>rw[e]<;>simp
 have hlen:=h.len;have h2:ay .i64 t.bb.length t.aN.length=t.bb.length+t.aN.length:=bE (by omega) (by omega)
 have h3:(ud 0 t.bb).2.1=0:=EH _ 0 h.nodes h.nodup (by simp)
 have h4:=R0 h.nodes;have h5:=h.th;unfold qz;rw[h2,Qs (by omega),h4,h3]
 simp only[Qq,Qu,Qt];rcases h.inner with e|⟨x,hx0,hx1,e⟩
 ·rw[e];rfl
 ·rw[e,fq,hr x hx0 hx1];rfl
theorem Dw(t:al):∃n,SizeOf.sizeOf t=n+1:=by
 have:1<=SizeOf.sizeOf t:=by
  cases t;simp only[al.mk.sizeOf_spec];omega
 exact⟨SizeOf.sizeOf t - 1,by omega⟩
theorem Vg(n:Nat)(th:Int)(l:List Int):nv (n+1) (⟨th,l,[]⟩,())=some 1:=by
 show jw _ _=_;rw[M6 (by simp)]
 rfl
theorem size_leaf(n:Nat)(th:Int)(l:List Int):ox (n+1) (⟨th,l,[]⟩,())=some (ay .i64 l.length (0:Nat)):=by
 show km _ _=_;rw[Sj (by simp)]
 rfl
theorem LD{t:al}(h:fe t):∃d,jo t=some d/\d<=2:=by
 obtain⟨n,hn⟩:=Dw t;have hil:t.aN.length<=1:=by rcases h.inner with e|⟨x,_,_,e⟩<;>rw[e]<;>simp
 unfold jo;rw[hn];show∃d,jw (nv (n+1)) t=some d/\d<=2;rw[M6 (by omega)]
 rcases h.inner with e|⟨x,_,_,e⟩
 ·rw[e];exact⟨1,rfl,by omega⟩
 ·rw[e,fq,Vg n 1 [x]];exact⟨2,rfl,by omega⟩
theorem Ng{t:al}(h:fe t):∃d,ka t=some d/\d<=200:=by
 obtain⟨n,hn⟩:=Dw t;have hil:t.aN.length<=1:=by rcases h.inner with e|⟨x,_,_,e⟩<;>rw[e]<;>simp
 have hlen:=h.len;unfold ka;rw[hn];show∃d,km (ox (n+1)) t=some d/\d<=200;rw[Sj (by omega),bE (by omega) (by omega)]
 rcases h.inner with e|⟨x,_,_,e⟩
 ·rw[e];exact⟨_,rfl,by simp;omega⟩
 ·rw[e,fq,size_leaf n 1 [x]];have h1:ay .i64 (([x]:List Int).length:Nat) (0:Nat)=1:=rfl;rw[h1];refine⟨_,rfl,?_⟩
  grind [bE]
theorem cP{t:al}(h:fe t):cj t=some 0:=by
 obtain⟨d,h1,h2⟩:=LD h;obtain⟨z,h3,h4⟩:=Ng h;obtain⟨n,hn⟩:=Dw t;have hil:t.aN.length<=1:=by rcases h.inner with e|⟨x,_,_,e⟩<;>rw[e]<;>simp
 have hlen:=h.len
 have h5:lh t=some 0:=by
  unfold lh;rw[hn];show iA (fA (n+1)) t=some 0;rw[HX (by omega) (by omega)]
  refine KZ h fun x hx0 hx1=> ?_
  show iA (fA n) ⟨1,[x],[]⟩=some 0
  grind [HX,IE]
 have h6:¬4<d:=by omega
 have h7:¬200<z:=by omega
 simp[cj,h1,h3,h5,h6,h7]
theorem eV{t:al}(h:fe t):eK t=some 0:=by
 obtain⟨d,h1,h2⟩:=LD h;obtain⟨z,h3,h4⟩:=Ng h;obtain⟨n,hn⟩:=Dw t;have hil:t.aN.length<=1:=by rcases h.inner with e|⟨x,_,_,e⟩<;>rw[e]<;>simp
 have hlen:=h.len
 have h5:vY t=some 0:=by
  unfold vY;rw[hn];show o6 (oY (n+1)) t=some 0;rw[M7 (by omega) (by omega)]
  refine KZ h fun x hx0 hx1=> ?_
  show o6 (oY n) ⟨1,[x],[]⟩=some 0
  grind [M7,IE]
 have h6:¬4<d:=by omega
 have h7:¬200<z:=by omega
 simp[eK,Ns,Po,h1,h3,h5,h6,h7]
end
section
structure Sb (s:qH):Prop where
 len:s.L.length<=800
 lo:0<=s.At
 hi:s.At<=800
theorem adq(l:List Int):Yd (Bc l) fun s=>Sb s:=by
 have h:cm (l.length:Int) 800=((min l.length 800:Nat):Int):=by unfold cm;split<;>omega
 have h2:dq 0 ((min l.length 800:Nat):Int) l.length=true:=by
  grind [dq]
 unfold Bc;rw[h,h2];refine Yd.some ⟨?_,by simp,by simp⟩
 grind
theorem Z4(x n:Int)(hn:1<=n): -n<x.tmod n/\x.tmod n<n:=by
 have h2:=Int.emod_nonneg x (show n≠0 by omega)
 have h3:=Int.emod_lt_of_pos x (show 0<n by omega)
 rw[Int.tmod_eq_emod];split
 ·omega
 ·rw[Int.natAbs_of_nonneg (by omega)];omega
theorem afp{s:qH}(h:Sb s){n:Int}(hn:n<=1000000000):Yd (yg s n) fun p=>Sb p.2/\0<=p.1/\(1<=n->p.1<n)/\(n<1->p.1=0):=by
 unfold yg;simp only[aP];refine Yd.cond (fun h1=> ?_) (fun h1=> ?_)
 ·grind [Yd.some]
 ·simp only[Qj,Int.not_le]at h1;refine Yd.cond (fun h2=> ?_) (fun h2=> ?_)
  ·grind [Yd.some]
  ·simp only[Qj,Int.not_lt]at h2;obtain⟨hl,hlo,hhi⟩:=h;have e1:ay .i64 s.At 1=s.At+1:=bE (by omega) (by omega)
   have e2:dm .i64 (s.At+1) 1=s.At:=by rw[rl (by omega) (by omega)];omega
   rw[e1,e2];have hlt:s.At.toNat<s.L.length:=by omega
   rw[Lh _ hlo,Qv hlt,Qa,Qs (by omega),Qs (by omega)]
   have hb:=Z4 s.L[s.At.toNat] n h2;have e3:xk .i64 s.L[s.At.toNat] n=s.L[s.At.toNat].tmod n:=rfl;rw[e3];generalize s.L[s.At.toNat].tmod n=y at hb;have e4:ay .i64 y n=y+n:=bE (by omega) (by omega)
   rw[e4];have h5:xk .i64 (y+n) n=(y+n) % n:=Int.tmod_eq_emod_of_nonneg (by omega)
   rw[h5];exact Yd.some ⟨⟨hl,by simp;omega,by simp;omega⟩,Int.emod_nonneg _ (by omega),fun _=>Int.emod_lt_of_pos _ (by omega),fun _=>by omega⟩
theorem abT{s:qH}(h:Sb s){l:List ByteArray}(h1:1<=l.length)(h2:l.length<=1000):Yd (sQ s l) fun p=>Sb p.2/\p.1∈l:=by
 unfold sQ;refine(afp h (by omega)).bind fun p ⟨h4,h5,h6,_⟩=> ?_
 grind [Lh,Yd.some]
def Om(v:ByteArray):Prop:=v∈[(ByteArray.mk #[97]),(ByteArray.mk #[98]),(ByteArray.mk #[99]),(ByteArray.mk #[97,97])]
theorem Om.size{v:ByteArray}(h:Om v):1<=v.size/\v.size<=2:=by
 simp only[Om,QA,QR,or_false]at h;rcases h with rfl|rfl|rfl|rfl<;>exact⟨by decide,by decide⟩
theorem Zb{s:qH}(h:Sb s):Yd (rO s) fun p=>Sb p.2/\Om p.1:=by
 unfold rO;exact(abT h (by simp) (by simp)).bind fun p hp=>Yd.some hp
end
section
def at_(e:aj)(n:Int):af:=⟨n,e.aa.Value⟩
def DF(e:aj):Bool:=aI e.ax||(!aI e.an&&bx e.ax e.an&& !bM e.ax e.an)
def ic(e:aj):Bool:=
 finite e.aa&&(aI e.an||c9 e.an)&&(aI e.ax||c9 e.ax)&&DF e&&decide (0<=e.aS)&&decide (e.aS<=e.bn)&&decide (e.bn<=e.aa.ae)
  &&(decide (e.bn=0)||dK e.an e.ax (at_ e e.bn))&&(decide (e.aS=0)||(!ez e.an (at_ e e.aS)&& !ez e.ax (at_ e e.aS)))
def vf(e:aj):Bool:=decide (1<=e.aS)&&decide (e.aS<=e.bn)&&decide (e.bn<=1000)
def vu(e:aj):Bool:=finite e.aa&&c9 e.an&&bM e.an e.aa&&aI e.ax&&vf e&&decide (e.bn<=e.an.ae)
def A6(e:aj):Bool:=c9 e.aa&&aI e.an&&aI e.ax&&vf e
def DU(e:aj):Bool:=decide (0<=e.aq)&&decide (e.aq<10)&&decide (1<=e.bl)&&decide (e.bl<=1000000)&&decide (1<=e.aF)&&decide (e.aF<=1000000)
def kp(tv:Int)(e:aj):Bool:=
 DU e&&decide (tv=0)&&(if e.bL=1 then ic e else if e.bL=2 then vu e else if e.bL=3 then A6 e else false)
theorem dlt(a b:Int):decide (a<b)= !decide (b<=a):=by by_cases h:a<b<;>simp[h]<;>omega
theorem OE(e:aj):nT e=some (ic e):=by
 unfold nT ic DF at_
 simp only[cy,jv,fF,D7,Cq,AK,sI,q7,Qa,kW,aP,dlt,T3];cases finite e.aa<;>cases (aI e.an||c9 e.an)<;>cases (aI e.ax||c9 e.ax)<;>simp
 grind
theorem yk{e:aj}{tv:Int}(hT:cj e.ai=some tv):dY e=some (kp tv e):=by
 unfold dY kp DU;simp[OE,hT,dlt,vu,A6,vf]
 grind
theorem JY{e:aj}{tv:Int}(hT:eK e.ai=some tv):fg e=some (kp tv e):=by
 unfold fg kp DU;simp[hT,dlt,vu,A6,vf,ic,finite,DF,at_]
 have h9:decide (e.aq<=9)= !decide (10<=e.aq):=by by_cases h:e.aq<=9<;>simp[h]<;>omega
 rw[h9];generalize (decide (0<=e.aq)&& !decide (10<=e.aq)&&decide (1<=e.bl)&&decide (e.bl<=1000000)&&decide (1<=e.aF)&&decide (e.aF<=1000000)&&decide (tv=0))=hd
 by_cases k1:e.bL=1
 ·simp only[k1,decide_true,Qk,Qt]
  grind
 ·grind
def HJ(e:aj)(v:ByteArray)(lo hi:Int):Bool:=decide (1<=lo)&&decide (lo<=hi)&&decide (e.aa.Value=v)&&decide (e.aS<=lo)
def rU(e:aj)(v:ByteArray)(lo hi:Int):Bool:=HJ e v lo hi&&(!decide (e.bL=1)||(!decide (e.aS=0)&&decide (hi<=e.bn)))
def fE(e:aj)(v:ByteArray)(lo hi:Int):Bool:=HJ e v lo hi&&(decide (e.bL=3)||(decide (e.bL=2)&&decide (hi<=e.bn)))
def o7(e:aj)(b:af):Bool:= !aI b&&(if e.bL=1 then jj e.aa b else bM e.aa b)
def df(e:aj)(b:af):Bool:= !aI b&&(if e.bL=1 then dK e.an e.ax b else if e.bL=2 then jj e.an b else bM e.aa b)
def cd(e:aj):Int:=if e.bL=3 then 1000000 else e.aa.ae
@[simp] theorem Ds (r:bC) (v:ByteArray) (lo hi:Int):iN r v lo hi=some (rU r.aJ v lo hi):=by
 simp[iN,jO,rU,HJ]
@[simp] theorem tO (r:bC) (v:ByteArray) (lo hi:Int):ij r v lo hi=some (fE r.aJ v lo hi):=by
 simp[ij,jO,fE,HJ]
@[simp] theorem Cr (r:bC) (b:af):iJ r b=some (o7 r.aJ b):=by
 simp only[iJ,o7];cases hz:aI b<;>by_cases h:r.aJ.bL=1<;>simp[h,hz]
@[simp] theorem sV (r:bC) (b:af):hY r b=some (df r.aJ b):=by
 simp only[hY,df];cases hz:aI b<;>by_cases h:r.aJ.bL=1<;>by_cases h2:r.aJ.bL=2<;>simp[h,h2,hz]
@[simp] theorem JZ (r:bC):jn r=some (cd r.aJ):=by
 simp[jn,cd,D2,BU]
section
variable {e : aj} {tv : Int} (hT : cj e.ai = some tv)
 include hT
theorem Sh:jG e=some (if kp tv e then cd e else 0):=by
 simp only[jG,etas,yk hT,Qa];cases kp tv e<;>simp
end
def sJ(n:Nat):List Int:=(List.range n).map fun i:Nat=>(i:Int)
theorem O4(n:Nat):sJ (n+1)=sJ n++[(n:Int)]:=by simp[sJ,List.range_succ]
@[simp] theorem adD (n:Nat):(sJ n).length=n:=by simp[sJ]
theorem Ub(n:Nat)(hn:n<=1000)(k:Int):qf n k=some ⟨k,sJ n,[]⟩:=by
 unfold qf
 suffices key:∀(m i:Nat) (t:al),i+m=n->t.aL=k->t.aN=[]->aA (fun(v1:Int×al×(List Int)×Unit)=>
   bif (decide (v1.1<(n:Int)))then
   bif bp 8 (List.length v1.2.2.1+List.length [v1.1])then
   some (Sum.inl ((ay .i64 v1.1 (1:Int)),(al.mk v1.2.1.aL ([]:List Int) v1.2.1.aN),(v1.2.2.1++[v1.1]),()))
   else none
   else
   Option.map Sum.inr (some (al.mk v1.2.1.aL v1.2.2.1 v1.2.1.aN))) ((i:Int),t,sJ i,())=some ⟨k,sJ n,[]⟩from key n 0 _ (by omega) rfl rfl
 intro m
 induction m with
 |zero=>
  grind [bw]
 |succ m ih=>
  intro i t hi h1 h2;have hd:decide ((i:Int)<(n:Int))=true:=Qg (by omega)
  have hw:ay .i64 (i:Int) 1=((i+1:Nat):Int):=bE (by omega) (by omega)
  rw[bd (s':=(((i+1:Nat):Int),⟨t.aL,[],t.aN⟩,sJ (i+1),()))]
  ·exact ih (i+1) _ (by omega) h1 h2
  ·simp only[hd,hw,Qk];rw[bz (by simp;omega)]
   simp[O4]
theorem W8(n:Nat)(hn:n<=10)(k:Int)(h1:1<=k)(h2:k<=n):fe ⟨k,sJ n,[]⟩:=by
 refine⟨fun x hx=> ?_,?_,by simpa using hn,.inl rfl,h1,by simpa using h2⟩
 ·grind [sJ]
 ·show(sJ n).Nodup;exact List.Pairwise.map _ (fun a b h e=>h (by omega)) List.nodup_range
structure aez (aC aK n:Int) (e:aj):Prop where
 aC:e.aq=aC
 aK:e.bl=aK
 seq:1<=e.aF/\e.aF<=9
 aM:fe e.ai
 nodes:∀x∈e.ai.bb,x<n
 ne:e.ai.bb≠[]
 val:Om e.aa.Value
 valid:kp 0 e=true
theorem VT{b:af}(h1:1<=b.ae)(h2:b.ae<=1000)(h3:Om b.Value):c9 b=true:=by
 have:=h3.size
 grind [c9]
end
section
inductive c5:al->Prop where
 |mk (t:al) (h1:t.bb.length<=1000000) (h2:t.aN.length<=1000000) (h3:∀u∈t.aN,c5 u):c5 t
theorem c5.nodes{t:al}:c5 t->t.bb.length<=1000000| .mk _ h _ _=>h
theorem c5.len{t:al}:c5 t->t.aN.length<=1000000| .mk _ _ h _=>h
theorem c5.inner{t:al}:c5 t->∀u∈t.aN,c5 u| .mk _ _ _ h=>h
theorem pZ{t u:al}(h:u∈t.aN):SizeOf.sizeOf u<SizeOf.sizeOf t:=by
 have h1:=List.sizeOf_lt_of_mem h
 cases t with
 |mk th ns is=>
  grind
theorem fe.sm{t:al}(h:fe t):c5 t:=by
 have:=h.len;refine .mk t (by omega) ?_ fun u hu=> ?_
 ·rcases h.inner with e|⟨x,_,_,e⟩<;>rw[e]<;>simp
 ·rcases h.inner with e|⟨x,_,_,e⟩
  ·rw[e]at hu;cases hu
  ·rw[e]at hu;simp only[Q5]at hu;subst hu;exact .mk _ (by simp) (by simp) (by simp)
@[simp] theorem YY (l:List Int) (h:l.length<=1000000):jN l=some l:=by
 unfold jN;rw[bz (by simp;omega)]
 cases l with
 |nil=>simp
 |cons x l=>simp
theorem Zi{n:Nat}:∀{t:al},SizeOf.sizeOf t<n->c5 t->ux n (t,())=some t:=by
 induction n with
 |zero=>intro t h;omega
 |succ n ih=>
  intro t hs hm;show uE (ux n) t=some t;unfold uE;have hl:=hm.len;rw[YY _ hm.nodes,Qa]
  suffices key:∀(k i:Nat) (t':al),i+k=t.aN.length->t'.aL=t.aL->t'.bb=t.bb->aA (fun(v2:Int×al×(List al)×Unit)=>
    bif (decide (v2.1<((List.length t.aN:Nat):Int)))then
    Option.bind (idx t.aN v2.1) fun x3=>
    Option.bind (ux n ((al.mk x3.aL x3.bb x3.aN),())) fun r4=>
    bif bp 56 (List.length v2.2.2.1+List.length [(al.mk r4.aL r4.bb r4.aN)])then
    some (Sum.inl ((ay .i64 v2.1 (1:Int)),(al.mk v2.2.1.aL v2.2.1.bb ([]:List al)),(v2.2.2.1++[(al.mk r4.aL r4.bb r4.aN)]),()))
    else none
    else
    Option.map Sum.inr (some (al.mk v2.2.1.aL v2.2.1.bb v2.2.2.1))) ((i:Int),t',t.aN.take i,())=some t by
   have:=key t.aN.length 0 ⟨t.aL,t.bb,[]⟩ (by omega) rfl rfl
   simpa using this
  intro k
  induction k with
  |zero=>
   grind [bw,al.eta]
  |succ k ihk=>
   intro i t' hi h1 h2;have hlt:i<t.aN.length:=by omega
   have hd:decide ((i:Int)<((t.aN.length:Nat):Int))=true:=Qg (by omega)
   have hx:idx t.aN (i:Int)=some t.aN[i]:=by rw[bh];exact Qv hlt
   have hw:ay .i64 (i:Int) 1=((i+1:Nat):Int):=bE (by omega) (by omega)
   have hmem:t.aN[i]∈t.aN:=Q0 hlt;have hr:=ih (t:=t.aN[i]) (by have:=pZ hmem;omega) (hm.inner _ hmem)
   rw[bd (s':=(((i+1:Nat):Int),⟨t'.aL,t'.bb,[]⟩,t.aN.take (i+1),()))]
   ·exact ihk (i+1) _ (by omega) h1 h2
   ·simp only[hd,Qk,hx,hw,Qa,etas,hr];rw[bz (by simp;omega),Q7 hlt]
    rfl
@[simp] theorem py {t:al} (h:c5 t):gF t=some t:=Zi (by omega) h
theorem zw{α σ ρ:Type}{g:α->σ->Option (σ⊕ρ)}{fin:σ->Option ρ}(hf:∀s,∃r,fin s=some r):∀(l:List α),(∀x∈l,∀s,∃y,g x s=some y)->∀s,∃r,fq g fin l s=some r
 |[],_,s=>hf s
 |x::l,h,s=>by
  obtain⟨y,hy⟩:=h x (by simp) s
  rw[fq,hy]
  cases y with
  |inr r=>exact⟨r,rfl⟩
  |inl s'=>exact zw hf l (fun x hx=>h x (by simp[hx])) s'
theorem IJ{α σ ρ:Type}{g g':α->σ->Option (σ⊕ρ)}{fin:σ->Option ρ}:∀(l:List α),(∀x∈l,∀s,g x s=g' x s)->∀s,fq g fin l s=fq g' fin l s
 |[],_,s=>rfl
 |x::l,h,s=>by
  rw[fq,fq,h x (by simp) s]
  cases g' x s with
  |none=>rfl
  |some y=>
   cases y with
   |inr r=>rfl
   |inl s'=>exact IJ l (fun x hx=>h x (by simp[hx])) s'
theorem IP{n:Nat}:∀{t:al},SizeOf.sizeOf t<n->c5 t->∃d,nv n (t,())=some d:=by
 induction n with
 |zero=>intro t h;omega
 |succ n ih=>
  intro t hs hm;show∃d,jw (nv n) t=some d;have hl:=hm.len;rw[M6 (by omega)]
  refine zw (fun s=>⟨_,rfl⟩) _ (fun u hu s=> ?_) _
  obtain⟨d,hd⟩:=ih (t:=u) (by have:=pZ hu;omega) (hm.inner u hu)
  exact⟨_,by rw[hd];rfl⟩
theorem Kc{n:Nat}:∀{t:al},SizeOf.sizeOf t<n->c5 t->∃d,ox n (t,())=some d:=by
 induction n with
 |zero=>intro t h;omega
 |succ n ih=>
  intro t hs hm;show∃d,km (ox n) t=some d;have hl:=hm.len;rw[Sj (by omega)]
  refine zw (fun s=>⟨_,rfl⟩) _ (fun u hu s=> ?_) _
  obtain⟨d,hd⟩:=ih (t:=u) (by have:=pZ hu;omega) (hm.inner u hu)
  exact⟨_,by rw[hd];rfl⟩
theorem Gy{rec:al->Option Int}{t:al}(h:∀u∈t.aN,∃r,rec u=some r):∃r,qz rec t=some r:=by
 unfold qz;split
 ·exact⟨_,rfl⟩
 ·split
  ·exact⟨_,rfl⟩
  ·split
   ·refine zw (fun s=>⟨_,rfl⟩) _ (fun u hu s=> ?_) _
    obtain⟨r,hr⟩:=h u hu;exact⟨_,by rw[hr];rfl⟩
   ·exact⟨_,rfl⟩
theorem PZ{rec rec':al->Option Int}{t:al}(h:∀u∈t.aN,rec u=rec' u):qz rec t=qz rec' t:=by
 grind [qz,IJ]
theorem SO{n:Nat}:∀{t:al},SizeOf.sizeOf t<n->c5 t->∃d,fA n (t,())=some d/\oY n (t,())=some d:=by
 induction n with
 |zero=>intro t h;omega
 |succ n ih=>
  intro t hs hm;show∃d,iA (fA n) t=some d/\o6 (oY n) t=some d;have hl:=hm.len;have hn:=hm.nodes;rw[HX (by omega) (by omega),M7 (by omega) (by omega)]
  have hih:∀u∈t.aN,∃r,fA n (u,())=some r/\oY n (u,())=some r:=fun u hu=>ih (t:=u) (by have:=pZ hu;omega) (hm.inner u hu)
  obtain⟨r,hr⟩:=Gy (rec:=fun u=>fA n (u,())) (t:=t) fun u hu=>by obtain⟨r,h1,_⟩:=hih u hu;exact⟨r,h1⟩
  grind [PZ]
theorem aaV{n:Nat}:∀{t:al},SizeOf.sizeOf t<n->c5 t->∃d,fA n (t,())=some d:=by
 induction n with
 |zero=>intro t h;omega
 |succ n ih=>
  intro t hs hm;show∃d,iA (fA n) t=some d;have hl:=hm.len;have hn:=hm.nodes;rw[HX (by omega) (by omega)]
  exact Gy (rec:=fun u=>fA n (u,())) (t:=t) fun u hu=>ih (t:=u) (by have:=pZ hu;omega) (hm.inner u hu)
theorem ZZ{t:al}(h:c5 t):∃v,cj t=some v:=by
 obtain⟨d,hd⟩:∃d,jo t=some d:=IP (by omega) h
 obtain⟨z,hz⟩:∃z,ka t=some z:=Kc (by omega) h
 obtain⟨l,hl1⟩:∃l,lh t=some l:=aaV (by omega) h
 simp[cj,hd,hz,hl1]
theorem Ug{t:al}(h:c5 t):∃v,cj t=some v/\eK t=some v:=by
 obtain⟨d,hd⟩:∃d,jo t=some d:=IP (by omega) h
 obtain⟨z,hz⟩:∃z,ka t=some z:=Kc (by omega) h
 obtain⟨l,hl1,hl2⟩:∃l,lh t=some l/\vY t=some l:=SO (by omega) h
 simp[cj,eK,Ns,Po,hd,hz,hl1,hl2]
 def Ef(t:al):Int:=(cj t).getD 1
theorem S8{t:al}(h:c5 t):cj t=some (Ef t):=by
 grind [ZZ,Ef]
theorem I2{t:al}(h:c5 t):eK t=some (Ef t):=by
 grind [Ug,Ef]
theorem Nc{t:al}(h:fe t):Ef t=0:=by rw[Ef,cP h];rfl
 def aX(e:aj):Bool:=kp (Ef e.ai) e
theorem wH{e:aj}(h:c5 e.ai):dY e=some (aX e):=yk (S8 h)
theorem mn{e:aj}(h:c5 e.ai):fg e=some (aX e):=JY (I2 h)
def lD(s:Nat)(x:Int):Bool:=fj x&&s.testBit x.toNat
theorem rA{s:Nat}(h:s<1024)(x:Int):tw s x=lD s x:=by
 grind [tw,lD]
mutual
def kS(s:Nat):al->Bool
 |⟨th,ns,is⟩=>decide (th<=((ns.countP (lD s)+wh s is:Nat):Int))
def wh(s:Nat):List al->Nat
 |[]=>0
 |t::l=>(if kS s t then 1 else 0)+wh s l
end
theorem Hq(s:Nat)(t:al):kS s t=decide (t.aL<=((t.bb.countP (lD s)+wh s t.aN:Nat):Int)):=by
 cases t;rw[kS]
theorem Fc(s:Nat)(hs:s<1024)(fin:Int->Option Bool):∀(l:List Int) (n:Nat),n+l.length<=9000000->
  fq (fun x (m:Int)=>some (.inl (if tw s x then ay .i64 m 1 else m))) fin l n=fin ((n+l.countP (lD s):Nat):Int)
 |[],n,_=>by simp[fq]
 |x::l,n,h=>by
  simp at h;rw[fq,rA hs,List.countP_cons]
  cases hx:lD s x with
  |false=>
   simp only[Qq,Qu,Nat.add_zero];exact Fc s hs fin l n (by omega)
  |true=>
   simp only[Qt];rw[bE (by omega) (by omega)]
   rw[show(n:Int)+1=((n+1:Nat):Int)by omega,Fc s hs fin l (n+1) (by omega)]
   congr 2;omega
theorem I7(s:Nat)(rec:al->Option Bool)(fin:Int->Option Bool):∀(l:List al) (n:Nat),n+l.length<=9000000->(∀u∈l,rec u=some (kS s u))->
  fq (fun u (m:Int)=>(rec u).map fun r=> .inl (if r then ay .i64 m 1 else m)) fin l n=fin ((n+wh s l:Nat):Int)
 |[],n,_,_=>by simp[fq,wh]
 |u::l,n,h,hr=>by
  simp at h;rw[fq,hr u (by simp),wh]
  cases hx:kS s u with
  |false=>
   simp only[Qe,Qq,Qu,Nat.zero_add];exact I7 s rec fin l n (by omega) fun u hu=>hr u (by simp[hu])
  |true=>
   simp only[Qe,Qt];rw[bE (by omega) (by omega)]
   rw[show(n:Int)+1=((n+1:Nat):Int)by omega,I7 s rec fin l (n+1) (by omega) fun u hu=>hr u (by simp[hu])]
   congr 2;omega
theorem aeA{rec:(al×Int×Unit)->Option Bool}{t:al}{s:Nat}(hs:s<1024)(hm:c5 t)(hr:∀u∈t.aN,rec (u,(s:Int),())=some (kS s u)):gG rec t s=some (kS s t):=by
 unfold gG;have hn:=hm.nodes;have hl:=hm.len;have hv:fh (s:Int)=some true:=by rw[HR];simp;omega
 rw[hv];simp only[Qa,Qo,Ql,aP];rw[il t.bb (by omega) (fun i (m:Int)=>(m,i,())) (fun x (m:Int)=>some (.inl (if tw s x then ay .i64 m 1 else m))) (fun m=>fq (fun u (m:Int)=>(rec (u,(s:Int),())).map fun r=> .inl (if r then ay .i64 m 1 else m)) (fun m=>some (decide (t.aL<=m))) t.aN m) (fun i x m hd hx hw=> ?_) (fun m hd=> ?_) 0]
 ·rw[show(0:Int)=((0:Nat):Int)from rfl,Fc s hs _ t.bb 0 (by omega)]
  rw[I7 s (fun u=>rec (u,(s:Int),())) _ t.aN _ (by have:=List.countP_le_length (p:=lD s) (l:=t.bb);omega) hr,Hq]
  simp
 ·grind [ki,tw]
 ·simp only[hd,Ql];rw[il t.aN (by omega) (fun i (m:Int)=>(m,i,())) (fun u (m:Int)=>(rec (u,(s:Int),())).map fun r=> .inl (if r then ay .i64 m 1 else m)) (fun m=>some (decide (t.aL<=m))) (fun i x m hd hx hw=> ?_) (fun m hd=> ?_) m]
  ·simp only[hd,hx,hw,Qk,Qa,etas]
   cases rec (x,(s:Int),())with
   |none=>rfl
   |some r=>cases r<;>rfl
  ·simp only[hd,Ql]
theorem aev{s:Nat}(hs:s<1024){n:Nat}:∀{t:al},SizeOf.sizeOf t<n->c5 t->mS n (t,(s:Int),())=some (kS s t):=by
 induction n with
 |zero=>intro t h;omega
 |succ n ih=>
  intro t hz hm;show gG (mS n) t s=some (kS s t);exact aeA hs hm fun u hu=>ih (t:=u) (by have:=pZ hu;omega) (hm.inner u hu)
theorem Ca{s:Nat}(hs:s<1024){t:al}(hm:c5 t):iM t s=some (kS s t):=aev hs (by omega) hm
theorem Uz(t:al)(s:Int):lj t s=iM t s:=by
 have hB:∀(rec:(al×Int×Unit)->Option Bool) (t:al) (s:Int),uY rec t s=gG rec t s:=by
  grind [uY,gG,gn,fh,HR,oa,ki]
 grind [lj,iM,AG,mS]
theorem Fz{s:Nat}(hs:s<1024){t:al}(hm:c5 t):lj t s=some (kS s t):=by rw[Uz];exact Ca hs hm
theorem NY{s s':Nat}(h:∀k,s.testBit k=true->s'.testBit k=true)(x:Int)(hx:lD s x=true):lD s' x=true:=by
 grind [lD]
mutual
theorem Nl{s s':Nat}(h:∀k,s.testBit k=true->s'.testBit k=true):∀(t:al),kS s t=true->kS s' t=true
 |⟨th,ns,is⟩,ht=>by
  rw[kS,Qi]at ht ⊢;have h1:=No h is;have h2:ns.countP (lD s)<=ns.countP (lD s'):=List.countP_mono_left fun x _ hx=>NY h x hx
  omega
theorem No{s s':Nat}(h:∀k,s.testBit k=true->s'.testBit k=true):∀(l:List al),wh s l<=wh s' l
 |[]=>by simp[wh]
 |t::l=>by
  have h1:=No h l;have h2:=Nl h t;rw[wh,wh]
  cases hs:kS s t with
  |false=>simp;omega
  |true=>rw[h2 hs];simp;omega
end
end
section
theorem aad(s:Int):gn s=some (decide (0<=s)&&decide (s<1024)):=by
 unfold gn;simp;congr 1;rw[decide_eq_decide];omega
theorem AM{s:Nat}(h:s<1024):fh (s:Int)=some true:=by rw[HR];simp;omega
theorem vd{s:Nat}(h:s<1024):gn (s:Int)=some true:=by rw[aad];simp;omega
theorem IU(a b:Nat)(ha:a<2 ^ 62)(hb:b<2 ^ 62):∃c:Nat,zf .i64 (a:Int) (b:Int)=(c:Int)/\c<=a/\∀k,c.testBit k=(a.testBit k&& !b.testBit k):=by
 refine⟨((BitVec.ofInt 64 (a:Int)&&& ~~~ BitVec.ofInt 64 (b:Int)).toNat),?_,?_,fun k=> ?_⟩
 ·have hle:(BitVec.ofInt 64 (a:Int)&&& ~~~ BitVec.ofInt 64 (b:Int)).toNat<=a:=by
   rw[BitVec.toNat_and,tc a ha];exact Nat.and_le_left
  show IntKind.i64.wrap (((BitVec.ofInt 64 (a:Int)&&& ~~~ BitVec.ofInt 64 (b:Int)).toNat:Nat):Int)=_;exact Br _ (by omega)
 ·rw[BitVec.toNat_and,tc a ha];exact Nat.and_le_left
 ·have h1:∀i (x:Nat),x<2 ^ 62->(BitVec.ofInt 64 (x:Int)).getLsbD i=x.testBit i:=by
   intro i x hx;rw[<-BitVec.testBit_toNat,tc x hx]
  rw[BitVec.testBit_toNat,BitVec.getLsbD_and,BitVec.getLsbD_not,h1 k a ha,h1 k b hb]
  by_cases hk:k<64
  ·simp[hk]
  ·have:a.testBit k=false:=Nat.testBit_lt_two_pow (QJ ha (Nat.pow_le_pow_right (by omega) (by omega)))
   simp[this]
theorem Bk{a b:Nat}(h:∀k,a.testBit k=b.testBit k):a=b:=Nat.eq_of_testBit_eq h
theorem LN{s k:Nat}(hs:s<1024)(hk:s.testBit k=true):k<10:=by
 rcases Nat.lt_or_ge k 10 with h|h
 ·exact h
 ·have:s.testBit k=false:=Nat.testBit_lt_two_pow (QJ hs (show 2 ^ 10<=2 ^ k from Nat.pow_le_pow_right (by omega) h))
  rw[this]at hk;cases hk
theorem DI{s:Nat}(h:∀k,s.testBit k=true->k<10):s<1024:=by
 rcases Nat.lt_or_ge s 1024 with h1|h1
 ·exact h1
 ·obtain⟨k,hk1,hk2⟩:=Nat.exists_ge_and_testBit_of_ge_two_pow (n:=10) h1;have:=h k hk2;omega
theorem wE(s k:Nat):lD s (k:Int)=(decide (k<10)&&s.testBit k):=by
 have h1:decide ((k:Int)<10)=decide (k<10):=by rw[decide_eq_decide];omega
 have h2:decide (0<=(k:Int))=true:=Qg (by omega)
 simp only[lD,fj,h1,h2,Bool.true_and,QV]
def E9(i:Nat)(s:Nat):List aR->Nat
 |[]=>s
 |m::l=>E9 (i+1) (if m.dG&&decide (i<10)then s|||2 ^ i else s) l
def jy(l:List aR):Nat:=E9 0 0 l
theorem N9:∀(l:List aR) (i s k:Nat),(E9 i s l).testBit k=(s.testBit k||(decide (i<=k)&&decide (k<10)&&((l[k - i]?).any (·.dG))))
 |[],i,s,k=>by simp[E9]
 |m::l,i,s,k=>by
  rw[E9,N9 l (i+1)]
  by_cases hk:k=i
  ·subst hk;have h1:¬(k+1<=k):=by omega
   cases hm:m.dG<;>by_cases hi:k<10<;>simp[hm,hi,h1,Nat.testBit_or]
  ·have h2:i<=k↔i+1<=k:=by omega
   have h3:∀b:Bool,(if(b&&decide (i<10))=true then s|||2 ^ i else s).testBit k=s.testBit k:=by
    intro b;split
    ·rw[Nat.testBit_or,Nat.testBit_two_pow];have:¬i=k:=fun e=>hk e.symm
     simp[this]
    ·rfl
   rw[h3]
   by_cases hik:i+1<=k
   ·have h4:(m::l)[k - i]?=l[k - (i+1)]?:=by
     rw[show k - i=(k - (i+1))+1 by omega,List.getElem?_cons_succ]
    rw[h4];have:i<=k:=by omega
    simp[this,hik]
   ·have:¬i<=k:=by omega
    simp[this,hik]
theorem GW(l:List aR)(k:Nat):(jy l).testBit k=(decide (k<10)&&((l[k]?).any (·.dG))):=by
 rw[jy,N9];simp
theorem B1(l:List aR):jy l<1024:=DI fun k hk=>by
 rw[GW]at hk;simp at hk;exact hk.1
theorem N8(step:(Int×Int×Unit)->Option ((Int×Int×Unit)⊕Int))(l:List aR)
  (h1:∀(i:Nat) (m:aR) (s:Nat),l[i]?=some m->s<1024->step ((s:Int),(i:Int),())=some (.inl (((if m.dG&&decide (i<10)then s|||2 ^ i else s:Nat):Int),((i+1:Nat):Int),())))
  (h2:∀s:Int,step (s,(l.length:Int),())=some (.inr s)):aA step (0,0,())=some ((jy l:Nat):Int):=by
 suffices key:∀(k i s:Nat),i+k=l.length->s<1024->aA step ((s:Int),(i:Int),())=some ((E9 i s (l.drop i):Nat):Int)by
  have:=key l.length 0 0 (by omega) (by omega)
  simpa[jy]using this
 intro k
 induction k with
 |zero=>
  intro i s hi hs;obtain rfl:i=l.length:=by omega
  rw[bw (h2 s),Qq66];rfl
 |succ k ih=>
  intro i s hi hs;have hlt:i<l.length:=by omega
  rw[QM hlt,E9,bd (h1 i l[i] s (Qv hlt) hs)];refine ih (i+1) _ (by omega) ?_
  split
  ·rename_i hc;simp only[Qm,Qi]at hc;have:=zp (x:=(i:Int)) hs (by omega)
   simpa using this
  ·exact hs
theorem IY{c:aU}(h:c.bj.length<=1000000):iX c=some ((jy c.bj:Nat):Int):=by
 unfold iX;refine N8 _ _ (fun i m s hm hs=> ?_) (fun s=> ?_)
 ·have hlt:i<c.bj.length:=(Qw.1 hm).1;have hd:decide ((i:Int)<((c.bj.length:Nat):Int))=true:=Qg (by omega)
  have hw:ay .i64 (i:Int) 1=((i+1:Nat):Int):=bE (by omega) (by omega)
  have hx:idx c.bj (i:Int)=some m:=by rw[bh];exact hm
  have h0:¬(i:Int)<0:=by omega
  simp only[hd,hx,hw,Qk,Qa,aP,h0,Qu]
  cases m.dG with
  |false=>simp
  |true=>
   by_cases h10:i<10
   ·have:(i:Int)<10:=by omega
    have ho:=mL (x:=(i:Int)) hs (by omega) (by omega)
    simp only[QV]at ho;simp[this,h10,ho]
   ·have:¬(i:Int)<10:=by omega
    simp[this,h10]
 ·have hd:decide (((c.bj.length:Nat):Int)<((c.bj.length:Nat):Int))=false:=Qh (Qq64 _);simp only[hd,Ql,Qe]
theorem BB{c:aU}(h:c.bj.length<=1000000):oE c=some ((jy c.bj:Nat):Int):=by
 unfold oE;refine N8 _ _ (fun i m s hm hs=> ?_) (fun s=> ?_)
 ·have hlt:i<c.bj.length:=(Qw.1 hm).1;have hd:decide ((i:Int)<((c.bj.length:Nat):Int))=true:=Qg (by omega)
  have hw:ay .i64 (i:Int) 1=((i+1:Nat):Int):=bE (by omega) (by omega)
  have hx:idx c.bj (i:Int)=some m:=by rw[bh];exact hm
  have h0:¬(i:Int)<0:=by omega
  simp only[hd,hx,hw,Qk,Qa,aP,h0,Qu]
  by_cases h10:i<10
  ·have:(i:Int)<10:=by omega
   have ho:=mL (x:=(i:Int)) hs (by omega) (by omega)
   simp only[QV]at ho;cases m.dG<;>simp[this,h10,ho]
  ·have:¬(i:Int)<10:=by omega
   cases m.dG<;>simp[this,h10]
 ·have hd:decide (((c.bj.length:Nat):Int)<((c.bj.length:Nat):Int))=false:=Qh (Qq64 _);simp only[hd,Ql,Qe]
structure xU (c:aU):Prop where
 len:c.bj.length<=1000000
 aM:∀m∈c.bj,c5 m.ai
def lP(l:List aR)(k:Nat):al:=((l[k]?).map (·.ai)).getD ⟨0,[],[]⟩
def nu(l:List aR)(k:Nat):Bool:=(jy l).testBit k
theorem xK{l:List aR}{k:Nat}(h:nu l k=true):k<10/\∃m,l[k]?=some m/\m.dG=true:=by
 rw[nu,GW]at h;simp only[Qm,Qi,Option.any_eq_true]at h;obtain⟨h1,m,h2,h3⟩:=h;exact⟨h1,m,h2,h3⟩
theorem sj{l:List aR}{k:Nat}{m:aR}(h:l[k]?=some m):lP l k=m.ai:=by rw[lP,h];rfl
def yH(s v:Nat):Nat:=(1023^^^s)|||2 ^ v
def ur(l:List aR)(v s:Nat):Bool:=nu l v&& !kS (yH s v) (lP l v)
theorem Zq(k:Nat):(1023:Nat).testBit k=decide (k<10):=by
 rw[show(1023:Nat)=2 ^ 10 - 1 from rfl,Nat.testBit_two_pow_sub_one]
theorem AR{s:Nat}(hs:s<1024)(v k:Nat):(yH s v).testBit k=(decide (k<10)&& !s.testBit k||decide (v=k)):=by
 rw[yH,Nat.testBit_or,Nat.testBit_xor,Zq,Nat.testBit_two_pow]
 by_cases hk:k<10
 ·simp[hk]
 ·have:s.testBit k=false:=by
   cases h:s.testBit k with
   |false=>rfl
   |true=>exact absurd (LN hs h) hk
  simp[hk,this]
theorem NK{s v:Nat}(hs:s<1024)(hv:v<10):yH s v<1024:=DI fun k hk=>by
 rw[AR hs]at hk;simp at hk;omega
theorem SJ{s v:Nat}(hs:s<1024)(hv:v<10):oi .i64 (zf .i64 1023 (s:Int)) (bS .i64 1 (v:Int))=((yH s v:Nat):Int):=by
 obtain⟨c,h1,h2,h3⟩:=IU 1023 s (by omega) (by omega)
 have h1':zf .i64 1023 (s:Int)=(c:Int):=h1;rw[h1',we v (by omega),DG c (2 ^ v) (by omega) (Nat.pow_lt_pow_right (by omega) (by omega))]
 congr 1;refine Bk fun k=> ?_
 rw[AR hs,Nat.testBit_or,h3,Zq,Nat.testBit_two_pow]
theorem UQ{s v:Nat}(hs:s<1024)(hv:v<10):oi .i64 (dm .i64 1023 (s:Int)) (bS .i64 1 (v:Int))=((yH s v:Nat):Int):=by
 have h1:dm .i64 1023 (s:Int)=((1023 - s:Nat):Int):=by rw[rl (by omega) (by omega)];omega
 rw[h1,we v (by omega),DG _ (2 ^ v) (by omega) (Nat.pow_lt_pow_right (by omega) (by omega))]
 congr 1;refine Bk fun k=> ?_
 rw[AR hs,Nat.testBit_or,Nat.testBit_two_pow]
 have h2:(1023 - s).testBit k=(decide (k<10)&& !s.testBit k):=by
  have:=Nat.testBit_two_pow_sub_succ (x:=s) (n:=10) (by omega) k
  rw[show 2 ^ 10 - (s+1)=1023 - s by omega]at this
  exact this
 rw[h2]
theorem Ot{c:aU}(hc:xU c){v s:Nat}(hs:s<1024):nI c v s=some (ur c.bj v s):=by
 unfold nI ur;rw[AM hs,IY hc.len];simp only[Qa,Qo,Ql,ki,rA (B1 _),wE]
 cases hd:nu c.bj v with
 |false=>
  have:(decide (v<10)&&(jy c.bj).testBit v)=false:=by
   rw[show(jy c.bj).testBit v=nu c.bj v from rfl,hd];simp
  simp[this]
 |true=>
  obtain⟨h10,m,hm,hdm⟩:=xK hd
  have:(decide (v<10)&&(jy c.bj).testBit v)=true:=by
   rw[show(jy c.bj).testBit v=nu c.bj v from rfl,hd];simp[h10]
  rw[bh,hm,SJ hs h10];have h0:¬(v:Int)<0:=by omega
  have hmem:m∈c.bj:=Q8 hm;simp only[this,Qo,Ql,Qa,h0,Qu,etas,Ca (NK hs h10) (hc.aM m hmem),sj hm,Bool.true_and]
theorem Kw{c:aU}(hc:xU c){v s:Nat}(hs:s<1024):qU c v s=some (ur c.bj v s):=by
 unfold qU ur;rw[vd hs,BB hc.len];simp only[Qa,Qo,Ql,oa,rA (B1 _),wE]
 cases hd:nu c.bj v with
 |false=>
  have:(decide (v<10)&&(jy c.bj).testBit v)=false:=by
   rw[show(jy c.bj).testBit v=nu c.bj v from rfl,hd];simp
  simp[this]
 |true=>
  obtain⟨h10,m,hm,hdm⟩:=xK hd
  have:(decide (v<10)&&(jy c.bj).testBit v)=true:=by
   rw[show(jy c.bj).testBit v=nu c.bj v from rfl,hd];simp[h10]
  rw[bh,hm,UQ hs h10];have h0:¬(v:Int)<0:=by omega
  have hmem:m∈c.bj:=Q8 hm;simp only[this,Qo,Ql,Qa,h0,Qu,etas,Fz (NK hs h10) (hc.aM m hmem),sj hm,Bool.true_and]
end
section
def mq(s:Nat):List Int:=(sJ 10).filter (lD s)
theorem HC{n:Nat}{x:Int}:x∈sJ n↔∃k:Nat,k<n/\x=k:=by
 grind [sJ]
theorem AT{s:Nat}{x:Int}:x∈mq s↔∃k:Nat,k<10/\x=k/\s.testBit k=true:=by
 grind [mq,HC,wE]
theorem KQ(step:(Int×List Int×Unit)->Option ((Int×List Int×Unit)⊕List Int))(s:Nat)
  (h1:∀(i:Nat) (acc:List Int),i<10->acc.length<=i->step ((i:Int),acc,())=some (.inl (((i+1:Nat):Int),(if lD s i then acc++[(i:Int)]else acc),())))
  (h2:∀acc,step (((10:Nat):Int),acc,())=some (.inr acc)):aA step (0,[],())=some (mq s):=by
 suffices key:∀(k i:Nat) (acc:List Int),i+k=10->acc=(sJ i).filter (lD s)->aA step ((i:Int),acc,())=some (mq s)from key 10 0 [] rfl rfl
 intro k
 induction k with
 |zero=>
  intro i acc hi ha;obtain rfl:i=10:=by omega
  rw[bw (h2 acc),ha];rfl
 |succ k ih=>
  intro i acc hi ha;have hlen:acc.length<=i:=by rw[ha];exact QK (List.length_filter_le _ _) (by simp)
  rw[bd (h1 i acc (by omega) hlen)]
  refine ih (i+1) _ (by omega) ?_
  rw[O4,List.filter_append,<-ha];cases hh:lD s i<;>simp[hh]
theorem JX{s:Nat}(hs:s<1024):pK (s:Int)=some (mq s):=by
 grind [pK,KQ,ay,bE,aP,ki,rA,bz,lD]
theorem Gd{s:Nat}(hs:s<1024):si (s:Int)=some (mq s):=by
 grind [si,KQ,ay,bE,aP,oa,rA,bz,lD]
def D6(l:List aR)(s r:Nat):Prop:=∀k,r.testBit k=true->s.testBit k=true/\nu l k=true/\kS r (lP l k)=true
structure zh (l:List aR) (s q:Nat):Prop where
 inside:D6 l s q
 max:∀r,D6 l s r->∀k,r.testBit k=true->q.testBit k=true
theorem zh.unique{l:List aR}{s q q':Nat}(h:zh l s q)(h':zh l s q'):q=q':=by
 refine Bk fun k=> ?_
 rw[QW];exact⟨h'.max q h.inside k,h.max q' h'.inside k⟩
theorem zh.lt{l:List aR}{s q:Nat}(h:zh l s q):q<1024:=DI fun k hk=>(xK (h.inside k hk).2.1).1
def pR(l:List aR)(s:Nat):Option Int:=(mq s).find? fun x=> !kS s (lP l x.toNat)
theorem Fx{l:List aR}{s:Nat}{x:Int}(h:pR l s=some x):∃k:Nat,x=k/\k<10/\s.testBit k=true/\kS s (lP l k)=false:=by
 have h1:=List.mem_of_find?_eq_some h;have h2:=List.find?_some h;obtain⟨k,hk,rfl,hb⟩:=AT.1 h1;simp at h2;exact⟨k,rfl,hk,hb,h2⟩
theorem Ou{l:List aR}{s:Nat}(hs:s<1024)(h:pR l s=none):∀k,s.testBit k=true->kS s (lP l k)=true:=by
 intro k hk;have:=List.find?_eq_none.1 h (k:Int) (AT.2 ⟨k,LN hs hk,rfl,hk⟩);simpa using this
theorem Z6:∀s,s<1024->∀k,k<10->s.testBit k=true->s - 2 ^ k=s^^^2 ^ k:=by decide+kernel
theorem Ho{s k:Nat}(hs:s<1024)(hk:s.testBit k=true):2 ^ k<=s/\∀j,(s - 2 ^ k).testBit j=(s.testBit j&& !decide (k=j)):=by
 have hle:2 ^ k<=s:=Nat.ge_two_pow_of_testBit hk;refine⟨hle,?_⟩;have hx:s - 2 ^ k=s^^^2 ^ k:=Z6 s hs k (LN hs hk) hk
 grind
structure q8 (l:List aR) (s0 s:Nat):Prop where
 lt:s<1024
 sub:∀k,s.testBit k=true->s0.testBit k=true/\nu l k=true
 max:∀r,D6 l s0 r->∀k,r.testBit k=true->s.testBit k=true
theorem q8.first(l:List aR){s:Nat}(hs:s<1024):q8 l s (s&&&jy l):=by
 refine⟨Nat.lt_of_le_of_lt Nat.and_le_left hs,fun k hk=> ?_,fun r hr k hk=> ?_⟩
 ·rw[Nat.testBit_and,Qm]at hk;exact hk
 ·rw[Nat.testBit_and,Qm];exact⟨(hr k hk).1,(hr k hk).2.1⟩
theorem q8.next{l:List aR}{s0 s k:Nat}(h:q8 l s0 s)(hk:s.testBit k=true)(hu:kS s (lP l k)=false):q8 l s0 (s - 2 ^ k):=by
 obtain⟨h1,h2⟩:=Ho h.lt hk;refine⟨Nat.lt_of_le_of_lt (Nat.sub_le _ _) h.lt,fun j hj=> ?_,fun r hr j hj=> ?_⟩
 ·rw[h2]at hj;simp at hj;exact h.sub j hj.1
 ·rw[h2,h.max r hr j hj]
  have:k≠j:=by
   intro e;subst e;have:=Nl (fun i hi=>h.max r hr i hi) _ (hr k hj).2.2
   rw[hu]at this;cases this
  simp[this]
theorem q8.done{l:List aR}{s0 s:Nat}(h:q8 l s0 s)(hn:pR l s=none):zh l s0 s:=
 ⟨fun k hk=>⟨(h.sub k hk).1,(h.sub k hk).2,Ou h.lt hn k hk⟩,h.max⟩
theorem N1{l:List Int}{ρ:Type}{f:Int->Bool}{hit:Int->ρ}{fin:Unit->Option ρ}{g:Int->Unit->Option (Unit⊕ρ)}(hg:∀x∈l,∀s,g x s=some (if f x then .inr (hit x)else .inl ())):
  fq g fin l ()=match l.find? f with|some x=>some (hit x)|none=>fin ():=by
 induction l with
 |nil=>rfl
 |cons x l ih=>
  grind [fq]
theorem xy(s:Nat):(mq s).length<=10:=QK (List.length_filter_le _ _) (by simp)
theorem Ui{c:aU}(hc:xU c){s:Nat}(hs:s<1024)(hsub:∀k,s.testBit k=true->nu c.bj k=true):
  nG c s=some (match pR c.bj s with|some x=>(x,true,())|none=>(0,false,())):=by
 unfold nG;rw[JX hs,Qa];have hlen:=xy s;rw[il (mq s) (by omega) (fun i (_:Unit)=>(i,())) (fun x (_:Unit)=>(nH c x s).map fun r=>if r then .inl ()else .inr (x,true,())) (fun _=>some (0,false,())) (fun i x u hd hx hw=> ?_) (fun u hd=> ?_) ()]
 ·rw[N1 (f:=fun x=> !kS s (lP c.bj x.toNat)) (hit:=fun x=>(x,true,()))]
  ·grind [pR,mq]
  ·intro x hx u;obtain⟨k,hk,rfl,hb⟩:=AT.1 hx;obtain⟨_,m,hm,_⟩:=xK (hsub k hb);unfold nH;rw[bh,hm];simp only[Qa,etas,Ca hs (hc.aM m (Q8 hm)),Qe,QV,sj hm];cases kS s m.ai<;>rfl
 ·simp only[hd,hx,hw,Qk,Qa]
  cases nH c x s with
  |none=>rfl
  |some r=>cases r<;>rfl
 ·simp only[hd,Ql]
theorem Vy{s k:Nat}(hs:s<1024)(hk:s.testBit k=true):zf .i64 (s:Int) (bS .i64 1 (k:Int))=((s - 2 ^ k:Nat):Int):=by
 have h10:=LN hs hk;obtain⟨c,h1,_,h3⟩:=IU s (2 ^ k) (by omega) (Nat.pow_lt_pow_right (by omega) (by omega))
 rw[we k (by omega),h1]
 congr 1;refine Bk fun j=> ?_
 rw[h3,(Ho hs hk).2,Nat.testBit_two_pow]
theorem IX{c:aU}(hc:xU c){s:Nat}(hs:s<1024):Yd (iY c s) fun q=>∃n:Nat,q=n/\zh c.bj s n:=by
 unfold iY sH;rw[AM hs,IY hc.len];simp only[Qa,Qo,Ql];have hdl:=B1 c.bj;rw[B6 s (jy c.bj) (by omega) (by omega)]
 suffices key:∀(n t:Nat) (out:List Int),t<n->q8 c.bj s t->out.length+t<=1024->Yd (aA (fun(v3:Int×(List Int)×Unit)=>
   Option.bind (nG c v3.1) fun r4=>
   bif (!r4.2.1)then
   Option.map Sum.inr (some (v3.1,v3.2.1,()))
   else
   bif bp 8 (List.length v3.2.1+List.length [r4.1])then
   if r4.1<0 then none else
   some (Sum.inl ((zf .i64 v3.1 (bS .i64 (1:Int) r4.1)),(v3.2.1++[r4.1]),()))
   else none) ((t:Int),out,())) fun p=>∃n:Nat,p.1=n/\zh c.bj s n by
  have hfirst:=q8.first c.bj hs
  have hb:=hfirst.lt;refine(key 1024 (s&&&jy c.bj) [] hb hfirst (by simp;omega)).bind fun p hp=>Yd.some hp
 intro n
 induction n with
 |zero=>intro t out h;omega
 |succ n ih=>
  intro t out ht hinv hout;refine Yd.loop ?_;rw[Ui hc hinv.lt fun k hk=>(hinv.sub k hk).2]
  simp only[Qa]
  cases hu:pR c.bj t with
  |none=>exact Yd.some ⟨t,rfl,hinv.done hu⟩
  |some x=>
   obtain⟨k,rfl,hk10,hkb,hks⟩:=Fx hu;have h0:¬(k:Int)<0:=by omega
   have hlb:=(Ho hinv.lt hkb).1;have hp:0<2 ^ k:=Nat.pow_pos (by omega)
   simp only[Qo,Ql];rw[bz (by simp;omega),Qs h0,Vy hinv.lt hkb]
   exact Yd.some (ih (t - 2 ^ k) _ (by omega) (hinv.next hkb hks) (by simp;omega))
theorem WW{c:aU}(hc:xU c){s:Nat}(hs:s<1024):∃q,zh c.bj s q:=by
 obtain⟨_,_,n,_,h⟩:=IX hc hs;exact⟨n,h⟩
open Classical in
 def gq(l:List aR)(s:Nat):Nat:=if h:∃q,zh l s q then Classical.choose h else 0
theorem xM{c:aU}(hc:xU c){s:Nat}(hs:s<1024):zh c.bj s (gq c.bj s):=by
 grind [WW,gq]
theorem Dp{c:aU}(hc:xU c){s:Nat}(hs:s<1024):iY c s=some ((gq c.bj s:Nat):Int):=by
 obtain⟨q,h1,n,rfl,h2⟩:=IX hc hs;rw[h1,h2.unique (xM hc hs)]
def u7(s:Nat):List Int->Nat
 |[]=>s
 |x::l=>u7 (s - 2 ^ x.toNat) l
theorem J7(s:Nat):∀(l:List Int) (x:Int),u7 s (l++[x])=u7 s l - 2 ^ x.toNat
 |[],x=>rfl
 |y::l,x=>by rw[List.cons_append,u7,J7 _ l x,u7]
def HT(s:Nat):List Int->Prop
 |[]=>True
 |x::l=>(∃k:Nat,x=k/\k<10/\2 ^ k<=s)/\HT (s - 2 ^ x.toNat) l
theorem On{s:Nat}:∀{l:List Int} {k:Nat},HT s l->k<10->2 ^ k<=u7 s l->HT s (l++[(k:Int)])
 |[],k,_,h1,h2=>⟨⟨k,rfl,h1,h2⟩,trivial⟩
 |_::_,_,h,h1,h2=>⟨h.1,On h.2 h1 h2⟩
theorem Pb{t k:Nat}(hk:k<10)(h:2 ^ k<=t)(ht:t<1024):dm .i64 (t:Int) (bS .i64 1 (k:Int))=((t - 2 ^ k:Nat):Int):=by
 grind [we,rl]
theorem abX{c:aU}(hc:xU c){s:Nat}(hs:s<1024):Yd (sG c s) fun out=>HT (s&&&jy c.bj) out/\zh c.bj s (u7 (s&&&jy c.bj) out)/\out.length<=1024:=by
 unfold sG;rw[vd hs,BB hc.len];simp only[Qa,Qo,Ql];have hdl:=B1 c.bj;rw[B6 s (jy c.bj) (by omega) (by omega)]
 generalize hs0:s&&&jy c.bj=s0
 suffices key:∀(n t:Nat) (b:Bool) (out:List Int),t<n->q8 c.bj s t->(b=false->pR c.bj t=none)->out.length+t<=1024->HT s0 out->u7 s0 out=t->
   Yd (aA (fun(v3:Int×Bool×(List Int)×Unit)=>
    bif v3.2.1 then
    Option.bind (si v3.1) fun r4=>
    aA (fun(v5:Int×Bool×Int×(List Int)×Unit)=>
    bif (decide (v5.2.2.1<((List.length r4:Nat):Int)))then
    Option.bind (idx r4 v5.2.2.1) fun x6=>
    Option.bind (idx c.bj x6) fun x7=>
    Option.bind (lj (al.mk x7.ai.aL x7.ai.bb x7.ai.aN) v5.1) fun r8=>
    bif (!r8)then
    if x6<0 then none else
    bif bp 8 (List.length v5.2.2.2.1+List.length [x6])then
    Option.map Sum.inr (some (Sum.inl ((dm .i64 v5.1 (bS .i64 (1:Int) x6)),true,(v5.2.2.2.1++[x6]),())))
    else none
    else
    some (Sum.inl (v5.1,v5.2.1,(ay .i64 v5.2.2.1 (1:Int)),v5.2.2.2.1,()))
    else
    Option.map Sum.inr (some (Sum.inl (v5.1,v5.2.1,v5.2.2.2.1,())))) (v3.1,false,(0:Int),v3.2.2.1,())
    else
    Option.map Sum.inr (some v3.2.2.1)) ((t:Int),b,out,())) fun out=>HT s0 out/\zh c.bj s (u7 s0 out)/\out.length<=1024 by
  have hfirst:=q8.first c.bj hs
  rw[hs0]at hfirst;have hb:=hfirst.lt;exact key 1024 s0 true [] hb hfirst (fun h=>by cases h) (by simp;omega) trivial rfl
 intro n
 induction n with
 |zero=>intro t b out h;omega
 |succ n ih=>
  intro t b out ht hinv hb hout hso hsub;refine Yd.loop ?_
  cases b with
  |false=>
   simp only[Ql];refine Yd.inr (Yd.some ⟨hso,?_,by omega⟩)
   rw[hsub];exact hinv.done (hb rfl)
  |true=>
   simp only[Qk];rw[Gd hinv.lt,Qa];have hlen:=xy t;rw[il (mq t) (by omega) (fun i (_:Unit)=>((t:Int),false,i,out,())) (fun x (_:Unit)=>some (if !kS t (lP c.bj x.toNat)then .inr (Sum.inl ((dm .i64 (t:Int) (bS .i64 (1:Int) x)),true,(out++[x]),()))else .inl ())) (fun _=>some (Sum.inl ((t:Int),false,out,()))) (fun i x u hd hx hw=> ?_) (fun u hd=> ?_) ()]
   ·rw[N1 (f:=fun x=> !kS t (lP c.bj x.toNat)) (hit:=fun x=>Sum.inl ((dm .i64 (t:Int) (bS .i64 (1:Int) x)),true,(out++[x]),())) (fun x hx u=>rfl)]
    cases hu:pR c.bj t with
    |none=>
     rw[pR]at hu;rw[hu];refine Yd.some ?_;refine Yd.loop ?_;simp only[Ql];refine Yd.inr (Yd.some ⟨hso,?_,by omega⟩)
     rw[hsub];exact hinv.done hu
    |some x=>
     obtain⟨k,rfl,hk10,hkb,hks⟩:=Fx hu;rw[pR]at hu;rw[hu];have hlb:=(Ho hinv.lt hkb).1;have hp:0<2 ^ k:=Nat.pow_pos (by omega)
     simp only;rw[Pb hk10 hlb hinv.lt];refine Yd.some (ih (t - 2 ^ k) true _ (by omega) (hinv.next hkb hks) (fun h=>by cases h) (by simp;omega) (On hso hk10 (by rw[hsub];exact hlb)) (by rw[J7,hsub];rfl))
   ·have hmem:x∈mq t:=by
     rw[bh]at hx;exact Q8 hx
    obtain⟨k,hk10,rfl,hkb⟩:=AT.1 hmem;obtain⟨_,m,hm,_⟩:=xK (hinv.sub k hkb).2;have h0:¬(k:Int)<0:=by omega
    simp only[hd,hx,hw,Qk,Qa,bh c.bj,hm,etas,Fz hinv.lt (hc.aM m (Q8 hm)),h0,Qu,QV,sj hm];rw[bz (by simp;omega)]
    cases kS t m.ai<;>rfl
   ·simp only[hd,Ql]
theorem xo{c:aU}(hc:xU c){s:Nat}(hs:s<1024):kc c s=some ((gq c.bj s:Nat):Int):=by
 unfold kc;rw[vd hs,BB hc.len];simp only[Qa,Qo,Ql];have hdl:=B1 c.bj;rw[B6 s (jy c.bj) (by omega) (by omega)]
 obtain⟨out,h1,h2,h3,h4⟩:=abX hc hs;rw[h1,Qa];rw[il out (by omega) (fun i (t:Int)=>(t,i,())) (fun x (t:Int)=>if x<0 then none else some (.inl (dm .i64 t (bS .i64 1 x)))) (fun t=>some t) (fun i x u hd hx hw=> ?_) (fun u hd=> ?_) _]
 ·rw[<-h3.unique (xM hc hs)];have hlt:s&&&jy c.bj<1024:=Nat.lt_of_le_of_lt Nat.and_le_left hs;generalize s&&&jy c.bj=t at h2 hlt;clear h1 h3 h4
  induction out generalizing t with
  |nil=>rfl
  |cons x l ih=>
   obtain⟨⟨k,rfl,hk,hle⟩,h2⟩:=h2
   grind [fq,Pb,u7]
 ·grind
 ·simp only[hd,Ql]
end
section
structure oO (l:List aj):Prop where
 len:l.length<=100000
 aM:∀e∈l,c5 e.ai
theorem gy{e:aj}(h:aX e=true):0<=e.aq/\e.aq<10:=by
 simp only[aX,kp,DU,Qm,Qi]at h;exact⟨h.1.1.1.1.1.1.1,h.1.1.1.1.1.1.2⟩
def gu:aR:=⟨false,⟨0,[],[]⟩⟩
 def dw(ms:List aR)(e:aj):List aR:=
 if aX e&& !((ms[e.aq.toNat]?).any (·.dG))then ms.set e.aq.toNat ⟨true,e.ai⟩else ms
 def eN(aC:Nat)(t:al)(l:List aj):List aR:=l.foldl dw ((List.replicate 10 gu).set aC ⟨true,t⟩)
theorem xg(ms:List aR)(e:aj):(dw ms e).length=ms.length:=by
 unfold dw;split
 ·rw[QY]
 ·rfl
theorem Du:∀(l:List aj) (ms:List aR),(l.foldl dw ms).length=ms.length
 |[],_=>rfl
 |e::l,ms=>by rw[QU,Du l,xg]
theorem FU(aC:Nat)(t:al)(l:List aj):(eN aC t l).length=10:=by
 rw[eN,Du,QY,List.length_replicate]
theorem OS{ms:List aR}(hl:ms.length=10){n:Int}(h0:0<=n)(h1:n<10):∃m,ms[n.toNat]?=some m/\idx ms n=some m:=by
 have:n.toNat<ms.length:=by omega
 exact⟨ms[n.toNat],Qv this,by rw[Lh _ h0];exact Qv this⟩
theorem T8{aC:Nat}(hn:aC<10){t:al}(ht:c5 t){l:List aj}(hl:oO l):qV aC t l=some ⟨eN aC t l⟩:=by
 unfold qV
 have h1:(decide ((10:Int)=10)&&decide ((0:Int)<=10)&&bp 64 (Int.toNat 10))=true:=by
  rw[bz (by decide)];rfl
 have h2:¬(aC:Int)<0:=by omega
 have h3:¬(10:Int)<=aC:=by omega
 rw[h1];simp only[Qk,h2,h3,decide_false,Ql,Qa,etas,py ht,aP];obtain⟨m,hm1,hm2⟩:=OS (ms:=List.replicate 10 gu) (by simp) (n:=(aC:Int)) (by omega) (by omega)
 have e10:List.replicate (Int.toNat 10) (aR.mk false (al.mk 0 [] []))=List.replicate 10 gu:=rfl;rw[e10,hm2,hm1,Qa,Qa];have hlen:=hl.len
 suffices key:∀(k i:Nat) (ms:List aR) (c:aU),i+k=l.length->ms.length=10->aA _ ((i:Int),c,ms,())=some (aU.mk ((l.drop i).foldl dw ms))by
  have:=key l.length 0 ((List.replicate 10 gu).set aC ⟨true,t⟩) ⟨[]⟩ (by omega) (by simp)
  simpa[eN]using this
 intro k
 induction k with
 |zero=>
  intro i ms c hi hms;obtain rfl:i=l.length:=by omega
  refine bw ?_;have hd:decide (((l.length:Nat):Int)<((l.length:Nat):Int))=false:=Qh (Qq64 _);simp only[hd,Ql,Qq66,List.foldl_nil]
 |succ k ih=>
  intro i ms c hi hms;have hlt:i<l.length:=by omega
  have hd:decide ((i:Int)<((l.length:Nat):Int))=true:=Qg (by omega)
  have hw:ay .i64 (i:Int) 1=((i+1:Nat):Int):=bE (by omega) (by omega)
  have hx:idx l (i:Int)=some l[i]:=by rw[bh];exact Qv hlt
  have hsm:=hl.aM _ (Q0 hlt);rw[QM hlt,QU];refine Eq.trans (bd (s':=(((i+1:Nat):Int),⟨[]⟩,dw ms l[i],())) ?_) (ih (i+1) _ _ (by omega) (by rw[xg];exact hms))
  simp only[hd,hx,hw,Qk,Qa,wH hsm];unfold dw
  cases hv:aX l[i]with
  |false=>simp
  |true=>
   obtain⟨h4,h5⟩:=gy hv;obtain⟨m,hm1,hm2⟩:=OS hms h4 h5;simp only[Qk,hm1,hm2,Qa,py hsm,Option.any_some,Bool.true_and];cases m.dG<;>simp
theorem wm{aC:Nat}(hn:aC<10){t:al}{l:List aj}(hl:oO l):iS aC t l=some ⟨eN aC t l⟩:=by
 unfold iS
 have h1:(decide ((10:Int)=10)&&decide ((0:Int)<=10)&&bp 64 (Int.toNat 10))=true:=by
  rw[bz (by decide)];rfl
 have h2:¬(aC:Int)<0:=by omega
 have h3:¬(9:Int)<aC:=by omega
 rw[h1];simp only[Qk,h2,h3,decide_false,Ql,Qa,etas,aP];obtain⟨m,hm1,hm2⟩:=OS (ms:=List.replicate 10 gu) (by simp) (n:=(aC:Int)) (by omega) (by omega)
 have e10:List.replicate (Int.toNat 10) (aR.mk false (al.mk 0 [] []))=List.replicate 10 gu:=rfl;rw[e10,hm2,hm1,Qa,Qa];have hlen:=hl.len
 suffices key:∀(k i:Nat) (ms:List aR) (c:aU),i+k=l.length->ms.length=10->aA _ ((i:Int),c,ms,())=some (aU.mk ((l.drop i).foldl dw ms))by
  have:=key l.length 0 ((List.replicate 10 gu).set aC ⟨true,t⟩) ⟨[]⟩ (by omega) (by simp)
  simpa[eN]using this
 intro k
 induction k with
 |zero=>
  intro i ms c hi hms;obtain rfl:i=l.length:=by omega
  refine bw ?_;have hd:decide (((l.length:Nat):Int)<((l.length:Nat):Int))=false:=Qh (Qq64 _);simp only[hd,Ql,Qq66,List.foldl_nil]
 |succ k ih=>
  intro i ms c hi hms;have hlt:i<l.length:=by omega
  have hd:decide ((i:Int)<((l.length:Nat):Int))=true:=Qg (by omega)
  have hw:ay .i64 (i:Int) 1=((i+1:Nat):Int):=bE (by omega) (by omega)
  have hx:idx l (i:Int)=some l[i]:=by rw[bh];exact Qv hlt
  have hsm:=hl.aM _ (Q0 hlt);rw[QM hlt,QU];refine Eq.trans (bd (s':=(((i+1:Nat):Int),⟨[]⟩,dw ms l[i],())) ?_) (ih (i+1) _ _ (by omega) (by rw[xg];exact hms))
  simp only[hd,hx,hw,Qk,Qa,mn hsm];unfold dw
  cases hv:aX l[i]with
  |false=>simp
  |true=>
   obtain⟨h4,h5⟩:=gy hv;obtain⟨m,hm1,hm2⟩:=OS hms h4 h5;simp only[Qk,hm1,hm2,Qa,Option.any_some,Bool.true_and];cases m.dG<;>simp
theorem jX{aC:Nat}{t:al}(ht:c5 t){l:List aj}(hl:oO l):xU ⟨eN aC t l⟩:=by
 refine⟨by rw[FU];omega,?_⟩
 have key:∀(l:List aj) (ms:List aR),(∀e∈l,c5 e.ai)->(∀m∈ms,c5 m.ai)->∀m∈l.foldl dw ms,c5 m.ai:=by
  intro l
  induction l with
  |nil=>intro ms _ h;exact h
  |cons e l ih=>
   intro ms he h;rw[QU];refine ih _ (fun e' h'=>he e' (by simp[h'])) fun m hm=> ?_
   unfold dw at hm;split at hm
   ·rcases List.mem_or_eq_of_mem_set hm with hm|rfl
    ·exact h m hm
    ·exact he e (by simp)
   ·exact h m hm
 refine key l _ hl.aM fun m hm=> ?_
 rcases List.mem_or_eq_of_mem_set hm with hm|rfl
 ·rw[List.eq_of_mem_replicate hm];exact .mk _ (by simp[gu]) (by simp[gu]) (by simp[gu])
 ·exact ht
 def bU(l:List aj):List aj:=l.filter aX
theorem XH{l:List aj}(hl:oO l):pN l=some ((bU l).map bC.mk):=by
 unfold pN;have hlen:=hl.len;simp only[aP]
 suffices key:∀(k i:Nat) (acc:List bC),i+k=l.length->acc=(bU (l.take i)).map bC.mk->aA _ ((i:Int),acc,())=some ((bU l).map bC.mk)from key l.length 0 [] (by omega) rfl
 intro k
 induction k with
 |zero=>
  intro i acc hi ha;obtain rfl:i=l.length:=by omega
  refine bw ?_;have hd:decide (((l.length:Nat):Int)<((l.length:Nat):Int))=false:=Qh (Qq64 _);simp only[hd,Ql,Qe,ha,Qq62]
 |succ k ih=>
  intro i acc hi ha;have hlt:i<l.length:=by omega
  have hd:decide ((i:Int)<((l.length:Nat):Int))=true:=Qg (by omega)
  have hw:ay .i64 (i:Int) 1=((i+1:Nat):Int):=bE (by omega) (by omega)
  have hx:idx l (i:Int)=some l[i]:=by rw[bh];exact Qv hlt
  have hsm:=hl.aM _ (Q0 hlt)
  have hal:acc.length<=i:=by
   rw[ha,QC];exact QK (List.length_filter_le _ _) (by rw[List.length_take];omega)
  refine Eq.trans (bd (s':=(((i+1:Nat):Int),(if aX l[i]then acc++[bC.mk l[i]]else acc),())) ?_) (ih (i+1) _ (by omega) ?_)
  ·simp only[hd,hx,hw,Qk,Qa,etas,wH hsm];rw[bz (by simp;omega)]
   cases aX l[i]<;>simp
  ·rw[Q7 hlt,bU,List.filter_append,ha];cases hv:aX l[i]<;>simp[bU,hv]
def c8(p:aj->Bool):List aj->Nat
 |[]=>0
 |e::l=>(if p e then 2 ^ e.aq.toNat else 0)|||c8 p l
theorem wb(p:aj->Bool)(k:Nat):∀(l:List aj),(c8 p l).testBit k=l.any fun e=>p e&&decide (e.aq.toNat=k)
 |[]=>by simp[c8]
 |e::l=>by
  rw[c8,Nat.testBit_or,wb p k l,List.any_cons];cases p e<;>simp[Nat.testBit_two_pow]
def qK(l:List aj):Prop:=∀e∈l,0<=e.aq/\e.aq<10
theorem mm(l:List aj):qK (bU l):=fun _ he=>gy (List.mem_filter.1 he).2
theorem AO(l:List aj):(bU l).length<=l.length:=List.length_filter_le _ _
theorem jE{p:aj->Bool}{l:List aj}(h:qK l):c8 p l<1024:=DI fun k hk=>by
 rw[wb,List.any_eq_true]at hk;obtain⟨e,he,h1⟩:=hk;simp only[Qm,Qi]at h1;have:=h e he;omega
theorem Bs(p:aj->Bool)(l:List aj)(hin:qK l)(step:(Int×Int×Unit)->Option ((Int×Int×Unit)⊕Int))
  (h1:∀(i:Nat) (e:aj) (s:Int),l[i]?=some e->step (s,(i:Int),())=if p e then(if e.aq<0 then none else some (.inl (oi .i64 s (bS .i64 1 e.aq),((i+1:Nat):Int),())))else some (.inl (s,((i+1:Nat):Int),())))
  (h2:∀s:Int,step (s,(l.length:Int),())=some (.inr s)):aA step (0,0,())=some ((c8 p l:Nat):Int):=by
 suffices key:∀(k i s:Nat),i+k=l.length->s<1024->aA step ((s:Int),(i:Int),())=some ((s|||c8 p (l.drop i):Nat):Int)by
  have:=key l.length 0 0 (by omega) (by omega)
  simpa using this
 intro k
 induction k with
 |zero=>
  intro i s hi hs;obtain rfl:i=l.length:=by omega
  rw[bw (h2 s),Qq66,c8];simp
 |succ k ih=>
  intro i s hi hs;have hlt:i<l.length:=by omega
  have hm:=hin l[i] (Q0 hlt);rw[QM hlt,c8];have hst:=h1 i l[i] s (Qv hlt)
  cases hp:p l[i]with
  |false=>
   rw[hp]at hst;rw[bd hst,ih (i+1) s (by omega) hs]
   simp
  |true=>
   rw[hp,Qr rfl,Qs (by omega),mL hs hm.1 hm.2]at hst
   rw[bd hst,ih (i+1) _ (by omega) (zp hs hm.2)]
   simp[Nat.or_assoc]
theorem IV{v:aU}{aC:Int}{l:List aj}(hl:l.length<=1000000)(hin:qK l)(b:af):jm ⟨aC,v,l.map bC.mk⟩ b=some ((c8 (df · b) l:Nat):Int):=by
 unfold jm;refine Bs (df · b) l hin _ (fun i e s he=> ?_) (fun s=> ?_)
 ·have hlt:i<l.length:=(Qw.1 he).1;have hd:decide ((i:Int)<(((l.map bC.mk).length:Nat):Int))=true:=Qg (by rw[QC];omega)
  have hw:ay .i64 (i:Int) 1=((i+1:Nat):Int):=bE (by omega) (by omega)
  have hx:idx (l.map bC.mk) (i:Int)=some ⟨e⟩:=by rw[bh,QT,he];rfl
  simp only[hd,hx,hw,Qk,Qa,etas,lN,sV,aP];cases df e b<;>simp
 ·have hd:decide (((l.length:Nat):Int)<(((l.map bC.mk).length:Nat):Int))=false:=Qh (by rw[QC];exact Qq64 _)
  simp only[hd,Ql,Qe]
theorem VD{v:aU}{aC:Int}{l:List aj}(hl:l.length<=1000000)(hin:qK l)(b:af):gL ⟨aC,v,l.map bC.mk⟩ b b=some ((c8 (fun e=>o7 e b||df e b) l:Nat):Int):=by
 unfold gL;refine Bs (fun e=>o7 e b||df e b) l hin _ (fun i e s he=> ?_) (fun s=> ?_)
 ·have hlt:i<l.length:=(Qw.1 he).1;have hd:decide ((i:Int)<(((l.map bC.mk).length:Nat):Int))=true:=Qg (by rw[QC];omega)
  have hw:ay .i64 (i:Int) 1=((i+1:Nat):Int):=bE (by omega) (by omega)
  have hx:idx (l.map bC.mk) (i:Int)=some ⟨e⟩:=by rw[bh,QT,he];rfl
  simp only[hd,hx,hw,Qk,Qa,etas,js,lN,qe,sV,Cr,aP,kW,Bool.cond_true_left];cases (o7 e b||df e b)<;>simp
 ·have hd:decide (((l.length:Nat):Int)<(((l.map bC.mk).length:Nat):Int))=false:=Qh (by rw[QC];exact Qq64 _)
  simp only[hd,Ql,Qe]
 def jT(ms:List aR)(v dn accepts:Nat):Bool:=ur ms v accepts||(gq ms (dn|||accepts)).testBit v
theorem vN{c:aU}(hc:xU c){v dn accepts:Nat}(hv:v<10)(h1:dn<1024)(h2:accepts<1024):gg c v dn accepts=some (jT c.bj v dn accepts):=by
 unfold gg jT;have h3:dn|||accepts<1024:=Nat.or_lt_two_pow (n:=10) h1 h2
 rw[AM h1,AM h2,Ot hc h2,DG dn accepts (by omega) (by omega),Dp hc h3]
 simp[rA (xM hc h3).lt,wE,hv]
theorem uj{c:aU}(hc:xU c){v accepts:Nat}(hv:v<10)(h2:accepts<1024):ec c v accepts=some ((gq c.bj accepts).testBit v):=by
 unfold ec;rw[Dp hc h2];simp[rA (xM hc h2).lt,wE,hv]
 def kO(aC:Nat)(t:al)(l:List aj)(b:af):Bool:=
 jT (eN aC t l) aC (c8 (fun e=>o7 e b||df e b) (bU l)) (c8 (df · b) (bU l))
 def jI(aC:Nat)(t:al)(l:List aj)(b:af):Bool:=
 (gq (eN aC t l) (c8 (df · b) (bU l))).testBit aC
theorem HV{aC:Nat}(hn:aC<10){t:al}(ht:c5 t){l:List aj}(hl:oO l):eZ aC t l=some ⟨aC,⟨eN aC t l⟩,(bU l).map bC.mk⟩:=by
 unfold eZ;simp only[etas,T8 hn ht hl,XH hl,Qa]
end
section
theorem Y9{α:Type}{l l':List α}(h:l.Perm l')(p:α->Bool):l.any p=l'.any p:=by
 rw[QW,List.any_eq_true,List.any_eq_true];exact⟨fun⟨x,h1,h2⟩=>⟨x,h.mem_iff.1 h1,h2⟩,fun⟨x,h1,h2⟩=>⟨x,h.mem_iff.2 h1,h2⟩⟩
theorem M8{l l':List aj}(h:l.Perm l')(p:aj->Bool):c8 p l=c8 p l':=Bk fun k=>by rw[wb,wb,Y9 h]
theorem Sx{l l':List aj}(h:l.Perm l'):(bU l).Perm (bU l'):=h.filter _
def yl(l:List aj):Prop:=∀a∈l,∀b∈l,a.aq=b.aq->a=b
theorem yl.perm{l l':List aj}(h:yl l)(hp:l.Perm l'):yl l':=fun a ha b hb=>h a (hp.mem_iff.2 ha) b (hp.mem_iff.2 hb)
 def om(l:List aj)(k:Nat):Option aj:=l.find? fun e=>aX e&&decide (e.aq.toNat=k)
theorem C2{l:List aj}{k:Nat}{e:aj}(h:om l k=some e):e∈l/\aX e=true/\e.aq=k:=by
 unfold om at h;have h1:=List.mem_of_find?_eq_some h;have h2:=List.find?_some h;simp only[Qm,Qi]at h2;have:=gy h2.1;exact⟨h1,h2.1,by omega⟩
theorem KO{l:List aj}(ha:yl l){k:Nat}{e:aj}(h1:e∈l)(h2:aX e=true)(h3:e.aq=k):om l k=some e:=by
 cases h:om l k with
 |none=>
  unfold om at h;rw[List.find?_eq_none]at h;have:=h e h1;simp[h2,h3]at this
 |some e'=>
  obtain⟨g1,g2,g3⟩:=C2 h;rw[ha e' g1 e h1 (by omega)]
theorem SK{l l':List aj}(ha:yl l)(h:l.Perm l')(k:Nat):om l k=om l' k:=by
 cases h1:om l k with
 |some e=>
  obtain⟨g1,g2,g3⟩:=C2 h1;exact(KO (ha.perm h) (h.mem_iff.1 g1) g2 g3).symm
 |none=>
  cases h2:om l' k with
  |none=>rfl
  |some e=>
   obtain⟨g1,g2,g3⟩:=C2 h2;rw[KO ha (h.mem_iff.2 g1) g2 g3]at h1;cases h1
theorem Na:∀(l:List aj) (ms:List aR),ms.length=10->(∀m∈ms,m.dG=false->m=gu)->∀k,k<10->(l.foldl dw ms)[k]?=some (match ms[k]? with
  |some m=>if m.dG then m else(match om l k with
   |some e=>⟨true,e.ai⟩
   |none=>gu)
  |none=>gu)
 |[],ms,hl,hn,k,hk=>by
  have hk':k<ms.length:=by omega
  rw[List.foldl_nil,Qv hk']
  cases hd:ms[k].dG with
  |true=>simp[hd]
  |false=>
   have:=hn _ (Q0 hk') hd;simp[om,this]
 |e::l,ms,hl,hn,k,hk=>by
  have hk':k<ms.length:=by omega
  rw[QU];have hlen:(dw ms e).length=10:=by rw[xg];exact hl
  have hn':∀m∈dw ms e,m.dG=false->m=gu:=by
   unfold dw;split
   ·intro m hm hd;rcases List.mem_or_eq_of_mem_set hm with hm|rfl
    ·exact hn m hm hd
    ·cases hd
   ·exact hn
  rw[Na l (dw ms e) hlen hn' k hk];congr 1
  have hof:om (e::l) k=if(aX e&&decide (e.aq.toNat=k))=true then some e else om l k:=by
   unfold om;rw[List.find?_cons];cases aX e&&decide (e.aq.toNat=k)<;>rfl
  rw[hof];unfold dw
  by_cases hv:aX e=true
  ·have hnode:=gy hv;have hi:e.aq.toNat<ms.length:=by omega
   rw[hv,Bool.true_and,Bool.true_and]
   by_cases hke:e.aq.toNat=k
   ·subst hke;rw[Qv hi]
    cases hd:ms[e.aq.toNat].dG with
    |true=>simp[hd,Qv hi]
    |false=>simp[hd,hi]
   ·have hne:decide (e.aq.toNat=k)=false:=Qh hke
    have hset:∀c:Bool,(if c=true then ms.set e.aq.toNat ⟨true,e.ai⟩else ms)[k]?=ms[k]?:=fun c=>by
     cases c
     ·rfl
     ·rw[Qr rfl,List.getElem?_set_ne hke]
    rw[hne,hset];simp
  ·have hv':aX e=false:=by simpa using hv
   simp[hv']
theorem FT{aC:Nat}(hn:aC<10)(t:al)(l:List aj){k:Nat}(hk:k<10):(eN aC t l)[k]?=some (if k=aC then⟨true,t⟩else match om l k with
  |some e=>⟨true,e.ai⟩
  |none=>gu):=by
 rw[eN,Na l _ (by simp) (fun m hm hd=> ?_) k hk]
 ·by_cases h:k=aC
  ·subst h;simp[hn]
  ·rw[List.getElem?_set_ne (fun e=>h e.symm),List.getElem?_replicate,Qr hk]
   simp[h,gu]
 ·rcases List.mem_or_eq_of_mem_set hm with hm|rfl
  ·exact(List.mem_replicate.1 hm).2
  ·cases hd
theorem J3{aC:Nat}(hn:aC<10)(t:al){l l':List aj}(ha:yl l)(h:l.Perm l'):eN aC t l=eN aC t l':=by
 refine List.ext_getElem? fun k=> ?_
 by_cases hk:k<10
 ·rw[FT hn t l hk,FT hn t l' hk,SK ha h]
 ·rw[Qq72 (by rw[FU];omega),Qq72 (by rw[FU];omega)]
end
section
theorem Xy{τ ρ:Type}(n:Nat)(mk:Int->τ){step:τ->Option (τ⊕ρ)}{fin:Option ρ}(h1:∀i:Nat,i<n->step (mk (i:Int))=some (.inl (mk ((i+1:Nat):Int))))(h2:step (mk (n:Int))=Option.map Sum.inr fin):aA step (mk 0)=fin:=by
 suffices key:∀(k i:Nat),i+k=n->aA step (mk (i:Int))=fin from key n 0 (by omega)
 intro k
 induction k with
 |zero=>
  intro i hi;obtain rfl:i=n:=by omega
  rw[eO,h2];cases fin<;>rfl
 |succ k ih=>exact fun i hi=>(bd (h1 i (by omega))).trans (ih (i+1) (by omega))
theorem V3{ρ:Type}(n:Nat)(hn:n<=1000000){fin:Option ρ}{step:Int×Unit->Option ((Int×Unit)⊕ρ)}
  (h1:∀i:Nat,i<n->decide ((i:Int)<((n:Nat):Int))=true->ay .i64 (i:Int) 1=((i+1:Nat):Int)->step ((i:Int),())=some (.inl (((i+1:Nat):Int),())))
  (h2:decide (((n:Nat):Int)<((n:Nat):Int))=false->step ((n:Int),())=Option.map Sum.inr fin):aA step (0,())=fin:=
 Xy n (fun i=>(i,())) (fun i hi=>h1 i hi (Qg (by omega)) (bE (by omega) (by omega))) (h2 (Qh (Qq64 _)))
end
section
def E6:List UInt8->Nat
 |[]=>0
 |a::l=>a.toNat*256 ^ l.length+E6 l
theorem HL:∀l:List UInt8,E6 l<256 ^ l.length
 |[]=>by simp[E6]
 |a::l=>by
  have h1:=HL l;have h2:a.toNat<256:=a.toNat_lt;rw[E6,QE,Nat.pow_succ];have h3:(a.toNat+1)*256 ^ l.length<=256*256 ^ l.length:=Qq63 _ h2;rw[Qq73,Nat.one_mul,Nat.mul_comm 256]at h3;omega
theorem Xu:∀{x y:List UInt8},x.length=y.length->Op.bytesLess x y=true->E6 x<E6 y
 |[],[],_,h=>by simp[Op.bytesLess]at h
 |[],_::_,hl,_=>by simp at hl
 |_::_,[],hl,_=>by simp at hl
 |a::x,b::y,hl,h=>by
  simp only[QE,Nat.add_right_cancel_iff]at hl;simp only[Op.bytesLess,Qn,Qi,Qm,beq_iff_eq]at h;rw[E6,E6,hl];rcases h with h|⟨rfl,h⟩
  ·have h1:=HL x;rw[hl]at h1;have h2:a.toNat<b.toNat:=UInt8.lt_iff_toNat_lt.1 h;have h3:(a.toNat+1)*256 ^ y.length<=b.toNat*256 ^ y.length:=Qq63 _ h2;rw[Qq73,Nat.one_mul]at h3;omega
  ·have:=Xu hl h;omega
def WV:Nat:=256 ^ 201
def MZ(v:ByteArray):Nat:=v.size*256 ^ 200+E6 v.toList
theorem toList_len(v:ByteArray):v.toList.length=v.size:=by
 rw[Lib.toList_data];cases v;simp[ByteArray.size]
theorem Wg{a b:Nat}(h:a<=b):(256:Nat) ^ a<=256 ^ b:=Nat.pow_le_pow_right (by omega) h
theorem TO{v:ByteArray}(h:v.size<=200):MZ v<WV:=by
 have h1:=HL v.toList;rw[toList_len]at h1;have h2:=Wg h;have h3:v.size*256 ^ 200<=200*256 ^ 200:=Qq63 _ h;have h4:WV=256*256 ^ 200:=by rw[WV,Nat.pow_succ,Nat.mul_comm]
 unfold MZ;rw[h4];generalize (256:Nat) ^ 200=Z at*;omega
theorem WK{a b:ByteArray}(hb:b.size<=200)(h:bH a b=true):MZ a<MZ b:=by
 unfold bH at h;unfold MZ
 by_cases hs:a.size=b.size
 ·rw[Qr hs]at h;have:=Xu (x:=a.toList) (y:=b.toList) (by rw[toList_len,toList_len,hs]) h
  rw[hs];omega
 ·rw[Qs hs,Qi]at h;have h1:=HL a.toList;rw[toList_len]at h1;have h2:=Wg (show a.size<=200 by omega)
  have h3:(a.size+1)*256 ^ 200<=b.size*256 ^ 200:=Qq63 _ h;rw[Qq73,Nat.one_mul]at h3;generalize (256:Nat) ^ 200=Z at*;omega
def Sm(b:af):Prop:=0<=b.ae/\b.ae<=1000/\b.Value.size<=200
def nN(b:af):Nat:=b.ae.toNat*WV+MZ b.Value
def WB:Nat:=1001*WV
theorem oW{b:af}(h:Sm b):nN b<WB:=by
 obtain⟨h1,h2,h3⟩:=h;have h4:=TO h3;unfold nN WB;have h5:b.ae.toNat*WV<=1000*WV:=Qq63 _ (by omega)
 generalize WV=Z at*;omega
theorem ti{a b:af}(ha:Sm a)(hb:Sm b)(h:bx a b=true):nN a<nN b:=by
 unfold bx at h;unfold nN
 by_cases hc:a.ae=b.ae
 ·rw[Qr hc]at h;have:=WK hb.2.2 h;rw[hc];omega
 ·rw[Qs hc,Qi]at h;have h1:=TO ha.2.2;have h2:=ha.1;have h3:(a.ae.toNat+1)*WV<=b.ae.toNat*WV:=Qq63 _ (by omega)
  rw[Qq73,Nat.one_mul]at h3;generalize WV=Z at*;omega
theorem Yd.down{σ ρ:Type}{step:σ->Option (σ⊕ρ)}{p:ρ->Prop}(inv:σ->Prop)(μ:σ->Nat)(h:∀s,inv s->Yd (step s) fun y=>match y with| .inl s'=>inv s'/\μ s'<μ s| .inr r=>p r){s:σ}(hs:inv s):Yd (aA step s) p:=by
 suffices key:∀(n:Nat) (s:σ),μ s<n->inv s->Yd (aA step s) p from key _ s (Nat.lt_succ_self _) hs
 intro n
 induction n with
 |zero=>intro s h0;omega
 |succ n ih=>
  intro s hn hi;refine Yd.loop ((h s hi).mono fun y hy=> ?_)
  cases y with
  |inl s'=>exact ih s' (by have:=hy.2;omega) hy.1
  |inr r=>exact hy
end
section
def bZ:af:=⟨0,fD⟩
def fc(m:ab):Int:=if(!aI m.au&&bM m.au m.aa)=true then m.au.ae else 0
def bF(m:ab):aj:=
 if m.aH=1 then⟨m.aq,m.bl,m.aF,m.ai,m.aH,m.aa,m.an,m.ax,m.aS,fc m⟩
 else if m.aH=2 then⟨m.aq,m.bl,m.aF,m.ai,m.aH,m.aa,m.an,bZ,m.aS,m.bn⟩
 else⟨m.aq,m.bl,m.aF,m.ai,m.aH,m.aa,bZ,bZ,m.aS,m.bn⟩
theorem w4(m:ab):(bF m).aq=m.aq:=by unfold bF;split<;>(try split)<;>rfl
theorem CO(m:ab):(bF m).bl=m.bl:=by unfold bF;split<;>(try split)<;>rfl
theorem Rw(m:ab):(bF m).aF=m.aF:=by unfold bF;split<;>(try split)<;>rfl
theorem nM(m:ab):(bF m).ai=m.ai:=by unfold bF;split<;>(try split)<;>rfl
theorem N4(m:ab):(bF m).bL=m.aH:=by unfold bF;split<;>(try split)<;>rfl
theorem xQ(m:ab):iR m=some (bF m):=by
 unfold iR bF fc;simp only[aP,etas,cU,gC,Qa]
 by_cases h1:m.aH=1
 ·rw[Qg h1,Qr h1];cases aI m.au<;>cases bM m.au m.aa<;>rfl
 ·rw[Qh h1,Qs h1]
  by_cases h2:m.aH=2
  ·rw[Qg h2,Qr h2];rfl
  ·rw[Qh h2,Qs h2];rfl
def iO(m:ab):aj:={bF m with aF:=bB (bF m).aF 1}
def xL(e:aj):List aj->List aj
 |[]=>[e]
 |x::l=>if e.aq<x.aq then e::x::l else x::xL e l
theorem zV(e:aj):∀l,(xL e l).Perm (l++[e])
 |[]=> .refl _
 |x::l=>by
  unfold xL;split
  ·exact(List.perm_append_singleton e (x::l)).symm
  ·exact(zV e l).cons x
def bc(m:ab):List aj:=if aI m.aa=true then m.aw else xL (iO m) m.aw
theorem LW{m:ab}(h:m.aw.length<=1000):mj m=some (bc m):=by
 unfold mj bc;simp only[etas,cU,xQ,Qa]
 cases aI m.aa with
 |true=>rfl
 |false=>
  simp only[Ql,Qq,Qu];have hown:aj.mk (bF m).aq (bF m).bl (bB (bF m).aF 1) (bF m).ai (bF m).bL (bF m).aa (bF m).an (bF m).ax (bF m).aS (bF m).bn=iO m:=rfl;have hnode:(bF m).aq=(iO m).aq:=rfl;rw[hown,hnode];generalize iO m=e
  suffices key:∀(k i:Nat) (b:Bool) (o:List aj),i+k=m.aw.length->o.length<=i+(bif b then 1 else 0)->aA _ (b,(i:Int),o,())=some (o++if b=true then m.aw.drop i else xL e (m.aw.drop i))from(key m.aw.length 0 false [] (by omega) (by simp)).trans (by simp)
  intro k
  induction k with
  |zero=>
   intro i b o hi ho;obtain rfl:i=m.aw.length:=by omega
   have hd:decide (((m.aw.length:Nat):Int)<((m.aw.length:Nat):Int))=false:=Qh (Qq64 _);refine bw ?_;rw[Qq66];simp only[hd,Ql,aP]
   cases b with
   |true=>simp
   |false=>
    simp only[Ql]at ho;rw[bz (by simp;omega)]
    simp[xL]
  |succ k ih=>
   intro i b o hi ho;have hlt:i<m.aw.length:=by omega
   have hd:decide ((i:Int)<((m.aw.length:Nat):Int))=true:=Qg (by omega)
   have hw:ay .i64 (i:Int) 1=((i+1:Nat):Int):=bE (by omega) (by omega)
   have hx:idx m.aw (i:Int)=some m.aw[i]:=by rw[bh];exact Qv hlt
   rw[QM hlt]
   cases b with
   |true=>
    simp only[Qk]at ho;have:=ih (i+1) true (o++[m.aw[i]]) (by omega) (by simp;omega)
    simp only[Qt]at this ⊢;rw[show o++m.aw[i]::m.aw.drop (i+1)=(o++[m.aw[i]])++m.aw.drop (i+1)by simp]
    refine Eq.trans (bd ?_) this;simp only[hd,hx,hw,Qk,aP,Qa,Qo,Ql];rw[bz (by simp;omega),Qk]
   |false=>
    simp only[Ql]at ho
    by_cases hn:e.aq<m.aw[i].aq
    ·have:=ih (i+1) true (o++[e]++[m.aw[i]]) (by omega) (by simp;omega)
     simp only[Qt,Qq,Qu]at this ⊢;rw[xL,Qr hn,show o++e::m.aw[i]::m.aw.drop (i+1)=(o++[e]++[m.aw[i]])++m.aw.drop (i+1)by simp]
     refine Eq.trans (bd ?_) this;simp only[hd,hx,hw,Qk,aP,Qa,Qp,Qg hn];rw[bz (by simp;omega),Qk,bz (by simp;omega),Qk]
    ·have:=ih (i+1) false (o++[m.aw[i]]) (by omega) (by simp;omega)
     simp only[Qq,Qu]at this ⊢;rw[xL,Qs hn,show o++m.aw[i]::xL e (m.aw.drop (i+1))=(o++[m.aw[i]])++xL e (m.aw.drop (i+1))by simp]
     refine Eq.trans (bd ?_) this;simp only[hd,hx,hw,Qk,aP,Qa,Qp,Qh hn,Ql];rw[bz (by simp;omega),Qk]
def Es(a b:af):Bool:=decide (a.ae=b.ae)&&decide (a.Value=b.Value)
theorem Np{a b:af}:Es a b=true↔a=b:=by
 cases a;cases b;simp[Es]
def zn(a b:ab):Bool:=decide (a.aH=b.aH)&&Es a.aa b.aa&&Es a.an b.an&&Es a.ax b.ax&&Es a.au b.au&&decide (a.aS=b.aS)&&decide (a.bn=b.bn)
theorem YU(a b:Bool):(bif a then b else false)=(a&&b):=by cases a<;>rfl
theorem aca(a b:ab):oB a b=some (zn a b):=by
 unfold oB zn Es;simp only[zZ,Qa,kW,YU]
end
section
def vG(v:ByteArray)(n:Int)(x:af):Int:=
 if(c9 x&&ez x ⟨n,v⟩)=true then(if ez x ⟨x.ae,v⟩=true then x.ae+1 else x.ae)else n
def kK(v:ByteArray)(n:Int)(p q:af):Int:=vG v (vG v (bB n 1) p) q
theorem PX(v:ByteArray)(n:Int)(p q:af):uC v n p q=some (kK v n p q):=by
 unfold uC kK;generalize bB n 1=k
 have hst:∀(i:Nat) (x:af) (k:Int),i<2->[p,q][i]?=some x->
   (fun(v1:Int×Int×Unit)=>
    bif (decide (v1.2.1<(2:Int)))then
    aZ (fun(v2:Int×Unit)=>some (Sum.inl (v2.1,(ay .i64 v1.2.1 (1:Int)),v2.2))) fun j3=>
    Option.bind (idx [p,q] v1.2.1) fun x4=>
    Option.bind (lA x4) fun r5=>
    Option.bind (bif r5 then Option.bind (im x4 (af.mk v1.1 v)) fun r6=>some r6 else some false) fun b7=>
    bif b7 then Option.bind (im x4 (af.mk x4.ae v)) fun r8=>
     bif r8 then j3 ((ay .i64 x4.ae (1:Int)),())else j3 (x4.ae,())
    else j3 (v1.1,())
    else(Option.map Sum.inr (some v1.1):Option ((Int×Int×Unit)⊕Int))) (k,(i:Int),())=some (Sum.inl (vG v k x,((i+1:Nat):Int),())):=by
  intro i x k hi hx;have hd:decide ((i:Int)<2)=true:=Qg (by omega)
  have hw:ay .i64 (i:Int) 1=((i+1:Nat):Int):=bE (by omega) (by omega)
  have hx':idx [p,q] (i:Int)=some x:=by rw[bh];exact hx
  simp only[hd,hw,hx',Qk,aP,Qa,Ci,AJ];unfold vG
  cases hv:c9 x with
  |false=>simp
  |true=>
   have hc:ay .i64 x.ae 1=x.ae+1:=by
    have:1<=x.ae/\x.ae<=1000000:=by
     simp only[c9,Qm,Qn,Qi]at hv;omega
    exact bE (by omega) (by omega)
   cases h1:ez x ⟨k,v⟩with
   |false=>simp
   |true=>cases h2:ez x ⟨x.ae,v⟩<;>simp[hc]
 refine(bd (hst 0 p k (by omega) rfl)).trans ((bd (hst 1 q _ (by omega) rfl)).trans (bw ?_))
 rfl
theorem YG(b:af):uA b=some (if 1000<b.ae then⟨1000,b.Value⟩else b):=by
 unfold uA
 by_cases h:1000<b.ae
 ·simp[h]
 ·simp[h]
end
section
theorem UX{lo k:Int}{v:ByteArray}{p:af}(h:lo<=k)(hl:bx ⟨k,v⟩ p=true):bx ⟨lo,v⟩ p=true:=by
 unfold bx at hl ⊢;simp only at hl ⊢
 by_cases h1:lo=k
 ·rw[h1];exact hl
 ·have h2:lo<p.ae:=by
   split at hl
   ·omega
   ·simp only[Qi]at hl;omega
  rw[Qs (by omega)]
  simpa using h2
theorem SY{lo k:Int}{v:ByteArray}{p:af}(h:lo<=k)(ha:ez p ⟨lo,v⟩=false):ez p ⟨k,v⟩=false:=by
 cases hk:ez p ⟨k,v⟩with
 |false=>rfl
 |true=>
  simp only[ez,Qm,bM]at hk;simp only[ez,bM,hk.1.1,hk.1.2,UX h hk.2]at ha;cases ha
theorem kV(p b:af):jj p b=true↔aI p=false/\p.Value=b.Value/\b.ae<=p.ae:=by
 simp[jj,bM,and_assoc]
theorem KX{b:af}(h:1<=b.ae):aI b=false:=by
 have:¬b.ae=0:=by omega
 simp[aI,this]
end
section
theorem Vk{n:Nat}(h:n<1000000):bq .u64 (n:Int)=n:=by
 unfold bq IntKind.wrap;simp[IntKind.signed,IntKind.bits];omega
def vE(b p:af)(j:Nat)(t:al):aj:=⟨j,1,1,t,1,b,p,⟨0,ByteArray.mk #[]⟩,0,0⟩
structure Sd (b:af):Prop where
 lo:1<=b.ae
 hi:b.ae<=6
 val:Om b.Value
theorem Sd.valid{b:af}(h:Sd b):c9 b=true:=VT h.lo (by have:=h.hi;omega) h.val
theorem Sd.nz{b:af}(h:Sd b):aI b=false:=KX h.lo
theorem Kp{l:List aj}(h:∀e∈l,aX e=true):bU l=l:=List.filter_eq_self.2 h
end
section
theorem Bt:∀(l:List aj) (ms:List aR) (k:Nat) (m:aR),ms[k]?=some m->
  (l.foldl dw ms)[k]?=some (if m.dG then m else match(bU l).find? (fun e=>decide (e.aq.toNat=k))with|some e=>⟨true,e.ai⟩|none=>m)
 |[],ms,k,m,h=>by simp[bU,h]
 |e::l,ms,k,m,h=>by
  rw[QU]
  by_cases hv:aX e=true
  ·have hr:bU (e::l)=e::bU l:=by simp[bU,hv]
   rw[hr,List.find?_cons]
   by_cases hk:e.aq.toNat=k
   ·have hstep:(dw ms e)[k]?=some (if m.dG then m else⟨true,e.ai⟩):=by
     unfold dw;rw[hv,hk,h]
     cases hm:m.dG with
     |true=>simp[hm,h]
     |false=>
      have hlt:k<ms.length:=(Qw.1 h).1;simp[hm,hlt]
    rw[Bt l _ k _ hstep]
    cases hm:m.dG with
    |true=>simp[hm]
    |false=>simp[hk]
   ·have hstep:(dw ms e)[k]?=some m:=by
     unfold dw;split
     ·rw[List.getElem?_set_ne hk];exact h
     ·exact h
    rw[Bt l _ k m hstep];simp[hk]
  ·have hv':aX e=false:=by simpa using hv
   have hr:bU (e::l)=bU l:=by simp[bU,hv']
   have hstep:dw ms e=ms:=by simp[dw,hv']
   rw[hr,hstep];exact Bt l ms k m h
theorem VR{aC:Nat}{t:al}{l:List aj}{k:Nat}(hk:k<10)(hn:aC<10):
  (eN aC t l)[k]?=some (if k=aC then⟨true,t⟩else match(bU l).find? (fun e=>decide (e.aq.toNat=k))with|some e=>⟨true,e.ai⟩|none=>gu):=by
 unfold eN
 by_cases h:k=aC
 ·subst h;rw[Bt l _ k ⟨true,t⟩ (by simp[hk])]
  simp
 ·rw[Bt l _ k gu (by
   rw[List.getElem?_set_ne (fun e=>h e.symm),List.getElem?_replicate,Qr hk])]
  simp[h,gu]
theorem NU{l:List aR}{k:Nat}{m:aR}(hk:k<10)(h:l[k]?=some m)(hd:m.dG=true):nu l k=true:=by
 rw[nu,GW,h];simp[hk,hd]
theorem VQ{aC:Nat}(hn:aC<10){t:al}{l:List aj}(T:Nat->al)(ht:T aC=t)(hT:∀e∈bU l,e.ai=T e.aq.toNat){k:Nat}(hk:k<10)(hs:k=aC\/∃e∈bU l,e.aq.toNat=k):
  nu (eN aC t l) k=true/\lP (eN aC t l) k=T k:=by
 have hg:=VR (t:=t) (l:=l) hk hn
 by_cases h:k=aC
 ·rw[Qr h]at hg;exact⟨NU hk hg rfl,by rw[sj hg,h,ht]⟩
 ·rw[Qs h]at hg;obtain⟨e,he,hek⟩:=hs.resolve_left h
  cases hf:(bU l).find? (fun e=>decide (e.aq.toNat=k))with
  |none=>
   have:=List.find?_eq_none.1 hf e he;simp[hek]at this
  |some e'=>
   rw[hf]at hg;have h1:=List.mem_of_find?_eq_some hf;have h2:=List.find?_some hf;simp only[Qi]at h2;exact⟨NU hk hg rfl,by rw[sj hg,<-h2];exact hT e' h1⟩
def D9(b p:af)(ts:List al)(q n:Nat)(l:List aj):Prop:=
 l.length<=n/\(∀e∈l,∃i t,i<n/\q.testBit i=true/\ts[i]?=some t/\e=vE b p i t)/\∀i t,i<n->q.testBit i=true->ts[i]?=some t->vE b p i t∈l
theorem D9.nil(b p:af)(ts:List al)(q:Nat):D9 b p ts q 0 []:=⟨by simp,by simp,fun i t h=>by omega⟩
theorem D9.take{b p:af}{ts:List al}{q n:Nat}{l:List aj}(h:D9 b p ts q n l)(hq:q.testBit n=true){t:al}(ht:ts[n]?=some t):D9 b p ts q (n+1) (l++[vE b p n t]):=by
 obtain⟨h1,h2,h3⟩:=h;refine⟨by simp;omega,fun e he=> ?_,fun i t' hi hb ht'=> ?_⟩
 ·rcases Qz.1 he with he|he
  ·obtain⟨i,t,a,b,c⟩:=h2 e he;exact⟨i,t,by omega,b,c⟩
  ·simp only[Q5]at he;exact⟨n,t,by omega,hq,ht,he⟩
 ·rcases Nat.lt_or_ge i n with h|h
  ·exact Qz.2 (.inl (h3 i t' h hb ht'))
  ·obtain rfl:i=n:=by omega
   rw[ht]at ht';injection ht' with ht'
   subst ht';exact Qz.2 (.inr (by simp))
section
variable {b p : af} (hb : Sd b) (hp : aI p = true \/ c9 p = true) {ts : List al} (hts : ∀ t ∈ ts, fe t) {q : Nat} {l : List aj} (hlen : ts.length <= 5) (hc : D9 b p ts q ts.length l)
 include hb hp hts hlen hc
end
end
section
section
variable {α : Type}
structure SWO (lt:α->α->Bool):Prop where
 asymm:∀x y,lt x y=true->lt y x=false
 trans:∀x y z,lt y x=false->lt z y=false->lt z x=false
end
end
section
section
variable {α : Type}
 def RI(eq ne:α->α->Bool)(z:α)(K:Int)(n:Nat)(v6:Int×Int×(List α)×Unit):Option ((Int×Int×(List α)×Unit)⊕((Int×(List α)×Unit)⊕List α)):=
 bif (decide (v6.2.1<((List.length ((v6.2.2.1.drop (Int.toNat K)).take (Int.toNat (n:Int) - Int.toNat K)):Nat):Int)))then
 aZ (fun(v7:Int×(List α)×Unit)=>
 some (Sum.inl (v7.1,(ay .i64 v6.2.1 (1:Int)),v7.2.1,()))) fun j8=>
 Option.bind (idx ((v6.2.2.1.drop (Int.toNat K)).take (Int.toNat (n:Int) - Int.toNat K)) v6.2.1) fun x9=>
 Option.bind (v6.2.2.1[((Int.toNat K)+Int.toNat v6.2.1)]?) fun x10=>
 Option.bind (idx ((v6.2.2.1.drop (Int.toNat K)).take (Int.toNat (n:Int) - Int.toNat K)) (dm .i64 v6.2.1 (1:Int))) fun x11=>
 Option.bind (v6.2.2.1[((Int.toNat K)+Int.toNat (dm .i64 v6.2.1 (1:Int)))]?) fun x12=>
 bif (ne x10 x12)then
 Option.bind (idx ((v6.2.2.1.drop (Int.toNat K)).take (Int.toNat (n:Int) - Int.toNat K)) v6.2.1) fun x13=>
 Option.bind (v6.2.2.1[((Int.toNat K)+Int.toNat v6.2.1)]?) fun x14=>
 Option.bind (idx v6.2.2.1 v6.1) fun x15=>
 Option.bind (v6.2.2.1[(Int.toNat v6.1)]?) fun x16=>
 j8 ((ay .i64 v6.1 (1:Int)),(v6.2.2.1.set (Int.toNat v6.1) x14),())
 else
 j8 (v6.1,v6.2.2.1,())
 else
 Option.map Sum.inr (bif dq v6.1 ((List.length v6.2.2.1):Int) (List.length v6.2.2.1)then
 bif dq (0:Int) v6.1 (List.length (v6.2.2.1.take (Int.toNat v6.1)++List.replicate (Int.toNat ((List.length v6.2.2.1):Int) - Int.toNat v6.1) z++v6.2.2.1.drop ((Int.toNat v6.1)+(Int.toNat ((List.length v6.2.2.1):Int) - Int.toNat v6.1))))then
 Option.map Sum.inr (some ((v6.2.2.1.take (Int.toNat v6.1)++List.replicate (Int.toNat ((List.length v6.2.2.1):Int) - Int.toNat v6.1) z++v6.2.2.1.drop ((Int.toNat v6.1)+(Int.toNat ((List.length v6.2.2.1):Int) - Int.toNat v6.1))).take (Int.toNat v6.1 - Int.toNat (0:Int))))
 else none
 else none)
 def LF(eq ne:α->α->Bool)(z:α)(v1:Int×(List α)×Unit):Option ((Int×(List α)×Unit)⊕List α):=
 bif (decide (v1.1<((List.length v1.2.1:Nat):Int)))then
 Option.bind (idx v1.2.1 v1.1) fun x2=>
 Option.bind (v1.2.1[(Int.toNat v1.1)]?) fun x3=>
 Option.bind (idx v1.2.1 (dm .i64 v1.1 (1:Int))) fun x4=>
 Option.bind (v1.2.1[(Int.toNat (dm .i64 v1.1 (1:Int)))]?) fun x5=>
 bif (eq x3 x5)then
 bif dq v1.1 ((List.length v1.2.1):Int) (List.length v1.2.1)then
 aA (RI eq ne z v1.1 (List.length v1.2.1)) (v1.1,(1:Int),v1.2.1,())
 else none
 else
 some (Sum.inl ((ay .i64 v1.1 (1:Int)),v1.2.1,()))
 else
 Option.map Sum.inr (some v1.2.1)
 def JF(eq ne:α->α->Bool)(z:α)(s:List α):Option (List α):=
 bif (decide (((List.length s:Nat):Int)<(2:Int)))then
 some s
 else
 aA (LF eq ne z) ((1:Int),s,())
theorem O2(d:List α){K n m:Nat}(hm:m<n - K):idx ((d.drop K).take (n - K)) (m:Int)=d[K+m]?:=by
 rw[bh,Qq68,Qr hm,List.getElem?_drop]
variable [DecidableEq α]
def qF(acc:List α)(x:α):List α:=if acc.getLast?=some x then acc else acc++[x]
def dd(l:List α):List α:=l.foldl qF []
theorem TW(l:List α)(x:α):dd (l++[x])=qF (dd l) x:=by simp[dd,List.foldl_append]
theorem abw(l:List α):(dd l).getLast?=l.getLast?:=by
 suffices h:∀r:List α,(dd r.reverse).getLast?=r.reverse.getLast? by
  have:=h l.reverse
  rwa [List.reverse_reverse]at this
 intro r
 induction r with
 |nil=>rfl
 |cons x r ih=>
  rw[List.reverse_cons,TW,qF];split
  ·rename_i h;rw[h];simp
  ·simp
theorem TV{s:List α}{k:Nat}{x:α}(h:s[k]?=some x):dd (s.take (k+1))=qF (dd (s.take k)) x:=by
 obtain⟨hl,hx⟩:=Qw.1 h;rw[Q7 hl,hx,TW]
theorem NR{s:List α}{k:Nat}{x:α}(h:s[k]?=some x):(dd (s.take (k+1))).getLast?=some x:=by
 obtain⟨hl,hx⟩:=Qw.1 h;rw[abw,Q7 hl,hx];simp
variable {eq ne : α -> α -> Bool} {z : α}
theorem JP(hne:∀x y,ne x y= !decide (x=y)){s:List α}{K:Nat}(hn:s.length<1000000000):∀(r i k2:Nat) (d:List α),k2+r=s.length - K->1<=k2->i<=K+k2 - 1->d.length=s.length->d.take i=dd (s.take (K+k2))->(∀j,K+k2 - 1<=j->d[j]?=s[j]?)->
  aA (RI eq ne z (K:Int) s.length) ((i:Int),(k2:Int),d,())=some (.inr (dd s))
 |0,i,k2,d,hr,h1,hi,hd,ht,hs=>by
  have hKn:K+k2=s.length:=by omega
  refine bw ?_;have e1:(((d.drop K).take (s.length - K)).length)=s.length - K:=by simp;omega
  have e2:decide ((k2:Int)<((s.length - K:Nat):Int))=false:=Qh (by omega)
  have e3:∀n,dq (i:Int) (d.length:Int) n=decide (d.length<=n):=by
   intro n;have:i<=d.length:=by omega
   simp only[dq];have h1:decide ((0:Int)<=(i:Int))=true:=Qg (by omega)
   have h2:decide ((i:Int)<=(d.length:Int))=true:=Qg (by omega)
   rw[h1,h2,Bool.and_self,Bool.true_and,decide_eq_decide];omega
  have e4:(d.take i++List.replicate (d.length - i) z++d.drop (i+(d.length - i))).length=d.length:=by simp;omega
  have e5:dq (0:Int) (i:Int) d.length=true:=by
   simp only[dq,Qm,Qi];omega
  have e6:(d.take i++List.replicate (d.length - i) z++d.drop (i+(d.length - i))).take (i - 0)=dd s:=by
   rw[Nat.sub_zero,QL,List.take_append_of_le_length (by simp;omega),List.take_take,Nat.min_self,ht,hKn,Qq62]
  simp only[RI,QV,e1,e2,Ql,e3,QI,decide_true,Qk,e4,e5,Int.toNat_zero,e6,Qe]
 |r+1,i,k2,d,hr,h1,hi,hd,ht,hs=>by
  have hKn:K+k2<s.length:=by omega
  obtain⟨x,hx⟩:∃x,s[K+k2]?=some x:=⟨_,Qv hKn⟩;obtain⟨y,hy⟩:∃y,s[K+(k2 - 1)]?=some y:=⟨_,Qv (by omega)⟩
  have e1:(((d.drop K).take (s.length - K)).length)=s.length - K:=by simp;omega
  have e2:decide ((k2:Int)<((s.length - K:Nat):Int))=true:=Qg (by omega)
  have e3:dm .i64 (k2:Int) 1=((k2 - 1:Nat):Int):=by rw[rl (by omega) (by omega)];omega
  have e4:ay .i64 (k2:Int) 1=((k2+1:Nat):Int):=bE (by omega) (by omega)
  have e5:ay .i64 (i:Int) 1=((i+1:Nat):Int):=bE (by omega) (by omega)
  have hdx:d[K+k2]?=some x:=by rw[hs _ (by omega),hx]
  have hdy:d[K+(k2 - 1)]?=some y:=by rw[hs _ (by omega),hy]
  have hv1:=O2 d (K:=K) (n:=s.length) (m:=k2) (by omega)
  have hv2:=O2 d (K:=K) (n:=s.length) (m:=k2 - 1) (by omega)
  obtain⟨w,hw⟩:∃w,d[i]?=some w:=⟨_,Qv (by omega)⟩
  have hstep:=TV hx
  have hlast:(dd (s.take (K+k2))).getLast?=some y:=by
   have:=NR hy
   rwa [show K+(k2 - 1)+1=K+k2 by omega]at this
  rw[qF,hlast]at hstep;have hil:i<d.length:=by omega
  by_cases hxy:x=y
  ·refine Eq.trans (bd (s':=((i:Int),((k2+1:Nat):Int),d,())) ?_) (JP hne hn r i (k2+1) d (by omega) (by omega) (by omega) hd ?_ fun j hj=>hs j (by omega))
   ·simp only[RI,QV,e1,e2,Qk,aP,hv1,hdx,Qa,e3,hv2,hdy,hne,hxy,decide_true,Qo,Ql,e4]
   ·rw[show K+(k2+1)=K+k2+1 by omega,hstep,Qr (by rw[hxy]),ht]
  ·refine Eq.trans (bd (s':=(((i+1:Nat):Int),((k2+1:Nat):Int),d.set i x,())) ?_) (JP hne hn r (i+1) (k2+1) (d.set i x) (by omega) (by omega) (by omega) (by rw[QY];exact hd) ?_ fun j hj=> ?_)
   ·simp only[RI,QV,e1,e2,Qk,aP,hv1,hdx,Qa,e3,hv2,hdy,hne,hxy,decide_false,Qp,e4,e5,bh,hw]
   ·rw[show K+(k2+1)=K+k2+1 by omega,hstep,Qs (fun e=>hxy (by injection e with e;exact e.symm)),<-ht,Q7 (by rw[QY];exact hil)]
    congr 1
    ·rw[List.take_set_of_le (QI _)]
    ·simp
   ·rw[List.getElem?_set,Qs (by omega)]
    exact hs j (by omega)
theorem RH(heq:∀x y,eq x y=decide (x=y))(hne:∀x y,ne x y= !decide (x=y)){s:List α}(hn:s.length<1000000000):∀(r k:Nat),k+r=s.length->1<=k->dd (s.take k)=s.take k->aA (LF eq ne z) ((k:Int),s,())=some (dd s)
 |0,k,hr,h1,h=>by
  refine bw ?_;have hk:k=s.length:=by omega
  have e2:decide ((k:Int)<((s.length:Nat):Int))=false:=Qh (by omega)
  rw[hk,Qq62]at h;simp only[LF,e2,Ql,Qe,h]
 |r+1,k,hr,h1,h=>by
  have hk:k<s.length:=by omega
  obtain⟨x,hx⟩:∃x,s[k]?=some x:=⟨_,Qv hk⟩;obtain⟨y,hy⟩:∃y,s[k - 1]?=some y:=⟨_,Qv (by omega)⟩
  have e2:decide ((k:Int)<((s.length:Nat):Int))=true:=Qg (by omega)
  have e3:dm .i64 (k:Int) 1=((k - 1:Nat):Int):=by rw[rl (by omega) (by omega)];omega
  have e4:ay .i64 (k:Int) 1=((k+1:Nat):Int):=bE (by omega) (by omega)
  have hstep:=TV hx
  have hlast:(dd (s.take k)).getLast?=some y:=by
   have:=NR hy
   rwa [show k - 1+1=k by omega]at this
  rw[qF,hlast]at hstep
  by_cases hxy:x=y
  ·rw[Qr (by rw[hxy])]at hstep
   have e5:dq (k:Int) (s.length:Int) s.length=true:=by
    simp only[dq,Qm,Qi];omega
   have hin:=JP (eq:=eq) (z:=z) (K:=k) hne hn (s.length - k - 1) k 1 s (by omega) (by omega) (by omega) rfl (by rw[hstep,h]) (fun _ _=>rfl)
   refine bw ?_;simp only[LF,e2,Qk,bh,QV,hx,hy,e3,Qa,heq,hxy,decide_true,e5];exact hin
  ·rw[Qs (fun e=>hxy (by injection e with e;exact e.symm))]at hstep
   refine Eq.trans (bd (s':=(((k+1:Nat):Int),s,())) ?_) (RH heq hne hn r (k+1) (by omega) (by omega) ?_)
   ·simp only[LF,e2,Qk,bh,QV,hx,hy,e3,Qa,heq,hxy,decide_false,Ql,e4]
   ·obtain⟨hl,hx'⟩:=Qw.1 hx;rw[hstep,h,Q7 hl,hx']
theorem xR(heq:∀x y,eq x y=decide (x=y))(hne:∀x y,ne x y= !decide (x=y))(s:List α)(hn:s.length<1000000000):JF eq ne z s=some (dd s):=by
 unfold JF
 by_cases h:s.length<2
 ·have e:decide (((s.length:Nat):Int)<2)=true:=Qg (by omega)
  rw[e,Qk]
  match s,h with
  |[],_=>rfl
  |[x],_=>rfl
 ·have e:decide (((s.length:Nat):Int)<2)=false:=Qh (by omega)
  rw[e,Ql];refine RH heq hne hn (s.length - 1) 1 (by omega) (by omega) ?_
  cases s with
  |nil=>rfl
  |cons x l=>rfl
theorem Vh(acc:List α)(x:α):∀y,y∈qF acc x↔y∈acc\/y=x:=by
 intro y;unfold qF;split
 ·rename_i h;have:=List.mem_of_getLast? h;exact⟨.inl,fun h'=>h'.elim id fun e=>e▸this⟩
 ·simp
theorem Gt:∀(l acc:List α) (y:α),y∈l.foldl qF acc↔y∈acc\/y∈l
 |[],acc,y=>by simp
 |x::l,acc,y=>by
  rw[QU,Gt l,Vh];simp[or_assoc]
theorem acM(l:List α)(y:α):y∈dd l↔y∈l:=by rw[dd,Gt];simp
theorem RF(l:List α):(dd l).length<=l.length:=by
 suffices h:∀(l acc:List α),(l.foldl qF acc).length<=acc.length+l.length by simpa[dd]using h l []
 intro l
 induction l with
 |nil=>intro acc;simp
 |cons x l ih=>
  intro acc;rw[QU];refine QK (ih _) ?_;unfold qF;split<;>simp<;>omega
theorem Xf{lt:α->α->Bool}(ho:SWO lt)(hto:∀x y,lt x y=false->lt y x=false->x=y){l:List α}(hl:l.Pairwise (fun a b=>lt b a=false)):(dd l).Pairwise (fun a b=>lt a b=true):=by
 suffices h:∀(l acc:List α),(acc++l).Pairwise (fun a b=>lt b a=false)->acc.Pairwise (fun a b=>lt a b=true)->(l.foldl qF acc).Pairwise (fun a b=>lt a b=true)from h l [] (by simpa using hl) .nil
 intro l
 induction l with
 |nil=>intro acc _ h;exact h
 |cons x l ih=>
  intro acc h1 h2;rw[QU];unfold qF;split
  ·rename_i hlast;refine ih acc ?_ h2;rw[Qq69]at h1 ⊢;exact⟨h1.1,(Q4.1 h1.2.1).2,fun a ha b hb=>h1.2.2 a ha b (by simp[hb])⟩
  ·rename_i hlast;refine ih _ (by simpa using h1) ?_
   rw[Qq69]at h1 ⊢;refine⟨h2,by simp,fun a ha b hb=> ?_⟩
   rw[Q5.1 hb];have hax:lt x a=false:=h1.2.2 a ha x (by simp)
   cases hc:lt a x with
   |true=>rfl
   |false=>
    exfalso;have e:=hto a x hc hax;subst e
    obtain⟨y,hy⟩:∃y,acc.getLast?=some y:=by
     cases hg:acc.getLast? with
     |none=>rw[List.getLast?_eq_none_iff.1 hg]at ha;cases ha
     |some y=>exact⟨y,rfl⟩
    obtain⟨pre,rfl⟩:∃pre,acc=pre++[y]:=by
     have:=List.getLast?_eq_some_iff.1 hy;exact this
    rcases Qz.1 ha with ha|ha
    ·rw[Qq69]at h2;have h3:=h2.2.2 a ha y (by simp)
     have h4:=h1.2.2 y (by simp) a (by simp)
     rw[h3]at h4;cases h4
    ·rw[Q5.1 ha]at hlast;exact hlast hy
end
end
section
theorem YT(s:List Int):oz s=JF (fun x y=>decide (x=y)) (fun x y=> !decide (x=y)) 0 s:=rfl
 def iy(v:ByteArray)(e:aj):Bool:=aX e&&decide (e.aa.Value=v)&& !decide (e.aS=0)
 def ends(v:ByteArray)(l:List aj):List Int:=l.flatMap fun e=>if iy v e then[e.aS,e.bn]else[]
theorem yM{v:ByteArray}{l:List aj}{x:Int}:x∈ends v l↔∃e∈l,iy v e=true/\(x=e.aS\/x=e.bn):=by
 simp only[ends,QQ];constructor
 ·rintro⟨e,he,hx⟩;split at hx
  ·rename_i h;exact⟨e,he,h,by simpa using hx⟩
  ·cases hx
 ·rintro⟨e,he,h,hx⟩;exact⟨e,he,by rw[Qr h];simpa using hx⟩
end
section
theorem Hb{v:aU}{aC:Int}{l:List aj}(hl:l.length<=1000000)(hin:qK l)(val:ByteArray)(lo hi:Int):jl ⟨aC,v,l.map bC.mk⟩ val lo hi=some ((c8 (fE · val lo hi) l:Nat):Int):=by
 unfold jl;refine Bs (fE · val lo hi) l hin _ (fun i e s he=> ?_) (fun s=> ?_)
 ·have hlt:i<l.length:=(Qw.1 he).1;have hd:decide ((i:Int)<(((l.map bC.mk).length:Nat):Int))=true:=Qg (by rw[QC];omega)
  have hw:ay .i64 (i:Int) 1=((i+1:Nat):Int):=bE (by omega) (by omega)
  have hx:idx (l.map bC.mk) (i:Int)=some ⟨e⟩:=by rw[bh,QT,he];rfl
  simp only[hd,hx,hw,Qk,Qa,etas,mE,tO,aP];cases fE e val lo hi<;>simp
 ·have hd:decide (((l.length:Nat):Int)<(((l.map bC.mk).length:Nat):Int))=false:=Qh (by rw[QC];exact Qq64 _)
  simp only[hd,Ql,Qe]
theorem SZ{v:aU}{aC:Int}{l:List aj}(hl:l.length<=1000000)(hin:qK l)(val:ByteArray)(lo hi:Int):gK ⟨aC,v,l.map bC.mk⟩ val lo hi val lo hi=some ((c8 (fun e=>rU e val lo hi||fE e val lo hi) l:Nat):Int):=by
 unfold gK;refine Bs (fun e=>rU e val lo hi||fE e val lo hi) l hin _ (fun i e s he=> ?_) (fun s=> ?_)
 ·have hlt:i<l.length:=(Qw.1 he).1;have hd:decide ((i:Int)<(((l.map bC.mk).length:Nat):Int))=true:=Qg (by rw[QC];omega)
  have hw:ay .i64 (i:Int) 1=((i+1:Nat):Int):=bE (by omega) (by omega)
  have hx:idx (l.map bC.mk) (i:Int)=some ⟨e⟩:=by rw[bh,QT,he];rfl
  simp only[hd,hx,hw,Qk,Qa,etas,jr,mE,wO,tO,Ds,aP,kW,Bool.cond_true_left];cases (rU e val lo hi||fE e val lo hi)<;>simp
 ·have hd:decide (((l.length:Nat):Int)<(((l.map bC.mk).length:Nat):Int))=false:=Qh (by rw[QC];exact Qq64 _)
  simp only[hd,Ql,Qe]
 def F2(aC:Nat)(t:al)(l:List aj):gk:=⟨aC,⟨eN aC t l⟩,(bU l).map bC.mk⟩
 def lv(aC:Nat)(t:al)(l:List aj)(val:ByteArray)(lo hi:Int):Bool:=
 jT (eN aC t l) aC (c8 (fun e=>rU e val lo hi||fE e val lo hi) (bU l)) (c8 (fE · val lo hi) (bU l))
 def rF(aC:Nat)(t:al)(l:List aj)(val:ByteArray)(lo hi:Int):Bool:=
 (gq (eN aC t l) (c8 (fE · val lo hi) (bU l))).testBit aC
section
variable {aC : Nat} (hn : aC < 10) {t : al} (ht : c5 t) {l : List aj} (hl : oO l)
 include hn ht hl
theorem Pq(val:ByteArray)(lo hi:Int):iq (F2 aC t l) val lo hi=some (lv aC t l val lo hi):=by
 have hlen:=hl.len;have hrl:=AO l;have hin:=mm l
 simp only[F2,iq,oF,ke,Qa,SZ (by omega:(bU l).length<=1000000) hin,Hb (by omega:(bU l).length<=1000000) hin,
  vN (jX ht hl) hn (jE hin) (jE hin),lv]
theorem Z5(val:ByteArray)(lo hi:Int):nm (F2 aC t l) val lo hi=some (rF aC t l val lo hi):=by
 have hlen:=hl.len;have hrl:=AO l;have hin:=mm l;simp only[F2,nm,oF,lY,Qa,Hb (by omega:(bU l).length<=1000000) hin,uj (jX ht hl) hn (jE hin),rF]
theorem look_eq:eZ aC t l=some (F2 aC t l):=HV hn ht hl
end
def cz(q:Int->Bool):List Int->Int->Int
 |[],lo=>lo
 |e::l,lo=>if lo<=e then cz q l lo else if q e then cz q l e else lo
theorem Bo{p:Int->Option Bool}{q:Int->Bool}(h:∀e,p e=some (q e)):∀(l:List Int) (lo:Int),mO (fun(m5:Nat) (e6:Int) (v4:Int×Unit)=>
  bif (decide (v4.1<=e6))then some (Sum.inl (v4.1,()))else
  Option.bind (p e6) fun r7=>bif (!r7)then Option.map Sum.inr (some v4.1)else some (Sum.inl (e6,()))) (fun v8=>some v8.1) l (lo,())=some (cz q l lo)
 |[],lo=>rfl
 |e::l,lo=>by
  rw[mO,cz]
  by_cases hle:lo<=e
  ·rw[Qr hle];simp only[hle,decide_true,Qk];exact Bo h l lo
  ·rw[Qs hle];simp only[hle,decide_false,Ql,h,Qa]
   cases hq:q e with
   |true=>
    simp only[Qo,Ql,Qt];have:=Bo h l e;simp only[h,Qa]at this;exact this
   |false=>rfl
def flat(n:Nat)(k:Int):al:=⟨k,sJ n,[]⟩
theorem I8(s n:Nat)(k:Int):kS s (flat n k)=decide (k<=(((sJ n).countP (lD s):Nat):Int)):=by
 rw[Hq];simp[flat,wh]
theorem Vj{s s':Nat}(h:∀k,s.testBit k=true->s'.testBit k=true)(l:List Int):l.countP (lD s)<=l.countP (lD s'):=List.countP_mono_left fun x _ hx=>NY h x hx
structure Ft (n:Nat) (k:Int) (l:List aj):Prop where
 n10:n<=10
 k1:1<=k
 kn:k<=n
 valid:∀e∈l,aX e=true
 aM:∀e∈l,e.ai=flat n k
 few:l.length<=1000
 all:∀i,i<n->∃e∈l,e.aq.toNat=i
theorem Ft.gN{n:Nat}{k:Int}{l:List aj}(h:Ft n k l):fe (flat n k):=W8 n h.n10 k h.k1 h.kn
theorem Ft.sm{n:Nat}{k:Int}{l:List aj}(h:Ft n k l):oO l:=⟨by have:=h.few;omega,fun e he=>by rw[h.aM e he];exact h.gN.sm⟩
theorem Ft.bU{n:Nat}{k:Int}{l:List aj}(h:Ft n k l):Go.Proofs.YtjbfdglebjnelaaGreat.bU l=l:=Kp h.valid
def cE(n:Nat)(k:Int)(c:Int)(v:ByteArray)(lo hi:Nat->Int)(i:Nat):aj:=⟨i,1,1,flat n k,2,⟨c,v⟩,⟨c,v⟩,⟨0,ByteArray.mk #[]⟩,lo i,hi i⟩
end
section
def vq(b:List Int)(sure:Int->Int->Bool):Int×Int×Bool×Unit:=
 match b.reverse.find? (fun e=>sure e e)with
 |some e=>(cz (fun x=>sure x e) b.reverse e,e,true,())
 |none=>(0,0,false,())
theorem TJ{p:Int->Option Bool}{q:Int->Bool}{d:Int->Option Int}{f:Int->Int}(hp:∀e,p e=some (q e))(hd:∀e,d e=some (f e)):∀r:List Int,mO (fun(m5:Nat) (e6:Int) (v4:Int×Int×Bool×Unit)=>
  Option.bind (p e6) fun r7=>bif r7 then Option.bind (d e6) fun r8=>Option.map Sum.inr (some (r8,e6,true,()))else some (Sum.inl (v4.1,v4.2.1,v4.2.2.1,()))) (fun(v9:Int×Int×Bool×Unit)=>some ((0:Int),(0:Int),false,())) r ((0:Int),(0:Int),false,())=
  some (match r.find? q with|some e=>(f e,e,true,())|none=>(0,0,false,()))
 |[]=>rfl
 |e::r=>by
  have ih:=TJ hp hd r;rw[mO,List.find?_cons];simp only[hp,hd,Qa,Qe]at ih ⊢
  cases q e with
  |true=>rfl
  |false=>simp only[Ql];exact ih
section
variable {aC : Nat} (hn : aC < 10) {t : al} (ht : c5 t) {l : List aj} (hl : oO l)
 include hn ht hl
end
section
variable {n : Nat} {k c : Int} {v : ByteArray} {lo hi : Nat -> Int} (h : Ft n k ((List.range n).map (cE n k c v lo hi))) {i : Nat} (hi' : i < n)
 include h hi'
end
end
section
section
variable {α : Type}
structure vC (lt:α->α->Bool):Prop where
 irrefl:∀x,lt x x=false
 trans:∀x y z,lt x y=true->lt y z=true->lt x z=true
 total:∀x y,lt x y=false->lt y x=false->x=y
variable {lt : α -> α -> Bool}
theorem vC.asymm(h:vC lt){x y:α}(hxy:lt x y=true):lt y x=false:=by
 cases hc:lt y x with
 |false=>rfl
 |true=>have:=h.trans x y x hxy hc;rw[h.irrefl]at this;cases this
theorem vC.ntrans(h:vC lt){x y z:α}(h1:lt x y=false)(h2:lt y z=false):lt x z=false:=by
 cases hc:lt x z with
 |false=>rfl
 |true=>
  cases hyx:lt y x with
  |false=>rw[h.total x y h1 hyx,h2]at hc;cases hc
  |true=>have:=h.trans y x z hyx hc;rw[h2]at this;cases this
theorem vC.kit(h:vC lt):Go.Sort.SWO lt:=⟨h.irrefl,h.trans,fun _ _ _=>h.ntrans⟩
theorem vC.own(h:vC lt):SWO lt:=⟨fun _ _=>h.asymm,fun _ _ _ h1 h2=>h.ntrans h2 h1⟩
theorem vC.flip(h:vC lt):vC fun a b=>lt b a:=⟨h.irrefl,fun x y z h1 h2=>h.trans z y x h2 h1,fun x y h1 h2=>h.total x y h2 h1⟩
theorem vC.unique(h:vC lt):∀{a b:List α},a.Pairwise (fun x y=>lt x y=true)->b.Pairwise (fun x y=>lt x y=true)->(∀x,x∈a↔x∈b)->a=b
 |[],[],_,_,_=>rfl
 |[],y::b,_,_,h'=>by have:=(h' y).2 (by simp);cases this
 |x::a,[],_,_,h'=>by have:=(h' x).1 (by simp);cases this
 |x::a,y::b,ha,hb,h'=>by
  rw[Q4]at ha hb
  have hxy:x=y:=by
   have h1:=(h' x).1 (by simp)
   have h2:=(h' y).2 (by simp)
   rcases QA.1 h1 with h1|h1
   ·exact h1
   ·rcases QA.1 h2 with h2|h2
    ·exact h2.symm
    ·have q1:=ha.1 y h2;have q2:=hb.1 x h1;rw[h.asymm q1]at q2;cases q2
  subst hxy;congr 1;refine h.unique ha.2 hb.2 fun z=>⟨fun hz=> ?_,fun hz=> ?_⟩
  ·rcases QA.1 ((h' z).1 (by simp[hz]))with e|e
   ·subst e;have:=ha.1 z hz;rw[h.irrefl]at this;cases this
   ·exact e
  ·rcases QA.1 ((h' z).2 (by simp[hz]))with e|e
   ·subst e;have:=hb.1 z hz;rw[h.irrefl]at this;cases this
   ·exact e
theorem vC.Pe[DecidableEq α](h:vC lt){cmp:α->α->Option Int}{c:α->α->Int}(hc:∀x y,cmp x y=some (c x y))(hlt:∀x y,decide (c x y<0)=lt x y)(s:List α)(hs:s.length<1000000000):
  ∃t,Aj cmp s=some ((),t)/\t.length=s.length/\(dd t).Pairwise (fun x y=>lt x y=true)/\∀x,x∈dd t↔x∈s:=by
 have hcf:G5 cmp=c:=funext fun x=>funext fun y=>by unfold G5;rw[hc];rfl
 have hl:Go.Proofs.ltOf (G5 cmp)=lt:=by
  rw[hcf];exact funext fun x=>funext fun y=>hlt x y
 have hok:ZU cmp:=⟨fun x y=>by rw[hcf];exact hc x y,by rw[hl];exact h.kit,fun x y h1 h2=>by rw[hl]at h1 h2;exact h.total x y h1 h2⟩
 refine⟨s.mergeSort fun x y=> !lt y x,?_,List.length_mergeSort s,Xf h.own h.total ?_,fun x=>by rw[acM,List.mem_mergeSort]⟩
 ·unfold Aj;rw[Qr ⟨hok,by omega⟩,hl]
 ·refine(List.pairwise_mergeSort (le:=fun x y=> !lt y x) (fun a b c h1 h2=> ?_) (fun a b=> ?_) s).imp fun{a b} hab=>by simpa using hab
  ·simp only[Bool.not_eq_true']at h1 h2 ⊢;exact h.ntrans h2 h1
  ·cases hab:lt a b with
   |false=>simp
   |true=>rw[h.asymm hab];rfl
end
theorem Bf:vC fun a b:Int=>decide (a<b):=
 ⟨fun x=>Qh (Qq64 x),fun x y z h1 h2=>by simp only[Qi]at*;omega,fun x y h1 h2=>by simp only[Qj]at*;omega⟩
theorem RT:∀{x y z:List UInt8},Op.bytesLess x y=true->Op.bytesLess y z=true->Op.bytesLess x z=true
 |[],[],_,h,_=>by simp[Op.bytesLess]at h
 |_::_,[],_,h,_=>by simp[Op.bytesLess]at h
 |[],_::_,[],_,h=>by simp[Op.bytesLess]at h
 |[],_::_,_::_,_,_=>rfl
 |_::_,_::_,[],_,h=>by simp[Op.bytesLess]at h
 |a::x,b::y,c::z,h,h'=>by
  simp only[Op.bytesLess,Qn,Qi,Qm,beq_iff_eq]at h h' ⊢;rcases h with h|⟨rfl,h⟩
  ·rcases h' with h'|⟨rfl,h'⟩
   ·exact .inl (UInt8.lt_trans h h')
   ·exact .inl h
  ·rcases h' with h'|⟨rfl,h'⟩
   ·exact .inl h'
   ·exact .inr ⟨rfl,RT h h'⟩
theorem Sr{a b c:ByteArray}(h:jR a b=true)(h':jR b c=true):jR a c=true:=RT h h'
theorem Ss{a b:ByteArray}(h:a≠b):jR a b=true\/jR b a=true:=
 RU fun e=>h (by
  rw[Lib.toList_data,Lib.toList_data]at e;cases a;cases b;rename_i x y;cases x;cases y
  simp_all)
theorem gX:vC bH:=by
 refine⟨fun x=>by rw[bH,Qr rfl,Bw],fun x y z h1 h2=> ?_,fun x y h1 h2=> ?_⟩
 ·unfold bH at*
  by_cases e1:x.size=y.size
  ·rw[Qr e1]at h1
   by_cases e2:y.size=z.size
   ·rw[Qr e2]at h2;rw[Qr (e1.trans e2)];exact Sr h1 h2
   ·rw[Qs e2]at h2;rw[Qs (by omega),e1]
    exact h2
  ·rw[Qs e1,Qi]at h1
   by_cases e2:y.size=z.size
   ·rw[Qs (by omega),<-e2]
    exact Qg h1
   ·rw[Qs e2,Qi]at h2;rw[Qs (by omega)]
    exact Qg (by omega)
 ·unfold bH at*
  by_cases e1:x.size=y.size
  ·rw[Qr e1]at h1;rw[Qr e1.symm]at h2;refine Classical.byContradiction fun hne=> ?_
   rcases Ss hne with h|h
   ·rw[h]at h1;cases h1
   ·rw[h]at h2;cases h2
  ·rw[Qs e1,Qj]at h1;rw[Qs (fun e=>e1 e.symm),Qj]at h2
   omega
theorem zm:vC bx:=by
 refine⟨fun x=>by rw[bx,Qr rfl,gX.irrefl],fun x y z h1 h2=> ?_,fun x y h1 h2=> ?_⟩
 ·unfold bx at*
  by_cases e1:x.ae=y.ae
  ·rw[Qr e1]at h1
   by_cases e2:y.ae=z.ae
   ·rw[Qr e2]at h2;rw[Qr (e1.trans e2)];exact gX.trans _ _ _ h1 h2
   ·rw[Qs e2]at h2;rw[Qs (by omega),e1]
    exact h2
  ·rw[Qs e1,Qi]at h1
   by_cases e2:y.ae=z.ae
   ·rw[Qs (by omega),<-e2]
    exact Qg h1
   ·rw[Qs e2,Qi]at h2;rw[Qs (by omega)]
    exact Qg (by omega)
 ·unfold bx at*
  by_cases e1:x.ae=y.ae
  ·rw[Qr e1]at h1;rw[Qr e1.symm]at h2;have:=gX.total _ _ h1 h2;cases x;cases y
   simp_all
  ·rw[Qs e1,Qj]at h1;rw[Qs (fun e=>e1 e.symm),Qj]at h2
   omega
end
section
structure Me (n:Nat) (l:List aj):Prop where
 of:∀e∈l,∃i:Nat,i<n/\aez i 1 n e
 D3:l.Pairwise fun a b=>a.aq<b.aq
 len:l.length<=n
theorem Me.valid{n:Nat}{l:List aj}(h:Me n l):∀e∈l,aX e=true:=fun e he=>by
 obtain⟨i,_,hi⟩:=h.of e he;rw[aX,Nc hi.aM];exact hi.valid
theorem Me.sm{n:Nat}{l:List aj}(h:Me n l)(hn:n<=1000):oO l:=⟨by have:=h.len;omega,fun e he=>by
 obtain⟨i,_,hi⟩:=h.of e he
 exact hi.aM.sm⟩
theorem D6.mono{l:List aR}{s s' r:Nat}(h:∀k,s.testBit k=true->s'.testBit k=true)(hi:D6 l s r):D6 l s' r:=fun k hk=>⟨h k (hi k hk).1,(hi k hk).2⟩
section
variable {aC : Nat} {t : al} (ht : c5 t) {l : List aj} (hl : oO l) {v : ByteArray} {lo hi k : Int} (h1 : lo <= k) (h2 : k <= hi)
 include ht hl h1 h2
end
end
section
section
variable {α : Type}
 def so(p:α->Option Bool)(a0:List α)(v1:Int×Unit):Option ((Int×Unit)⊕Int):=
 bif (decide (v1.1<((List.length a0:Nat):Int)))then
  Option.bind (idx a0 v1.1) fun x2=>Option.bind (p x2) fun r3=>bif r3 then Option.map Sum.inr (some v1.1)else some (Sum.inl ((ay .i64 v1.1 (1:Int)),()))
 else Option.map Sum.inr (some (-1:Int))
 def WX(p:α->Option Bool)(a0:List α):Option Int:=aA (so p a0) ((0:Int),())
 def DX(p:α->Option Bool)(z:α)(v2:Int×Int×(List α)×Unit):Option ((Int×Int×(List α)×Unit)⊕List α):=
 bif (decide (v2.2.1<((List.length v2.2.2.1:Nat):Int)))then
  aZ (fun(v3:Int×(List α)×Unit)=>some (Sum.inl (v3.1,(ay .i64 v2.2.1 (1:Int)),v3.2.1,()))) fun j4=>
  Option.bind (idx v2.2.2.1 v2.2.1) fun x5=>Option.bind (v2.2.2.1[(Int.toNat v2.2.1)]?) fun x6=>Option.bind (p x6) fun r7=>
  bif (!r7)then
   Option.bind (idx v2.2.2.1 v2.1) fun x8=>Option.bind (v2.2.2.1[(Int.toNat v2.1)]?) fun x9=>j4 ((ay .i64 v2.1 (1:Int)),(v2.2.2.1.set (Int.toNat v2.1) x6),())
  else j4 (v2.1,v2.2.2.1,())
 else
  Option.map Sum.inr (bif dq v2.1 ((List.length v2.2.2.1):Int) (List.length v2.2.2.1)then
   bif dq (0:Int) v2.1 (List.length (v2.2.2.1.take (Int.toNat v2.1)++List.replicate (Int.toNat ((List.length v2.2.2.1):Int) - Int.toNat v2.1) z++v2.2.2.1.drop ((Int.toNat v2.1)+(Int.toNat ((List.length v2.2.2.1):Int) - Int.toNat v2.1))))then
    some ((v2.2.2.1.take (Int.toNat v2.1)++List.replicate (Int.toNat ((List.length v2.2.2.1):Int) - Int.toNat v2.1) z++v2.2.2.1.drop ((Int.toNat v2.1)+(Int.toNat ((List.length v2.2.2.1):Int) - Int.toNat v2.1))).take (Int.toNat v2.1 - Int.toNat (0:Int)))
   else none
  else none)
 def TH(p:α->Option Bool)(z:α)(s:List α):Option (List α):=
 Option.bind (WX p s) fun r1=>bif (decide (r1=(-1:Int)))then some s else aA (DX p z) (r1,(ay .i64 r1 (1:Int)),s,())
theorem Df{q:α->Bool}{s:List α}{j:Nat}{x:α}(h:s[j]?=some x):(s.take (j+1)).filter q=(s.take j).filter q++if q x then[x]else[]:=by
 obtain⟨hl,hx⟩:=Qw.1 h;rw[Q7 hl,List.filter_append,hx];congr 1;cases hq:q x<;>simp[hq]
variable {p : α -> Option Bool} {q : α -> Bool} (hp : ∀ x, p x = some (q x)) {z : α}
 include hp
theorem Rf{s:List α}(hs:s.length<1000000000):∀(k i:Nat),i+k=s.length->(s.take i).filter (fun x=> !q x)=s.take i->
  (∃m:Nat,∃x,aA (so p s) ((i:Int),())=some (m:Int)/\(s.take m).filter (fun x=> !q x)=s.take m/\s[m]?=some x/\q x=true)\/(aA (so p s) ((i:Int),())=some (-1)/\s.filter (fun x=> !q x)=s)
 |0,i,hi,hf=>by
  have hd:decide ((i:Int)<((s.length:Nat):Int))=false:=Qh (by omega)
  refine .inr ⟨bw ?_,?_⟩
  ·simp only[so,hd,Ql,Qe]
  ·rwa [show i=s.length by omega,Qq62]at hf
 |k+1,i,hi,hf=>by
  have hd:decide ((i:Int)<((s.length:Nat):Int))=true:=Qg (by omega)
  have hw:ay .i64 (i:Int) 1=((i+1:Nat):Int):=bE (by omega) (by omega)
  obtain⟨x,hx⟩:∃x,s[i]?=some x:=⟨_,Qv (by omega)⟩
  cases hq:q x with
  |true=>
   refine .inl ⟨i,x,bw ?_,hf,hx,hq⟩;simp only[so,hd,Qk,bh,hx,Qa,hp,hq,Qe]
  |false=>
   have hstep:aA (so p s) ((i:Int),())=aA (so p s) (((i+1:Nat):Int),()):=bd (by simp only[so,hd,Qk,bh,hx,Qa,hp,hq,Ql,hw])
   rw[hstep];refine Rf hs k (i+1) (by omega) ?_
   rw[Df hx,hf,hq];obtain⟨hl,hx'⟩:=Qw.1 hx;rw[Q7 hl,hx'];rfl
theorem JJ{s:List α}(hs:s.length<1000000000):∀(r i j:Nat) (d:List α),j+r=s.length->i<j->d.length=s.length->d.take i=(s.take j).filter (fun x=> !q x)->(∀m,j<=m->d[m]?=s[m]?)->
  aA (DX p z) ((i:Int),(j:Int),d,())=some (s.filter fun x=> !q x)
 |0,i,j,d,hr,hij,hd,ht,hm=>by
  have e2:decide ((j:Int)<((d.length:Nat):Int))=false:=Qh (by omega)
  refine bw ?_
  have e3:∀n,dq (i:Int) (d.length:Int) n=decide (d.length<=n):=by
   intro n;simp only[dq];have h1:decide ((0:Int)<=(i:Int))=true:=Qg (by omega)
   have h2:decide ((i:Int)<=(d.length:Int))=true:=Qg (by omega)
   rw[h1,h2,Bool.and_self,Bool.true_and,decide_eq_decide];omega
  have e4:(d.take i++List.replicate (d.length - i) z++d.drop (i+(d.length - i))).length=d.length:=by simp;omega
  have e5:dq (0:Int) (i:Int) d.length=true:=by
   simp only[dq,Qm,Qi];omega
  have e6:(d.take i++List.replicate (d.length - i) z++d.drop (i+(d.length - i))).take (i - 0)=s.filter fun x=> !q x:=by
   rw[Nat.sub_zero,QL,List.take_append_of_le_length (by simp;omega),List.take_take,Nat.min_self,ht,show j=s.length by omega,Qq62]
  simp only[DX,e2,Ql,QV,e3,QI,decide_true,Qk,e4,e5,Int.toNat_zero,e6,Qe]
 |r+1,i,j,d,hr,hij,hd,ht,hm=>by
  have e2:decide ((j:Int)<((d.length:Nat):Int))=true:=Qg (by omega)
  have ej:ay .i64 (j:Int) 1=((j+1:Nat):Int):=bE (by omega) (by omega)
  have ei:ay .i64 (i:Int) 1=((i+1:Nat):Int):=bE (by omega) (by omega)
  obtain⟨x,hx⟩:∃x,s[j]?=some x:=⟨_,Qv (by omega)⟩
  obtain⟨y,hy⟩:∃y,d[i]?=some y:=⟨_,Qv (by omega)⟩
  have hdx:d[j]?=some x:=by rw[hm j (QI _),hx]
  have hstep:=Df (q:=fun x=> !q x) hx
  cases hq:q x with
  |true=>
   rw[hq]at hstep;refine(bd (s':=((i:Int),((j+1:Nat):Int),d,())) ?_).trans (JJ hs r i (j+1) d (by omega) (by omega) hd (by rw[hstep,ht];simp) fun m h=>hm m (by omega))
   simp only[DX,e2,Qk,aP,bh,QV,hdx,Qa,hp,hq,Qo,Ql,ej]
  |false=>
   rw[hq]at hstep;refine(bd (s':=(((i+1:Nat):Int),((j+1:Nat):Int),d.set i x,())) ?_).trans (JJ hs r (i+1) (j+1) (d.set i x) (by omega) (by omega) (by rw[QY];exact hd) ?_ fun m h=> ?_)
   ·simp only[DX,e2,Qk,aP,bh,QV,hdx,hy,Qa,hp,hq,Qp,ej,ei]
   ·rw[hstep,<-ht,Q7 (by rw[QY];omega),List.take_set_of_le (QI _)]
    simp
   ·rw[List.getElem?_set,Qs (by omega)]
    exact hm m (by omega)
theorem U3(s:List α)(hs:s.length<1000000000):TH p z s=some (s.filter fun x=> !q x):=by
 rw[TH,WX];rcases Rf hp hs s.length 0 (by omega) (by simp)with⟨m,x,h1,h2,h3,h4⟩|⟨h1,h2⟩
 ·have hm:m<s.length:=(Qw.1 h3).1;have h1':aA (so p s) ((0:Int),())=some (m:Int):=h1;have e:decide ((m:Int)= -1)=false:=Qh (by omega)
  rw[h1',Qa,e,Ql,show ay .i64 (m:Int) 1=((m+1:Nat):Int)from bE (by omega) (by omega)]
  refine JJ hp hs (s.length - (m+1)) m (m+1) s (by omega) (by omega) rfl ?_ fun _ _=>rfl
  rw[Df h3,h2,h4];simp
 ·have h1':aA (so p s) ((0:Int),())=some (-1):=h1;rw[h1',Qa,h2];rfl
end
theorem Ff{α β ρ:Type}(l:List α)(hl:l.length<=1000000)(f:α->List β)(hf:∀x∈l,(f x).length<=3){step:Int×List β×Unit->Option ((Int×List β×Unit)⊕ρ)}{fin:List β->Option ρ}
  (h1:∀(i:Nat) (x:α) (acc:List β),x∈l->decide ((i:Int)<((l.length:Nat):Int))=true->idx l (i:Int)=some x->ay .i64 (i:Int) 1=((i+1:Nat):Int)->(∀bytes n:Nat,bytes<=40->n<=3->acc.length<=3000000->bp bytes (acc.length+n)=true)->acc.length<=3000000->step ((i:Int),acc,())=some (.inl (((i+1:Nat):Int),acc++f x,())))
  (h2:∀acc,decide (((l.length:Nat):Int)<((l.length:Nat):Int))=false->step (((l.length:Nat):Int),acc,())=Option.map Sum.inr (fin acc)):aA step ((0:Int),([]:List β),())=fin (l.flatMap f):=by
 suffices key:∀(k i:Nat) (acc:List β),i+k=l.length->acc=(l.take i).flatMap f->acc.length<=3*i->aA step ((i:Int),acc,())=fin (l.flatMap f)from key l.length 0 [] (by omega) (by simp) (by simp)
 intro k
 induction k with
 |zero=>
  intro i acc hi ha hal;obtain rfl:i=l.length:=by omega
  rw[Qq62]at ha;rw[eO,h2 acc (Qh (Qq64 _)),ha];cases fin (l.flatMap f)<;>rfl
 |succ k ih=>
  intro i acc hi ha hal;have hlt:i<l.length:=by omega
  have hx:l[i]?=some l[i]:=Qv hlt;have:=hf _ (Q0 hlt);refine(bd (h1 i l[i] acc (Q0 hlt) (Qg (by omega)) (by rw[bh];exact hx) (bE (by omega) (by omega)) (fun bytes n hb hn ha=> ?_) (by omega))).trans (ih (i+1) _ (by omega) ?_ (by rw[QB];omega))
  ·simp only[bp,Qm,Qi];exact⟨QK (Nat.mul_le_mul (show acc.length+n<=3000003 by omega) hb) (show 3000003*40<=140737488355328 by decide),QK (show acc.length+n<=3000003 by omega) (by simp[maxLen])⟩
  ·rw[Q7 hlt,List.flatMap_append,ha];simp
instance:Inhabited af:=⟨⟨0,ByteArray.mk #[]⟩⟩
instance:DecidableEq af:=fun a b=>decidable_of_iff (a.ae=b.ae/\a.Value=b.Value) (by cases a;cases b;simp)
theorem Z2(s:List af)(hs:s.length<1000000000):∃b,eM s=some b/\b.Pairwise (fun x y=>bx y x=true)/\b.length<=s.length/\∀x,x∈b↔x∈s:=by
 obtain⟨t,h1,h2,h3,h4⟩:=zm.flip.Pe (cmp:=mZ) (c:=fun x y=>RO y x) (fun x y=>by simp[mZ]) (fun x y=>RM y x) s hs
 have hc:=xR (eq:=fun x y:af=>lu false x.ae y.ae x.Value y.Value) (ne:=fun x y=>lu true x.ae y.ae x.Value y.Value) (z:=af.mk 0 (ByteArray.mk #[])) (fun x y=>by
  rw[zZ,QW];cases x;cases y;simp) (fun x y=>by
  rw[YI];congr 1;rw[QW];cases x;cases y
  simp) t (by omega)
 refine⟨dd t,?_,h3,by have:=RF t;omega,h4⟩
 have h1':fP s=some ((),t):=h1;have hc':iC t=some (dd t):=hc;simp only[eM,h1',hc',Qa]
theorem Z0(s:List ByteArray)(hs:s.length<1000000000):∃b,fN s=some b/\b.Pairwise (fun x y=>bH x y=true)/\b.length<=s.length/\∀x,x∈b↔x∈s:=by
 obtain⟨t,h1,h2,h3,h4⟩:=gX.Pe (cmp:=gV) (c:=tE) (fun x y=>Ax x y) rG s hs
 have hc:=xR (eq:=fun x y:ByteArray=>decide (x=y)) (ne:=fun x y=> !decide (x=y)) (z:=ByteArray.mk #[]) (fun _ _=>rfl) (fun _ _=>rfl) t (by omega)
 refine⟨dd t,?_,h3,by have:=RF t;omega,h4⟩
 have h1':iP s=some ((),t):=h1;have hc':dE t=some (dd t):=hc;simp only[fN,h1',hc',Qa]
theorem YX(a b:Int):decide (Ar a b<0)=decide (a<b):=by rw[decide_eq_decide];exact JR a b
theorem Z1(s:List Int)(hs:s.length<1000000000):∃b,gS s=some b/\b.Pairwise (·<·)/\b.length<=s.length/\∀x,x∈b↔x∈s:=by
 obtain⟨t,h1,h2,h3,h4⟩:=Bf.Pe (cmp:=fB) (c:=Ar) (fun x y=>Fu x y) YX s hs
 have hc:=xR (eq:=fun x y:Int=>decide (x=y)) (ne:=fun x y=> !decide (x=y)) (z:=0) (fun _ _=>rfl) (fun _ _=>rfl) t (by omega)
 refine⟨dd t,?_,h3.imp fun h=>of_decide_eq_true h,by have:=RF t;omega,h4⟩
 have h1':kX s=some ((),t):=h1;simp only[gS,h1',Qa,YT,hc]
 def said(e:aj):List af:=if aX e then(if e.bL=1 then[e.aa,e.an,e.ax]else if e.bL=2 then[e.an,at_ e 1000000]else[at_ e 1000000])else[]
theorem Et(e:aj):(said e).length<=3:=by
 unfold said;split
 ·split
  ·simp
  ·split<;>simp
 ·simp
theorem tz{α β:Type}(f:α->List β)(hf:∀x,(f x).length<=3):∀l:List α,(l.flatMap f).length<=3*l.length
 |[]=>by simp
 |x::l=>by
  have:=tz f hf l;have:=hf x;rw[List.flatMap_cons,QB,QE];omega
section
variable {l : List aj} (hl : ∀ e ∈ l, c5 e.ai) (hlen : l.length <= 1000)
 include hl hlen
theorem VM:∃b,iD l=some b/\b.Pairwise (fun x y=>bx y x=true)/\b.length<=3000/\∀x,x∈b↔∃e∈l,x∈said e/\aI x=false:=by
 have hd:=U3 (p:=bu) (q:=aI) cy (z:=af.mk 0 (ByteArray.mk #[])) (l.flatMap said) (by have:=tz said Et l;omega)
 obtain⟨b,h1,h2,hbl,h3⟩:=Z2 ((l.flatMap said).filter fun x=> !aI x) (by have:=tz said Et l;have:=List.length_filter_le (fun x=> !aI x) (l.flatMap said);omega)
 refine⟨b,?_,h2,by have:=tz said Et l;have:=List.length_filter_le (fun x=> !aI x) (l.flatMap said);omega,fun x=> ?_⟩
 ·unfold iD;refine(Ff l (by omega) said (fun e _=>Et e) (fin:=fun acc=>Option.bind (dU acc) fun r8=>Option.bind (eM r8) fun r9=>some r9) (fun i e acc he hd hx hw hok hal=> ?_) (fun acc hd=> ?_)).trans ?_
  ·have o1:=hok 24 3 (by omega) (by omega) hal
   have o2:=hok 24 2 (by omega) (by omega) hal
   have o3:=hok 24 1 (by omega) (by omega) hal
   simp only[hd,hx,hw,Qk,aP,Qa,etas,wH (hl e he),AK,QE,QZ,o1,o2,o3,Nat.zero_add,Nat.reduceAdd];unfold said at_
   cases aX e<;>by_cases k1:e.bL=1<;>by_cases k2:e.bL=2<;>simp[k1,k2]
  ·simp only[hd,Ql]
  ·have hd':dU (l.flatMap said)=_:=hd;simp only[hd',h1,Qa]
 ·rw[h3,List.mem_filter,QQ];constructor
  ·rintro⟨⟨e,he,hx⟩,hz⟩;exact⟨e,he,hx,by simpa using hz⟩
  ·rintro⟨e,he,hx,hz⟩;exact⟨⟨e,he,hx⟩,by simpa using hz⟩
theorem XE:∃b,kE l=some b/\b.Pairwise (fun x y=>bH x y=true)/\b.length<=3000/\∀x,x∈b↔∃e∈l,aX e=true/\x=e.aa.Value:=by
 have hf:∀e:aj,(if aX e then[e.aa.Value]else[]).length<=3:=fun e=>by split<;>simp
 obtain⟨b,h1,h2,hbl,h3⟩:=Z0 (l.flatMap fun e=>if aX e then[e.aa.Value]else[]) (by have:=tz _ hf l;omega)
 refine⟨b,?_,h2,by have:=tz _ hf l;omega,fun x=> ?_⟩
 ·unfold kE;refine(Ff l (by omega) (fun e=>if aX e then[e.aa.Value]else[]) (fun e _=>hf e) (fin:=fun acc=>Option.bind (fN acc) fun r6=>some r6) (fun i e acc he hd hx hw hok hal=> ?_) (fun acc hd=> ?_)).trans ?_
  ·have o3:=hok 16 1 (by omega) (by omega) hal
   simp only[hd,hx,hw,Qk,aP,Qa,etas,wH (hl e he),QE,QZ,o3,Nat.zero_add];cases aX e<;>simp
  ·simp only[hd,Ql]
  ·simp only[h1,Qa]
 ·rw[h3,QQ];constructor
  ·rintro⟨e,he,hx⟩;split at hx
   ·rename_i hv;exact⟨e,he,hv,by simpa using hx⟩
   ·cases hx
  ·rintro⟨e,he,hv,hx⟩;exact⟨e,he,by rw[Qr hv];simpa using hx⟩
theorem VK(v:ByteArray):∃b,fO l v=some b/\b.Pairwise (·<·)/\b.length<=3000/\∀x,x∈b↔x∈ends v l:=by
 have hf:∀e:aj,(if iy v e then[e.aS,e.bn]else[]).length<=3:=fun e=>by split<;>simp
 obtain⟨b,h1,h2,hbl,h3⟩:=Z1 (ends v l) (by have:=tz _ hf l;unfold ends;omega)
 refine⟨b,?_,h2,by have:=tz _ hf l;unfold ends at hbl;omega,h3⟩
 unfold fO;refine(Ff l (by omega) (fun e=>if iy v e then[e.aS,e.bn]else[]) (fun e _=>hf e) (fin:=fun acc=>Option.bind (gS acc) fun r6=>some r6) (fun i e acc he hd hx hw hok hal=> ?_) (fun acc hd=> ?_)).trans ?_
 ·have o3:=hok 8 2 (by omega) (by omega) hal
  simp only[hd,hx,hw,Qk,aP,Qa,etas,wH (hl e he),QE,QZ,o3,Nat.zero_add,Nat.reduceAdd];unfold iy;cases aX e<;>cases decide (e.aa.Value=v)<;>cases decide (e.aS=0)<;>simp
 ·simp only[hd,Ql]
 ·exact(congrArg (fun o=>Option.bind o fun r6=>some r6) h1)
end
end
section
theorem aaU{e:aj}(hv:aX e=true):e.bL=1/\0<=e.aS/\e.aS<=e.bn\/e.bL≠1/\1<=e.aS/\e.aS<=e.bn:=by
 unfold aX kp at hv;rw[Qm]at hv;have h:=hv.2
 by_cases k1:e.bL=1
 ·rw[Qr k1]at h;simp only[ic,Qm,Qi]at h;omega
 ·rw[Qs k1]at h
  by_cases k2:e.bL=2
  ·rw[Qr k2]at h;simp only[vu,vf,Qm,Qi]at h;omega
  ·rw[Qs k2]at h
   by_cases k3:e.bL=3
   ·rw[Qr k3]at h;simp only[A6,vf,Qm,Qi]at h;omega
   ·rw[Qs k3]at h;cases h
end
section
def yp:af:=⟨0,fD⟩
theorem AZ{α τ:Type}(l:List α)(hl:l.length<=1000000)(mk:Int->τ)(P:α->Bool)(z:α){step:τ->Option (τ⊕α)}
  (h1:∀(i:Nat) (x:α),decide ((i:Int)<((l.length:Nat):Int))=true->idx l (i:Int)=some x->ay .i64 (i:Int) 1=((i+1:Nat):Int)->step (mk (i:Int))=some (bif P x then .inr x else .inl (mk ((i+1:Nat):Int))))
  (h2:decide (((l.length:Nat):Int)<((l.length:Nat):Int))=false->step (mk ((l.length:Nat):Int))=some (.inr z)):aA step (mk 0)=some ((l.find? P).getD z):=by
 suffices key:∀(k i:Nat),i+k=l.length->aA step (mk (i:Int))=some (((l.drop i).find? P).getD z)from key l.length 0 (by omega)
 intro k
 induction k with
 |zero=>
  intro i hi;obtain rfl:i=l.length:=by omega
  rw[bw (h2 (Qh (Qq64 _))),Qq66];rfl
 |succ k ih=>
  intro i hi;have hlt:i<l.length:=by omega
  have hs:=h1 i l[i] (Qg (by omega)) (by rw[bh];exact Qv hlt) (bE (by omega) (by omega))
  rw[QM hlt,List.find?_cons]
  cases hP:P l[i]with
  |true=>rw[hP]at hs;rw[bw hs];rfl
  |false=>rw[hP]at hs;rw[bd hs];exact ih (i+1) (by omega)
 def eI(l:List aj):List af:=(iD l).getD []
section
variable {l : List aj} (hl : ∀ e ∈ l, c5 e.ai) (hlen : l.length <= 1000)
 include hl hlen
theorem mg:iD l=some (eI l)/\(eI l).Pairwise (fun x y=>bx y x=true)/\(eI l).length<=3000/\∀x,x∈eI l↔∃e∈l,x∈said e/\aI x=false:=by
 obtain⟨b,h1,h2,h3,h4⟩:=VM hl hlen;have:eI l=b:=by rw[eI,h1];rfl
 rw[this];exact⟨h1,h2,h3,h4⟩
end
def qD(b:af):af:=if 1000<=b.ae then⟨1000000,b.Value⟩else b
theorem LB(b:af):jq b=some (qD b):=by
 unfold jq qD;simp only[aP,D2,BU]
section
variable {aC : Nat} (hn : aC < 10) {t : al} (ht : c5 t) {l : List aj} (hl : oO l)
 include hn ht hl
end
theorem PA{e:aj}(h:c5 e.ai)(b:af):qd e b=some (aX e&&df e b):=by
 simp only[qd,etas,mn h,Qa,cU,gC,sF]
 cases hv:aX e with
 |false=>simp
 |true=>
  cases hz:aI b with
  |true=>simp[df,hz]
  |false=>
   by_cases k1:e.bL=1
   ·simp[df,hz,k1]
   ·by_cases k3:e.bL=3
    ·simp[df,hz,k3]
    ·by_cases k2:e.bL=2
     ·have hp:aI e.ax=true:=by
       unfold aX kp at hv;rw[Qm,Qs k1,Qr k2]at hv;simp only[vu,Qm]at hv;exact hv.2.1.1.2
      simp[df,hz,k2,dK,jj,hp]
     ·unfold aX kp at hv;rw[Qs k1,Qs k2,Qs k3]at hv;simp at hv
end
section
 def fU(l:List aj):List ByteArray:=(kE l).getD []
 def br(l:List aj)(v:ByteArray):List Int:=(fO l v).getD []
section
variable {l : List aj} (hl : ∀ e ∈ l, c5 e.ai) (hlen : l.length <= 1000)
 include hl hlen
theorem rj:kE l=some (fU l)/\(fU l).Pairwise (fun x y=>bH x y=true)/\(fU l).length<=3000/\∀x,x∈fU l↔∃e∈l,aX e=true/\x=e.aa.Value:=by
 obtain⟨b,h1,h2,h3,h4⟩:=XE hl hlen;have:fU l=b:=by rw[fU,h1];rfl
 rw[this];exact⟨h1,h2,h3,h4⟩
theorem iG(v:ByteArray):fO l v=some (br l v)/\(br l v).Pairwise (·<·)/\(br l v).length<=3000/\∀x,x∈br l v↔x∈ends v l:=by
 obtain⟨b,h1,h2,h3,h4⟩:=VK hl hlen v;have:br l v=b:=by rw[br,h1];rfl
 rw[this];exact⟨h1,h2,h3,h4⟩
end
theorem CR{l:List aj}(hl:oO l)(hlen:l.length<=1000)(v:ByteArray):∀x∈br l v,1<=x/\x<=1000:=by
 obtain⟨_,_,_,h⟩:=iG hl.aM hlen v;intro x hx;obtain⟨e,he,hb,hy⟩:=yM.1 ((h x).1 hx);simp only[iy,Qm,Bool.not_eq_true',Qj]at hb;have hv:=hb.1.1;have h0:=hb.2;unfold aX kp at hv;rw[Qm]at hv;have hv:=hv.2
 by_cases k1:e.bL=1
 ·rw[Qr k1]at hv;simp only[ic,finite,Qm,Qi]at hv;omega
 ·rw[Qs k1]at hv
  by_cases k2:e.bL=2
  ·rw[Qr k2]at hv;simp only[vu,vf,Qm,Qi]at hv;omega
  ·rw[Qs k2]at hv
   by_cases k3:e.bL=3
   ·rw[Qr k3]at hv;simp only[A6,vf,Qm,Qi]at hv;omega
   ·rw[Qs k3]at hv;cases hv
theorem Lx{α A B ρ:Type}(l:List α)(hl:l.length<=1000000)(f:A×B->α->A×B){step:A×Int×B×Unit->Option ((A×Int×B×Unit)⊕ρ)}{fin:A×B->Option ρ}
  (h1:∀(i:Nat) (x:α) (a:A) (b:B),x∈l->decide ((i:Int)<((l.length:Nat):Int))=true->idx l (i:Int)=some x->ay .i64 (i:Int) 1=((i+1:Nat):Int)->step (a,(i:Int),b,())=some (.inl ((f (a,b) x).1,((i+1:Nat):Int),(f (a,b) x).2,())))
  (h2:∀a b,decide (((l.length:Nat):Int)<((l.length:Nat):Int))=false->step (a,((l.length:Nat):Int),b,())=Option.map Sum.inr (fin (a,b))) (a:A) (b:B):aA step (a,(0:Int),b,())=fin (l.foldl f (a,b)):=by
 suffices key:∀(k i:Nat) (a:A) (b:B),i+k=l.length->aA step (a,(i:Int),b,())=fin ((l.drop i).foldl f (a,b))from key l.length 0 a b (by omega)
 intro k
 induction k with
 |zero=>
  intro i a b hi;obtain rfl:i=l.length:=by omega
  rw[eO,h2 a b (Qh (Qq64 _)),Qq66,List.foldl_nil];cases fin (a,b)<;>rfl
 |succ k ih=>
  intro i a b hi;have hlt:i<l.length:=by omega
  rw[bd (h1 i l[i] a b (Q0 hlt) (Qg (by omega)) (by rw[bh];exact Qv hlt) (bE (by omega) (by omega))),ih (i+1) _ _ (by omega),QM hlt,QU]
def my(p q:af)(v:ByteArray)(n:Int):Bool:=ez p ⟨n,v⟩||ez q ⟨n,v⟩
theorem Ma(v:ByteArray)(n:Int)(p q:af):oG v n p q=some (my p q v n):=by
 simp only[oG,sI,Qa,kW,Bool.cond_true_left,my]
 def Dh(b:List Int)(ready:Int->Int->Bool)(low bV:Int):Int×Int:=
 match b.reverse.find? (fun n=>decide (bV<n)&&ready n n)with
 |none=>(cz (fun x=>ready x bV) b.reverse low,bV)
 |some n=>
  let bottom:=cz (fun x=>ready x n) b.reverse n
  (cz (fun x=>ready x n) b.reverse (if bV<bottom - 1\/bottom<low then bottom else low),n)
 def Bn(S:gk)(b:List Int)(v:ByteArray)(m8:Nat)(e9:Int)(v7:Int×Int×Unit):Option ((Int×Int×Unit)⊕(Int×Int×Unit)):=
 Option.bind (bif (decide (e9<=v7.2.1))then some true else Option.bind (iq S v e9 e9) fun r10=>some (!r10)) fun b11=>
 bif b11 then some (Sum.inl (v7.1,v7.2.1,()))else
 Option.bind (jQ b e9 S v e9) fun r12=>
 aZ (fun(v13:Int×Unit)=>Option.map Sum.inr (Option.bind (ir b v13.1 S v e9) fun r5=>some (r5,e9,()))) fun j14=>
 Option.bind (bif (decide (v7.2.1<(dm .i64 r12 (1:Int))))then some true else some (decide (r12<v7.1))) fun b15=>
 bif b15 then j14 (r12,())else j14 (v7.1,())
 def Xa(S:gk)(b:List Int)(v:ByteArray)(v16:Int×Int×Unit):Option (Int×Int×Unit):=Option.bind (ir b v16.1 S v v16.2.1) fun r5=>some (r5,v16.2.1,())
section
variable {aC : Nat} (hn : aC < 10) {t : al} (ht : c5 t) {l : List aj} (hl : oO l)
 include hn ht hl
end
end
section
section
variable {α : Type} [DecidableEq α] {lt : α -> α -> Bool}
def dD(lt:α->α->Bool)(x:α):List α->List α
 |[]=>[x]
 |y::l=>if lt y x then y::dD lt x l else if y=x then y::l else x::y::l
theorem EM(x:α):∀(l:List α) (z:α),z∈dD lt x l↔z=x\/z∈l
 |[],z=>by simp[dD]
 |y::l,z=>by
  rw[dD];split
  ·rw[QA,EM x l z,QA];constructor
   ·rintro(h|h|h)
    ·exact .inr (.inl h)
    ·exact .inl h
    ·exact .inr (.inr h)
   ·rintro(h|h|h)
    ·exact .inr (.inl h)
    ·exact .inl h
    ·exact .inr (.inr h)
  ·split
   ·rename_i h;rw[QA];constructor
    ·exact .inr
    ·rintro(h1|h1)
     ·exact .inl (h1.trans h.symm)
     ·exact h1
   ·rw[QA]
theorem vC.dD(h:vC lt)(x:α):∀{l:List α},l.Pairwise (fun a b=>lt a b=true)->(Go.Proofs.YtjbfdglebjnelaaGreat.dD lt x l).Pairwise (fun a b=>lt a b=true)
 |[],_=>by rw[Go.Proofs.YtjbfdglebjnelaaGreat.dD];exact List.pairwise_singleton _ _
 |y::l,hp=>by
  rw[Q4]at hp;rw[Go.Proofs.YtjbfdglebjnelaaGreat.dD];split
  ·rename_i hy;rw[Q4];refine⟨fun z hz=> ?_,h.dD x hp.2⟩
   rcases(EM x l z).1 hz with rfl|hz
   ·exact hy
   ·exact hp.1 z hz
  ·rename_i hy;split
   ·exact Q4.2 hp
   ·rename_i hne
    have hxy:lt x y=true:=by
     cases hc:lt x y with
     |true=>rfl
     |false=>exact absurd (h.total y x (by simpa using hy) hc) hne
    rw[Q4,Q4];refine⟨fun z hz=> ?_,hp⟩
    rcases QA.1 hz with rfl|hz
    ·exact hxy
    ·exact h.trans _ _ _ hxy (hp.1 z hz)
theorem tu(x:α):∀l:List α,(dD lt x l).length<=l.length+1
 |[]=>by simp[dD]
 |y::l=>by
  have:=tu x l;rw[dD];split
  ·simp;omega
  ·split<;>simp
theorem MN(x:α):∀(l:List α) (i:Nat),(∀j,j<i->∃y,l[j]?=some y/\lt y x=true)->(∀y,l[i]?=some y->lt y x=false)->dD lt x l=if l[i]?=some x then l else l.take i++x::l.drop i
 |[],i,h1,h2=>by
  cases i with
  |zero=>simp[dD]
  |succ i=>obtain⟨y,hy,_⟩:=h1 0 (by omega);simp at hy
 |y::l,i,h1,h2=>by
  cases i with
  |zero=>
   have hy:=h2 y rfl;rw[dD,hy,Qs (by simp)]
   by_cases h:y=x
   ·simp[h]
   ·simp[h]
  |succ i=>
   obtain⟨y',hy',hlt⟩:=h1 0 (by omega)
   simp only[List.getElem?_cons_zero,Qf]at hy';subst hy'
   rw[dD,Qr hlt,MN x l i (fun j hj=>by
    obtain⟨z,hz,h⟩:=h1 (j+1) (by omega)
    exact⟨z,by simpa using hz,h⟩) (fun z hz=>h2 z (by simpa using hz))]
   simp only[List.getElem?_cons_succ,List.take_succ_cons,List.drop_succ_cons];split<;>simp
theorem zW(h:vC lt):∀(xs l:List α),l.Pairwise (fun a b=>lt a b=true)->(xs.foldl (fun l x=>dD lt x l) l).Pairwise (fun a b=>lt a b=true)/\∀z,z∈xs.foldl (fun l x=>dD lt x l) l↔z∈xs\/z∈l
 |[],l,hp=>⟨hp,by simp⟩
 |x::xs,l,hp=>by
  obtain⟨h1,h2⟩:=zW h xs _ (h.dD x hp);rw[QU];refine⟨h1,fun z=> ?_⟩
  rw[h2,EM,QA];constructor
  ·rintro(a|a|a)
   ·exact .inl (.inr a)
   ·exact .inl (.inl a)
   ·exact .inr a
  ·rintro((a|a)|a)
   ·exact .inr (.inl a)
   ·exact .inl a
   ·exact .inr (.inr a)
theorem Lf:∀(xs l:List α),(xs.foldl (fun l x=>dD lt x l) l).length<=l.length+xs.length
 |[],l=>by simp
 |x::xs,l=>by
  have:=Lf xs (dD lt x l);have:=tu (lt:=lt) x l;rw[QU,QE];omega
end
theorem tV{α:Type}(l:List α)(i:Nat):(l.take (Int.toNat (i:Int))).drop (Int.toNat (0:Int))=l.take i:=by simp
theorem yz{α:Type}(l:List α)(i:Nat):(l.take (Int.toNat ((l.length:Nat):Int))).drop (Int.toNat (i:Int))=l.drop i:=by simp
theorem Dy{i n:Nat}(h:i<=n):dq (0:Int) (i:Int) n=true:=by
 simp only[dq,Qm,Qi];omega
theorem Dz{i n:Nat}(h:i<=n):dq (i:Int) (n:Int) n=true:=by
 simp only[dq,Qm,Qi];omega
theorem ky{bytes n:Nat}(h:bytes<=200)(hn:n<=1000000):bp bytes n=true:=
 bz ⟨QK (Nat.mul_le_mul hn h) (by decide),hn⟩
theorem XM{α ρ:Type}(l:List α)(hl:l.length<=1000000)(P:α->Bool){step:Int×Unit->Option ((Int×Unit)⊕ρ)}{r:Nat->Option ρ}
  (h1:∀(i:Nat) (y:α),l[i]?=some y->decide ((i:Int)<((l.length:Nat):Int))=true->idx l (i:Int)=some y->P y=true->ay .i64 (i:Int) 1=((i+1:Nat):Int)->step ((i:Int),())=some (.inl (((i+1:Nat):Int),())))
  (h2:∀(i:Nat) (y:α),l[i]?=some y->decide ((i:Int)<((l.length:Nat):Int))=true->idx l (i:Int)=some y->P y=false->step ((i:Int),())=Option.map Sum.inr (r i))
  (h3:decide (((l.length:Nat):Int)<((l.length:Nat):Int))=false->step (((l.length:Nat):Int),())=Option.map Sum.inr (r l.length)):
  ∃i,i<=l.length/\(∀j,j<i->∃y,l[j]?=some y/\P y=true)/\(∀y,l[i]?=some y->P y=false)/\aA step ((0:Int),())=r i:=by
 suffices key:∀(k i:Nat),i+k=l.length->(∀j,j<i->∃y,l[j]?=some y/\P y=true)->∃m,m<=l.length/\(∀j,j<m->∃y,l[j]?=some y/\P y=true)/\(∀y,l[m]?=some y->P y=false)/\aA step ((i:Int),())=r m from key l.length 0 (by omega) (fun j hj=>absurd hj (Nat.not_lt_zero _))
 intro k
 induction k with
 |zero=>
  intro i hi hj;obtain rfl:i=l.length:=by omega
  refine⟨l.length,QI _,hj,fun y hy=>by simp at hy,?_⟩
  rw[eO,h3 (Qh (Qq64 _))];cases r l.length<;>rfl
 |succ k ih=>
  intro i hi hj;have hx:l[i]?=some l[i]:=Qv (by omega)
  have hd:decide ((i:Int)<((l.length:Nat):Int))=true:=Qg (by omega)
  cases hP:P l[i]with
  |true=>
   rw[bd (h1 i _ hx hd (by rw[bh];exact hx) hP (bE (by omega) (by omega)))]
   refine ih (i+1) (by omega) fun j hj'=> ?_
   rcases Nat.lt_or_ge j i with h|h
   ·exact hj j h
   ·obtain rfl:j=i:=by omega
    exact⟨_,hx,hP⟩
  |false=>
   refine⟨i,by omega,hj,fun y hy=> ?_,?_⟩
   ·rw[hx]at hy;injection hy with hy
    rw[<-hy];exact hP
   ·rw[eO,h2 i _ hx hd (by rw[bh];exact hx) hP]
    cases r i<;>rfl
theorem GL{α ρ:Type}[DecidableEq α]{lt:α->α->Bool}(l:List α)(hl:l.length<=1000000)(x:α){step:Int×Unit->Option ((Int×Unit)⊕ρ)}{k:List α->Option ρ}
  (h1:∀(i:Nat) (y:α),decide ((i:Int)<((l.length:Nat):Int))=true->idx l (i:Int)=some y->lt y x=true->ay .i64 (i:Int) 1=((i+1:Nat):Int)->step ((i:Int),())=some (.inl (((i+1:Nat):Int),())))
  (h2:∀(i:Nat) (y:α),i<l.length->decide ((i:Int)<((l.length:Nat):Int))=true->decide ((i:Int)=((l.length:Nat):Int))=false->idx l (i:Int)=some y->lt y x=false->step ((i:Int),())=Option.map Sum.inr (k (if y=x then l else l.take i++x::l.drop i)))
  (h3:decide (((l.length:Nat):Int)<((l.length:Nat):Int))=false->decide (((l.length:Nat):Int)=((l.length:Nat):Int))=true->step (((l.length:Nat):Int),())=Option.map Sum.inr (k (l++[x]))):aA step ((0:Int),())=k (dD lt x l):=by
 obtain⟨i,hi,g1,g2,g3⟩:=XM l hl (fun y=>lt y x) (step:=step) (r:=fun i=>k (if l[i]?=some x then l else l.take i++x::l.drop i)) (fun i y hy hd hx hP hw=>h1 i y hd hx hP hw) (fun i y hy hd hx hP=>by
   have hlt:=(Qw.1 hy).1;rw[h2 i y hlt hd (Qh (by omega)) hx hP,hy]
   by_cases hyx:y=x
   ·simp[hyx]
   ·have:¬(some y=some x):=fun h=>hyx (by injection h)
    rw[Qs hyx,Qs this]) (fun hd=>by
   rw[h3 hd (Qg rfl),Qs (by simp),Qq62,Qq66])
 rw[g3,MN x l i g1 g2]
theorem aa1(l:List af)(hl:l.length<=900000)(b:af):ye l b=some (if aI b then l else dD (fun x y=>bx y x) b l):=by
 unfold ye;rw[cU,Qa]
 cases hz:aI b with
 |true=>rfl
 |false=>
  simp only[Ql,aP]
  have he:∀y:af,(decide (y.ae=b.ae)&&decide (y.Value=b.Value))=decide (y=b):=fun y=>by
   rw[QW];cases y;cases b;simp
  refine GL (lt:=fun x y=>bx y x) l (by omega) b (k:=fun t=>some t) (fun i y hd hx hlt hw=> ?_) (fun i y hi hd hde hx hlt=> ?_) (fun hd hde=> ?_)
  ·simp only[hd,hx,hw,Qk,Qa,jA,hlt]
  ·have e1:=tV l i;have e2:=yz l i;simp only[hd,hx,Qk,Qa,jA,hlt,Ql,zZ,e1,e2,Dy (show i<=l.length by omega),Dz (show i<=l.length by omega),he]
   rw[ky (by omega) (by simp;omega),ky (by omega) (by simp;omega),ky (by omega) (by simp;omega)]
   by_cases hyb:y=b<;>simp[hyb]
  ·have e1:=tV l l.length;have e2:=yz l l.length;simp only[hd,Ql,e1,e2,Dy (QI l.length),Dz (QI l.length),Qk];rw[ky (by omega) (by simp;omega),ky (by omega) (by simp;omega),ky (by omega) (by simp;omega)]
   simp
theorem CN{α σ ρ:Type}(l:List α)(hl:l.length<=1000000)(f:σ->α->σ)(Inv:Nat->σ->Prop){step:σ×Int×Unit->Option ((σ×Int×Unit)⊕ρ)}{fin:σ->Option ρ}
  (hI:∀i s x,x∈l->Inv i s->Inv (i+1) (f s x))
  (h1:∀(i:Nat) (x:α) (s:σ),Inv i s->i<=l.length->x∈l->decide ((i:Int)<((l.length:Nat):Int))=true->idx l (i:Int)=some x->ay .i64 (i:Int) 1=((i+1:Nat):Int)->step (s,(i:Int),())=some (.inl (f s x,((i+1:Nat):Int),())))
  (h2:∀s,decide (((l.length:Nat):Int)<((l.length:Nat):Int))=false->step (s,((l.length:Nat):Int),())=Option.map Sum.inr (fin s)) (s:σ) (hs:Inv 0 s):aA step (s,(0:Int),())=fin (l.foldl f s):=by
 suffices key:∀(k i:Nat) (s:σ),i+k=l.length->Inv i s->aA step (s,(i:Int),())=fin ((l.drop i).foldl f s)from key l.length 0 s (by omega) hs
 intro k
 induction k with
 |zero=>
  intro i s hi hs;obtain rfl:i=l.length:=by omega
  rw[eO,h2 s (Qh (Qq64 _)),Qq66,List.foldl_nil];cases fin s<;>rfl
 |succ k ih=>
  intro i s hi hs;have hlt:i<l.length:=by omega
  rw[bd (h1 i l[i] s hs (by omega) (Q0 hlt) (Qg (by omega)) (by rw[bh];exact Qv hlt) (bE (by omega) (by omega))),ih (i+1) _ (by omega) (hI i s _ (Q0 hlt) hs),QM hlt,QU]
 def sK(e:aj):List af:=if aX e then(if e.bL=1 then[e.aa,e.an,e.ax]else[e.an,at_ e 1000000])else[]
theorem Km{e:aj}{x:af}(hz:aI x=false):x∈sK e↔x∈said e:=by
 unfold sK said
 cases hv:aX e with
 |false=>simp
 |true=>
  by_cases k1:e.bL=1
  ·simp[k1]
  ·by_cases k2:e.bL=2
   ·simp[k2]
   ·have hp:aI e.an=true:=by
     unfold aX kp at hv;rw[Qm,Qs k1,Qs k2]at hv;have h:=hv.2
     by_cases k3:e.bL=3
     ·rw[Qr k3]at h;simp only[A6,Qm]at h;exact h.1.1.2
     ·rw[Qs k3]at h;cases h
    simp only[Qt,k1,k2,Qu,QA,QR,or_false];constructor
    ·rintro(h|h)
     ·rw[h,hp]at hz;cases hz
     ·exact h
    ·exact .inr
def uh(l:List af)(b:af):List af:=if aI b then l else dD (fun x y=>bx y x) b l
theorem II:∀(xs l:List af),xs.foldl uh l=(xs.filter fun b=> !aI b).foldl (fun l x=>dD (fun x y=>bx y x) x l) l
 |[],l=>rfl
 |x::xs,l=>by
  rw[QU,II xs,List.filter_cons];cases hz:aI x<;>simp[uh,hz]
theorem NV(l:List af)(b:af):(uh l b).length<=l.length+1:=by
 unfold uh;split
 ·omega
 ·exact tu b l
section
variable {l : List aj} (hl : ∀ e ∈ l, c5 e.ai) (hlen : l.length <= 1000)
 include hl hlen
theorem Ix:pF l=some (eI l):=by
 have hfold:∀xs:List af,xs.length<=3->∀s:List af,(xs.foldl uh s).length<=s.length+xs.length:=by
  intro xs _
  induction xs with
  |nil=>intro s;simp
  |cons x xs ih=>
   intro s;have:=ih (by simp at*;omega) (uh s x)
   have:=NV s x;rw[QU,QE];omega
 have hr3:∀e,(sK e).length<=3:=fun e=>by
  unfold sK;split
  ·split<;>simp
  ·simp
 have hF:pF l=some (l.foldl (fun s e=>(sK e).foldl uh s) []):=by
  unfold pF;refine CN l (by omega) (fun s e=>(sK e).foldl uh s) (fun i s=>s.length<=3*i) (fin:=fun s=>some s) (fun i s x _ hs=> ?_) (fun i e s hs hi he hd hx hw=> ?_) (fun s hd=> ?_) [] (by simp)
  ·have:=hfold (sK x) (hr3 x) s;have:=hr3 x;show(List.foldl uh s (sK x)).length<=3*(i+1);omega
  ·simp only[hd,hx,hw,Qk,aP,Qa,etas,mn (hl e he)]
   have inner:∀L:List af,L.length<=3->aA (fun(v8:(List af)×Int×Unit)=>
     bif (decide (v8.2.1<((List.length L:Nat):Int)))then Option.bind (idx L v8.2.1) fun x9=>Option.bind (ye v8.1 x9) fun r10=>some (Sum.inl (r10,(ay .i64 v8.2.1 (1:Int)),()))
     else Option.map Sum.inr (some (Sum.inl (v8.1,((i+1:Nat):Int),()):((List af)×Int×Unit)⊕(List af)))) (s,(0:Int),())=some (Sum.inl (L.foldl uh s,((i+1:Nat):Int),())):=by
    intro L hL;refine CN L (by omega) uh (fun k t=>t.length<=s.length+k) (fin:=fun t=>some (Sum.inl (t,((i+1:Nat):Int),()))) (fun k t x _ ht=> ?_) (fun k x t ht hk hx' hd' hxx hw'=> ?_) (fun t hd'=> ?_) s (by simp)
    ·have:=NV t x;omega
    ·simp only[hd',hxx,hw',Qk,Qa,aa1 t (by omega)]
     rfl
    ·simp only[hd',Ql]
   cases hv:aX e with
   |false=>simp[sK,hv]
   |true=>
    by_cases k1:e.bL=1
    ·have i3:=inner [e.aa,e.an,e.ax] (by simp)
     simp only[Qo,Ql,k1,decide_true,i3,sK,hv,Qt]
    ·have i2:=inner [e.an,⟨1000000,e.aa.Value⟩] (by simp)
     simp only[Qo,Qp,Ql,Qk,k1,decide_false,i2,sK,hv,Qt,Qu,at_]
  ·simp only[hd,Ql]
 obtain⟨_,h2,_,h4⟩:=mg hl hlen;have hflat:l.foldl (fun s e=>(sK e).foldl uh s) []=(l.flatMap sK).foldl uh []:=by rw[List.foldl_flatMap]
 rw[hF,hflat,II];obtain⟨h5,h6⟩:=zW zm.flip ((l.flatMap sK).filter fun b=> !aI b) [] .nil
 congr 1;refine zm.flip.unique h5 h2 fun x=> ?_
 rw[h6,h4];simp only[List.mem_filter,QQ,QR,or_false,Bool.not_eq_true'];constructor
 ·rintro⟨⟨e,he,hx⟩,hz⟩;exact⟨e,he,(Km hz).1 hx,hz⟩
 ·rintro⟨e,he,hx,hz⟩;exact⟨⟨e,he,(Km hz).2 hx⟩,hz⟩
end
section
variable {l : List aj} (hl : ∀ e ∈ l, c5 e.ai) (hlen : l.length <= 1000)
 include hl hlen
theorem Ux:uB l=some (fU l):=by
 have hF:uB l=some (l.foldl (fun s e=>if aX e then dD bH e.aa.Value s else s) []):=by
  unfold uB;refine CN l (by omega) (fun s e=>if aX e then dD bH e.aa.Value s else s) (fun i s=>s.length<=i) (fin:=fun s=>some s) (fun i s x _ hs=> ?_) (fun i e s hs hi he hd hx hw=> ?_) (fun s hd=> ?_) [] (by simp)
  ·show(if aX x then dD bH x.aa.Value s else s).length<=i+1
   have:=tu (lt:=bH) x.aa.Value s;split<;>omega
  ·simp only[hd,hx,hw,Qk,aP,Qa,etas,mn (hl e he)]
   cases hv:aX e with
   |false=>simp
   |true=>
    simp only[Qo,Ql,Qt];refine GL (lt:=bH) s (by omega) e.aa.Value (k:=fun t=>some (Sum.inl (t,((i+1:Nat):Int),()))) (fun j y hd' hx' hlt hw'=> ?_) (fun j y hj hd' hde hx' hlt=> ?_) (fun hd' hde=> ?_)
    ·simp only[hd',hx',hw',Qk,Qa,yf,hlt]
    ·have e1:=tV s j;have e2:=yz s j;simp only[hd',hx',hde,Qk,Ql,Qa,yf,hlt,e1,e2,Dy (show j<=s.length by omega),Dz (show j<=s.length by omega)]
     rw[ky (by omega) (by simp;omega),ky (by omega) (by simp;omega),ky (by omega) (by simp;omega)]
     by_cases hyx:y=e.aa.Value<;>simp[hyx]
    ·have e1:=tV s s.length;have e2:=yz s s.length;simp only[hd',Qk,Ql,e1,e2,Dy (QI s.length),Dz (QI s.length)];rw[ky (by omega) (by simp;omega),ky (by omega) (by simp;omega),ky (by omega) (by simp;omega)]
     simp
  ·simp only[hd,Ql]
 obtain⟨_,h2,_,h4⟩:=rj hl hlen
 have hflat:l.foldl (fun s e=>if aX e then dD bH e.aa.Value s else s) []=(l.flatMap fun e=>if aX e then[e.aa.Value]else[]).foldl (fun l x=>dD bH x l) []:=by
  rw[List.foldl_flatMap];congr 1
  funext s e
  split<;>rfl
 rw[hF,hflat];obtain⟨h5,h6⟩:=zW gX (l.flatMap fun e=>if aX e then[e.aa.Value]else[]) [] .nil
 congr 1;refine gX.unique h5 h2 fun x=> ?_
 rw[h6,h4];simp only[QQ,QR,or_false];constructor
 ·rintro⟨e,he,hx⟩;split at hx
  ·rename_i hv;exact⟨e,he,hv,by simpa using hx⟩
  ·cases hx
 ·rintro⟨e,he,hv,hx⟩;exact⟨e,he,by rw[Qr hv];simpa using hx⟩
theorem xp(v:ByteArray):kC l v=some (br l v):=by
 have hF:kC l v=some (l.foldl (fun s e=>if iy v e then dD (fun a b=>decide (a<b)) e.bn (dD (fun a b=>decide (a<b)) e.aS s)else s) []):=by
  unfold kC;refine CN l (by omega) (fun s e=>if iy v e then dD (fun a b=>decide (a<b)) e.bn (dD (fun a b=>decide (a<b)) e.aS s)else s) (fun i s=>s.length<=2*i) (fin:=fun s=>some s) (fun i s x _ hs=> ?_) (fun i e s hs hi he hd hx hw=> ?_) (fun s hd=> ?_) [] (by simp)
  ·show(if iy v x then dD (fun a b=>decide (a<b)) x.bn (dD (fun a b=>decide (a<b)) x.aS s)else s).length<=2*(i+1)
   have h1:=tu (lt:=fun a b:Int=>decide (a<b)) x.aS s
   have h2:=tu (lt:=fun a b:Int=>decide (a<b)) x.bn (dD (fun a b=>decide (a<b)) x.aS s)
   split<;>omega
  ·simp only[hd,hx,hw,Qk,aP,Qa,etas,mn (hl e he)]
   have inner:∀(t:List Int) (x:Int) (z:Int),t.length<=3000->aA (fun(v12:Int×Unit)=>
     Option.bind (bif (decide (v12.1<((List.length t:Nat):Int)))then Option.bind (idx t v12.1) fun x13=>some (decide (x13<x))else some false) fun b14=>
     bif b14 then some (Sum.inl ((ay .i64 v12.1 (1:Int)),()))else
     Option.map Sum.inr (Option.bind (bif (decide (v12.1=((List.length t:Nat):Int)))then some true else Option.bind (idx t v12.1) fun x15=>some (!decide (x15=x))) fun b16=>
     bif b16 then
     bif dq (0:Int) v12.1 (List.length t)then
     bif bp 8 (List.length ((t.take (Int.toNat v12.1)).drop (Int.toNat (0:Int))))then
     bif bp 8 (List.length ((t.take (Int.toNat v12.1)).drop (Int.toNat (0:Int)))+List.length [x])then
     bif dq v12.1 (t.length:Int) (List.length t)then
     bif bp 8 (List.length (((t.take (Int.toNat v12.1)).drop (Int.toNat (0:Int)))++[x])+List.length ((t.take (Int.toNat (t.length:Int))).drop (Int.toNat v12.1)))then
     some (Sum.inl (((((t.take (Int.toNat v12.1)).drop (Int.toNat (0:Int)))++[x])++((t.take (Int.toNat (t.length:Int))).drop (Int.toNat v12.1))),z,()):((List Int)×Int×Unit)⊕(((List Int)×Int×Unit)⊕(List Int)))
     else none else none else none else none else none
     else some (Sum.inl (t,z,())))) ((0:Int),())=some (Sum.inl (dD (fun a b=>decide (a<b)) x t,z,())):=by
    intro t x z ht;refine GL (lt:=fun a b:Int=>decide (a<b)) t (by omega) x (k:=fun t=>some (Sum.inl (t,z,()))) (fun j y hd' hx' hlt hw'=> ?_) (fun j y hj hd' hde hx' hlt=> ?_) (fun hd' hde=> ?_)
    ·simp only[hd',hx',hw',Qk,Qa,hlt]
    ·have e1:=tV t j;have e2:=yz t j;simp only[hd',hx',hde,Qk,Ql,Qa,hlt,e1,e2,Dy (show j<=t.length by omega),Dz (show j<=t.length by omega)]
     rw[ky (by omega) (by simp;omega),ky (by omega) (by simp;omega),ky (by omega) (by simp;omega)]
     by_cases hyx:y=x<;>simp[hyx]
    ·have e1:=tV t t.length;have e2:=yz t t.length;simp only[hd',Qk,Ql,Qa,e1,e2,Dy (QI t.length),Dz (QI t.length)];rw[ky (by omega) (by simp;omega),ky (by omega) (by simp;omega),ky (by omega) (by simp;omega)]
     simp
   have hw1:ay .i64 (0:Int) 1=1:=rfl;have hw2:ay .i64 (1:Int) 1=2:=rfl;have hd0:decide ((0:Int)<2)=true:=rfl;have hd1:decide ((1:Int)<2)=true:=rfl;have hd2:decide ((2:Int)<2)=false:=rfl;have hx0:idx [e.aS,e.bn] 0=some e.aS:=rfl;have hx1:idx [e.aS,e.bn] 1=some e.bn:=rfl;have hl1:=tu (lt:=fun a b:Int=>decide (a<b)) e.aS s
   unfold iy
   cases hv:aX e with
   |false=>simp
   |true=>
    by_cases hvv:e.aa.Value=v
    ·by_cases hlo:e.aS=0
     ·simp[hvv,hlo]
     ·simp only[Qo,Ql,hvv,decide_true,hlo,decide_false,Bool.and_self,Qp,Qa,Qt];refine(bd (s':=(dD (fun a b=>decide (a<b)) e.aS s,(1:Int),())) ?_).trans ((bd (s':=(dD (fun a b=>decide (a<b)) e.bn (dD (fun a b=>decide (a<b)) e.aS s),(2:Int),())) ?_).trans (bw ?_))
      ·simp only[hd0,hx0,hw1,Qk,Qa];exact inner s e.aS 1 (by omega)
      ·simp only[hd1,hx1,hw2,Qk,Qa];exact inner _ e.bn 2 (by omega)
      ·simp only[hd2,Ql,Qe]
    ·simp[hvv]
  ·simp only[hd,Ql]
 obtain⟨_,h2,_,h4⟩:=iG hl hlen v
 have hflat:l.foldl (fun s e=>if iy v e then dD (fun a b=>decide (a<b)) e.bn (dD (fun a b=>decide (a<b)) e.aS s)else s) []=(ends v l).foldl (fun l x=>dD (fun a b=>decide (a<b)) x l) []:=by
  rw[ends,List.foldl_flatMap];congr 1
  funext s e
  split<;>rfl
 rw[hF,hflat];obtain⟨h5,h6⟩:=zW Bf (ends v l) [] .nil;congr 1;refine Bf.unique h5 (h2.imp fun h=>Qg h) fun x=> ?_
 rw[h6,h4];simp
end
end
section
theorem kinds{e:aj}(hv:aX e=true):e.bL=1\/e.bL=2\/e.bL=3:=by
 unfold aX kp at hv;rw[Qm]at hv;have h:=hv.2
 by_cases k1:e.bL=1
 ·exact .inl k1
 ·by_cases k2:e.bL=2
  ·exact .inr (.inl k2)
  ·by_cases k3:e.bL=3
   ·exact .inr (.inr k3)
   ·rw[Qs k1,Qs k2,Qs k3]at h;cases h
theorem Uv{e:aj}(h:c5 e.ai)(b:af):rM e b=some (aX e&&o7 e b):=by
 simp only[rM,etas,mn h,Qa,cU,gC,AI]
 cases hv:aX e with
 |false=>simp
 |true=>
  cases hz:aI b with
  |true=>simp[o7,hz]
  |false=>by_cases k1:e.bL=1<;>simp[o7,hz,k1]
theorem PB{e:aj}(h:c5 e.ai)(v:ByteArray)(lo hi:Int):qQ e v lo hi=some (aX e&&fE e v lo hi):=by
 simp only[qQ,etas,mn h,Qa,kW,fE,HJ]
 cases hv:aX e with
 |false=>simp
 |true=>
  have hk:=kinds hv
  by_cases a1:lo<1<;>by_cases a2:hi<lo<;>by_cases a3:e.aa.Value=v<;>by_cases a4:lo<e.aS<;>by_cases k1:e.bL=1<;>by_cases k3:e.bL=3<;>simp_all<;>grind
theorem Uw{e:aj}(h:c5 e.ai)(v:ByteArray)(lo hi:Int):sE e v lo hi=some (aX e&&rU e v lo hi):=by
 simp only[sE,etas,mn h,Qa,kW,rU,HJ]
 cases hv:aX e with
 |false=>simp
 |true=>
  have hl:=aaU hv
  by_cases a1:lo<1<;>by_cases a2:hi<lo<;>by_cases a3:e.aa.Value=v<;>by_cases a4:lo<e.aS<;>by_cases k1:e.bL=1<;>by_cases a5:e.aS=0<;>simp_all<;>grind
theorem u0(p:aj->Bool):∀l:List aj,c8 (fun e=>aX e&&p e) l=c8 p (bU l)
 |[]=>rfl
 |e::l=>by
  have ih:=u0 p l;rw[c8,ih];cases hv:aX e<;>simp[bU,hv,c8]
theorem wJ(l:List aj)(hlen:l.length<=1000)(p:aj->Bool)(hp:∀e∈l,p e=true->0<=e.aq/\e.aq<10):fQ l (l.map p)=some ((c8 p l:Nat):Int):=by
 unfold fQ
 suffices key:∀(k i s:Nat),i+k=l.length->s<1024->aA _ ((s:Int),(i:Int),())=some ((s|||c8 p (l.drop i):Nat):Int)by
  have:=key l.length 0 0 (by omega) (by omega)
  rw[Nat.zero_or,List.drop_zero]at this;exact this
 intro k
 induction k with
 |zero=>
  intro i s hi hs;obtain rfl:i=l.length:=by omega
  have hd:decide (((l.length:Nat):Int)<((l.length:Nat):Int))=false:=Qh (Qq64 _);rw[bw (r:=(s:Int)) (by simp only[hd,Ql,Qe]),Qq66,c8]
  simp
 |succ k ih=>
  intro i s hi hs;have hlt:i<l.length:=by omega
  have hd:decide ((i:Int)<((l.length:Nat):Int))=true:=Qg (by omega)
  have hd2:decide ((i:Int)<(((l.map p).length:Nat):Int))=true:=Qg (by rw[QC];omega)
  have hw:ay .i64 (i:Int) 1=((i+1:Nat):Int):=bE (by omega) (by omega)
  have hx:idx l (i:Int)=some l[i]:=by rw[bh];exact Qv hlt
  have hx2:idx (l.map p) (i:Int)=some (p l[i]):=by rw[bh,QT,Qv hlt];rfl
  rw[QM hlt,c8]
  cases hpe:p l[i]with
  |false=>
   rw[bd (s':=((s:Int),((i+1:Nat):Int),())) (by simp only[hd,hd2,hx,hx2,hw,hpe,Qk,Ql,aP,Qa]),ih (i+1) s (by omega) hs]
   simp
  |true=>
   obtain⟨h0,h1⟩:=hp _ (Q0 hlt) hpe
   have hc:bq .u64 l[i].aq=l[i].aq:=by
    obtain⟨n,hn⟩:∃n:Nat,l[i].aq=n:=⟨l[i].aq.toNat,by omega⟩
    rw[hn];exact Vk (by omega)
   have hn0:¬l[i].aq<0:=by omega
   have d1:decide ((0:Int)<=l[i].aq)=true:=Qg h0;have d2:decide (l[i].aq<=(9:Int))=true:=Qg (by omega)
   rw[bd (s':=(((s|||2 ^ l[i].aq.toNat:Nat):Int),((i+1:Nat):Int),())) (by
    simp only[hd,hd2,hx,hx2,hw,hpe,Qk,aP,Qa,d1,d2,hc,hn0,Qu]
    rw[mL hs h0 h1]),ih (i+1) _ (by omega) (zp hs h1)]
   simp[Nat.or_assoc]
theorem O8{ρ:Type}(l:List aj)(hl:l.length<=1000)(p q:aj->Bool){step:Int×List Bool×List Bool×Unit->Option ((Int×List Bool×List Bool×Unit)⊕ρ)}{fin:List Bool->List Bool->Option ρ}
  (h1:∀(i:Nat) (e:aj) (vs as_:List Bool),e∈l->decide ((i:Int)<((l.length:Nat):Int))=true->idx l (i:Int)=some e->ay .i64 (i:Int) 1=((i+1:Nat):Int)->(∀x:Bool,bp 1 (vs.length+[x].length)=true)->(∀x:Bool,bp 1 (as_.length+[x].length)=true)->step ((i:Int),vs,as_,())=some (.inl (((i+1:Nat):Int),vs++[p e],as_++[q e],())))
  (h2:∀vs as_,decide (((l.length:Nat):Int)<((l.length:Nat):Int))=false->step (((l.length:Nat):Int),vs,as_,())=Option.map Sum.inr (fin vs as_)):aA step ((0:Int),[],[],())=fin (l.map p) (l.map q):=by
 suffices key:∀(k i:Nat),i+k=l.length->aA step ((i:Int),(l.take i).map p,(l.take i).map q,())=fin (l.map p) (l.map q)from key l.length 0 (by omega)
 intro k
 induction k with
 |zero=>
  intro i hi;obtain rfl:i=l.length:=by omega
  rw[eO,h2 _ _ (Qh (Qq64 _)),Qq62];cases fin (l.map p) (l.map q)<;>rfl
 |succ k ih=>
  intro i hi;have hlt:i<l.length:=by omega
  rw[bd (h1 i l[i] _ _ (Q0 hlt) (Qg (by omega)) (by rw[bh];exact Qv hlt) (bE (by omega) (by omega)) (fun x=>ky (by omega) (by simp;omega)) (fun x=>ky (by omega) (by simp;omega))),<-ih (i+1) (by omega),Q7 hlt,List.map_append,List.map_append]
  rfl
theorem Ec{p:aj->Bool}{l:List aj}:∀e∈l,(aX e&&p e)=true->0<=e.aq/\e.aq<10:=fun e _ h=>by
 rw[Qm]at h;exact gy h.1
section
variable {l : List aj} (hl : ∀ e ∈ l, c5 e.ai) (hlen : l.length <= 1000)
 include hl hlen
theorem Nj(b:af):yd l b=some (((c8 (fun e=>o7 e b||df e b) (bU l):Nat):Int),((c8 (df · b) (bU l):Nat):Int),()):=by
 unfold yd;refine(O8 l hlen (fun e=>aX e&&(o7 e b||df e b)) (fun e=>aX e&&df e b) (fin:=fun vs as_=>Option.bind (fQ l vs) fun r6=>Option.bind (fQ l as_) fun r7=>some (r6,r7,())) (fun i e vs as_ he hd hx hw o1 o2=> ?_) (fun vs as_ hd=> ?_)).trans ?_
 ·simp only[hd,hx,hw,Qk,Qa,etas,PA (hl e he),Uv (hl e he),kW,o1,o2];cases aX e<;>cases o7 e b<;>cases df e b<;>rfl
 ·simp only[hd,Ql]
 ·rw[wJ l hlen _ Ec,wJ l hlen _ Ec,Qa,Qa,u0,u0]
theorem Ni(v:ByteArray)(lo hi:Int):ya l v lo hi=some (((c8 (fun e=>rU e v lo hi||fE e v lo hi) (bU l):Nat):Int),((c8 (fE · v lo hi) (bU l):Nat):Int),()):=by
 unfold ya;refine(O8 l hlen (fun e=>aX e&&(rU e v lo hi||fE e v lo hi)) (fun e=>aX e&&fE e v lo hi) (fin:=fun vs as_=>Option.bind (fQ l vs) fun r6=>Option.bind (fQ l as_) fun r7=>some (r6,r7,())) (fun i e vs as_ he hd hx hw o1 o2=> ?_) (fun vs as_ hd=> ?_)).trans ?_
 ·simp only[hd,hx,hw,Qk,Qa,etas,PB (hl e he),Uw (hl e he),kW,o1,o2];cases aX e<;>cases rU e v lo hi<;>cases fE e v lo hi<;>rfl
 ·simp only[hd,Ql]
 ·rw[wJ l hlen _ Ec,wJ l hlen _ Ec,Qa,Qa,u0,u0]
end
theorem tZ{c:aU}(hc:xU c){v a b:Nat}(hv:v<10)(h1:a<1024)(h2:b<1024):pH c v a b=some (jT c.bj v a b):=by
 unfold pH jT;have h3:a|||b<1024:=Nat.or_lt_two_pow (n:=10) h1 h2
 rw[vd h1,vd h2,Kw hc h2,DG a b (by omega) (by omega),xo hc h3]
 simp[rA (xM hc h3).lt,wE,hv]
theorem sL{c:aU}(hc:xU c){v b:Nat}(hv:v<10)(h2:b<1024):iT c v b=some ((gq c.bj b).testBit v):=by
 unfold iT;rw[xo hc h2];simp[rA (xM hc h2).lt,wE,hv]
end
section
theorem Ke{c:aU}{aC:Int}{l:List aj}(hlen:l.length<=100000)(b:af):gY ⟨aC,c,(bU l).map bC.mk⟩ b=gg c aC ((c8 (fun e=>o7 e b||df e b) (bU l):Nat):Int) ((c8 (df · b) (bU l):Nat):Int):=by
 have hrl:=AO l;have hin:=mm l;simp only[gY,nC,kg,Qa,Option.bind_fun_some,VD (by omega:(bU l).length<=1000000) hin,IV (by omega:(bU l).length<=1000000) hin]
theorem I6{c:aU}{aC:Int}{l:List aj}(hlen:l.length<=100000)(b:af):eY ⟨aC,c,(bU l).map bC.mk⟩ b=ec c aC ((c8 (df · b) (bU l):Nat):Int):=by
 have hrl:=AO l;have hin:=mm l;simp only[eY,Qa,Option.bind_fun_some,IV (by omega:(bU l).length<=1000000) hin]
theorem V6(b:af):qP b=some (qD b):=LB b
def vJ(x:af->Bool)(p q:af)(v:ByteArray)(b:af):Bool:=(decide (v=fD)||decide (b.Value=v))&& !dK (qD p) (qD q) b&&x b
def vK(y:af->Bool)(a b:af):Bool:=bx a b&&decide (b.ae<=1000)&&y b
section
variable {aC : Int} {t : al} {l : List aj} (hl : oO l) (hlen : l.length <= 1000) {c : aU} {x y : af -> Bool}
 include hl hlen
theorem aaT(hL:eZ aC t l=some ⟨aC,c,(bU l).map bC.mk⟩)(hx:∀b,gY ⟨aC,c,(bU l).map bC.mk⟩ b=some (x b))(p q:af)(v:ByteArray):ob aC t l p q v=some (((eI l).find? (vJ x p q v)).getD yp):=by
 obtain⟨h1,_,h3,_⟩:=mg hl.aM hlen;unfold ob;simp only[etas,hL,h1,Qa];refine AZ (eI l) (by omega) (fun i=>(i,af.mk (0:Int) (ByteArray.mk #[]),())) (vJ x p q v) yp (fun i b hd hx' hw=> ?_) (fun hd=> ?_)
 ·simp only[hd,hx',hw,Qk,aP,Qa,LB,q7,hx];unfold vJ fD;cases decide (v=ByteArray.mk #[])<;>cases decide (b.Value=v)<;>cases dK (qD p) (qD q) b<;>cases x b<;>simp
 ·simp only[hd,Ql,Qe];rfl
theorem XZ(hx:∀b,sP aC t l b=some (x b))(p q:af)(v:ByteArray):tK aC t l p q v=some (((eI l).find? (vJ x p q v)).getD yp):=by
 obtain⟨h1,_,h3,_⟩:=mg hl.aM hlen;unfold tK;simp only[etas,Ix hl.aM hlen,Qa];refine AZ (eI l) (by omega) (fun i=>(i,af.mk (0:Int) (ByteArray.mk #[]),())) (vJ x p q v) yp (fun i b hd hx' hw=> ?_) (fun hd=> ?_)
 ·simp only[hd,hx',hw,Qk,aP,Qa,V6,sF,hx];unfold vJ fD;cases decide (v=ByteArray.mk #[])<;>cases decide (b.Value=v)<;>cases dK (qD p) (qD q) b<;>cases x b<;>simp
 ·simp only[hd,Ql,Qe];rfl
theorem aa3(hL:eZ aC t l=some ⟨aC,c,(bU l).map bC.mk⟩)(hy:∀b,eY ⟨aC,c,(bU l).map bC.mk⟩ b=some (y b))(a:af):ll aC t l a=some (((eI l).find? (vK y a)).getD yp):=by
 obtain⟨h1,_,h3,_⟩:=mg hl.aM hlen;unfold ll;simp only[etas,hL,h1,Qa];refine AZ (eI l) (by omega) (fun i=>(i,af.mk (0:Int) (ByteArray.mk #[]),())) (vK y a) yp (fun i b hd hx' hw=> ?_) (fun hd=> ?_)
 ·simp only[hd,hx',hw,Qk,aP,Qa,jv,nC,hy];unfold vK;cases bx a b<;>cases decide (b.ae<=1000)<;>cases y b<;>simp
 ·simp only[hd,Ql,Qe];rfl
theorem X0(hy:∀b,rL aC t l b=some (y b))(a:af):pE aC t l a=some (((eI l).find? (vK y a)).getD yp):=by
 obtain⟨h1,_,h3,_⟩:=mg hl.aM hlen;unfold pE;simp only[etas,Ix hl.aM hlen,Qa];refine AZ (eI l) (by omega) (fun i=>(i,af.mk (0:Int) (ByteArray.mk #[]),())) (vK y a) yp (fun i b hd hx' hw=> ?_) (fun hd=> ?_)
 ·simp only[hd,hx',hw,Qk,Qa,jA,hy];unfold vK;cases bx a b<;>cases decide (b.ae<=1000)<;>cases y b<;>simp
 ·simp only[hd,Ql,Qe];rfl
end
end
section
def kI{A ρ:Type}(g:A->Int->A⊕ρ)(fin:A->Option ρ):List Int->A->Option ρ
 |[],a=>fin a
 |x::l,a=>match g a x with
  | .inl a'=>kI g fin l a'
  | .inr r=>some r
theorem xu{A σ ρ:Type}(b:List Int)(hb:b.length<=1000000)(st:A->Int->σ)(g:A->Int->A⊕ρ)(fin:A->Option ρ){step:σ->Option (σ⊕ρ)}
  (h1:∀(i:Nat) (x:Int) (a:A),idx b (i:Int)=some x->decide ((0:Int)<=(i:Int))=true->dm .i64 (i:Int) 1=(i:Int) - 1->step (st a (i:Int))=some (match g a x with| .inl a'=> .inl (st a' ((i:Int) - 1))| .inr r=> .inr r))
  (h2:∀a,decide ((0:Int)<=(-1:Int))=false->step (st a (-1))=Option.map Sum.inr (fin a)):∀n:Nat,n<=b.length->∀a:A,aA step (st a ((n:Int) - 1))=kI g fin (b.take n).reverse a
 |0,_,a=>by
  rw[show((0:Nat):Int) - 1= -1 by omega,eO,h2 a rfl,List.take_zero,List.reverse_nil,kI]
  cases fin a<;>rfl
 |n+1,hn,a=>by
  have hlt:n<b.length:=by omega
  have hs:=h1 n b[n] a (by rw[bh];exact Qv hlt) (Qg (by omega)) (rl (by omega) (by omega))
  rw[show((n+1:Nat):Int) - 1=(n:Int)by omega,Q7 hlt,List.reverse_append,List.reverse_singleton,List.singleton_append,kI]
  cases hg:g a b[n]with
  |inl a'=>rw[hg]at hs;rw[bd hs,xu b hb st g fin h1 h2 n (by omega) a']
  |inr r=>rw[hg]at hs;rw[bw hs]
theorem Hn(b:List Int)(hb:b.length<=1000000):dm .i64 ((b.length:Nat):Int) 1=((b.length:Nat):Int) - 1:=rl (by omega) (by omega)
theorem Cy{ρ:Type}(q:Int->Bool)(f:Int->ρ):∀(l:List Int) (lo:Int),kI (fun lo x=>if lo<=x then .inl lo else if q x then .inl x else .inr (f lo)) (fun lo=>some (f lo)) l lo=some (f (cz q l lo))
 |[],lo=>rfl
 |x::l,lo=>by
  rw[kI,cz]
  by_cases h1:lo<=x
  ·rw[Qr h1,Qr h1];exact Cy q f l lo
  ·rw[Qs h1,Qs h1]
   cases hq:q x with
   |true=>rw[Qr rfl,Qr rfl];exact Cy q f l x
   |false=>rw[Qs (by simp),Qs (by simp)]
theorem Nr{A ρ:Type}(s:A)(c p:Int->Bool)(f:Int->ρ)(d:ρ)(g:A->Int->A⊕ρ)(fin:A->Option ρ)(hg:∀z,g s z=if c z then(if p z then .inr (f z)else .inl s)else .inr d)(hfin:fin s=some d)(hc:∀a b,b<a->c b=true->c a=true):
  ∀r:List Int,r.Pairwise (fun a b=>b<a)->kI g fin r s=some (match r.find? (fun n=>c n&&p n)with|some n=>f n|none=>d)
 |[],_=>hfin
 |z::r,h=>by
  rw[kI,hg,List.find?_cons];rw[Q4]at h
  cases hz:c z with
  |false=>
   have:r.find? (fun n=>c n&&p n)=none:=by
    rw[List.find?_eq_none];intro n hn hcn;rw[Qm]at hcn;rw[hc z n (h.1 n hn) hcn.1]at hz;cases hz
   simp[this]
  |true=>
   cases hp:p z with
   |true=>simp
   |false=>
    simp only[Qt,Bool.true_and];exact Nr s c p f d g fin hg hfin hc r h.2
theorem Kk{ρ:Type}(q:Int->Bool)(f:Int->ρ):∀(r:List Int) (lo:Int),(∀z∈r,z<lo)->r.Pairwise (fun a b=>b<a)->kI (fun lo z=>if q z then .inl z else .inr (f lo)) (fun lo=>some (f lo)) r lo=some (f (cz q r lo))
 |[],lo,_,_=>rfl
 |z::r,lo,h,hs=>by
  rw[Q4]at hs;have hz:=h z (by simp)
  have h0:¬lo<=z:=by omega
  rw[kI,cz,Qs h0]
  cases hq:q z with
  |true=>rw[Qr rfl,Qr rfl];exact Kk q f r z hs.1 hs.2
  |false=>rw[Qs (by simp),Qs (by simp)]
theorem Lw{α B ρ:Type}(l:List α)(hl:l.length<=1000000)(f:B->α->B){step:Int×B×Unit->Option ((Int×B×Unit)⊕ρ)}{fin:B->Option ρ}
  (h1:∀(i:Nat) (x:α) (b:B),x∈l->decide ((i:Int)<((l.length:Nat):Int))=true->idx l (i:Int)=some x->ay .i64 (i:Int) 1=((i+1:Nat):Int)->step ((i:Int),b,())=some (.inl (((i+1:Nat):Int),f b x,())))
  (h2:∀b,decide (((l.length:Nat):Int)<((l.length:Nat):Int))=false->step (((l.length:Nat):Int),b,())=Option.map Sum.inr (fin b)) (b:B):aA step ((0:Int),b,())=fin (l.foldl f b):=by
 suffices key:∀(k i:Nat) (b:B),i+k=l.length->aA step ((i:Int),b,())=fin ((l.drop i).foldl f b)from key l.length 0 b (by omega)
 intro k
 induction k with
 |zero=>
  intro i b hi;obtain rfl:i=l.length:=by omega
  rw[eO,h2 b (Qh (Qq64 _)),Qq66,List.foldl_nil];cases fin b<;>rfl
 |succ k ih=>
  intro i b hi;have hlt:i<l.length:=by omega
  rw[bd (h1 i l[i] b (Q0 hlt) (Qg (by omega)) (by rw[bh];exact Qv hlt) (bE (by omega) (by omega))),ih (i+1) _ (by omega),QM hlt,QU]
theorem IN(q:Int->Bool):∀(l r:List Int) (lo:Int),(∀x∈l,lo<=x)->cz q (l++r) lo=cz q r lo
 |[],r,lo,_=>rfl
 |x::l,r,lo,h=>by
  rw[List.cons_append,cz,Qr (h x (by simp))]
  exact IN q l r lo fun y hy=>h y (by simp[hy])
theorem E8(q:Int->Bool):∀(r:List Int) (lo:Int),(∀x∈r,0<=x/\x<=1000000)->0<=lo/\lo<=1000000->0<=cz q r lo/\cz q r lo<=1000000
 |[],lo,_,h=>h
 |x::r,lo,hx,h=>by
  rw[cz];split
  ·exact E8 q r lo (fun y hy=>hx y (by simp[hy])) h
  ·split
   ·exact E8 q r x (fun y hy=>hx y (by simp[hy])) (hx x (by simp))
   ·exact h
 def fJ(x:ByteArray->Int->Int->Bool)(p q:af)(v:ByteArray)(s:Bool×af)(n:Int):Bool×af:=
 if bx s.2 ⟨n,v⟩&& !my p q v n&&x v n n then(true,⟨n,v⟩)else s
 def gJ(x:ByteArray->Int->Int->Bool)(l:List aj)(p q:af):Bool×af:=
 (fU l).foldl (fun s v=>(br l v).foldl (fJ x p q v) s) (false,⟨0,fD⟩)
 def ou(x:ByteArray->Int->Int->Bool)(l:List aj)(p q:af)(s:Bool×af):ByteArray×Int×Int×Bool×Unit:=
 if s.1 then(s.2.Value,cz (fun n=> !my p q s.2.Value n&&x s.2.Value n s.2.ae) (br l s.2.Value).reverse s.2.ae,s.2.ae,true,())else(fD,0,0,false,())
section
variable {S : gk} {x y : ByteArray -> Int -> Int -> Bool} (hx : ∀ v lo hi, iq S v lo hi = some (x v lo hi)) (hy : ∀ v lo hi, nm S v lo hi = some (y v lo hi))
section
 include hx
theorem YL(b:List Int)(lo:Int)(p q z:af):jD b lo p q z S=some (cz (fun n=> !my p q z.Value n&&x z.Value n z.ae) b.reverse lo):=by
 have:=Bo (p:=fun e=>na e p q z S) (q:=fun n=> !my p q z.Value n&&x z.Value n z.ae) (fun e=>by
  simp only[na,Ma,hx,Qa,kW]
  cases my p q z.Value e<;>simp) b.reverse lo
 simp only[jD,cn,aP,Qa];exact this
theorem YK(b:List Int)(lo:Int)(v:ByteArray)(hi:Int):jQ b lo S v hi=some (cz (fun z=>x v z hi) b.reverse lo):=by
 have:=Bo (p:=fun e=>qt e S v hi) (q:=fun z=>x v z hi) (fun e=>by simp only[qt,hx,Qa]) b.reverse lo
 simp only[jQ,cn,aP,Qa];exact this
theorem RA(b:List Int)(lo:Int)(v:ByteArray)(hi:Int):ir b lo S v hi=some (cz (fun z=>x v z hi) b.reverse lo):=by
 have:=Bo (p:=fun e=>qq e S v hi) (q:=fun z=>x v z hi) (fun e=>by simp only[qq,hx,Qa]) b.reverse lo
 simp only[ir,cn,aP,Qa];exact this
theorem N3(b:List Int)(v:ByteArray)(low bV:Int)(hb:∀x∈b,0<=x/\x<=1000000):∀r:List Int,(∀x∈r,x∈b)->mO (Bn S b v) (Xa S b v) r (low,bV,())=
  some (match r.find? (fun n=>decide (bV<n)&&x v n n)with
   |none=>(cz (fun z=>x v z bV) b.reverse low,bV,())
   |some n=>(cz (fun z=>x v z n) b.reverse (if bV<cz (fun z=>x v z n) b.reverse n - 1\/cz (fun z=>x v z n) b.reverse n<low then cz (fun z=>x v z n) b.reverse n else low),n,()))
 |[],_=>by simp only[mO,Xa,RA hx,Qa,List.find?_nil]
 |e::r,hr=>by
  have ih:=N3 b v low bV hb r (fun x hx=>hr x (by simp[hx]))
  rw[List.find?_cons,mO]
  by_cases hle:e<=bV
  ·have h2:decide (bV<e)=false:=Qh (by omega)
   have h1:decide (e<=bV)=true:=Qg hle;have hst:Bn S b v r.length e (low,bV,())=some (.inl (low,bV,())):=by simp only[Bn,h1,Qk,Qa]
   rw[hst,h2,Bool.false_and];exact ih
  ·have h2:decide (bV<e)=true:=Qg (by omega)
   have h1:decide (e<=bV)=false:=Qh hle;rw[h2,Bool.true_and]
   cases hr':x v e e with
   |false=>
    have hst:Bn S b v r.length e (low,bV,())=some (.inl (low,bV,())):=by simp only[Bn,h1,Ql,hx,hr',Qp,Qa,Qk]
    rw[hst];exact ih
   |true=>
    have hb9:=E8 (fun z=>x v z e) b.reverse e (fun z hz=>hb z (by simpa using hz)) (hb e (hr e (by simp)))
    simp only[Bn,h1,Ql,hx,hr',Qo,YK hx,RA hx,Qa,aP,kW,Bool.cond_true_left,Qe];generalize cz (fun z=>x v z e) b.reverse e=bt at*
    have e3:dm .i64 bt 1=bt - 1:=rl (by omega) (by omega)
    rw[e3]
    by_cases hc:bV<bt - 1\/bt<low
    ·have:(decide (bV<bt - 1)||decide (bt<low))=true:=by rw[Qn];simpa using hc
     rw[this,Qr hc];rfl
    ·have:(decide (bV<bt - 1)||decide (bt<low))=false:=by
      rw[<-QX,Qn];simpa using hc
     rw[this,Qs hc];rfl
end
section
 include hy
theorem abo(b:List Int)(lo:Int)(v:ByteArray)(hi:Int):jP b lo S v hi=some (cz (fun z=>y v z hi) b.reverse lo):=by
 have:=Bo (p:=fun e=>rR e S v hi) (q:=fun z=>y v z hi) (fun e=>by simp only[rR,hy,Qa]) b.reverse lo
 simp only[jP,cn,aP,Qa];exact this
end
variable {aC : Int} {t : al} {l : List aj} (hl : oO l) (hlen : l.length <= 1000) (hL : eZ aC t l = some S)
 include hl hlen hL
section
 include hx
theorem adu(p q:af):qY aC t l p q=some (ou x l p q (gJ x l p q)):=by
 obtain⟨h1,_,h3,_⟩:=rj hl.aM hlen;unfold qY;simp only[etas,hL,h1,Qa];refine(Lx (fU l) (by omega) (fun s v=>(br l v).foldl (fJ x p q v) s) (fin:=fun s=>some (ou x l p q s)) (fun i v a b hv hd hx' hw=> ?_) (fun a b hd=> ?_) false ⟨0,ByteArray.mk #[]⟩)
 ·obtain⟨g1,_,g3,_⟩:=iG hl.aM hlen v;simp only[hd,hx',hw,Qk,Qa,g1];refine(Lx (br l v) (by omega) (fJ x p q v) (fin:=fun s=>some (Sum.inl (s.1,((i+1:Nat):Int),s.2,()))) (fun i' n a' b' hv' hd' hx'' hw'=> ?_) (fun a' b' hd'=> ?_) a b)
  ·simp only[hd',hx'',hw',Qk,aP,Qa,jv,Ma,hx,kW];unfold fJ;cases bx b' ⟨n,v⟩<;>cases my p q v n<;>cases x v n n<;>simp
  ·simp only[hd',Ql]
 ·simp only[hd,Ql];obtain⟨g1,_,g3,_⟩:=iG hl.aM hlen b.Value;unfold ou;cases a
  ·rfl
  ·simp only[Qo,Ql,g1,Qa,YL hx,Qt]
theorem abW(v:ByteArray)(low bV:Int):pO aC t l v low bV=some ((Dh (br l v) (x v) low bV).1,(Dh (br l v) (x v) low bV).2,()):=by
 obtain⟨h1,_,_,_⟩:=iG hl.aM hlen v;have hin:=CR hl hlen v;unfold pO;simp only[etas,hL,h1,Qa,cn];refine(N3 hx (br l v) v low bV (fun x hx=>by have:=hin x hx;omega) (br l v).reverse (by simp)).trans ?_
 unfold Dh;cases (br l v).reverse.find? (fun n=>decide (bV<n)&&x v n n)<;>rfl
end
section
 include hy
theorem adv(v:ByteArray):qZ aC t l v=some (vq (br l v) (y v)):=by
 obtain⟨h1,_,_,_⟩:=iG hl.aM hlen v
 have:=TJ (p:=fun e=>nm S v e e) (q:=fun e=>y v e e) (d:=fun e=>jP (br l v) e S v e) (f:=fun e=>cz (fun z=>y v z e) (br l v).reverse e)
  (fun e=>hy v e e) (fun e=>abo hy (br l v) e v e) (br l v).reverse
 simp only[qZ,etas,hL,h1,cn,Qa,vq];exact this
end
end
 def Cu(x:ByteArray->Int->Int->Bool)(p q:af)(v:ByteArray)(s:af)(n:Int):af:=if bx s ⟨n,v⟩&& !my p q v n&&x v n n then⟨n,v⟩else s
theorem RW{x:ByteArray->Int->Int->Bool}{p q:af}(v:ByteArray):∀(b:List Int),(∀n∈b,1<=n)->∀s:Bool×af,s.1= !aI s.2->
  (b.foldl (fJ x p q v) s).2=b.foldl (Cu x p q v) s.2/\(b.foldl (fJ x p q v) s).1= !aI (b.foldl (fJ x p q v) s).2
 |[],_,s,h=>⟨rfl,h⟩
 |n::b,hb,s,h=>by
  rw[QU,QU];have hn:=hb n (by simp)
  have h1:(fJ x p q v s n).2=Cu x p q v s.2 n:=by unfold fJ Cu;split<;>rfl
  have h2:(fJ x p q v s n).1= !aI (fJ x p q v s n).2:=by
   unfold fJ;split
   ·have:decide (n=0)=false:=Qh (by omega)
    simp[aI,this]
   ·exact h
  rw[<-h1];exact RW v b (fun n hn=>hb n (by simp[hn])) _ h2
theorem RX{x:ByteArray->Int->Int->Bool}{p q:af}{l:List aj}(hl:oO l)(hlen:l.length<=1000):∀(vs:List ByteArray) (s:Bool×af),s.1= !aI s.2->
  (vs.foldl (fun s v=>(br l v).foldl (fJ x p q v) s) s).2=vs.foldl (fun s v=>(br l v).foldl (Cu x p q v) s) s.2/\(vs.foldl (fun s v=>(br l v).foldl (fJ x p q v) s) s).1= !aI (vs.foldl (fun s v=>(br l v).foldl (fJ x p q v) s) s).2
 |[],s,h=>⟨rfl,h⟩
 |v::vs,s,h=>by
  rw[QU,QU];obtain⟨h1,h2⟩:=RW (x:=x) (p:=p) (q:=q) v (br l v) (fun n hn=>(CR hl hlen v n hn).1) s h
  rw[<-h1];exact RX hl hlen vs _ h2
section
variable {aC : Int} {t : al} {l : List aj} (hl : oO l) (hlen : l.length <= 1000) {x y : ByteArray -> Int -> Int -> Bool} (hx : ∀ v lo hi, kZ aC t l v lo hi = some (x v lo hi)) (hy : ∀ v lo hi, oC aC t l v lo hi = some (y v lo hi))
 include hl hlen
section
 include hx
theorem X4(v:ByteArray)(lo hi:Int):yc aC t l v lo hi=some (cz (fun z=>x v z hi) (br l v).reverse lo):=by
 obtain⟨_,_,h3,_⟩:=iG hl.aM hlen v;unfold yc;simp only[etas,xp hl.aM hlen,Qa,Hn _ (by omega:(br l v).length<=1000000),aP]
 refine(xu (br l v) (by omega) (fun lo i=>(lo,i,())) (fun lo z=>if lo<=z then .inl lo else if x v z hi then .inl z else .inr lo) (fun lo=>some lo) (fun i z a hi' hd hs=> ?_) (fun a hd=> ?_) (br l v).length (QI _) lo).trans ?_
 ·simp only[hi',hd,hs,Qk,Qa,hx]
  by_cases h1:a<=z
  ·simp[h1]
  ·cases x v z hi<;>simp[h1]
 ·simp only[hd,Ql]
 ·rw[Qq62];exact Cy (fun z=>x v z hi) (fun lo=>lo) _ _
theorem Ya(v:ByteArray)(low bV:Int):qO aC t l v low bV=some ((Dh (br l v) (x v) low bV).1,(Dh (br l v) (x v) low bV).2,()):=by
 obtain⟨_,h2,h3,_⟩:=iG hl.aM hlen v;have hin:=CR hl hlen v;unfold qO;simp only[etas,xp hl.aM hlen,X4 hl hlen hx,Qa,Hn _ (by omega:(br l v).length<=1000000),aP]
 refine(xu (br l v) (by omega) (fun(s:Int×Int) i=>(s.1,s.2,i,()))
  (fun s z=>if s.2<z then(if x v z z then .inr (cz (fun w=>x v w z) (br l v).reverse (if s.2<cz (fun w=>x v w z) (br l v).reverse z - 1\/cz (fun w=>x v w z) (br l v).reverse z<s.1 then cz (fun w=>x v w z) (br l v).reverse z else s.1),z,())else .inl s)
   else .inr (cz (fun w=>x v w s.2) (br l v).reverse s.1,s.2,()))
  (fun s=>some (cz (fun w=>x v w s.2) (br l v).reverse s.1,s.2,())) (fun i z s hi' hd hs=> ?_) (fun s hd=> ?_) (br l v).length (QI _) (low,bV)).trans ?_
 ·have hz:z∈br l v:=by rw[bh]at hi';exact Q8 hi'
  have hb9:=E8 (fun w=>x v w z) (br l v).reverse z (fun w hw=>by have:=hin w (by simpa using hw);omega) (by have:=hin z hz;omega)
  simp only[hi',hd,hs,Qk,Qa,hx]
  by_cases h1:s.2<z
  ·simp only[h1,decide_true,Qk,Qt]
   cases hxz:x v z z with
   |false=>simp
   |true=>
    generalize cz (fun w=>x v w z) (br l v).reverse z=bt at*
    have e3:dm .i64 bt 1=bt - 1:=rl (by omega) (by omega)
    simp only[Qo,Ql,e3,Qt]
    by_cases h4:s.2<bt - 1
    ·simp[h4]
    ·by_cases h5:bt<s.1
     ·simp[h4,h5,cm]
     ·simp[h4,h5,cm]
  ·simp[h1]
 ·simp only[hd,Ql,Qa]
 ·rw[Qq62]
  refine(Nr (low,bV) (fun z=>decide (bV<z)) (fun z=>x v z z) (fun z=>(cz (fun w=>x v w z) (br l v).reverse (if bV<cz (fun w=>x v w z) (br l v).reverse z - 1\/cz (fun w=>x v w z) (br l v).reverse z<low then cz (fun w=>x v w z) (br l v).reverse z else low),z,()))
   (cz (fun w=>x v w bV) (br l v).reverse low,bV,()) _ _ (fun z=> ?_) rfl (fun a b h h'=> ?_) _ (List.pairwise_reverse.2 h2)).trans ?_
  ·by_cases h4:bV<z<;>simp[h4]
  ·simp only[Qi]at h' ⊢;omega
  ·unfold Dh;cases (br l v).reverse.find? (fun n=>decide (bV<n)&&x v n n)<;>rfl
 omit hl hlen hx in
theorem TI(p q:af)(n:Int)(v:ByteArray):yb p q n v=some (!my p q v n):=by
  simp only[yb,AJ,Qa,my];cases ez p ⟨n,v⟩<;>cases ez q ⟨n,v⟩<;>rfl
theorem aam(p q:af):sd aC t l p q=some (ou x l p q (gJ x l p q)):=by
 obtain⟨_,_,h3,_⟩:=rj hl.aM hlen;obtain⟨e1,e2⟩:=RX (x:=x) (p:=p) (q:=q) hl hlen (fU l) (false,⟨0,fD⟩) rfl;unfold sd;simp only[etas,Ux hl.aM hlen,Qa];refine(Lw (fU l) (by omega) (fun s v=>(br l v).foldl (Cu x p q v) s) (fin:=fun s=>some (ou x l p q (!aI s,s))) (fun i v b hv hd hx' hw=> ?_) (fun b hd=> ?_) ⟨0,ByteArray.mk #[]⟩).trans ?_
 ·obtain⟨_,_,g3,_⟩:=iG hl.aM hlen v;simp only[hd,hx',hw,Qk,Qa,xp hl.aM hlen];refine(Lw (br l v) (by omega) (Cu x p q v) (fin:=fun s=>some (Sum.inl (((i+1:Nat):Int),s,()))) (fun i' n b' hv' hd' hx'' hw'=> ?_) (fun b' hd'=> ?_) b)
  ·simp only[hd',hx'',hw',Qk,aP,Qa,jA,TI,hx,kW];unfold Cu;cases bx b' ⟨n,v⟩<;>cases my p q v n<;>cases x v n n<;>simp
  ·simp only[hd',Ql]
 ·obtain⟨_,_,g3,_⟩:=iG hl.aM hlen b.Value;simp only[hd,Ql,cU,Qa];unfold ou
  cases aI b with
  |true=>rfl
  |false=>
   simp only[Qp,Qt,Ql,xp hl.aM hlen,Qa,aP,Hn _ (by omega:(br l b.Value).length<=1000000)]
   refine congrArg (Option.map Sum.inr) ((xu (br l b.Value) (by omega) (fun lo i=>(lo,i,())) (fun lo z=>if lo<=z then .inl lo else if !my p q b.Value z&&x b.Value z b.ae then .inl z else .inr (b.Value,lo,b.ae,true,())) (fun lo=>some (b.Value,lo,b.ae,true,())) (fun i z a hi' hd hs=> ?_) (fun a hd=> ?_) (br l b.Value).length (QI _) b.ae).trans ?_)
   ·simp only[hi',hd,hs,Qk,Qa,hx,TI]
    by_cases h1:a<=z
    ·simp[h1]
    ·cases my p q b.Value z<;>cases x b.Value z b.ae<;>simp[h1]
   ·simp only[hd,Ql]
   ·rw[Qq62];exact Cy (fun z=> !my p q b.Value z&&x b.Value z b.ae) (fun lo=>(b.Value,lo,b.ae,true,())) _ _
 ·unfold gJ;rw[show(fU l).foldl (fun s v=>(br l v).foldl (Cu x p q v) s) ⟨0,ByteArray.mk #[]⟩=((fU l).foldl (fun s v=>(br l v).foldl (fJ x p q v) s) (false,⟨0,fD⟩)).2 from e1.symm,<-e2]
end
section
 include hy
theorem aao(v:ByteArray):se aC t l v=some (vq (br l v) (y v)):=by
 obtain⟨_,h2,h3,_⟩:=iG hl.aM hlen v;unfold se;simp only[etas,xp hl.aM hlen,Qa,Hn _ (by omega:(br l v).length<=1000000),aP]
 unfold vq;generalize br l v=b at*
 suffices key:∀n:Nat,n<=b.length->aA _ (((n:Nat):Int) - 1,())=some (match(b.take n).reverse.find? (fun e=>y v e e)with|some e=>(cz (fun z=>y v z e) b.reverse e,e,true,())|none=>(0,0,false,()))by
  have:=key b.length (QI _);rw[Qq62]at this;exact this
 intro n
 induction n with
 |zero=>
  intro _;rw[show((0:Nat):Int) - 1= -1 by omega]
  have hd:decide ((0:Int)<= -1)=false:=rfl;exact bw (by simp only[hd,Ql,Qe,List.take_zero,List.reverse_nil,List.find?_nil])
 |succ n ih=>
  intro hn;have hlt:n<b.length:=by omega
  have hxn:idx b (n:Int)=some b[n]:=by rw[bh];exact Qv hlt
  have hd:decide ((0:Int)<=(n:Int))=true:=Qg (by omega)
  have hs:dm .i64 (n:Int) 1=(n:Int) - 1:=rl (by omega) (by omega)
  rw[show((n+1:Nat):Int) - 1=(n:Int)by omega,Q7 hlt,List.reverse_append,List.reverse_singleton,List.singleton_append,List.find?_cons]
  cases hyn:y v b[n] b[n]with
  |false=>
   rw[bd (s':=((n:Int) - 1,())) (by simp only[hd,hxn,hs,hy,hyn,Qk,Qa,Qp])]
   exact ih (by omega)
  |true=>
   have hb:b=b.take n++b[n]::b.drop (n+1):=by rw[<-QM hlt,List.take_append_drop]
   have hp:(b.take n++b[n]::b.drop (n+1)).Pairwise (·<·):=hb▸h2;rw[Qq69,Q4]at hp;obtain⟨p1,⟨p2,p3⟩,p4⟩:=hp;refine bw ?_;simp only[hd,hxn,hs,hy,hyn,Qk,Ql,Qa,Qo];refine(xu b (by omega) (fun lo i=>(lo,i,())) (fun lo z=>if y v z b[n]then .inl z else .inr (.inr (lo,b[n],true,()))) (fun lo=>some (.inr (lo,b[n],true,()))) (fun i z a hi' hd' hs'=> ?_) (fun a hd'=> ?_) n (by omega) b[n]).trans ?_
   ·simp only[hi',hd',hs',Qk,Qa];cases y v z b[n]<;>simp
   ·simp only[hd',Ql,Qe]
   ·rw[Kk (fun z=>y v z b[n]) (fun lo=>Sum.inr (lo,b[n],true,())) _ _ (fun z hz=>p4 z (List.mem_reverse.1 hz) _ (Qx ..)) (List.pairwise_reverse.2 p1)]
    have:cz (fun z=>y v z b[n]) b.reverse b[n]=cz (fun z=>y v z b[n]) (b.take n).reverse b[n]:=by
     have hr:b.reverse=((b.drop (n+1)).reverse++[b[n]])++(b.take n).reverse:=by
      rw[<-List.reverse_cons,<-List.reverse_append,<-hb]
     rw[hr];refine IN _ _ _ _ fun z hz=> ?_
     rw[Qz,List.mem_reverse,Q5]at hz;rcases hz with hz|rfl
     ·exact Int.le_of_lt (p2 z hz)
     ·exact Int.le_refl _
    rw[this]
end
end
end
section
section
variable {aC : Nat} (hn : aC < 10) {t : al} (ht : c5 t) {l : List aj} (hl : oO l) (hlen : l.length <= 1000)
 include hn ht hl hlen
theorem aco(b:af):sP aC t l b=some (kO aC t l b):=by
 have hin:=mm l;have hsm:=jX (aC:=aC) ht hl;simp only[sP,etas,Nj hl.aM hlen,wm hn hl,Qa,tZ hsm hn (jE hin) (jE hin)];rfl
theorem aap(b:af):rL aC t l b=some (jI aC t l b):=by
 have hin:=mm l;have hsm:=jX (aC:=aC) ht hl;simp only[rL,etas,Nj hl.aM hlen,wm hn hl,Qa,sL hsm hn (jE hin)];rfl
theorem acD(b:af):gY ⟨aC,⟨eN aC t l⟩,(bU l).map bC.mk⟩ b=some (kO aC t l b):=by
 have hin:=mm l;have hsm:=jX (aC:=aC) ht hl;rw[Ke hl.len,vN hsm hn (jE hin) (jE hin)];rfl
theorem aaL(b:af):eY ⟨aC,⟨eN aC t l⟩,(bU l).map bC.mk⟩ b=some (jI aC t l b):=by
 have hin:=mm l;have hsm:=jX (aC:=aC) ht hl;rw[I6 hl.len,uj hsm hn (jE hin)];rfl
 def jd(aC:Nat)(t:al)(l:List aj)(p q:af)(v:ByteArray):af:=((eI l).find? (vJ (kO aC t l) p q v)).getD yp
 def vL(aC:Nat)(t:al)(l:List aj)(a:af):af:=((eI l).find? (vK (jI aC t l) a)).getD yp
theorem aai(p q:af)(v:ByteArray):tK aC t l p q v=some (jd aC t l p q v):=XZ hl hlen (aco hn ht hl hlen) p q v
theorem aak(a:af):pE aC t l a=some (vL aC t l a):=X0 hl hlen (aap hn ht hl hlen) a
theorem aaF(p q:af)(v:ByteArray):ob aC t l p q v=some (jd aC t l p q v):=aaT hl hlen (HV hn ht hl) (acD hn ht hl hlen) p q v
theorem aaI(a:af):ll aC t l a=some (vL aC t l a):=aa3 hl hlen (HV hn ht hl) (aaL hn ht hl hlen) a
end
end
section
theorem nZ{bytes n:Nat}(h:bytes<=200)(hn:n<=1000000):bp bytes n=true:=
 bz ⟨QK (Nat.mul_le_mul hn h) (by decide),hn⟩
theorem UL{α ρ:Type}(l:List α)(hl:l.length<=1000000)(p:α->Bool){step:Int×Unit->Option ((Int×Unit)⊕ρ)}{fin:Option ρ}{f:Nat->α->Option ρ}
  (h1:∀(i:Nat) (x:α),i<l.length->l[i]?=some x->decide ((i:Int)<((l.length:Nat):Int))=true->idx l (i:Int)=some x->ay .i64 (i:Int) 1=((i+1:Nat):Int)->step ((i:Int),())=bif p x then Option.map Sum.inr (f i x)else some (.inl (((i+1:Nat):Int),())))
  (h2:(∀x∈l,p x=false)->decide (((l.length:Nat):Int)<((l.length:Nat):Int))=false->step (((l.length:Nat):Int),())=Option.map Sum.inr fin):
  aA step ((0:Int),())=match l.findIdx? p with|some i=>(l[i]?).bind (f i)|none=>fin:=by
 suffices key:∀(k i:Nat),i+k=l.length->(∀x∈l.take i,p x=false)->aA step ((i:Int),())=match(l.drop i).findIdx? p with|some j=>(l[i+j]?).bind (f (i+j))|none=>fin by
  have:=key l.length 0 (by omega) (by simp)
  rw[List.drop_zero]at this;simp only[Nat.zero_add]at this;exact this
 intro k
 induction k with
 |zero=>
  intro i hi hpre;obtain rfl:i=l.length:=by omega
  rw[Qq62]at hpre;rw[eO,h2 hpre (Qh (Qq64 _)),Qq66];cases fin<;>rfl
 |succ k ih=>
  intro i hi hpre;have hlt:i<l.length:=by omega
  have hx:l[i]?=some l[i]:=Qv hlt;have hs:=h1 i l[i] hlt hx (Qg (by omega)) (by rw[bh];exact hx) (bE (by omega) (by omega))
  rw[QM hlt,List.findIdx?_cons]
  cases hp:p l[i]with
  |true=>
   rw[hp]at hs;rw[eO,hs];simp only[Qk,Qt,Nat.add_zero,hx,Qa];cases f i l[i]<;>rfl
  |false=>
   rw[hp]at hs
   rw[bd hs,ih (i+1) (by omega) (fun x hx=>by
    rw[Q7 hlt,Qz,Q5]at hx;rcases hx with hx|rfl
    ·exact hpre x hx
    ·exact hp)]
   simp only[Qq,Qu]
   cases (l.drop (i+1)).findIdx? p with
   |none=>rfl
   |some j=>
    simp only[Qe];rw[show i+1+j=i+(j+1)by omega]
def T4(l:List aj)(e:aj):Nat:=(l.findIdx? fun x=>decide (e.aq<x.aq)).getD l.length
 def Gg(l:List aj)(e:aj):List aj×Bool×Unit:=
 if aX e then
  match l.findIdx? fun x=>decide (x.aq=e.aq)with
  |some i=>if e.aF<=((l[i]?).getD e).aF then(l,false,())else(l.set i e,true,())
  |none=>(l.take (T4 l e)++[e]++l.drop (T4 l e),true,())
 else(l,false,())
section
variable {l : List aj} (hl : ∀ x ∈ l, c5 x.ai) (hlen : l.length <= 1000)
 include hlen
 include hl
theorem XJ:eB l=some l:=by
 unfold eB
 suffices key:∀(k i:Nat),i+k=l.length->aA _ ((i:Int),l.take i,())=some l from key l.length 0 (by omega)
 intro k
 induction k with
 |zero=>
  intro i hi;obtain rfl:i=l.length:=by omega
  have hd:decide (((l.length:Nat):Int)<((l.length:Nat):Int))=false:=Qh (Qq64 _);exact bw (by simp only[hd,Ql,Qe,Qq62])
 |succ k ih=>
  intro i hi;have hlt:i<l.length:=by omega
  have hd:decide ((i:Int)<((l.length:Nat):Int))=true:=Qg (by omega)
  have hw:ay .i64 (i:Int) 1=((i+1:Nat):Int):=bE (by omega) (by omega)
  have hx:idx l (i:Int)=some l[i]:=by rw[bh];exact Qv hlt
  have hc:qo l[i]=some l[i]:=by simp only[qo,etas,py (hl _ (Q0 hlt)),Qa]
  refine(bd ?_).trans (ih (i+1) (by omega))
  simp only[hd,hx,hw,Qk,Qa,etas,hc];rw[nZ (by omega) (by simp;omega),Q7 hlt]
  rfl
end
end
section
section
variable {l : List aj} (hlen : l.length <= 1000)
 include hlen
end
end
end Go.Proofs.YtjbfdglebjnelaaGreat
end
