/-
  Texts made small by a program (see NOTES). Conditions: those that each theorem names.
-/
import Derived.Test.YtppbofaglpdghaaGreatScenarioAgreeMc
set_option linter.unusedVariables false
set_option linter.defProp false
set_option linter.unusedSimpArgs false
set_option linter.unusedSectionVars false
set_option maxHeartbeats 2000000
open Int (toNat)
open Sum (inl inr)
open List (replicate)
noncomputable section
namespace Go.Proofs.YtppbofaglpdghaaGreat
open Go.TQ Go.Proofs.Tryz
section
@[reducible] def u1 {b B:Type} (F:b->B) (a:b×Unit):B:=F a.1
@[reducible] def u2 {c b B:Type} (F:c->b->B) (a:c×b×Unit):B:=F a.1 a.2.1
@[reducible] def u3 {d c b B:Type} (F:d->c->b->B) (a:d×c×b×Unit):B:=F a.1 a.2.1 a.2.2.1
@[reducible] def u4 {e d c b B:Type} (F:e->d->c->b->B) (a:e×d×c×b×Unit):B:=F a.1 a.2.1 a.2.2.1 a.2.2.2.1
@[reducible] def u5 {f e d c b B:Type} (F:f->e->d->c->b->B) (a:f×e×d×c×b×Unit):B:=F a.1 a.2.1 a.2.2.1 a.2.2.2.1 a.2.2.2.2.1
@[reducible] def u6 {g f e d c b B:Type} (F:g->f->e->d->c->b->B) (a:g×f×e×d×c×b×Unit):B:=F a.1 a.2.1 a.2.2.1 a.2.2.2.1 a.2.2.2.2.1 a.2.2.2.2.2.1
@[reducible] def oO (b:Bool) (x:Y Bool):Y Bool:=bif b then some true else x
@[reducible] def aO (b:Bool) (x:Y Bool):Y Bool:=bif b then x else some false
@[reducible] def zB:aj:=aj.mk 0 (ByteArray.mk #[])
@[reducible] def bE:C:=ByteArray.mk #[]
@[reducible] def zz0:ar:=ar.mk 0 [] []
@[reducible] def zz1:aW:=aW.mk 0 0 0 zz0 0 zB zB zB zB 0 0 bE []
@[reducible] def zz2:aD:=aD.mk 0 0 0 0 zz0 bE [] [] [] []
@[reducible] def zz3:ay:=ay.mk 0 false zz0 []
@[reducible] def zz4:bI:=bI.mk [] 0 [] []
@[reducible] def zz5:aH:=aH.mk 0 [] 0 zz4 []
@[reducible] def zz6:ao:=ao.mk 0 0 0 zz0 0 zB zB zB 0 0
@[reducible] def zz7:aA:=aA.mk 0 0 zz0 [] []
@[reducible] def zz8:aL:=aL.mk 0 0 zz7 zz6
@[reducible] def zz9:bo:=bo.mk []
@[reducible] def zz10:gz:=gz.mk 0 0
@[reducible] def zz11:ba:=ba.mk zz2 zz1 zz10 0 0 false bE
@[reducible] def zz12:eA:=eA.mk 2 0 0 0 12 bE zz0 zz8 []
@[reducible] def zz13:bS:=bS.mk false zz0
def p_:Nat->Nat->NT U->NT U|0,_,x=>x|k+1,n,x=>match n % 2 with|0=> .l (p_ k (n / 2) x)|_=> .r (p_ k (n / 2) x)
@[reducible] def oR {A B:Type} (x:Y B):Y (A⊕B):=Option.map inr x
@[reducible] def y0:Ty:=Ty.i .i64
@[reducible] def y1:Ty:=Ty.bool
@[reducible] def y2:Ty:=Ty.str
@[reducible] def y3:Ty:=Ty.st .aG
@[reducible] def y4:Ty:=Ty.st .ae
@[reducible] def y5:Ty:=Ty.st .br
@[reducible] def y6:Ty:=Ty.st .dz
@[reducible] def y7:Ty:=Ty.st .ah
@[reducible] def y8:Ty:=Ty.st .aN
@[reducible] def y9:Ty:=Ty.st .aa
@[reducible] def y10:Ty:=Ty.st .pY
@[reducible] def y11:Ty:=Ty.sl (Ty.i .i64)
@[reducible] def y12:Ty:=Ty.st .Config
@[reducible] def y13:Ty:=Ty.sl Ty.str
@[reducible] def y14:Ty:=Ty.sl (Ty.st .ae)
@[reducible] def y15:Ty:=Ty.st .ij
@[reducible] def y16:Ty:=Ty.st .ai
@[reducible] def y17:Ty:=Ty.sl (Ty.st .ah)
@[reducible] def y18:Ty:=Ty.st .Seen
@[reducible] def y19:Ty:=Ty.st .oU
@[reducible] def y20:Ty:=Ty.st .World
@[reducible] def y21:Ty:=Ty.st .ik
@[reducible] def y22:Ty:=Ty.st .ak
@[reducible] def y23:Ty:=Ty.st .Step
@[reducible] def y24:Ty:=Ty.st .pK
@[reducible] def y25:Ty:=Ty.st .mU
@[reducible] def y26:Ty:=Ty.sl (Ty.st .ij)
@[reducible] def y27:Ty:=Ty.sl (Ty.st .ai)
@[reducible] def y28:Ty:=Ty.st .Src
@[reducible] def y29:Ty:=Ty.st .Outcome
@[reducible] def y31:Ty:=Ty.sl (Ty.st .br)
@[reducible] def y36:Ty:=Ty.sl (Ty.st .aG)
@[reducible] def t11:b0 U:= .ty y11
@[reducible] def t0:b0 U:= .ty y0
@[reducible] def t4:b0 U:= .ty y4
@[reducible] def t12:b0 U:= .ty y12
@[reducible] def t13:b0 U:= .ty y13
@[reducible] def t3:b0 U:= .ty y3
@[reducible] def t2:b0 U:= .ty y2
@[reducible] def t7:b0 U:= .ty y7
@[reducible] def t9:b0 U:= .ty y9
@[reducible] def t8:b0 U:= .ty y8
@[reducible] def t14:b0 U:= .ty y14
@[reducible] def t5:b0 U:= .ty y5
@[reducible] def t6:b0 U:= .ty y6
@[reducible] def t17:b0 U:= .ty y17
@[reducible] def t19:b0 U:= .ty y19
@[reducible] def t18:b0 U:= .ty y18
@[reducible] def q0:jm U:= .one y0
@[reducible] def q1:jm U:= .one y1
noncomputable def kf{f:FI}{fn:Func}(i:prog.funcs[f]?=some fn)(g:Z (b0 U))(r:jm U)(F:cz g->Y r.den)(d:Z Nat)(n:NT U)(G:Z (KS U prog))(a:(fn.body.bind (ax prog fn.ntmps d))=some (bc (aS prog fn.ntmps d fn) n).erase:=by kernel_rfl)(b:gQ prog fn.results.toList=some ((gQ prog fn.results.toList).getD []):=by kernel_rfl)(c:(fn.name== "runtime.NumGoroutine")=false:=by kernel_rfl)(h:(bc (aS prog fn.ntmps d fn) n).bJ=true:=by kernel_rfl)(e:Nat.ble g.length fn.ntmps=true:=by kernel_rfl)(hF:J5 K (KS.ks G) (bc (aS prog fn.ntmps d fn) n) ((gQ prog fn.results.toList).getD []) g r=F:=by kernel_rfl):KS U prog:=⟨.fn f g r F,N0 (K:=K) _ _ _ G ⟨fn,d,i,rfl,a,b,c⟩ h (Qk e) hF⟩
noncomputable def kr{f:FI}{fn:Func}(i:prog.funcs[f]?=some fn)(pos:Nat)(R:Ty)(g:Z (b0 U))(r:jm U)(F:U.den R->cz g->Y (r.den×U.den R))(d:Z Nat)(n:NT U)(G:Z (KS U prog))(a:(fn.body.bind (ax prog fn.ntmps d))=some (bc (aS prog fn.ntmps d fn) n).erase:=by kernel_rfl)(b:gQ prog fn.results.toList=some ((gQ prog fn.results.toList).getD []):=by kernel_rfl)(c:(fn.name== "runtime.NumGoroutine")=false:=by kernel_rfl)(h:(bc (aS prog fn.ntmps d fn) n).bJ=true:=by kernel_rfl)(e:Nat.ble (1+g.length) fn.ntmps=true:=by kernel_rfl)(hF:Tj K (KS.ks G) (bc (aS prog fn.ntmps d fn) n) ((gQ prog fn.results.toList).getD []) pos R g r=F:=by kernel_rfl):KS U prog:=⟨.rc f pos R g r F,Xd (K:=K) _ _ _ G ⟨fn,d,i,rfl,a,b,c⟩ h (Qk e) hF⟩
def eT0(x:aD):aD:={x with ae:=(af x.ae)}
def aD.e(x:aD):eT0 x=x:=by unfold eT0;simp only[ar.eta,aD.eta]
def eT1(x:ao):ao:={x with ae:=(af x.ae)}
def ao.e(x:ao):eT1 x=x:=by unfold eT1;simp only[ar.eta,aD.e,ao.eta]
def eT2(x:aW):aW:={x with ae:=(af x.ae)}
def aW.e(x:aW):eT2 x=x:=by unfold eT2;simp only[ar.eta,aD.e,ao.e,aW.eta]
def eT3(x:ay):ay:={x with ae:=(af x.ae)}
def ay.e(x:ay):eT3 x=x:=by unfold eT3;simp only[ar.eta,aD.e,ao.e,aW.e,ay.eta]
def eT4(x:bS):bS:={x with ae:=(af x.ae)}
def bS.e(x:bS):eT4 x=x:=by unfold eT4;simp only[ar.eta,aD.e,ao.e,aW.e,ay.e,bS.eta]
def eT5(x:ba):ba:={x with aN:=(eT0 x.aN),aa:=(eT2 x.aa)}
def ba.e(x:ba):eT5 x=x:=by unfold eT5;simp only[ar.eta,aD.e,ao.e,aW.e,ay.e,bS.e,ba.eta]
def etas:(∀x:ar,ar.mk x.aV x.aY x.bC=x)/\(∀x,eT0 x=x)/\(∀x,eT1 x=x)/\(∀x,eT2 x=x)/\(∀x,eT3 x=x)/\(∀x,eT4 x=x)/\(∀x,eT5 x=x):=⟨ar.eta,aD.e,ao.e,aW.e,ay.e,bS.e,ba.e⟩
attribute [simp] etas
noncomputable def K0:SA U:=bc (aS prog 10 [] f9) .e
noncomputable def wK(a:Z Int):Y jA:=bif eQ 0 (rO (a.length:Int) 800) (a.length)then some (jA.mk ((a.take (toNat (rO (a.length:Int) 800))).drop (toNat 0)) 0)else none
noncomputable def Mp:KS U prog:=⟨.nw 9 [t11] y28 λa=>wK a.1,Xf (K:=K) K0 10 2 [] (fk f9 [] func9)⟩
noncomputable def oq(s:jA)(a:Int):Y (Int×jA):=aX (λ(c:Bool×Unit)=>bif c.1 then some (0,s)else(idx s.L (iG .i64 (aC .i64 s.At 1) 1)).bind λd=>if a=0 then none else if a=0 then none else some ((L8 .i64 (aC .i64 (L8 .i64 d a) a) a),(jA.mk s.L (aC .i64 s.At 1)))) λb=>bif decide ((s.L.length:Int)<=s.At)then b (true,())else b ((decide (a<1)),())
def Cr:=kr func11 0 y28 [t0] q0 (λs a=>oq s a.1) [] (p_ 2 1 (.j ⟨[.val 18 y1],[0,1]⟩ .e)) []
def mI(s:jA)(a:Int)(c:Int):Y (Int×jA):=(oq s (aC .i64 (iG .i64 c a) 1)).bind λb=>some ((aC .i64 a b.1),b.2)
def EU:=kr func10 0 y28 [t0,t0] q0 (λs a=>mI s a.1 a.2.1) [] .e [Cr]
noncomputable def zx(b:Int)(c:Int):Y ar:=aE (λ(a:Int×ar×Z Int×Unit)=>bif decide (a.1<b)then bif bn 8 (a.2.2.1.length+List.length [a.1])then some (inl ((aC .i64 a.1 1),(ar.mk a.2.1.aV [] a.2.1.bC),(a.2.2.1++[a.1]),()))else none else oR (some (ar.mk a.2.1.aV a.2.2.1 a.2.1.bC))) (0,(ar.mk c [] []),[],())
def Eo:=kf func17 [t0,t0] (.one y4) (u2 zx) [] (p_ 5 11 (.ps (.rK 5 1 3 1 y0) (.j ⟨[.val 6 y0,.box 3 1 y4 [(1,6,2)],.bO 6 2 false 3 1 y0],[0,4,5]⟩ .e))) []
noncomputable def qY(a:ar):Y Bool:=(aO (decide (a.aV=0)) (some (decide ((a.aY.length:Int)=0)))).bind λb=>(aO b (some (decide ((a.bC.length:Int)=0)))).bind some
def z6:=kf func155 [t4] q1 (u1 qY) [] .e []
noncomputable def B6:SA U:=bc (aS prog 20 [] f157) (.r (.r (.l (.r (.l (.j ⟨[.val 3 y0,.val 9 y0],[7,8]⟩ .e))))))
noncomputable def wc(rec:(ar×Unit)->Y Int)(b:ar):Y Int:=aE (λ(a:Int×Int×Unit)=>bif decide (a.2.1<(b.bC.length:Int))then(idx b.bC a.2.1).bind λc=>(rec ((af c),())).bind λd=>some (inl ((Ci a.1 d),(aC .i64 a.2.1 1),()))else oR (some (aC .i64 a.1 1))) (0,0,())
noncomputable def Ed:Nat->(ar×Unit)->Y Int:=gK (λrec a=>wc rec a.1)
def vH(a:ar):Y Int:=Ed (SizeOf.sizeOf a+1) (a,())
noncomputable def DN:KS U prog:=⟨.fn 157 [t4] q0 λa=>vH a.1,Bc (K:=K) (A_s:=[t4]) (r:= .one y0) (B:=λrec a=>wc rec a.1) B6 20 [.tmp 2] [] (fk f157 [] func157) (hF:=λa=>⟨_,rfl⟩)⟩
noncomputable def DG:SA U:=bc (aS prog 26 [] f158) (.r (.r (.l (.r (.l (.j ⟨[.val 3 y0,.val 16 y0],[14,15]⟩ .e))))))
noncomputable def xT(rec:(ar×Unit)->Y Int)(b:ar):Y Int:=aE (λ(a:Int×Int×Unit)=>bif decide (a.2.1<(b.bC.length:Int))then(idx b.bC a.2.1).bind λc=>(rec ((af c),())).bind λd=>some (inl ((aC .i64 a.1 d),(aC .i64 a.2.1 1),()))else oR (some a.1)) ((aC .i64 (b.aY.length:Int) (b.bC.length:Int)),0,())
noncomputable def Fq:Nat->(ar×Unit)->Y Int:=gK (λrec a=>xT rec a.1)
def xD(a:ar):Y Int:=Fq (SizeOf.sizeOf a+1) (a,())
noncomputable def EO:KS U prog:=⟨.fn 158 [t4] q0 λa=>xD a.1,Bc (K:=K) (A_s:=[t4]) (r:= .one y0) (B:=λrec a=>xT rec a.1) DG 26 [.tmp 2] [] (fk f158 [] func158) (hF:=λa=>⟨_,rfl⟩)⟩
noncomputable def qC(a:Int):Y Bool:=(aO (decide (0<=a)) (some (decide (a<10)))).bind some
def xg:=kf func228 [t0] q1 (u1 qC) [] .e []
def sX(a:Int):Y Bool:=(qC a).bind λb=>some (!b)
def BK:=kf func229 [t0] q1 (u1 sX) [] .e [xg]
def jU(b:Z Int):Y Int:=aE (λ(a:Int×Unit)=>bif decide (a.1<(b.length:Int))then(idx b a.1).bind λc=>(sX c).bind λd=>bif d then oR (some a.1)else some (inl ((aC .i64 a.1 1),()))else oR (some (-1:Int))) (0,())
def ru:=kf func245 [t11,.aT 229 []] q0 (λa=>jU a.1) [] (p_ 4 5 (.j ⟨[.val 8 y0],[0,1,7]⟩ .e)) [BK]
def iT(a:Z Int):Y Bool:=(jU a).bind λb=>some (decide (0<=b))
def pb:=kf func183 [t11,.aT 229 []] q1 (λa=>iT a.1) [] .e [ru]
noncomputable def yD(a:Int)(b:Int):Y Bool:=(aO (decide (0<=a)) (if b<0 then none else some (decide (a<(dF .i64 1 b))))).bind some
def Ga:=kf func244 [t0,t0] q1 (u2 yD) [] .e []
def fC(a:Int):Y Bool:=(yD a 10).bind some
def iz:=kf func181 [t0] q1 (u1 fC) [] .e [Ga]
def ez(b:Int)(a:Int):Y Bool:=(fC b).bind λc=>(aO c (some (decide (0<=a)))).bind λd=>(aO d (some (decide (a<10)))).bind λe=>(aO e (if a<0 then none else some (!decide ((MO .i64 b (dF .i64 1 a))=0)))).bind some
def fP:=kf func268 [t0,t0] q1 (u2 ez) [] .e [iz]
def Da(c:Z Int):Y (Int×Int×Unit):=aE (λ(a:Int×Int×Unit)=>bif decide (a.2.1<(c.length:Int))then(idx c a.2.1).bind λb=>(oO (decide (b<0)) (some (decide (10<=b)))).bind λd=>bif d then oR (some (0,5,()))else(ez a.1 b).bind λe=>bif e then oR (some (0,6,()))else if b<0 then none else some (inl ((vt .i64 a.1 (dF .i64 1 b)),(aC .i64 a.2.1 1),()))else oR (some (a.1,0,()))) (0,0,())
def JH:=kf func230 [t11] (.many [y0,y0]) (u1 Da) [] (p_ 5 11 (.j ⟨[.val 4 y0,.val 9 y0],[7,8]⟩ .e)) [fP]
noncomputable def B5:SA U:=bc (aS prog 48 [] f159) (.r (.r (.r (.r (.l (.r (.l (.j ⟨[.val 38 y0],[36,37]⟩ .e))))))))
def wb(rec:(ar×Unit)->Y Int)(a:ar):Y Int:=(oO (decide (a.aV<1)) (some (decide ((aC .i64 (a.aY.length:Int) (a.bC.length:Int))<a.aV)))).bind λe=>bif e then some 4 else(iT a.aY).bind λf=>bif f then some 5 else(Da a.aY).bind λc=>bif (!decide (c.2.1=0))then some c.2.1 else aE (λ(b:Int×Unit)=>bif decide (b.1<(a.bC.length:Int))then(idx a.bC b.1).bind λg=>(rec ((af g),())).bind λd=>bif (!decide (d=0))then oR (some d)else some (inl ((aC .i64 b.1 1),()))else oR (some 0)) (0,())
noncomputable def Ec:Nat->(ar×Unit)->Y Int:=gK (λrec a=>wb rec a.1)
def vG(a:ar):Y Int:=Ec (SizeOf.sizeOf a+1) (a,())
noncomputable def DM:KS U prog:=⟨.fn 159 [t4] q0 λa=>vG a.1,Bc (K:=K) (A_s:=[t4]) (r:= .one y0) (B:=λrec a=>wb rec a.1) B5 48 [.tmp 2] [pb,JH] (fk f159 [] func159) (hF:=λa=>⟨_,rfl⟩)⟩
def bF(a:ar):Y Int:=(vH (af a)).bind λb=>(oO (decide (4<b)) ((xD (af a)).bind λc=>some (decide (200<c)))).bind λd=>bif d then some 3 else(vG (af a)).bind some
def bL:=kf func93 [t4] q0 (u1 bF) [] .e [DN,EO,DM]
noncomputable def DF:SA U:=bc (aS prog 35 [] f156) (.r (.r (.b (.r (.l (.j ⟨[.val 3 y0,.val 11 y0],[1,9,10]⟩ (.l (.r (.r (.j ⟨[.val 3 y0],[1,9,10,11]⟩ .e))))))) (.l (.r (.l (.j ⟨[.val 3 y0,.val 25 y0],[23,24]⟩ .e)))))))
def xS(rec:(ar×Unit)->Y Int)(c:ar):Y Int:=aE (λ(a:Int×Int×Unit)=>bif decide (a.2.1<(c.aY.length:Int))then aX (λ(f:Int×Unit)=>some (inl (f.1,(aC .i64 a.2.1 1),()))) λe=>(idx c.aY a.2.1).bind λd=>(qC d).bind λg=>bif g then if d<0 then none else e ((vt .i64 a.1 (dF .i64 1 d)),())else e (a.1,())else oR (aE (λ(b:Int×Int×Unit)=>bif decide (b.2.1<(c.bC.length:Int))then(idx c.bC b.2.1).bind λh=>(rec ((af h),())).bind λi=>some (inl ((vt .i64 b.1 i),(aC .i64 b.2.1 1),()))else oR (some b.1)) (a.1,0,()))) (0,0,())
noncomputable def Fp:Nat->(ar×Unit)->Y Int:=gK (λrec a=>xS rec a.1)
def qD(a:ar):Y Int:=Fp (SizeOf.sizeOf a+1) (a,())
noncomputable def xh:KS U prog:=⟨.fn 156 [t4] q0 λa=>qD a.1,Bc (K:=K) (A_s:=[t4]) (r:= .one y0) (B:=λrec a=>xS rec a.1) DF 35 [.tmp 2] [xg] (fk f156 [] func156) (hF:=λa=>⟨_,rfl⟩)⟩
def pU(a:bS)(b:Int):Y Int:=bif (!a.qJ)then(qY (af a.ae)).bind λd=>bif (!d)then some 1 else some 0 else(bF (af a.ae)).bind λc=>bif (!decide (c=0))then some c else(qD (af a.ae)).bind λe=>if b<0 then none else bif decide ((dF .i64 1 b)<=e)then some 5 else some 0
def zj:=kf func90 [.ty y21,t0] q0 (u2 pU) [] .e [z6,bL,xh]
def qZ(a:bo):Y Int:=bif decide (10<(a.dS.length:Int))then some 3 else aE (λ(b:Int×Unit)=>bif decide (b.1<(a.dS.length:Int))then(idx a.dS b.1).bind λd=>(pU (eT4 d) (a.dS.length:Int)).bind λc=>bif (!decide (c=0))then oR (some c)else some (inl ((aC .i64 b.1 1),()))else oR (some 0)) (0,())
def z7:=kf func43 [t12] q0 (u1 qZ) [] (p_ 5 11 (.j ⟨[.val 13 y0],[1,11,12]⟩ .e)) [zj]
noncomputable def xG(a:bS):Y Bool:=some (!a.qJ)
def ES:=kf func45 [.ty y21] q1 (u1 xG) [] .e []
def fL(b:Z bS):Y Int:=aE (λ(a:Int×Unit)=>bif decide (a.1<(b.length:Int))then(idx b a.1).bind λc=>(xG (eT4 c)).bind λd=>bif d then oR (some a.1)else some (inl ((aC .i64 a.1 1),()))else oR (some (-1:Int))) (0,())
def kV:=kf func91 [.ty (Ty.sl (Ty.st .ik)),.aT 45 []] q0 (λa=>fL a.1) [] (p_ 4 5 (.j ⟨[.val 8 y0],[0,1,7]⟩ .e)) [ES]
def eY(a:Z bS):Y Bool:=(fL a).bind λb=>some (decide (0<=b))
def jQ:=kf func44 [.ty (Ty.sl (Ty.st .ik)),.aT 45 []] q1 (λa=>eY a.1) [] .e [kV]
noncomputable def ot(a:Int):Y Bool:=(aO (decide (0<=a)) (some (decide (a<10)))).bind some
def uw:=kf func92 [t0] q1 (u1 ot) [] .e []
noncomputable def xX:SA U:=bc (aS prog 8 [5] f94) .e
noncomputable def pL(a:Z Int):Y (Z Int):=bif List.isEmpty a then both (some []) (bif bn 8 (List.length ([]:Z Int)+a.length)then some (([]:Z Int)++a)else none)else bif bn 8 (List.length ([]:Z Int)+a.length)then some (([]:Z Int)++a)else none
def bw(a:Z Int):Y (Z Int):=bif bn 8 (List.length ([]:Z Int)+a.length)then some (([]:Z Int)++a)else none
def zo(a0:Z Int):pL a0=bw a0:=match a0 with|[]=>uN _|_::_=>rfl
noncomputable def kW:KS U prog:=⟨.fn 94 [t11] (.one y11) λa=>bw a.1,N0 (K:=K) xX 8 [.tmp 2] [] (fk f94 [5] func94) (hF:=qaY (b:=λa:((Z Int)×Unit)=>pL a.1) d_ (funext λa=>zo a.1))⟩
noncomputable def FE:SA U:=bc (aS prog 28 [] f47) (.r (.r (.l (.r (.l (.ps (.rK 3 2 44 3 y4) (.j ⟨[.val 15 y0,.box 8 1 y4 [(2,14,2)],.bO 14 2 false 44 3 y4],[2,3,13,14]⟩ .e)))))))
def Ay(rec:(ar×Unit)->Y ar)(b:ar):Y ar:=(bw b.aY).bind λd=>aE (λ(a:Int×ar×Z ar×Unit)=>bif decide (a.1<(b.bC.length:Int))then(idx b.bC a.1).bind λe=>(rec ((af e),())).bind λc=>bif bn 56 (a.2.2.1.length+List.length [(af c)])then some (inl ((aC .i64 a.1 1),(ar.mk a.2.1.aV a.2.1.aY []),(a.2.2.1++[(af c)]),()))else none else oR (some (ar.mk a.2.1.aV a.2.1.aY a.2.2.1))) (0,(ar.mk b.aV d []),[],())
noncomputable def H4:Nat->(ar×Unit)->Y ar:=gK (λrec a=>Ay rec a.1)
def bG(a:ar):Y ar:=H4 (SizeOf.sizeOf a+1) (a,())
noncomputable def bW:KS U prog:=⟨.fn 47 [t4] (.one y4) λa=>bG a.1,Bc (K:=K) (A_s:=[t4]) (r:= .one y4) (B:=λrec a=>Ay rec a.1) FE 28 [.cell 2 (some 3)] [kW] (fk f47 [] func47) (hF:=λa=>⟨_,rfl⟩)⟩
def vL(a:Int)(b:ar):Y (ay×Int×Unit):=(ot a).bind λc=>bif (!c)then some (zz3,5,())else(bF (af b)).bind λd=>bif (!decide (d=0))then some (zz3,1,())else(bG (af b)).bind λe=>some ((ay.mk a false (af e) []),0,())
def DS:=kf func46 [t0,t4] (.many [y6,y0]) (u2 vL) [] .e [uw,bL,bW]
def tP(b:bo)(d:Int):Y (aH×Int×Unit):=(qZ b).bind λe=>bif (!decide (e=0))then some (zz5,e,())else(eY b.dS).bind λh=>bif h then some (zz5,10,())else(oO (decide ((b.dS.length:Int)=0)) (some (decide (d<0)))).bind λi=>(oO i (if(b.dS.length:Int)<0 then none else some (decide ((dF .i64 1 (b.dS.length:Int))<=d)))).bind λj=>bif j then some (zz5,1,())else aE (λ(a:Int×aH×aH×Z ay×(Z (Z ar))×Unit)=>bif decide (a.1<(b.dS.length:Int))then(idx b.dS a.1).bind λf=>(vL a.1 (af f.ae)).bind λc=>bif (!decide (c.2.1=0))then oR (some (zz5,c.2.1,()))else bif bn 96 (a.2.2.2.1.length+List.length [(eT3 c.1)])then(bG (af f.ae)).bind λg=>bif bn 24 (a.2.2.2.2.1.length+List.length [[(af g)]])then some (inl ((aC .i64 a.1 1),a.2.1,{a.2.2.1 with aY:=[],fl:=[]},(a.2.2.2.1++[(eT3 c.1)]),(a.2.2.2.2.1++[[(af g)]]),()))else none else none else oR (some ({a.2.2.1 with aY:=a.2.2.2.1,fl:=a.2.2.2.2.1},0,()))) (0,zz5,(aH.mk 0 [] d zz4 []),[],[],())
def HC:=kf func12 [t12,t0] (.many [y20,y0]) (u2 tP) [] (p_ 8 95 (.ps (.rK 7 1 60 6 y6) (.ps (.rK 7 7 42 1 y14) (.j ⟨[.val 44 y0,.box 1 1 y20 [],.box 29 1 y20 [(1,35,2),(7,36,2)],.bO 35 2 false 60 6 y6,.bO 36 2 false 42 1 y14],[4,7,42,43]⟩ .e)))) [z7,jQ,DS,bW]
def ny(s:jA)(a:Z C):Y (C×jA):=(oq s (a.length:Int)).bind λb=>(idx a b.1).bind λc=>some (c,b.2)
def F9:=kr func55 0 y28 [t13] (.one y2) (λs a=>ny s a.1) [] .e [Cr]
def mH(s:jA):Y (C×jA):=(ny s [(ByteArray.mk #[97]),(ByteArray.mk #[98]),(ByteArray.mk #[99]),(ByteArray.mk #[97,97])]).bind λa=>some (a.1,a.2)
def ET:=kr func18 0 y28 [] (.one y2) (λs a=>mH s) [] .e [F9]
def sF(c:Z Int):Y Bool:=aE (λ(a:Int×Int×Unit)=>bif decide (a.2.1<(c.length:Int))then(idx c a.2.1).bind λb=>(oO (decide (b=0)) ((fC b).bind λd=>some (!d))).bind λe=>(oO e (some (!decide ((MO .i64 a.1 b)=0)))).bind λf=>bif f then oR (some false)else some (inl ((vt .i64 a.1 b),(aC .i64 a.2.1 1),()))else oR (some (decide ((c.length:Int)<=10)))) (0,0,())
def yk:=kf func117 [t11] q1 (u1 sF) [] (p_ 5 11 (.j ⟨[.val 3 y0,.val 8 y0],[0,6,7]⟩ .e)) [iz]
noncomputable def u7(a:Int):Y Bool:=(oO (decide (a<0)) (some (decide (20<a)))).bind some
def Cx:=kf func182 [t0] q1 (u1 u7) [] .e []
def jV(b:Z Int):Y Int:=aE (λ(a:Int×Unit)=>bif decide (a.1<(b.length:Int))then(idx b a.1).bind λc=>(u7 c).bind λd=>bif d then oR (some a.1)else some (inl ((aC .i64 a.1 1),()))else oR (some (-1:Int))) (0,())
def rA:=kf func245 [t11,.aT 182 []] q0 (λa=>jV a.1) [] (p_ 4 5 (.j ⟨[.val 8 y0],[0,1,7]⟩ .e)) [Cx]
def iU(a:Z Int):Y Bool:=(jV a).bind λb=>some (decide (0<=b))
def pc:=kf func183 [t11,.aT 182 []] q1 (λa=>iU a.1) [] .e [rA]
def xJ(a:Z Int):Y Bool:=(oO (decide ((a.length:Int)=0)) (some (decide ((a.length:Int)=100)))).bind λb=>(aO b ((iU a).bind λc=>some (!c))).bind some
def EX:=kf func118 [t11] q1 (u1 xJ) [] .e [pc]
noncomputable def gU(a:Int):Y Bool:=(aO (decide (0<=a)) (some (decide (a<10)))).bind some
def tz:=kf func119 [t0] q1 (u1 gU) [] .e []
noncomputable def nI(a:Int):Y Bool:=some (!decide (a=a))
def Gm:=kf func246 [t0] q1 (u1 nI) [] .e []
def bU(a:Int)(b:Int):Y Int:=(nI a).bind λd=>(nI b).bind λc=>bif d then bif c then some 0 else some (-1:Int)else bif c then some 1 else bif decide (a<b)then some (-1:Int)else bif decide (b<a)then some 1 else some 0
def fu:=kf func185 [t0,t0] q0 (u2 bU) [] .e [Gm]
noncomputable def gE(b:Z Int):Y Int:=aE (λ(a:Int×Unit)=>bif decide (a.1<(b.length:Int))then(idx b a.1).bind λc=>bif (!decide (c=0))then oR (some c)else some (inl ((aC .i64 a.1 1),()))else oR (some 0)) (0,())
def nZ:=kf func184 [t11] q0 (u1 gE) [] (p_ 5 11 (.j ⟨[.val 8 y0],[3,6,7]⟩ .e)) []
def lz(a:bx)(b:bx):Y Int:=(bU a.td b.td).bind λc=>(bU a.C8 b.C8).bind λd=>(bU a.To b.To).bind λe=>(bU a.Number b.Number).bind λf=>(gE [c,d,e,f]).bind some
def vx:=kf func120 [.ty y15,.ty y15] q0 (u2 lz) [] .e [fu,nZ]
def kL(d:bI):Y Bool:=(oO (decide (4000<(d.cD.length:Int))) (some (decide (d.Next<0)))).bind λi=>(oO i (some (decide (1000000000<d.Next)))).bind λj=>(oO j ((sF d.gl).bind λk=>some (!k))).bind λl=>(oO l ((xJ d.gG).bind λm=>some (!m))).bind λn=>bif n then some false else aE (λ(e:Int×Unit)=>bif decide (e.1<(d.cD.length:Int))then(idx d.cD e.1).bind λb=>aX (λ(o:Bool×Unit)=>bif o.1 then oR (some false)else some (inl ((aC .i64 e.1 1),()))) λa=>(gU b.C8).bind λf=>bif (!f)then a (true,())else(gU b.To).bind λg=>bif (!g)then a (true,())else bif decide (b.C8=b.To)then a (true,())else bif decide (b.td<0)then a (true,())else bif decide (220<b.td)then a (true,())else bif decide (b.Number<0)then a (true,())else bif decide (d.Next<=b.Number)then a (true,())else bif decide (0<e.1)then(idx d.cD (iG .i64 e.1 1)).bind λc=>(lz {c with ak:={c.ak with ai:={c.ak.ai with ae:=(af c.ak.ai.ae)},ah:=(eT1 c.ak.ah)}} {b with ak:={b.ak with ai:={b.ak.ai with ae:=(af b.ak.ai.ae)},ah:=(eT1 b.ak.ah)}}).bind λh=>a ((decide (0<=h)),())else a (false,())else oR (some true)) (0,())
def ym:=kf func61 [.ty y25] q1 (u1 kL) [] (p_ 5 11 (.j ⟨[.val 34 y0],[1,32,33]⟩ (p_ 6 38 (.j ⟨[.val 92 y1],[1,32,33,34]⟩ .e)))) [yk,EX,tz,vx]
noncomputable def aU(a:aj):Y Bool:=some (oe false a.al 0 a.Value bE)
def bh:=kf func248 [t3] q1 (u1 aU) [] .e []
noncomputable def kO(a:C):Y Bool:=some (!decide (a=a))
def CB:=kf func413 [t2] q1 (u1 kO) [] .e []
def gF(a:C)(b:C):Y Int:=(kO a).bind λd=>(kO b).bind λc=>bif d then bif c then some 0 else some (-1:Int)else bif c then some 1 else bif (mj a b)then some (-1:Int)else bif (!(mj a b||decide (a=b)))then some 1 else some 0
def rY:=kf func369 [t2,t2] q0 (u2 gF) [] .e [CB]
def eo(a:C)(b:C):Y Int:=(bU (ByteArray.size a:Int) (ByteArray.size b:Int)).bind λc=>(gF a b).bind λd=>(gE [c,d]).bind some
def o2:=kf func451 [t2,t2] q0 (u2 eo) [] .e [fu,rY,nZ]
def iZ(a:aj)(b:aj):Y Int:=(bU a.al b.al).bind λc=>(eo a.Value b.Value).bind λd=>(gE [c,d]).bind some
def vC:=kf func412 [t3,t3] q0 (u2 iZ) [] .e [fu,o2,nZ]
def cE(a:aj)(b:aj):Y Bool:=(iZ a b).bind λc=>some (decide (c<0))
def fb:=kf func364 [t3,t3] q1 (u2 cE) [] .e [vC]
noncomputable def bt(a:aj)(b:aj):Y Bool:=some (decide (a.Value=b.Value))
def cd:=kf func323 [t3,t3] q1 (u2 bt) [] .e []
noncomputable def eM(a:aj):Y Bool:=(aO (decide (1<=a.al)) (some (decide (a.al<=1000)))).bind λb=>(oO b (some (decide (a.al=1000000)))).bind λc=>(aO c (some (decide (1<=(ByteArray.size a.Value:Int))))).bind λd=>(aO d (some (decide ((ByteArray.size a.Value:Int)<=200)))).bind some
def kF:=kf func322 [t3] q1 (u1 eM) [] .e []
def iv(a:aj):Y Bool:=(eM a).bind λb=>(aO b (some (decide (a.al<=1000)))).bind some
def uB:=kf func321 [t3] q1 (u1 iv) [] .e [kF]
def gD(a:aj):Y Bool:=(aU a).bind λb=>(oO b ((eM a).bind some)).bind some
def A6:=kf func365 [t3] q1 (u1 gD) [] .e [bh,kF]
noncomputable def jt(a:ao)(b:Int):Y aj:=some (aj.mk b a.aG.Value)
def zY:=kf func366 [t7,t0] (.one y3) (u2 jt) [] .e []
def dn(a:aj)(b:aj):Y Bool:=(aU a).bind λc=>(aO (!c) ((bt a b).bind λd=>some (!d))).bind λe=>(aO e ((cE b a).bind some)).bind some
def qw:=kf func367 [t3,t3] q1 (u2 dn) [] .e [bh,cd,fb]
def ga(a:aj)(b:aj):Y Bool:=(aU a).bind λc=>(aO (!c) ((bt a b).bind some)).bind λd=>(aO d (some (decide (b.al<=a.al)))).bind some
def qv:=kf func368 [t3,t3] q1 (u2 ga) [] .e [bh,cd]
def ei(c:aj)(a:aj)(b:aj):Y Bool:=(ga c b).bind λd=>(oO d ((ga a b).bind some)).bind λe=>(oO e ((aU a).bind λf=>(aO (!f) ((cE b a).bind some)).bind some)).bind some
def kG:=kf func324 [t3,t3,t3] q1 (u3 ei) [] .e [qv,bh,fb]
def sI(a:ao):Y Bool:=(aU a.bD).bind λr=>(oO r ((aU a.aP).bind λs=>(aO (!s) ((cE a.bD a.aP).bind some)).bind λt=>(aO t ((bt a.bD a.aP).bind λu=>some (!u))).bind some)).bind λv=>(iv a.aG).bind λw=>(oO (!w) ((gD a.aP).bind λx=>some (!x))).bind λd=>(oO d ((gD a.bD).bind λe=>some (!e))).bind λf=>(oO f (some (!v))).bind λg=>(oO g (some (decide (a.eX<0)))).bind λh=>(oO h (some (decide (a.dU<a.eX)))).bind λi=>(oO i (some (decide (a.aG.al<a.dU)))).bind λj=>bif j then some false else(jt (eT1 a) a.eX).bind λc=>aX (λ(k:Bool×Unit)=>some k.1) λb=>bif decide (a.dU=0)then bif decide (a.eX=0)then b (true,())else(dn a.aP c).bind λl=>bif (!l)then(dn a.bD c).bind λm=>b ((!m),())else b (false,())else(jt (eT1 a) a.dU).bind λn=>(ei a.aP a.bD n).bind λo=>bif o then bif decide (a.eX=0)then b (true,())else(dn a.aP c).bind λp=>bif (!p)then(dn a.bD c).bind λq=>b ((!q),())else b (false,())else b (false,())
def AZ:=kf func320 [t7] q1 (u1 sI) [] (p_ 4 15 (.j ⟨[.val 2 y1],[]⟩ .e)) [bh,fb,cd,uB,A6,zY,qw,kG]
def c6(a:ao):Y Bool:=(oO (decide (a.aF<0)) (some (decide (10<=a.aF)))).bind λk=>(oO k (some (decide (a.br<1)))).bind λl=>(oO l (some (decide (1000000<a.br)))).bind λm=>(oO m (some (decide (a.cU<1)))).bind λn=>(oO n (some (decide (1000000<a.cU)))).bind λo=>(oO o ((bF (af a.ae)).bind λp=>some (!decide (p=0)))).bind λq=>bif q then some false else(aO (decide (1<=a.eX)) (some (decide (a.eX<=a.dU)))).bind λr=>(aO r (some (decide (a.dU<=1000)))).bind λj=>bif decide (a.cF=1)then(sI (eT1 a)).bind some else bif decide (a.cF=2)then(iv a.aG).bind λb=>(aO b ((eM a.aP).bind some)).bind λc=>(aO c ((bt a.aP a.aG).bind some)).bind λd=>(aO d ((aU a.bD).bind some)).bind λe=>(aO e (some j)).bind λf=>(aO f (some (decide (a.dU<=a.aP.al)))).bind some else aO (decide (a.cF=3)) ((eM a.aG).bind λg=>(aO g ((aU a.aP).bind some)).bind λh=>(aO h ((aU a.bD).bind some)).bind λi=>(aO i (some j)).bind some)
def dy:=kf func250 [t7] q1 (u1 c6) [] .e [bL,AZ,uB,kF,cd,bh]
def yG(a:aW):Y Bool:=aE (λ(b:Int×Unit)=>bif decide (b.1<(a.bm.length:Int))then(idx a.bm b.1).bind λd=>aX (λ(e:Bool×Unit)=>bif e.1 then oR (some false)else some (inl ((aC .i64 b.1 1),()))) λc=>(c6 (eT1 d)).bind λf=>bif (!f)then c (true,())else bif (!decide (d.br=a.br))then c (true,())else bif decide (d.aF=a.aF)then c (true,())else bif decide (0<b.1)then(idx a.bm (iG .i64 b.1 1)).bind λg=>c ((decide (d.aF<=g.aF)),())else c (false,())else oR (some true)) (0,())
def Ge:=kf func247 [t9] q1 (u1 yG) [] (p_ 4 5 (.j ⟨[.val 8 y0],[1,6,7]⟩ (p_ 6 38 (.j ⟨[.val 45 y1],[1,6,7,8]⟩ .e)))) [dy]
noncomputable def yH(a:aW):Y Bool:=(aO (decide (a.dZ=1)) (some (decide (a.cU=0)))).bind λb=>(aO b (some (oe false a.aP.al 0 a.aP.Value bE))).bind λc=>(aO c (some (oe false a.bD.al 0 a.bD.Value bE))).bind λd=>(aO d (some (oe false a.bM.al 0 a.bM.Value bE))).bind λe=>(aO e (some (decide (a.eX=0)))).bind λf=>(aO f (some (decide (a.dU=0)))).bind some
def Gf:=kf func249 [t9] q1 (u1 yH) [] .e []
def ct(a:aW):Y ao:=aX (λ(c:ao×Unit)=>some (eT1 c.1)) λb=>bif decide (a.dZ=1)then(aU a.bM).bind λd=>(aO (!d) ((bt a.bM a.aG).bind some)).bind λe=>bif e then b ({a with ae:=(af a.ae),cF:=a.dZ,dU:=a.bM.al},())else b ({a with ae:=(af a.ae),cF:=a.dZ,dU:=0},())else b ({a with ae:=(af a.ae),cF:=a.dZ},())
def eD:=kf func251 [t9] (.one y7) (u1 ct) [] (p_ 2 3 (.j ⟨[.box 23 1 y7 []],[2,3]⟩ .e)) [bh,cd]
def s5(a:aW):Y Bool:=(aU a.bM).bind λb=>oO b ((eM a.bM).bind λc=>(oO (!c) (some (decide (1000<a.bM.al)))).bind λd=>bif d then some false else(ei a.aP a.bD a.bM).bind λe=>(oO e ((aO (!decide (a.dZ=1)) ((bt a.bM a.aG).bind some)).bind some)).bind some)
def BP:=kf func252 [t9] q1 (u1 s5) [] .e [bh,kF,kG,cd]
def fD(a:aW):Y Bool:=(oO (decide (a.aF<0)) (some (decide (10<=a.aF)))).bind λi=>(oO i (some (decide (a.br<1)))).bind λj=>(oO j (some (decide (1000000<a.br)))).bind λk=>(oO k (some (decide (a.cU<0)))).bind λl=>(oO l (some (decide (1000000<a.cU)))).bind λm=>(oO m ((bF (af a.ae)).bind λn=>some (!decide (n=0)))).bind λo=>(oO o (some (decide (200<(ByteArray.size a.fZ:Int))))).bind λp=>(oO p ((yG (eT2 a)).bind λq=>some (!q))).bind λb=>bif b then some false else(aU a.aG).bind λc=>bif c then(yH (eT2 a)).bind some else(ct (eT2 a)).bind λd=>(c6 (eT1 d)).bind λe=>(aO e ((s5 (eT2 a)).bind some)).bind λf=>(aO f ((oO (!decide (a.dZ=1)) (some (decide (a.dU=0)))).bind some)).bind λg=>(aO g ((oO (!(!decide (a.dZ=1))) ((aU a.bD).bind some)).bind some)).bind λh=>(aO h ((oO (!decide (a.dZ=3)) ((aU a.aP).bind some)).bind some)).bind some
def gu:=kf func187 [t9] q1 (u1 fD) [] .e [bL,Ge,bh,Gf,eD,dy,BP]
def pw(a:aW):Y (C×Bool×Unit):=(oO (!decide (a.dZ=3)) ((fD (eT2 a)).bind λb=>some (!b))).bind λc=>bif c then some (bE,false,())else some (a.aG.Value,true,())
def vA:=kf func186 [t9] (.many [y2,y1]) (u1 pw) [] .e [gu]
noncomputable def ly(a:Int):Y Bool:=(aO (decide (0<=a)) (some (decide (a<10)))).bind some
def ph:=kf func325 [t0] q1 (u1 ly) [] .e []
def sB(a:aD):Y Bool:=(ly a.aF).bind λb=>(aO b (some (decide (0<=a.br)))).bind λc=>(aO c (some (decide (a.br<=1000000)))).bind λd=>(aO d (some (decide (1<=a.Round)))).bind λe=>(aO e (some (decide (a.Round<=1000)))).bind λf=>(aO f (some (decide (1<=a.cU)))).bind λg=>(aO g (some (decide (a.cU<=1000000)))).bind some
def AU:=kf func253 [t8] q1 (u1 sB) [] .e [ph]
noncomputable def ow(a:C):Y Bool:=(aO (decide (1<=(ByteArray.size a:Int))) (some (decide ((ByteArray.size a:Int)<=200)))).bind some
def ux:=kf func326 [t2] q1 (u1 ow) [] .e []
def et(a:C)(b:C):Y Int:=(bU (ByteArray.size a:Int) (ByteArray.size b:Int)).bind λc=>(gF a b).bind λd=>(gE [c,d]).bind some
def jd:=kf func327 [t2,t2] q0 (u2 et) [] .e [fu,rY,nZ]
def gI(b:Z C):Y Bool:=aE (λ(a:Int×Unit)=>bif decide (a.1<(b.length:Int))then(idx b a.1).bind λc=>(ow c).bind λd=>(oO (!d) ((aO (decide (0<a.1)) ((idx b (iG .i64 a.1 1)).bind λe=>(et e c).bind λf=>some (decide (0<=f)))).bind some)).bind λg=>bif g then oR (some false)else some (inl ((aC .i64 a.1 1),()))else oR (some (decide ((b.length:Int)<=40)))) (0,())
def vw:=kf func254 [t13] q1 (u1 gI) [] (p_ 4 5 (.j ⟨[.val 7 y0],[0,5,6]⟩ .e)) [ux,jd]
noncomputable def lQ(b:Z C)(c:C):Y Int:=aE (λ(a:Int×Unit)=>bif decide (a.1<(b.length:Int))then(idx b a.1).bind λd=>bif decide (c=d)then oR (some a.1)else some (inl ((aC .i64 a.1 1),()))else oR (some (-1:Int))) (0,())
def tu:=kf func370 [t13,t2] q0 (u2 lQ) [] (p_ 4 5 (.j ⟨[.val 8 y0],[0,1,7]⟩ .e)) []
def jW(a:Z C)(b:C):Y Bool:=(lQ a b).bind λc=>some (decide (0<=c))
def rB:=kf func329 [t13,t2] q1 (u2 jW) [] .e [tu]
def jE(a:Z C)(b:C):Y Bool:=(jW a b).bind some
def qq:=kf func257 [t13,t2] q1 (u2 jE) [] .e [rB]
def sC(a:C)(b:aD):Y Bool:=(jE b.bK a).bind λc=>some (!c)
def AV:=kf func256 [t2,.ref (t8)] q1 (u2 sC) [] .e [qq]
def gY(b:Z C)(c:aD):Y Int:=aE (λ(a:Int×Unit)=>bif decide (a.1<(b.length:Int))then(idx b a.1).bind λd=>(sC d (eT0 c)).bind λe=>bif e then oR (some a.1)else some (inl ((aC .i64 a.1 1),()))else oR (some (-1:Int))) (0,())
def nL:=kf func328 [t13,.aT 256 [.ref (t8)]] q0 (λa=>gY a.1 a.2.1.1) [] (p_ 4 5 (.j ⟨[.val 8 y0],[0,1,7]⟩ .e)) [AV]
def gB(a:Z C)(b:aD):Y Bool:=(gY a (eT0 b)).bind λc=>some (decide (0<=c))
def mn:=kf func255 [t13,.aT 256 [.ref (t8)]] q1 (λa=>gB a.1 a.2.1.1) [] .e [nL]
def oy(a:aA):Y Bool:=(ly a.aF).bind λb=>(aO b (some (decide (1<=a.cU)))).bind λc=>(aO c ((bF (af a.ae)).bind λd=>some (decide (d=0)))).bind λe=>(aO e ((gI a.di).bind some)).bind λf=>(aO f ((gI a.bK).bind some)).bind some
def uz:=kf func258 [.ty y16] q1 (u1 oy) [] .e [ph,bL,vw]
def iu(a:aD):Y Bool:=(sB (eT0 a)).bind λi=>(oO (!i) ((bF (af a.ae)).bind λj=>some (!decide (j=0)))).bind λk=>(oO k (some (decide (200<(ByteArray.size a.sx:Int))))).bind λl=>bif l then some false else(gI a.di).bind λm=>(oO (!m) ((gI a.bK).bind λn=>some (!n))).bind λo=>(oO o ((gI a.da).bind λp=>some (!p))).bind λq=>bif q then some false else(gB a.da (eT0 a)).bind λe=>bif e then some false else aE (λ(b:Int×Unit)=>bif decide (b.1<(a.bm.length:Int))then(idx a.bm b.1).bind λc=>aX (λ(f:Bool×Unit)=>bif f.1 then oR (some false)else some (inl ((aC .i64 b.1 1),()))) λd=>(oy {c with ae:=(af c.ae)}).bind λg=>bif (!g)then d (true,())else bif decide (c.aF=a.aF)then d (true,())else bif decide (0<b.1)then(idx a.bm (iG .i64 b.1 1)).bind λh=>d ((decide (c.aF<=h.aF)),())else d (false,())else oR (some true)) (0,())
def kE:=kf func188 [t8] q1 (u1 iu) [] (p_ 7 47 (.j ⟨[.val 43 y0],[1,41,42]⟩ (p_ 6 38 (.j ⟨[.val 73 y1],[1,41,42,43]⟩ .e)))) [AU,bL,vw,mn,uz]
noncomputable def pN(b:Z Int)(c:Z Int):Y Bool:=bif (!decide ((b.length:Int)=(c.length:Int)))then some false else aE (λ(a:Int×Unit)=>bif decide (a.1<(b.length:Int))then(idx b a.1).bind λd=>(idx c a.1).bind λe=>bif (!decide (d=e))then oR (some false)else some (inl ((aC .i64 a.1 1),()))else oR (some true)) (0,())
def zb:=kf func190 [t11,t11] q1 (u2 pN) [] (p_ 5 11 (.j ⟨[.val 13 y0],[0,1,12]⟩ .e)) []
noncomputable def fV:SA U:=bc (aS prog 32 [] f191) (.r (.r (.l (.r (.l (.j ⟨[.val 17 y0],[1,2,15,16]⟩ .e))))))
noncomputable def dw(rec:(ar×ar×Unit)->Y Bool)(b:Z ar)(c:Z ar):Y Bool:=bif (!decide ((b.length:Int)=(c.length:Int)))then some false else aE (λ(a:Int×Unit)=>bif decide (a.1<(b.length:Int))then(idx b a.1).bind λd=>(idx c a.1).bind λe=>(rec ((af d),(af e),())).bind λf=>bif (!f)then oR (some false)else some (inl ((aC .i64 a.1 1),()))else oR (some true)) (0,())
noncomputable def gg(g:(ar×ar×Unit)->Y Bool)(h:bQ.Sound prog (U:=U) (.fn 122 [t4,t4] q1 g)):KS U prog:=⟨.fn 191 [t14,t14,.aT 122 []] q1 λa=>dw g a.1 a.2.1,N0 (K:=K) fV 32 [.tmp 6] (⟨_,h⟩::[]) (fk f191 [] func191)⟩
noncomputable def DH:SA U:=bc (aS prog 24 [] f122) .e
def xU(rec:(ar×ar×Unit)->Y Bool)(a:ar)(b:ar):Y Bool:=(aO (decide (a.aV=b.aV)) ((pN a.aY b.aY).bind some)).bind λc=>(aO c ((dw rec a.bC b.bC).bind some)).bind some
noncomputable def Fs:Nat->(ar×ar×Unit)->Y Bool:=gK (λrec a=>xU rec a.1 a.2.1)
def er(a:ar)(b:ar):Y Bool:=Fs (SizeOf.sizeOf a+SizeOf.sizeOf b+1) (a,b,())
noncomputable def eU:KS U prog:=⟨.fn 122 [t4,t4] q1 λa=>er a.1 a.2.1,VA (K:=K) (A_s:=[t4,t4]) (r:= .one y1) (B:=λrec a=>xU rec a.1 a.2.1) DH 24 [.tmp 4] (λg h=>[gg g h,zb]) (fk f122 [] func122) (hF:=λa=>⟨_,rfl⟩)⟩
noncomputable def tO(a:gz):Y Bool:=(aO (decide (0<=a.al)) (some (decide (a.al<=1000000)))).bind λb=>(aO b (some (decide ((-1:Int)<=a.td)))).bind λc=>(aO c (some (decide (a.td<=212)))).bind some
def zI:=kf func189 [.ty (Ty.st .Timer)] q1 (u1 tO) [] .e []
def im(a:ba):Y Bool:=(pw (eT2 a.aa)).bind λh=>(fD (eT2 a.aa)).bind λi=>(aO i ((iu (eT0 a.aN)).bind some)).bind λj=>(aO j (some (decide (a.aN.aF=a.aa.aF)))).bind λk=>(aO k (some (decide (a.aN.br=a.aa.br)))).bind λl=>(aO l ((er (af a.aN.ae) (af a.aa.ae)).bind some)).bind λm=>(aO m ((tO a.Timer).bind some)).bind λb=>(aO b (some (decide (1<=a.Round)))).bind λc=>(aO c (some (decide (a.Round<=1000)))).bind λd=>(aO d (some (decide (0<=a.Next)))).bind λe=>(aO e (some (decide (a.Next<=212)))).bind λf=>(aO f (some (xor false (decide (a.Fu=h.2.1))))).bind λg=>(aO g (some (decide (a.Value=h.1)))).bind some
def jy:=kf func121 [t5] q1 (u1 im) [] .e [vA,gu,kE,eU,zI]
def dt(a:ay):Y Bool:=(ot a.aF).bind λg=>(oO (!g) ((bF (af a.ae)).bind λh=>some (!decide (h=0)))).bind λi=>(oO i (some (decide (8<(a.bX.length:Int))))).bind λj=>bif j then some false else aE (λ(b:Int×Unit)=>bif decide (b.1<(a.bX.length:Int))then(idx a.bX b.1).bind λd=>aX (λ(k:Bool×Unit)=>bif k.1 then oR (some false)else some (inl ((aC .i64 b.1 1),()))) λc=>(im (eT5 d)).bind λl=>bif (!l)then c (true,())else bif (!decide (d.aa.aF=a.aF))then c (true,())else(er (af d.aa.ae) (af a.ae)).bind λe=>bif (!e)then c (true,())else bif decide (0<b.1)then(idx a.bX (iG .i64 b.1 1)).bind λf=>c ((decide (d.aa.br<=f.aa.br)),())else c (false,())else oR (some true)) (0,())
def dM:=kf func62 [t6] q1 (u1 dt) [] (p_ 5 11 (.j ⟨[.val 24 y0],[1,22,23]⟩ (p_ 6 38 (.j ⟨[.val 66 y1],[1,22,23,24]⟩ .e)))) [uw,bL,jy,eU]
def sY(a:ar)(b:ar):Y Bool:=(er (af a) (af b)).bind some
def BL:=kf func124 [t4,.ref (t4)] q1 (u2 sY) [] .e [eU]
def fT(b:Z ar)(c:ar):Y Int:=aE (λ(a:Int×Unit)=>bif decide (a.1<(b.length:Int))then(idx b a.1).bind λd=>(sY (af d) (af c)).bind λe=>bif e then oR (some a.1)else some (inl ((aC .i64 a.1 1),()))else oR (some (-1:Int))) (0,())
def ln:=kf func192 [t14,.aT 124 [.ref (t4)]] q0 (λa=>fT a.1 a.2.1.1) [] (p_ 4 5 (.j ⟨[.val 8 y0],[0,1,7]⟩ .e)) [BL]
def fq(a:Z ar)(b:ar):Y Bool:=(fT a (af b)).bind λc=>some (decide (0<=c))
def j0:=kf func123 [t14,.aT 124 [.ref (t4)]] q1 (λa=>fq a.1 a.2.1.1) [] .e [ln]
def vJ(b:Z ar)(d:ar):Y Bool:=aE (λ(a:Bool×Int×Unit)=>bif decide (a.2.1<(b.length:Int))then(idx b a.2.1).bind λc=>(bF (af c)).bind λe=>(oO (!decide (e=0)) (bif eQ 0 a.2.1 (b.length)then(fq ((b.take (toNat a.2.1)).drop (toNat 0)) (af c)).bind some else none)).bind λf=>bif f then oR (some false)else(oO a.1 ((er (af c) (af d)).bind some)).bind λg=>some (inl (g,(aC .i64 a.2.1 1),()))else oR ((aO a.1 (some (decide ((b.length:Int)<=4)))).bind some)) (false,0,())
def DP:=kf func63 [t14,t4] q1 (u2 vJ) [] (p_ 5 11 (.j ⟨[.val 5 y1,.val 10 y0],[0,3,8,9]⟩ .e)) [bL,j0,eU]
def mF(a:aH):Y Bool:=aX (λ(g:Bool×Unit)=>bif g.1 then some false else aE (λ(c:Int×Unit)=>bif decide (c.1<(a.aY.length:Int))then(idx a.aY c.1).bind λd=>aX (λ(h:Bool×Unit)=>bif h.1 then oR (some false)else some (inl ((aC .i64 c.1 1),()))) λe=>bif (!decide (d.aF=c.1))then e (true,())else(dt (eT3 d)).bind λi=>bif (!i)then e (true,())else(idx a.fl c.1).bind λj=>(vJ j (af d.ae)).bind λk=>e ((!k),())else oR (some true)) (0,())) λb=>bif decide (a.Time<0)then b (true,())else bif decide (200<a.Time)then b (true,())else bif decide ((a.aY.length:Int)<1)then b (true,())else bif decide (10<(a.aY.length:Int))then b (true,())else bif decide (a.fR<0)then b (true,())else if(a.aY.length:Int)<0 then none else bif decide ((dF .i64 1 (a.aY.length:Int))<=a.fR)then b (true,())else bif (!decide ((a.fl.length:Int)=(a.aY.length:Int)))then b (true,())else(kL a.Net).bind λf=>b ((!f),())
def xj:=kf func24 [.ty y20] q1 (u1 mF) [] (p_ 2 3 (.b (.j ⟨[.val 49 y1],[1]⟩ .e) (p_ 3 2 (.j ⟨[.val 53 y0],[1,51,52]⟩ (p_ 6 38 (.j ⟨[.val 77 y1],[1,51,52,53]⟩ .e)))))) [ym,dM,DP]
noncomputable def sL:SA U:=bc (aS prog 8 [5] f303) (.r (.l (.r (.l (.l (.g [(1,.ps (.own 2 9 1 y2))]))))))
noncomputable def lO(a:Z C):Y (Z C):=bif List.isEmpty a then both (some []) (bif bn 16 (List.length ([]:Z C)+a.length)then some (([]:Z C)++a)else none)else bif bn 16 (List.length ([]:Z C)+a.length)then some (([]:Z C)++a)else none
def bj(a:Z C):Y (Z C):=bif bn 16 (List.length ([]:Z C)+a.length)then some (([]:Z C)++a)else none
def tG(a0:Z C):lO a0=bj a0:=match a0 with|[]=>uN _|_::_=>rfl
noncomputable def dR:KS U prog:=⟨.fw 303 [t13] 9 1 y2 λa=>bj a.1,CJ (K:=K) sL 8 [.tmp 2] [] (fk f303 [5] func303) (hF:=qaY (b:=λa:((Z C)×Unit)=>lO a.1) d_ (funext λa=>tG a.1))⟩
def jO(a:aA):Y aA:=(bG (af a.ae)).bind λb=>(bj a.di).bind λc=>(bj a.bK).bind λd=>some (aA.mk a.aF a.cU (af b) c d)
def na:=kf func279 [.ty y16] (.one y16) (u1 jO) [] .e [bW,dR]
noncomputable def pB:SA U:=bc (aS prog 22 [] f304) (.r (.r (.l (.r (.l (.ps (.own 5 52 7 y16) (.j ⟨[.val 10 y0,.own 5 5 2 false 52 7 y16],[1,8,9]⟩ .e)))))))
def jG(c:Z aA):Y (Z aA):=aE (λ(a:Int×Z aA×Unit)=>bif decide (a.1<(c.length:Int))then(idx c a.1).bind λd=>(jO {d with ae:=(af d.ae)}).bind λb=>bif bn 120 (a.2.1.length+List.length [{b with ae:=(af b.ae)}])then some (inl ((aC .i64 a.1 1),(a.2.1++[{b with ae:=(af b.ae)}]),()))else none else oR (some a.2.1)) (0,[],())
noncomputable def qu:KS U prog:=⟨.fw 304 [.ty y27,.aT 279 []] 52 7 y16 λa=>jG a.1,CJ (K:=K) pB 22 [.tmp 4] [na] (fk f304 [] func304)⟩
def lA(a:ao):Y ao:=(bG (af a.ae)).bind λb=>some {a with ae:=(af b)}
def pk:=kf func306 [t7] (.one y7) (u1 lA) [] .e [bW]
noncomputable def rn:SA U:=bc (aS prog 22 [] f305) (.r (.r (.l (.r (.l (.ps (.own 5 48 15 y7) (.j ⟨[.val 10 y0,.own 5 5 2 false 48 15 y7],[1,8,9]⟩ .e)))))))
def eL(b:Z ao):Y (Z ao):=aE (λ(a:Int×Z ao×Unit)=>bif decide (a.1<(b.length:Int))then(idx b a.1).bind λd=>(lA (eT1 d)).bind λc=>bif bn 176 (a.2.1.length+List.length [(eT1 c)])then some (inl ((aC .i64 a.1 1),(a.2.1++[(eT1 c)]),()))else none else oR (some a.2.1)) (0,[],())
noncomputable def gw:KS U prog:=⟨.fw 305 [t17,.aT 306 []] 48 15 y7 λa=>eL a.1,CJ (K:=K) rn 22 [.tmp 4] [pk] (fk f305 [] func305)⟩
def iM(a:ba):Y ba:=(bG (af a.aN.ae)).bind λb=>(bj a.aN.di).bind λc=>(bj a.aN.bK).bind λd=>(bj a.aN.da).bind λe=>(jG a.aN.bm).bind λf=>(bG (af a.aa.ae)).bind λg=>(eL a.aa.bm).bind λh=>some {a with aN:={a.aN with ae:=(af b),di:=c,bK:=d,da:=e,bm:=f},aa:={a.aa with ae:=(af g),bm:=h}}
def ki:=kf func232 [t5] (.one y5) (u1 iM) [] .e [bW,dR,qu,gw]
noncomputable def uo:SA U:=bc (aS prog 22 [] f231) (.r (.r (.l (.r (.l (.ps (.own 5 117 37 y5) (.j ⟨[.val 10 y0,.own 5 5 2 false 117 37 y5],[1,8,9]⟩ .e)))))))
def cx(b:Z ba):Y (Z ba):=aE (λ(a:Int×Z ba×Unit)=>bif decide (a.1<(b.length:Int))then(idx b a.1).bind λd=>(iM (eT5 d)).bind λc=>bif bn 496 (a.2.1.length+List.length [(eT5 c)])then some (inl ((aC .i64 a.1 1),(a.2.1++[(eT5 c)]),()))else none else oR (some a.2.1)) (0,[],())
noncomputable def c4:KS U prog:=⟨.fw 231 [.ty y31,.aT 232 []] 117 37 y5 λa=>cx a.1,CJ (K:=K) uo 22 [.tmp 4] [ki] (fk f231 [] func231)⟩
def sJ(a:ay):Y ay:=(bG (af a.ae)).bind λb=>(cx a.bX).bind λc=>some {a with ae:=(af b),bX:=c}
def A7:=kf func163 [t6] (.one y6) (u1 sJ) [] .e [bW,c4]
noncomputable def o8:SA U:=bc (aS prog 22 [] f162) (.r (.r (.l (.r (.l (.ps (.own 5 60 6 y6) (.j ⟨[.val 10 y0,.own 5 5 2 false 60 6 y6],[1,8,9]⟩ .e)))))))
def fN(b:Z ay):Y (Z ay):=aE (λ(a:Int×Z ay×Unit)=>bif decide (a.1<(b.length:Int))then(idx b a.1).bind λd=>(sJ (eT3 d)).bind λc=>bif bn 96 (a.2.1.length+List.length [(eT3 c)])then some (inl ((aC .i64 a.1 1),(a.2.1++[(eT3 c)]),()))else none else oR (some a.2.1)) (0,[],())
noncomputable def pG:KS U prog:=⟨.fw 162 [.ty (Ty.sl (Ty.st .dz)),.aT 163 []] 60 6 y6 λa=>fN a.1,CJ (K:=K) o8 22 [.tmp 4] [A7] (fk f162 [] func162)⟩
def sK(a:aL):Y aL:=(jO {a.ai with ae:=(af a.ai.ae)}).bind λb=>(lA (eT1 a.ah)).bind λc=>some {a with ai:={b with ae:=(af b.ae)},ah:=(eT1 c)}
def yn:=kf func283 [.ty y22] (.one y22) (u1 sK) [] .e [na,pk]
def yL(a:bx):Y bx:=(sK {a.ak with ai:={a.ak.ai with ae:=(af a.ak.ai.ae)},ah:=(eT1 a.ak.ah)}).bind λb=>some {a with ak:={b with ai:={b.ai with ae:=(af b.ai.ae)},ah:=(eT1 b.ah)}}
def Gk:=kf func223 [.ty y15] (.one y15) (u1 yL) [] .e [yn]
noncomputable def sM:SA U:=bc (aS prog 22 [] f222) (.r (.r (.l (.r (.l (.ps (.own 5 158 28 y15) (.j ⟨[.val 10 y0,.own 5 5 2 false 158 28 y15],[1,8,9]⟩ .e)))))))
def df(d:Z bx):Y (Z bx):=aE (λ(b:Int×Z bx×Unit)=>bif decide (b.1<(d.length:Int))then(idx d b.1).bind λc=>(yL {c with ak:={c.ak with ai:={c.ak.ai with ae:=(af c.ak.ai.ae)},ah:=(eT1 c.ak.ah)}}).bind λa=>bif bn 344 (b.2.1.length+List.length [{a with ak:={a.ak with ai:={a.ak.ai with ae:=(af a.ak.ai.ae)},ah:=(eT1 a.ak.ah)}}])then some (inl ((aC .i64 b.1 1),(b.2.1++[{a with ak:={a.ak with ai:={a.ak.ai with ae:=(af a.ak.ai.ae)},ah:=(eT1 a.ak.ah)}}]),()))else none else oR (some b.2.1)) (0,[],())
noncomputable def tB:KS U prog:=⟨.fw 222 [.ty y26,.aT 223 []] 158 28 y15 λa=>df a.1,CJ (K:=K) sM 22 [.tmp 4] [Gk] (fk f222 [] func222)⟩
noncomputable def um:SA U:=bc (aS prog 22 [] f166) (.r (.r (.l (.r (.l (.ps (.own 5 44 3 y4) (.j ⟨[.val 10 y0,.own 5 5 2 false 44 3 y4],[1,8,9]⟩ .e)))))))
def mQ(b:Z ar):Y (Z ar):=aE (λ(a:Int×Z ar×Unit)=>bif decide (a.1<(b.length:Int))then(idx b a.1).bind λd=>(bG (af d)).bind λc=>bif bn 56 (a.2.1.length+List.length [(af c)])then some (inl ((aC .i64 a.1 1),(a.2.1++[(af c)]),()))else none else oR (some a.2.1)) (0,[],())
noncomputable def vp:KS U prog:=⟨.fw 166 [t14,.aT 47 []] 44 3 y4 λa=>mQ a.1,CJ (K:=K) um 22 [.tmp 4] [bW] (fk f166 [] func166)⟩
def xO(a:Z ar):Y (Z ar):=(mQ a).bind some
def E2:=kf func165 [t14] (.one y14) (u1 xO) [] .e [vp]
noncomputable def ti:SA U:=bc (aS prog 22 [] f164) (.r (.r (.l (.r (.l (.ps (.own 5 42 1 y14) (.j ⟨[.val 10 y0,.own 5 5 2 false 42 1 y14],[1,8,9]⟩ .e)))))))
def ix(b:(Z (Z ar))):Y (Z (Z ar)):=aE (λ(a:Int×(Z (Z ar))×Unit)=>bif decide (a.1<(b.length:Int))then(idx b a.1).bind λd=>(xO d).bind λc=>bif bn 24 (a.2.1.length+List.length [c])then some (inl ((aC .i64 a.1 1),(a.2.1++[c]),()))else none else oR (some a.2.1)) (0,[],())
noncomputable def uC:KS U prog:=⟨.fw 164 [.ty (Ty.sl y14),.aT 165 []] 42 1 y14 λa=>ix a.1,CJ (K:=K) ti 22 [.tmp 4] [E2] (fk f164 [] func164)⟩
noncomputable def ka(b:cm)(a:Int):Y Bool:=(aO (decide (0<=a)) (some (decide (a<(b.World.aY.length:Int))))).bind some
def oX:=kf func167 [.ref (.ty y24),t0] q1 (u2 ka) [] .e []
def o4(b:cm)(a:eA):Y Bool:=(oO (decide (a.cF=2)) (some (decide (a.cF=6)))).bind λc=>(oO c ((ka b a.aF).bind some)).bind some
def xY:=kf func102 [.ref (.ty y24),.ty y23] q1 (u2 o4) [] .e [oX]
noncomputable def eB(b:Int)(a:Int):Y Bool:=if a<0 then none else some (decide ((MO .i64 (iH .i64 b a) 1)=1))
def zJ:=kf func56 [t0,t0] q1 (u2 eB) [] .e []
noncomputable def lT(a:ba)(b:Int):Y Int:=some (iG .i64 a.aa.br b)
def zN:=kf func308 [t5,t0] q0 (u2 lT) [] .e []
def a8(b:Z ba)(c:Int):Y (Int×Bool×Unit):=aE (λ(a:Int×Int×Unit)=>bif decide (a.1<a.2.1)then(idx b (bB .i64 (iH .u64 (bB .u64 (aC .i64 a.1 a.2.1)) 1))).bind λd=>(lT (eT5 d) c).bind λe=>bif decide (e<0)then some (inl ((aC .i64 (bB .i64 (iH .u64 (bB .u64 (aC .i64 a.1 a.2.1)) 1)) 1),a.2.1,()))else some (inl (a.1,(bB .i64 (iH .u64 (bB .u64 (aC .i64 a.1 a.2.1)) 1)),()))else oR ((aO (decide (a.1<(b.length:Int))) ((idx b a.1).bind λf=>(lT (eT5 f) c).bind λg=>some (decide (g=0)))).bind λh=>some (a.1,h,()))) (0,(b.length:Int),())
def c3:=kf func307 [.ty y31,t0,.aT 308 []] (.many [y0,y1]) (λa=>a8 a.1 a.2.1) [] (p_ 5 7 (.j ⟨[.val 9 y0,.val 10 y0],[0,1,2,8]⟩ .e)) [zN]
noncomputable def vq(a:Int):Y Bool:=(aO (decide (0<=a)) (some (decide (a<=200)))).bind some
def Bz:=kf func274 [t0] q1 (u1 vq) [] .e []
def BE(a:Int)(b:Int)(c:ar):Y (aW×Int×Unit):=(oO (decide (a<0)) (some (decide (10<=a)))).bind λd=>bif d then some (zz1,5,())else(oO (decide (b<1)) (some (decide (1000000<b)))).bind λe=>bif e then some (zz1,77,())else(bF (af c)).bind λf=>bif (!decide (f=0))then some (zz1,1,())else(bG (af c)).bind λg=>some ((aW.mk a b 0 (af g) 1 zB zB zB zB 0 0 bE []),0,())
def IQ:=kf func309 [t0,t0,t4] (.many [y9,y0]) (u3 BE) [] .e [bL,bW]
def yI(e:ar)(a:Int)(b:Int)(c:Int):Y Int:=(bF (af e)).bind λd=>bif (!decide (d=0))then some d else(oO (decide (a<0)) (some (decide (10<=a)))).bind λf=>bif f then some 5 else(oO (decide (b<0)) (some (decide (1000000<b)))).bind λg=>(oO g (some (decide (c<1)))).bind λh=>(oO h (some (decide (1000<c)))).bind λi=>bif i then some 1 else some 0
def Gg:=kf func470 [t4,t0,t0,t0] q0 (u4 yI) [] .e [bL]
noncomputable def pM(b:Z Int)(c:Int):Y Int:=aE (λ(a:Int×Unit)=>bif decide (a.1<(b.length:Int))then(idx b a.1).bind λd=>bif decide (c=d)then oR (some a.1)else some (inl ((aC .i64 a.1 1),()))else oR (some (-1:Int))) (0,())
def za:=kf func574 [t11,t0] q0 (u2 pM) [] (p_ 4 5 (.j ⟨[.val 8 y0],[0,1,7]⟩ .e)) []
def nv(a:Z Int)(b:Int):Y Bool:=(pM a b).bind λc=>some (decide (0<=c))
def wq:=kf func559 [t11,t0] q1 (u2 nv) [] .e [za]
noncomputable def DI:SA U:=bc (aS prog 53 [] f531) (.r (.r (.r (.l (.r (.l (.j ⟨[.val 29 y0,.box 1 1 (Ty.st .tN) []],[1,4,6,27,28]⟩ .e)))))))
def xV(rec:(ar×Int×Unit)->Y (lx×Bool×Unit))(a:ar)(d:Int):Y (lx×Bool×Unit):=(nv a.aY d).bind λe=>bif e then some ((lx.mk a.aV (aC .i64 (a.aY.length:Int) (a.bC.length:Int))),true,())else aE (λ(b:Int×lx×Unit)=>bif decide (b.1<(a.bC.length:Int))then(idx a.bC b.1).bind λf=>(rec ((af f),d,())).bind λc=>bif c.2.1 then oR (some ((lx.mk (xf .i64 a.aV c.1.Og) (xf .i64 (aC .i64 (a.aY.length:Int) (a.bC.length:Int)) c.1.Oi)),true,()))else some (inl ((aC .i64 b.1 1),b.2.1,()))else oR (some ((lx.mk 0 0),false,()))) (0,(lx.mk 0 0),())
noncomputable def Ft:Nat->(ar×Int×Unit)->Y (lx×Bool×Unit):=gK (λrec a=>xV rec a.1 a.2.1)
def xK(a:ar)(b:Int):Y (lx×Bool×Unit):=Ft (SizeOf.sizeOf a+SizeOf.sizeOf b+1) (a,b,())
noncomputable def EY:KS U prog:=⟨.fn 531 [t4,t0] (.many [(Ty.st .tN),y1]) λa=>xK a.1 a.2.1,Bc (K:=K) (A_s:=[t4,t0]) (r:= .many [(Ty.st .tN),y1]) (B:=λrec a=>xV rec a.1 a.2.1) DI 53 [.cell 4 (some 2),.tmp 5] [wq] (fk f531 [] func531) (hF:=λa=>⟨_,rfl⟩)⟩
noncomputable def tU(a:Int)(b:Int)(c:Int)(d:Int):Y Int:=some (bB .u32 (iH .u64 (fU .u64 (xf .u64 (fU .u64 (xf .u64 (fU .u64 (aC .u64 (fU .u64 (fU .u64 (fU .u64 (dF .u64 (bB .u64 a) 56) (dF .u64 (bB .u64 b) 24)) (dF .u64 (bB .u64 c) 8)) (bB .u64 d)) 11400714819323198485) (iH .u64 (aC .u64 (fU .u64 (fU .u64 (fU .u64 (dF .u64 (bB .u64 a) 56) (dF .u64 (bB .u64 b) 24)) (dF .u64 (bB .u64 c) 8)) (bB .u64 d)) 11400714819323198485) 30)) 13787848793156543929) (iH .u64 (xf .u64 (fU .u64 (aC .u64 (fU .u64 (fU .u64 (fU .u64 (dF .u64 (bB .u64 a) 56) (dF .u64 (bB .u64 b) 24)) (dF .u64 (bB .u64 c) 8)) (bB .u64 d)) 11400714819323198485) (iH .u64 (aC .u64 (fU .u64 (fU .u64 (fU .u64 (dF .u64 (bB .u64 a) 56) (dF .u64 (bB .u64 b) 24)) (dF .u64 (bB .u64 c) 8)) (bB .u64 d)) 11400714819323198485) 30)) 13787848793156543929) 27)) 10723151780598845931) (iH .u64 (xf .u64 (fU .u64 (xf .u64 (fU .u64 (aC .u64 (fU .u64 (fU .u64 (fU .u64 (dF .u64 (bB .u64 a) 56) (dF .u64 (bB .u64 b) 24)) (dF .u64 (bB .u64 c) 8)) (bB .u64 d)) 11400714819323198485) (iH .u64 (aC .u64 (fU .u64 (fU .u64 (fU .u64 (dF .u64 (bB .u64 a) 56) (dF .u64 (bB .u64 b) 24)) (dF .u64 (bB .u64 c) 8)) (bB .u64 d)) 11400714819323198485) 30)) 13787848793156543929) (iH .u64 (xf .u64 (fU .u64 (aC .u64 (fU .u64 (fU .u64 (fU .u64 (dF .u64 (bB .u64 a) 56) (dF .u64 (bB .u64 b) 24)) (dF .u64 (bB .u64 c) 8)) (bB .u64 d)) 11400714819323198485) (iH .u64 (aC .u64 (fU .u64 (fU .u64 (fU .u64 (dF .u64 (bB .u64 a) 56) (dF .u64 (bB .u64 b) 24)) (dF .u64 (bB .u64 c) 8)) (bB .u64 d)) 11400714819323198485) 30)) 13787848793156543929) 27)) 10723151780598845931) 31)) 32))
def zW:=kf func501 [t0,t0,t0,t0] (.one (Ty.i .u32)) (u4 tU) [] .e []
def ta(d:ar)(e:Int)(f:Int)(g:Int)(a:Int):Y Bool:=oO (decide (a=e)) ((xK (af d) a).bind λb=>aX (λ(h:Bool×Unit)=>some h.1) λc=>bif b.2.1 then(tU 1 f g a).bind λi=>c ((decide ((xf .u64 (bB .u64 i) (bB .u64 b.1.Oi))<(dF .u64 (bB .u64 b.1.Og) 32))),())else c (false,()))
def BV:=kf func500 [t4,t0,t0,t0,t0] q1 (u5 ta) [] (p_ 3 7 (.j ⟨[.val 10 y1],[]⟩ .e)) [EY,zW]
def xL(h:ar)(c:Int)(d:Int)(e:Int):Y Int:=aE (λ(a:Int×Int×Int×Unit)=>bif decide (a.2.2.1<10)then aX (λ(f:Int×Int×Unit)=>some (inl (f.1,f.2.1,(aC .i64 a.2.2.1 1),()))) λb=>(ta (af h) c d e a.2.2.1).bind λi=>bif (!i)then b (a.1,a.2.1,())else(tU 2 d e a.2.2.1).bind λg=>bif decide (a.2.1<=g)then b (a.2.2.1,g,())else b (a.1,a.2.1,())else oR (some a.1)) (c,0,0,())
def EZ:=kf func471 [t4,t0,t0,t0] q0 (u4 xL) [] (p_ 5 11 (.j ⟨[.val 9 y0,.val 10 (Ty.i .u32),.val 14 y0],[1,2,3,4]⟩ (p_ 3 6 (.j ⟨[.val 9 y0,.val 10 (Ty.i .u32)],[1,2,3,4,14]⟩ .e)))) [BV,zW]
def vT(b:ar)(c:Int)(d:Int)(e:Int):Y (Int×Int×Unit):=(yI (af b) c d e).bind λf=>bif (!decide (f=0))then some (0,f,())else aE (λ(a:Int×Int×Unit)=>bif decide (a.2.1<e)then(xL (af b) c d (aC .i64 a.2.1 1)).bind λg=>if g<0 then none else some (inl ((vt .i64 a.1 (dF .i64 1 g)),(aC .i64 a.2.1 1),()))else oR (some (a.1,0,()))) (0,0,())
def D4:=kf func438 [t4,t0,t0,t0] (.many [y0,y0]) (u4 vT) [] (p_ 6 23 (.j ⟨[.val 11 y0,.val 22 y0],[1,2,4,21]⟩ .e)) [Gg,EZ]
def sE(c:Int):Y (Z Int):=aE (λ(a:Int×Z Int×Unit)=>bif decide (a.1<10)then aX (λ(d:(Z Int)×Unit)=>some (inl ((aC .i64 a.1 1),d.1,()))) λb=>(ez c a.1).bind λe=>bif e then bif bn 8 (a.2.1.length+List.length [a.1])then b ((a.2.1++[a.1]),())else none else b (a.2.1,())else oR (some a.2.1)) (0,[],())
def yj:=kf func439 [t0] (.one y11) (u1 sE) [] (p_ 5 11 (.ps (.own 3 3 1 y0) (.j ⟨[.val 5 y0,.own 3 3 2 false 3 1 y0],[0]⟩ (p_ 3 6 (.j ⟨[.own 3 3 3 false 3 1 y0],[0,5]⟩ .e))))) [fP]
def eE(b:Z C)(c:C):Y (Int×Bool×Unit):=aE (λ(a:Int×Int×Unit)=>bif decide (a.1<a.2.1)then(idx b (bB .i64 (iH .u64 (bB .u64 (aC .i64 a.1 a.2.1)) 1))).bind λd=>(et d c).bind λe=>bif decide (e<0)then some (inl ((aC .i64 (bB .i64 (iH .u64 (bB .u64 (aC .i64 a.1 a.2.1)) 1)) 1),a.2.1,()))else some (inl (a.1,(bB .i64 (iH .u64 (bB .u64 (aC .i64 a.1 a.2.1)) 1)),()))else oR ((aO (decide (a.1<(b.length:Int))) ((idx b a.1).bind λf=>(et f c).bind λg=>some (decide (g=0)))).bind λh=>some (a.1,h,()))) (0,(b.length:Int),())
def iP:=kf func443 [t13,t2,.aT 327 []] (.many [y0,y1]) (λa=>eE a.1 a.2.1) [] (p_ 5 7 (.j ⟨[.val 9 y0,.val 10 y0],[0,1,2,8]⟩ .e)) [jd]
noncomputable def lh(s:Z C)(a:Int)(b:Z C):Y (Z C):=CF 16 s a b
noncomputable def sN:KS U prog:=⟨.cw 444 9 1 y2 [t0,t13] λs a=>lh s a.1 a.2.1,JK JM.ways JM.enters (λx=>K.len (y2) x)⟩
def jD(a:Z C)(b:C):Y (Z C):=(eE a b).bind λc=>(oO c.2.1 (some (decide (40<=(a.length:Int))))).bind λd=>bif d then some a else(bj a).bind λe=>(lh e c.1 [b]).bind some
def xl:=kf func406 [t13,t2] (.one y13) (u2 jD) [] .e [iP,dR,sN]
def ir(s:Z C):Y (Unit×Z C):=yP (λx y=>et x y) s
noncomputable def nU:KS U prog:=⟨.rw 472 9 1 y2 [.aT 327 []] (.many []) λs a=>ir s,LS (T:=y2) (F:=λa=>et a.1 a.2.1) wY.enters wY.none jd.s (λ_=>rfl) wY.Dh (λ_=>rfl)⟩
noncomputable def ri:SA U:=bc (aS prog 61 [] f473) (.r (.r (.l (.r (.l (.j ⟨[.val 3 y0,.own 0 0 0 true 9 1 y2],[]⟩ (.l (.r (.l (.l (.r (.l (.r (.b (.r (.l (.j ⟨[.val 3 y0,.val 5 y0,.own 0 0 0 true 9 1 y2],[4]⟩ (.l (.r (.j ⟨[.val 3 y0,.own 0 0 0 true 9 1 y2],[4,5]⟩ .e)))))) (.r (.l (.g [(4,.ps (.cut 2))])))))))))))))))))
noncomputable def gC(s:Z C):Y (Z C):=bif decide ((s.length:Int)<2)then some s else aE (λ(b:Int×Z C×Unit)=>bif decide (b.1<(b.2.1.length:Int))then(idx b.2.1 b.1).bind λn=>(b.2.1[(toNat b.1)]?).bind λh=>(idx b.2.1 (iG .i64 b.1 1)).bind λo=>(b.2.1[(toNat (iG .i64 b.1 1))]?).bind λi=>bif decide (h=i)then bif eQ b.1 ((b.2.1.length):Int) (b.2.1.length)then aE (λ(a:Int×Int×Z C×Unit)=>bif decide (a.2.1<((List.length ((a.2.2.1.drop (toNat b.1)).take (toNat ((b.2.1.length):Int) - toNat b.1)):Nat):Int))then aX (λ(f:Int×Z C×Unit)=>some (inl (f.1,(aC .i64 a.2.1 1),f.2.1,()))) λg=>(idx ((a.2.2.1.drop (toNat b.1)).take (toNat ((b.2.1.length):Int) - toNat b.1)) a.2.1).bind λp=>(a.2.2.1[((toNat b.1)+toNat a.2.1)]?).bind λc=>(idx ((a.2.2.1.drop (toNat b.1)).take (toNat ((b.2.1.length):Int) - toNat b.1)) (iG .i64 a.2.1 1)).bind λj=>(a.2.2.1[((toNat b.1)+toNat (iG .i64 a.2.1 1))]?).bind λd=>bif (!decide (c=d))then(idx ((a.2.2.1.drop (toNat b.1)).take (toNat ((b.2.1.length):Int) - toNat b.1)) a.2.1).bind λk=>(a.2.2.1[((toNat b.1)+toNat a.2.1)]?).bind λe=>(idx a.2.2.1 a.1).bind λl=>(a.2.2.1[(toNat a.1)]?).bind λm=>g ((aC .i64 a.1 1),(a.2.2.1.set (toNat a.1) e),())else g (a.1,a.2.2.1,())else oR (bif eQ a.1 ((a.2.2.1.length):Int) (a.2.2.1.length)then bif eQ 0 a.1 (List.length (a.2.2.1.take (toNat a.1)++replicate (toNat ((a.2.2.1.length):Int) - toNat a.1) bE++a.2.2.1.drop ((toNat a.1)+(toNat ((a.2.2.1.length):Int) - toNat a.1))))then oR (some ((a.2.2.1.take (toNat a.1)++replicate (toNat ((a.2.2.1.length):Int) - toNat a.1) bE++a.2.2.1.drop ((toNat a.1)+(toNat ((a.2.2.1.length):Int) - toNat a.1))).take (toNat a.1 - toNat 0)))else none else none)) (b.1,1,b.2.1,())else none else some (inl ((aC .i64 b.1 1),b.2.1,()))else oR (some b.2.1)) (1,s,())
noncomputable def kD:KS U prog:=⟨.cw 473 9 1 y2 [] λs a=>gC s,Kf (K:=K) ri 61 [.tmp 2] [] (fk f473 [] func473)⟩
def qE(c:Z aA):Y (Z C):=aE (λ(a:Int×Z C×Unit)=>bif decide (a.1<(c.length:Int))then(idx c a.1).bind λb=>bif bn 16 (a.2.1.length+b.di.length)then bif bn 16 (List.length (a.2.1++b.di)+b.bK.length)then some (inl ((aC .i64 a.1 1),((a.2.1++b.di)++b.bK),()))else none else none else oR ((ir a.2.1).bind λd=>(gC d.2).bind some)) (0,[],())
def xm:=kf func440 [.ty y27] (.one y13) (u1 qE) [] (p_ 5 11 (.ps (.own 3 9 1 y2) (.j ⟨[.val 8 y0,.own 3 5 2 false 9 1 y2],[6,7]⟩ .e))) [nU,kD]
def uZ(c:aD):Y (Z C):=(vT (af c.ae) c.aF c.br c.Round).bind λo=>(sE o.1).bind λk=>aE (λ(d:(Z C)×Int×Unit)=>bif decide (d.2.1<(k.length:Int))then aX (λ(p:(Z C)×Unit)=>some (inl (p.1,(aC .i64 d.2.1 1),()))) λl=>(idx k d.2.1).bind λm=>bif decide (m=c.aF)then aX (λ(q:(Z C)×Unit)=>l (q.1,())) λn=>bif (!decide (c.sx=bE))then(jD d.1 c.sx).bind λr=>n (r,())else n (d.1,())else aE (λ(a:(Z C)×Int×Unit)=>bif decide (a.2.1<(c.bm.length:Int))then aX (λ(h:(Z C)×Unit)=>some (inl (h.1,(aC .i64 a.2.1 1),()))) λf=>(idx c.bm a.2.1).bind λe=>bif (!decide (e.aF=m))then f (a.1,())else(qE [{e with ae:=(af e.ae)}]).bind λg=>aE (λ(b:(Z C)×Int×Unit)=>bif decide (b.2.1<(g.length:Int))then(idx g b.2.1).bind λi=>(jD b.1 i).bind λj=>some (inl (j,(aC .i64 b.2.1 1),()))else oR (f (b.1,()))) (a.1,0,())else oR (l (a.1,()))) (d.1,0,())else oR (some d.1)) (c.di,0,())
def Cv:=kf func403 [t8] (.one y13) (u1 uZ) [] (p_ 6 23 (.j ⟨[.val 3 y13,.val 29 y0],[1,27,28]⟩ (p_ 3 6 (.j ⟨[.val 3 y13],[1,27,28,29]⟩ (p_ 3 4 (.b (p_ 2 1 (.j ⟨[.val 3 y13],[1,27,28,29]⟩ .e)) (p_ 2 1 (.j ⟨[.val 3 y13,.val 47 y0],[1,7,27,28,29,45,46]⟩ (p_ 3 6 (.j ⟨[.val 3 y13],[1,7,27,28,29,45,46,47]⟩ (p_ 6 28 (.j ⟨[.val 3 y13,.val 59 y0],[1,7,27,28,29,45,46,47,57,58]⟩ .e)))))))))))) [D4,yj,xl,xm]
noncomputable def qF(a:Int):Y Bool:=(aO (decide (0<=a)) (some (decide (a<10)))).bind some
def xo:=kf func476 [t0] q1 (u1 qF) [] .e []
noncomputable def Ax(a:lM):Y Bool:=(aO (decide (0<=a.Bq)) (some (decide (a.Bq<8)))).bind λb=>(aO b (some (decide (0<=a.Value)))).bind λc=>(aO c (some (decide (a.Value<=15)))).bind some
def HI:=kf func542 [.ty (Ty.st .Claim)] q1 (u1 Ax) [] .e []
def xR(a:lM)(b:lM):Y Int:=(bU a.Bq b.Bq).bind λc=>(bU a.Value b.Value).bind λd=>(gE [c,d]).bind some
def E5:=kf func543 [.ty (Ty.st .Claim),.ty (Ty.st .Claim)] q0 (u2 xR) [] .e [fu,nZ]
def tV(b:Z lM):Y Bool:=aE (λ(a:Int×Unit)=>bif decide (a.1<(b.length:Int))then(idx b a.1).bind λd=>aX (λ(e:Bool×Unit)=>bif e.1 then oR (some false)else some (inl ((aC .i64 a.1 1),()))) λc=>(Ax d).bind λf=>bif (!f)then c (true,())else bif decide (0<a.1)then(idx b (iG .i64 a.1 1)).bind λg=>(xR g d).bind λh=>c ((decide (0<=h)),())else c (false,())else oR (some true)) (0,())
def HJ:=kf func504 [.ty (Ty.sl (Ty.st .Claim))] q1 (u1 tV) [] (p_ 4 5 (.j ⟨[.val 7 y0],[0,5,6]⟩ (p_ 6 38 (.j ⟨[.val 28 y1],[0,5,6,7]⟩ .e)))) [HI,E5]
def vU(a:iL):Y Bool:=(qF a.aF).bind λb=>(aO b (some (decide (1<=a.cU)))).bind λc=>(aO c ((bF (af a.ae)).bind λd=>some (decide (d=0)))).bind λe=>(aO e ((tV a.di).bind some)).bind λf=>(aO f ((tV a.bK).bind some)).bind some
def D5:=kf func474 [.ty (Ty.st .Message)] q1 (u1 vU) [] .e [xo,bL,HJ]
noncomputable def BI:SA U:=bc (aS prog 28 [] f475) (.r (.r (.l (.r (.l (.ps (.rK 3 2 44 3 y4) (.j ⟨[.val 15 y0,.box 8 1 y4 [(1,6,2),(2,14,2)],.bO 6 2 false 3 1 y0,.bO 14 2 false 44 3 y4],[2,3,13,14]⟩ .e)))))))
noncomputable def vf(rec:(ar×Unit)->Y ar)(b:ar):Y ar:=bif bn 8 (b.aY.length)then aE (λ(a:Int×ar×Z Int×Z ar×Unit)=>bif decide (a.1<(b.bC.length:Int))then(idx b.bC a.1).bind λd=>(rec ((af d),())).bind λc=>bif bn 56 (a.2.2.2.1.length+List.length [(af c)])then some (inl ((aC .i64 a.1 1),(ar.mk a.2.1.aV [] []),a.2.2.1,(a.2.2.2.1++[(af c)]),()))else none else oR (some (ar.mk a.2.1.aV a.2.2.1 a.2.2.2.1))) (0,(ar.mk b.aV [] []),b.aY,[],())else none
noncomputable def C7:Nat->(ar×Unit)->Y ar:=gK (λrec a=>vf rec a.1)
def oB(a:ar):Y ar:=C7 (SizeOf.sizeOf a+1) (a,())
noncomputable def Cy:KS U prog:=⟨.fn 475 [t4] (.one y4) λa=>oB a.1,Bc (K:=K) (A_s:=[t4]) (r:= .one y4) (B:=λrec a=>vf rec a.1) BI 28 [.cell 2 (some 3)] [] (fk f475 [] func475) (hF:=λa=>⟨_,rfl⟩)⟩
def xN(c:Int)(j:ar)(k:Z iL):Y bo:=bif decide ((10:Int)<=10)&&decide ((0:Int)<=10)&&bn 64 (toNat 10)then aE (λ(a:Int×bo×Z bS×Unit)=>bif decide (a.1<(k.length:Int))then aX (λ(m:bo×Z bS×Unit)=>some (inl ((aC .i64 a.1 1),zz9,m.2.1,()))) λl=>(idx k a.1).bind λb=>(aO (!decide (b.aF=c)) ((vU {b with ae:=(af b.ae)}).bind some)).bind λn=>bif n then(oB (af b.ae)).bind λo=>(idx a.2.2.1 b.aF).bind λr=>(a.2.2.1[(toNat b.aF)]?).bind λs=>l (zz9,(a.2.2.1.set (toNat b.aF) (bS.mk true (af o))),())else l (zz9,a.2.2.1,())else oR (aX (λ(e:bo×Z bS×Unit)=>some (bo.mk e.2.1)) λd=>(qF c).bind λf=>(aO f ((bF (af j)).bind λg=>some (decide (g=0)))).bind λh=>bif h then(oB (af j)).bind λi=>(idx a.2.2.1 c).bind λp=>(a.2.2.1[(toNat c)]?).bind λq=>d (zz9,(a.2.2.1.set (toNat c) (bS.mk true (af i))),())else d (zz9,a.2.2.1,()))) (0,zz9,(replicate (toNat 10) zz13),())else none
def E0:=kf func441 [t0,t4,.ty (Ty.sl (Ty.st .Message))] (.one y12) (u3 xN) [] (p_ 2 3 (.b (p_ 2 1 (.j ⟨[.val 14 y0,.box 4 1 y12 [(0,2,2)],.bO 2 2 false 65 4 y21],[0,4,6,7,12,13]⟩ (p_ 3 6 (.j ⟨[.box 4 1 y12 [(0,2,3)],.bO 2 3 false 65 4 y21],[0,4,6,7,12,13,14]⟩ .e)))) (.j ⟨[.box 4 1 y12 [(0,2,3)],.bO 2 3 false 65 4 y21],[6,7]⟩ .e))) [D5,Cy,xo,bL]
def vM(c:aD):Y bo:=aE (λ(a:Int×Z iL×Unit)=>bif decide (a.1<(c.bm.length:Int))then(idx c.bm a.1).bind λb=>bif bn 120 (a.2.1.length+List.length [(iL.mk b.aF b.cU (af b.ae) [] [])])then some (inl ((aC .i64 a.1 1),(a.2.1++[(iL.mk b.aF b.cU (af b.ae) [] [])]),()))else none else oR ((xN c.aF (af c.ae) a.2.1).bind some)) (0,[],())
def DT:=kf func404 [t8] (.one y12) (u1 vM) [] (p_ 2 3 (.b (p_ 2 1 (.ps (.own 3 343 7 (Ty.st .Message)) (.j ⟨[.val 9 y0,.own 3 7 2 false 343 7 (Ty.st .Message)],[1,2,7,8]⟩ .e))) (.l (.g [(0,.ps (.Ae 3))])))) [E0]
noncomputable def kp:SA U:=bc (aS prog 8 [5] f337) (.r (.l (.r (.l (.l (.g [(1,.ps (.own 2 52 7 y16))]))))))
noncomputable def fJ(a:Z aA):Y (Z aA):=bif List.isEmpty a then both (some []) (bif bn 120 (List.length ([]:Z aA)+a.length)then some (([]:Z aA)++a)else none)else bif bn 120 (List.length ([]:Z aA)+a.length)then some (([]:Z aA)++a)else none
def bZ(a:Z aA):Y (Z aA):=bif bn 120 (List.length ([]:Z aA)+a.length)then some (([]:Z aA)++a)else none
def kY(a0:Z aA):fJ a0=bZ a0:=match a0 with|[]=>uN _|_::_=>rfl
noncomputable def dH:KS U prog:=⟨.fw 337 [.ty y27] 52 7 y16 λa=>bZ a.1,CJ (K:=K) kp 8 [.tmp 2] [] (fk f337 [5] func337) (hF:=qaY (b:=λa:((Z aA)×Unit)=>fJ a.1) d_ (funext λa=>kY a.1))⟩
noncomputable def mK(a:aD):Y aA:=some {a with ae:=(af a.ae)}
def qp:=kf func348 [t8] (.one y16) (u1 mK) [] .e []
def ni(c:Z aA)(d:C):Y (Int×Int×Unit):=aE (λ(a:Int×Int×Int×Unit)=>bif decide (a.2.2.1<(c.length:Int))then aX (λ(e:Int×Int×Unit)=>some (inl (e.1,e.2.1,(aC .i64 a.2.2.1 1),()))) λf=>(idx c a.2.2.1).bind λb=>aX (λ(g:Int×Unit)=>(jE b.bK d).bind λi=>bif i then if b.aF<0 then none else f (g.1,(vt .i64 a.2.1 (dF .i64 1 b.aF)),())else f (g.1,a.2.1,())) λh=>(jE b.di d).bind λj=>bif j then if b.aF<0 then none else h ((vt .i64 a.1 (dF .i64 1 b.aF)),())else h (a.1,())else oR (some (a.1,a.2.1,()))) (0,0,0,())
def sS:=kf func407 [.ty y27,t2] (.many [y0,y0]) (u2 ni) [] (p_ 4 5 (.j ⟨[.val 4 y0,.val 5 y0,.val 10 y0],[1,8,9]⟩ (p_ 3 6 (.j ⟨[.val 4 y0,.val 5 y0],[1,8,9,10]⟩ (p_ 3 4 (.j ⟨[.val 4 y0],[1,5,7,8,9,10]⟩ .e)))))) [qq]
noncomputable def jH(b:bo):Y Int:=aE (λ(a:Int×Int×Unit)=>bif decide (a.2.1<(b.dS.length:Int))then aX (λ(d:Int×Unit)=>some (inl (d.1,(aC .i64 a.2.1 1),()))) λc=>(idx b.dS a.2.1).bind λe=>(aO e.qJ (some (decide (a.2.1<10)))).bind λf=>bif f then if a.2.1<0 then none else c ((vt .i64 a.1 (dF .i64 1 a.2.1)),())else c (a.1,())else oR (some a.1)) (0,0,())
def nY:=kf func454 [t12] q0 (u1 jH) [] (p_ 5 11 (.j ⟨[.val 3 y0,.val 9 y0],[7,8]⟩ (p_ 3 6 (.j ⟨[.val 3 y0],[7,8,9]⟩ .e)))) []
noncomputable def yQ:SA U:=bc (aS prog 43 [] f505) (.r (.r (.r (.b (.r (.l (.j ⟨[.val 5 y0,.val 16 y0],[1,2,14,15]⟩ (.l (.r (.r (.j ⟨[.val 5 y0],[1,2,14,15,16]⟩ .e))))))) (.l (.r (.l (.j ⟨[.val 5 y0,.val 29 y0],[1,2,27,28]⟩ (.l (.r (.r (.j ⟨[.val 5 y0],[1,2,27,28,29]⟩ .e))))))))))))
def rh(rec:(ar×Int×Unit)->Y Bool)(c:ar)(d:Int):Y Bool:=(fC d).bind λi=>bif (!i)then some false else aE (λ(a:Int×Int×Unit)=>bif decide (a.2.1<(c.aY.length:Int))then aX (λ(j:Int×Unit)=>some (inl (j.1,(aC .i64 a.2.1 1),()))) λg=>(idx c.aY a.2.1).bind λk=>(ez d k).bind λl=>bif l then g ((aC .i64 a.1 1),())else g (a.1,())else oR (aE (λ(b:Int×Int×Unit)=>bif decide (b.2.1<(c.bC.length:Int))then aX (λ(m:Int×Unit)=>some (inl (m.1,(aC .i64 b.2.1 1),()))) λh=>(idx c.bC b.2.1).bind λe=>(rec ((af e),d,())).bind λf=>bif f then h ((aC .i64 b.1 1),())else h (b.1,())else oR (some (decide (c.aV<=b.1)))) (a.1,0,()))) (0,0,())
noncomputable def Ap:Nat->(ar×Int×Unit)->Y Bool:=gK (λrec a=>rh rec a.1 a.2.1)
def lP(a:ar)(b:Int):Y Bool:=Ap (SizeOf.sizeOf a+SizeOf.sizeOf b+1) (a,b,())
noncomputable def qO:KS U prog:=⟨.fn 505 [t4,t0] q1 λa=>lP a.1 a.2.1,Bc (K:=K) (A_s:=[t4,t0]) (r:= .one y1) (B:=λrec a=>rh rec a.1 a.2.1) yQ 43 [.tmp 4] [iz,fP] (fk f505 [] func505) (hF:=λa=>⟨_,rfl⟩)⟩
def py(b:bo)(a:Int)(c:Int):Y Bool:=(fC c).bind λd=>(oO (!d) ((jH b).bind λe=>(ez e a).bind λf=>some (!f))).bind λg=>bif g then some false else(idx b.dS a).bind λh=>if a<0 then none else(lP (af h.ae) (vt .i64 (LM .i64 1023 c) (dF .i64 1 a))).bind λi=>some (!i)
def vB:=kf func477 [t12,t0,t0] q1 (u3 py) [] .e [iz,nY,fP,qO]
def wa(a:bo)(b:Int)(c:Int):Y Bool:=(idx a.dS b).bind λd=>(lP (af d.ae) c).bind some
def Eb:=kf func492 [t12,t0,t0] q1 (u3 wa) [] .e [qO]
def vZ(e:bo)(b:Int):Y (Int×Bool×Unit):=(sE b).bind λc=>aE (λ(a:Int×Unit)=>bif decide (a.1<(c.length:Int))then(idx c a.1).bind λd=>(wa e d b).bind λf=>bif (!f)then oR (some (d,true,()))else some (inl ((aC .i64 a.1 1),()))else oR (some (0,false,()))) (0,())
def Ea:=kf func455 [t12,t0] (.many [y0,y1]) (u2 vZ) [] (p_ 4 5 (.j ⟨[.val 11 y0],[1,2,9,10]⟩ .e)) [yj,Eb]
def tc(c:bo)(d:Int):Y (Int×Z Int×Unit):=(fC d).bind λe=>bif (!e)then some (0,[],())else(jH c).bind λf=>aE (λ(a:Int×Z Int×Unit)=>(vZ c a.1).bind λb=>bif (!b.2.1)then oR (some (a.1,a.2.1,()))else bif bn 8 (a.2.1.length+List.length [b.1])then if b.1<0 then none else some (inl ((LM .i64 a.1 (dF .i64 1 b.1)),(a.2.1++[b.1]),()))else none) ((MO .i64 d f),[],())
def BW:=kf func419 [t12,t0] (.many [y0,y11]) (u2 tc) [] (p_ 5 15 (.ps (.own 6 3 1 y0) (.j ⟨[.val 1 y0,.own 6 12 2 false 3 1 y0],[2]⟩ .e))) [iz,nY,Ea]
def kP(a:bo)(b:Int):Y Int:=(tc a b).bind λc=>some c.1
def n5:=kf func384 [t12,t0] q0 (u2 kP) [] .e [BW]
def jN(b:bo)(c:Int)(d:Int)(a:Int):Y Bool:=(fC d).bind λe=>(oO (!e) ((fC a).bind λf=>some (!f))).bind λg=>bif g then some false else(py b c a).bind λh=>(oO h ((kP b (vt .i64 d a)).bind λi=>(ez i c).bind some)).bind some
def mZ:=kf func442 [t12,t0,t0,t0] q1 (u4 jN) [] .e [iz,vB,n5,fP]
def pq(b:aD)(i:bo):Y (C×Bool×Unit):=(bZ b.bm).bind λc=>(mK (eT0 b)).bind λa=>bif bn 120 (c.length+List.length [{a with ae:=(af a.ae)}])then(qE (c++[{a with ae:=(af a.ae)}])).bind λg=>aE (λ(d:Int×Unit)=>bif decide (d.1<(g.length:Int))then(idx g d.1).bind λe=>(ni (c++[{a with ae:=(af a.ae)}]) e).bind λh=>(jE b.bK e).bind λj=>(aO (!j) (some (decide ((b.bK.length:Int)<40)))).bind λk=>(aO k ((jN i b.aF h.1 h.2.1).bind some)).bind λf=>bif f then oR (some (e,true,()))else some (inl ((aC .i64 d.1 1),()))else oR (some (bE,false,()))) (0,())else none
def DU:=kf func405 [t8,t12] (.many [y2,y1]) (u2 pq) [] (p_ 3 3 (.b (.g [(0,.ps (.Ae 6))]) (.l (.j ⟨[.val 21 y0],[2,3,6,19,20]⟩ .e)))) [dH,qp,xm,sS,qq,mZ]
def jh(a:bo)(b:Int)(c:Int):Y Bool:=(kP a c).bind λd=>(ez d b).bind some
def mo:=kf func408 [t12,t0,t0] q1 (u3 jh) [] .e [n5,fP]
def mJ(c:aD):Y aD:=aX (λ(g:aD×Unit)=>(vM (eT0 g.1)).bind λh=>(pq (eT0 g.1) h).bind λn=>aE (λ(b:C×Bool×aD×Unit)=>bif b.2.1 then(jD b.2.2.1.bK b.1).bind λo=>(pq {b.2.2.1 with ae:=(af b.2.2.1.ae),bK:=o} h).bind λp=>some (inl (p.1,p.2.1,{b.2.2.1 with ae:=(af b.2.2.1.ae),bK:=o},()))else oR ((bZ b.2.2.1.bm).bind λq=>(mK (eT0 b.2.2.1)).bind λf=>bif bn 120 (q.length+List.length [{f with ae:=(af f.ae)}])then aE (λ(a:Int×aD×Unit)=>bif decide (a.1<(b.2.2.1.bK.length:Int))then aX (λ(i:aD×Unit)=>some (inl ((aC .i64 a.1 1),(eT0 i.1),()))) λd=>(idx b.2.2.1.bK a.1).bind λe=>(ni (q++[{f with ae:=(af f.ae)}]) e).bind λj=>(jh h a.2.1.aF j.2.1).bind λk=>bif k then(jD a.2.1.da e).bind λl=>d ({a.2.1 with ae:=(af a.2.1.ae),da:=l},())else d ((eT0 a.2.1),())else oR (some (eT0 a.2.1))) (0,(eT0 b.2.2.1),())else none)) (n.1,n.2.1,(eT0 g.1),())) λr=>bif decide ((c.da.length:Int)=0)then(uZ (eT0 c)).bind λm=>r ({c with ae:=(af c.ae),di:=m},())else r ((eT0 c),())
def rU:=kf func358 [t8] (.one y8) (u1 mJ) [] (.r (.j ⟨[.box 0 1 y8 []],[1,2]⟩ (p_ 2 3 (.b (p_ 2 1 (.j ⟨[.val 4 y2,.val 5 y1,.box 0 1 y8 []],[1,2,3]⟩ .e)) (p_ 4 5 (.j ⟨[.val 48 y0,.box 0 1 y8 []],[1,2,3,6,46,47]⟩ (p_ 3 6 (.j ⟨[.box 0 1 y8 []],[1,2,3,6,46,47,48]⟩ .e)))))))) [Cv,DT,DU,xl,dH,qp,sS,mo]
noncomputable def BH:SA U:=bc (aS prog 28 [] f385) (.r (.r (.l (.r (.l (.ps (.rK 3 2 44 3 y4) (.j ⟨[.val 15 y0,.box 8 1 y4 [(2,14,2)],.bO 14 2 false 44 3 y4],[2,3,13,14]⟩ .e)))))))
def ve(rec:(ar×Unit)->Y ar)(b:ar):Y ar:=(bw b.aY).bind λd=>aE (λ(a:Int×ar×Z ar×Unit)=>bif decide (a.1<(b.bC.length:Int))then(idx b.bC a.1).bind λe=>(rec ((af e),())).bind λc=>bif bn 56 (a.2.2.1.length+List.length [(af c)])then some (inl ((aC .i64 a.1 1),(ar.mk a.2.1.aV a.2.1.aY []),(a.2.2.1++[(af c)]),()))else none else oR (some (ar.mk a.2.1.aV a.2.1.aY a.2.2.1))) (0,(ar.mk b.aV d []),[],())
noncomputable def C6:Nat->(ar×Unit)->Y ar:=gK (λrec a=>ve rec a.1)
def ox(a:ar):Y ar:=C6 (SizeOf.sizeOf a+1) (a,())
noncomputable def uy:KS U prog:=⟨.fn 385 [t4] (.one y4) λa=>ox a.1,Bc (K:=K) (A_s:=[t4]) (r:= .one y4) (B:=λrec a=>ve rec a.1) BH 28 [.cell 2 (some 3)] [kW] (fk f385 [] func385) (hF:=λa=>⟨_,rfl⟩)⟩
def mL(a:aA):Y aA:=(ox (af a.ae)).bind λb=>(bj a.di).bind λc=>(bj a.bK).bind λd=>some (aA.mk a.aF a.cU (af b) c d)
def rV:=kf func347 [.ty y16] (.one y16) (u1 mL) [] .e [uy,dR]
def kK(b:aD):Y aD:=(ox (af b.ae)).bind λe=>(bj b.di).bind λf=>(bj b.bK).bind λg=>(bj b.da).bind λh=>aE (λ(a:Int×aD×Z C×Z C×Z C×Z aA×Unit)=>bif decide (a.1<(b.bm.length:Int))then(idx b.bm a.1).bind λd=>(mL {d with ae:=(af d.ae)}).bind λc=>bif bn 120 (a.2.2.2.2.2.1.length+List.length [{c with ae:=(af c.ae)}])then some (inl ((aC .i64 a.1 1),{a.2.1 with ae:=(af a.2.1.ae),di:=[],bK:=[],da:=[],bm:=[]},a.2.2.1,a.2.2.2.1,a.2.2.2.2.1,(a.2.2.2.2.2.1++[{c with ae:=(af c.ae)}]),()))else none else oR (some {a.2.1 with ae:=(af a.2.1.ae),di:=a.2.2.1,bK:=a.2.2.2.1,da:=a.2.2.2.2.1,bm:=a.2.2.2.2.2.1})) (0,{b with ae:=(af e),di:=[],bK:=[],da:=[],bm:=[]},f,g,h,[],())
def nW:=kf func357 [t8] (.one y8) (u1 kK) [] (p_ 7 47 (.ps (.rK 1 11 52 7 y16) (.j ⟨[.val 27 y0,.box 0 1 y8 [(8,7,2),(9,10,2),(10,13,2),(11,30,2)],.bO 7 2 false 9 1 y2,.bO 10 2 false 9 1 y2,.bO 13 2 false 9 1 y2,.bO 30 2 false 52 7 y16],[1,2,25,26]⟩ .e))) [uy,dR,rV]
def u0(b:Int)(a:Int)(c:ar)(d:C):Y (aD×Int×Unit):=(ly b).bind λf=>bif (!f)then some (zz2,5,())else(oO (decide (a<0)) (some (decide (1000000<a)))).bind λg=>bif g then some (zz2,1,())else(bF (af c)).bind λe=>bif (!decide (e=0))then some (zz2,e,())else bif decide (200<(ByteArray.size d:Int))then some (zz2,3,())else(mJ (aD.mk b a 1 1 (af c) d [] [] [] [])).bind λh=>(kK (eT0 h)).bind λi=>some ((eT0 i),0,())
def Cw:=kf func310 [t0,t0,t4,t2] (.many [y8,y0]) (u4 u0) [] .e [ph,bL,rU,nW]
noncomputable def qf(a:Int):Y Int:=some (aC .i64 (Ci (rO a 11) 0) 1)
def vo:=kf func311 [t0] q0 (u1 qf) [] .e []
def pS(c:Z C):Y (C×Bool×Unit):=aE (λ(a:C×Int×Unit)=>bif decide (a.2.1<(c.length:Int))then aX (λ(e:C×Unit)=>some (inl (e.1,(aC .i64 a.2.1 1),()))) λd=>(idx c a.2.1).bind λb=>(ow b).bind λf=>(aO f ((et b a.1).bind λg=>some (decide (0<g)))).bind λh=>bif h then d (b,())else d (a.1,())else oR (some (a.1,(!decide (a.1=bE)),()))) (bE,0,())
def zh:=kf func346 [t13] (.many [y2,y1]) (u1 pS) [] (p_ 5 11 (.j ⟨[.val 4 y2,.val 9 y0],[7,8]⟩ (p_ 3 6 (.j ⟨[.val 4 y2],[7,8,9]⟩ .e)))) [ux,jd]
def gV(a:aW):Y aW:=(bG (af a.ae)).bind λb=>(eL a.bm).bind λc=>some {a with ae:=(af b),bm:=c}
def jz:=kf func349 [t9] (.one y9) (u1 gV) [] .e [bW,gw]
def vd(b:Z aj):Y aj:=aE (λ(a:Int×aj×Unit)=>bif decide (a.1<(b.length:Int))then aX (λ(e:aj×Unit)=>some (inl ((aC .i64 a.1 1),e.1,()))) λc=>(idx b a.1).bind λd=>(oO (decide (a.1=0)) ((cE a.2.1 d).bind some)).bind λf=>bif f then c (d,())else c (a.2.1,())else oR (some a.2.1)) (0,zB,())
def CC:=kf func362 [.ty y36] (.one y3) (u1 vd) [] (p_ 5 11 (.j ⟨[.val 8 y0,.box 1 1 y3 []],[2,3,6,7]⟩ (p_ 3 6 (.j ⟨[.box 1 1 y3 []],[2,3,6,7,8]⟩ .e)))) [fb]
def fM(a:av):Y C:=(aU a.aa.bM).bind λd=>bif (!d)then some a.aa.bM.Value else bif (!decide (a.aa.dZ=1))then some a.aa.aG.Value else bif (!decide (a.aa.fZ=bE))then some a.aa.fZ else aE (λ(b:Int×Z aj×Unit)=>bif decide (b.1<(a.aa.bm.length:Int))then(idx a.aa.bm b.1).bind λc=>bif bn 24 (b.2.1.length+List.length [c.aG])then some (inl ((aC .i64 b.1 1),(b.2.1++[c.aG]),()))else none else oR ((vd b.2.1).bind λe=>some e.Value)) (0,[],())
def kX:=kf func316 [.ref (.ty y10)] (.one y2) (u1 fM) [] (p_ 6 23 (.ps (.own 3 46 2 y3) (.j ⟨[.val 51 y0,.own 3 31 2 false 46 2 y3],[49,50]⟩ .e))) [bh,CC]
def s8(s:av)(a:C):Y (Int×av):=(oO (decide ((ByteArray.size a:Int)<1)) (some (decide (200<(ByteArray.size a:Int))))).bind λc=>bif c then some (1,(av.mk (eT2 s.aa)))else aX (λ(d:av×Unit)=>some (0,(av.mk (eT2 d.1.aa)))) λb=>(aU s.aa.aG).bind λe=>bif e then(fM (av.mk {s.aa with ae:=(af s.aa.ae),fZ:=a})).bind λf=>b ((av.mk {s.aa with ae:=(af s.aa.ae),aG:=(aj.mk 1 f),fZ:=a}),())else b ((av.mk {s.aa with ae:=(af s.aa.ae),fZ:=a}),())
def BS:=kr func315 0 y10 [.ref (t2)] q0 (λs a=>s8 s a.1) [] (p_ 3 7 (.j ⟨[.box 0 0 y10 []],[]⟩ .e)) [bh,kX]
def dC(s:av):Y ((Unit)×av):=(aU s.aa.aG).bind λa=>(aO (!a) (some (decide (s.aa.cU=0)))).bind λb=>bif b then some ((()),(av.mk {s.aa with cU:=1,ae:=(af s.aa.ae)}))else some ((()),(av.mk (eT2 s.aa)))
def o0:=kr func410 0 y10 [] (.many []) (λs a=>dC s) [] .e [bh]
noncomputable def eu(a:av):Y Br:=some (Br.mk a.aa.dZ a.aa.eX a.aa.dU a.aa.aG a.aa.aP a.aa.bD a.aa.bM)
def AX:=kf func445 [.ref (.ty y10)] (.one (Ty.st .sx)) (u1 eu) [] .e []
noncomputable def lX:SA U:=bc (aS prog 8 [5] f380) (.r (.l (.r (.l (.l (.g [(1,.ps (.own 2 48 15 y7))]))))))
noncomputable def gA(a:Z ao):Y (Z ao):=bif List.isEmpty a then both (some []) (bif bn 176 (List.length ([]:Z ao)+a.length)then some (([]:Z ao)++a)else none)else bif bn 176 (List.length ([]:Z ao)+a.length)then some (([]:Z ao)++a)else none
def c8(a:Z ao):Y (Z ao):=bif bn 176 (List.length ([]:Z ao)+a.length)then some (([]:Z ao)++a)else none
def mr(a0:Z ao):gA a0=c8 a0:=match a0 with|[]=>uN _|_::_=>rfl
noncomputable def gq:KS U prog:=⟨.fw 380 [t17] 48 15 y7 λa=>c8 a.1,CJ (K:=K) lX 8 [.tmp 2] [] (fk f380 [5] func380) (hF:=qaY (b:=λa:((Z ao)×Unit)=>gA a.1) d_ (funext λa=>mr a.1))⟩
def cI(s:av):Y ((Z ao)×av):=(aU s.aa.aG).bind λc=>bif c then some (s.aa.bm,(av.mk (eT2 s.aa)))else(c8 s.aa.bm).bind λa=>(ct (eT2 s.aa)).bind λb=>bif bn 176 (a.length+List.length [(eT1 b)])then some ((a++[(eT1 b)]),(av.mk (eT2 s.aa)))else none
def AY:=kr func481 0 y10 [] (.one y17) (λs a=>cI s) [] .e [bh,gq,eD]
def xW:∀s a q,(λs a=>cI s:av->(Unit)->Y ((Z ao)×av)) s a=some q->q.2=s:=by intro s a q h;simp only[cI,cond_eq_ite,etas,aW.eta,ao.eta,av.eta]at h;repeat' (first|(rw[Qd]at h;obtain⟨_,_,h⟩:=h)|(split at h)|(exact(QL Prod.snd (Option.some.inj h)).symm)|(cases h;done))
noncomputable def gf:KS U prog:=⟨.ro 481 0 y10 [] (.one y17) λs a=>cI s,Xc AY.s xW⟩
def tQ(c:Int)(i:ar)(g:Z ao):Y bo:=bif decide ((10:Int)<=10)&&decide ((0:Int)<=10)&&bn 64 (toNat 10)then(oO (decide (c<0)) (some (decide (10<=c)))).bind λj=>bif j then some (bo.mk (replicate (toNat 10) zz13))else(bG (af i)).bind λk=>(idx (replicate (toNat 10) zz13) c).bind λr=>((replicate (toNat 10) zz13)[(toNat c)]?).bind λs=>aE (λ(a:Int×bo×Z bS×Unit)=>bif decide (a.1<(g.length:Int))then aX (λ(l:bo×Z bS×Unit)=>some (inl ((aC .i64 a.1 1),zz9,l.2.1,()))) λh=>(idx g a.1).bind λb=>(c6 (eT1 b)).bind λm=>(aO m ((idx a.2.2.1 b.aF).bind λn=>(a.2.2.1[(toNat b.aF)]?).bind λo=>(a.2.2.1[(toNat b.aF)]?).bind λd=>some (!d.qJ))).bind λe=>bif e then(bG (af b.ae)).bind λf=>(idx a.2.2.1 b.aF).bind λp=>(a.2.2.1[(toNat b.aF)]?).bind λq=>h (zz9,(a.2.2.1.set (toNat b.aF) (bS.mk true (af f))),())else h (zz9,a.2.2.1,())else oR (some (bo.mk a.2.2.1))) (0,zz9,((replicate (toNat 10) zz13).set (toNat c) (bS.mk true (af k))),())else none
def zM:=kf func417 [t0,t4,t17] (.one y12) (u3 tQ) [] (p_ 7 47 (.j ⟨[.val 28 y0,.box 4 1 y12 [(0,2,2)],.bO 2 2 false 65 4 y21],[6,7,26,27]⟩ (p_ 3 6 (.j ⟨[.box 4 1 y12 [(0,2,3)],.bO 2 3 false 65 4 y21],[6,7,26,27,28]⟩ .e)))) [bW,dy]
def vb(c:Z ao):Y (Z bY):=aE (λ(a:Int×Z bY×Unit)=>bif decide (a.1<(c.length:Int))then aX (λ(e:(Z bY)×Unit)=>some (inl ((aC .i64 a.1 1),e.1,()))) λd=>(idx c a.1).bind λb=>(c6 (eT1 b)).bind λf=>bif f then bif bn 176 (a.2.1.length+List.length [(bY.mk (eT1 b))])then d ((a.2.1++[(bY.mk (eT1 b))]),())else none else d (a.2.1,())else oR (some a.2.1)) (0,[],())
def CA:=kf func418 [t17] (.one (Ty.sl (Ty.st .oU))) (u1 vb) [] (p_ 5 11 (.ps (.own 3 313 15 y19) (.j ⟨[.val 8 y0,.own 3 5 2 false 313 15 y19],[6,7]⟩ (p_ 3 6 (.j ⟨[.own 3 5 3 false 313 15 y19],[6,7,8]⟩ .e))))) [dy]
def gT(a:Int)(c:ar)(b:Z ao):Y eK:=(tQ a (af c) b).bind λd=>(vb b).bind λe=>some (eK.mk a d e)
def js:=kf func379 [t0,t4,t17] (.one y18) (u3 gT) [] .e [zM,CA]
def fB(b:Z aj):Y Int:=aE (λ(a:Int×Unit)=>bif decide (a.1<(b.length:Int))then(idx b a.1).bind λc=>(aU c).bind λd=>bif d then oR (some a.1)else some (inl ((aC .i64 a.1 1),()))else oR (some (-1:Int))) (0,())
def kC:=kf func567 [.ty y36,.aT 248 []] q0 (λa=>fB a.1) [] (p_ 4 5 (.j ⟨[.val 8 y0],[0,1,7]⟩ .e)) [bh]
noncomputable def jP:SA U:=bc (aS prog 42 [] f546) (.r (.r (.r (.b (.r (.l (.j ⟨[.val 5 y0,.val 6 y0,.own 0 0 0 true 46 2 y3],[1]⟩ (.l (.r (.j ⟨[.val 5 y0,.own 0 0 0 true 46 2 y3],[1,6]⟩ .e)))))) (.r (.l (.g [(4,.ps (.cut 4))])))))))
def fm(s:Z aj):Y (Z aj):=(fB s).bind λb=>bif decide (b=(-1:Int))then some s else aE (λ(a:Int×Int×Z aj×Unit)=>bif decide (a.2.1<(a.2.2.1.length:Int))then aX (λ(c:Int×Z aj×Unit)=>some (inl (c.1,(aC .i64 a.2.1 1),c.2.1,()))) λd=>(idx a.2.2.1 a.2.1).bind λg=>(a.2.2.1[(toNat a.2.1)]?).bind λe=>(aU e).bind λf=>bif (!f)then(idx a.2.2.1 a.1).bind λh=>(a.2.2.1[(toNat a.1)]?).bind λi=>d ((aC .i64 a.1 1),(a.2.2.1.set (toNat a.1) e),())else d (a.1,a.2.2.1,())else oR (bif eQ a.1 ((a.2.2.1.length):Int) (a.2.2.1.length)then bif eQ 0 a.1 (List.length (a.2.2.1.take (toNat a.1)++replicate (toNat ((a.2.2.1.length):Int) - toNat a.1) zB++a.2.2.1.drop ((toNat a.1)+(toNat ((a.2.2.1.length):Int) - toNat a.1))))then some ((a.2.2.1.take (toNat a.1)++replicate (toNat ((a.2.2.1.length):Int) - toNat a.1) zB++a.2.2.1.drop ((toNat a.1)+(toNat ((a.2.2.1.length):Int) - toNat a.1))).take (toNat a.1 - toNat 0))else none else none)) (b,(aC .i64 b 1),s,())
noncomputable def jY:KS U prog:=⟨.cw 546 46 2 y3 [.aT 248 []] λs a=>fm s,Kf (K:=K) jP 42 [.tmp 4] [kC,bh] (fk f546 [] func546)⟩
def lW(a:aj)(b:aj):Y Int:=(iZ b a).bind some
def zZ:=kf func547 [t3,t3] q0 (u2 lW) [] .e [vC]
def fK(s:Z aj):Y (Unit×Z aj):=yP (λx y=>lW x y) s
noncomputable def kU:KS U prog:=⟨.rw 565 46 2 y3 [.aT 547 []] (.many []) λs a=>fK s,Ve (T:=y3) (F:=λa=>lW a.1 a.2.1) FC.enters FC.none zZ.s (λ_=>rfl) FC.Dh s_ (λ_=>rfl) (λ_=>rfl)⟩
noncomputable def mM:SA U:=bc (aS prog 61 [] f566) (.r (.r (.l (.r (.l (.j ⟨[.val 3 y0,.own 0 0 0 true 46 2 y3],[]⟩ (.l (.r (.l (.l (.r (.l (.r (.b (.r (.l (.j ⟨[.val 3 y0,.val 5 y0,.own 0 0 0 true 46 2 y3],[4]⟩ (.l (.r (.j ⟨[.val 3 y0,.own 0 0 0 true 46 2 y3],[4,5]⟩ .e)))))) (.r (.l (.g [(4,.ps (.cut 2))])))))))))))))))))
noncomputable def gO(s:Z aj):Y (Z aj):=bif decide ((s.length:Int)<2)then some s else aE (λ(b:Int×Z aj×Unit)=>bif decide (b.1<(b.2.1.length:Int))then(idx b.2.1 b.1).bind λn=>(b.2.1[(toNat b.1)]?).bind λf=>(idx b.2.1 (iG .i64 b.1 1)).bind λo=>(b.2.1[(toNat (iG .i64 b.1 1))]?).bind λg=>bif (oe false f.al g.al f.Value g.Value)then bif eQ b.1 ((b.2.1.length):Int) (b.2.1.length)then aE (λ(a:Int×Int×Z aj×Unit)=>bif decide (a.2.1<((List.length ((a.2.2.1.drop (toNat b.1)).take (toNat ((b.2.1.length):Int) - toNat b.1)):Nat):Int))then aX (λ(h:Int×Z aj×Unit)=>some (inl (h.1,(aC .i64 a.2.1 1),h.2.1,()))) λi=>(idx ((a.2.2.1.drop (toNat b.1)).take (toNat ((b.2.1.length):Int) - toNat b.1)) a.2.1).bind λp=>(a.2.2.1[((toNat b.1)+toNat a.2.1)]?).bind λc=>(idx ((a.2.2.1.drop (toNat b.1)).take (toNat ((b.2.1.length):Int) - toNat b.1)) (iG .i64 a.2.1 1)).bind λj=>(a.2.2.1[((toNat b.1)+toNat (iG .i64 a.2.1 1))]?).bind λd=>bif (oe true c.al d.al c.Value d.Value)then(idx ((a.2.2.1.drop (toNat b.1)).take (toNat ((b.2.1.length):Int) - toNat b.1)) a.2.1).bind λk=>(a.2.2.1[((toNat b.1)+toNat a.2.1)]?).bind λe=>(idx a.2.2.1 a.1).bind λl=>(a.2.2.1[(toNat a.1)]?).bind λm=>i ((aC .i64 a.1 1),(a.2.2.1.set (toNat a.1) e),())else i (a.1,a.2.2.1,())else oR (bif eQ a.1 ((a.2.2.1.length):Int) (a.2.2.1.length)then bif eQ 0 a.1 (List.length (a.2.2.1.take (toNat a.1)++replicate (toNat ((a.2.2.1.length):Int) - toNat a.1) zB++a.2.2.1.drop ((toNat a.1)+(toNat ((a.2.2.1.length):Int) - toNat a.1))))then oR (some ((a.2.2.1.take (toNat a.1)++replicate (toNat ((a.2.2.1.length):Int) - toNat a.1) zB++a.2.2.1.drop ((toNat a.1)+(toNat ((a.2.2.1.length):Int) - toNat a.1))).take (toNat a.1 - toNat 0)))else none else none)) (b.1,1,b.2.1,())else none else some (inl ((aC .i64 b.1 1),b.2.1,()))else oR (some b.2.1)) (1,s,())
noncomputable def mX:KS U prog:=⟨.cw 566 46 2 y3 [] λs a=>gO s,Kf (K:=K) mM 61 [.tmp 2] [] (fk f566 [] func566)⟩
noncomputable def oF:SA U:=bc (aS prog 10 [] f545) .e
def iY(s:Z aj):Y (Z aj):=(fK s).bind λa=>(gO a.2).bind some
noncomputable def pj:KS U prog:=⟨.cw 545 46 2 y3 [.aT 547 []] λs a=>iY s,Kf (K:=K) oF 10 [.tmp 4] [kU,mX] (fk f545 [] func545)⟩
def nn(d:Z ao):Y (Z aj):=aE (λ(b:Int×Z aj×Unit)=>bif decide (b.1<(d.length:Int))then aX (λ(g:(Z aj)×Unit)=>some (inl ((aC .i64 b.1 1),g.1,()))) λc=>(idx d b.1).bind λa=>(c6 (eT1 a)).bind λh=>bif (!h)then c (b.2.1,())else bif decide (a.cF=1)then bif bn 24 (b.2.1.length+List.length [a.aG,a.aP,a.bD])then c ((b.2.1++[a.aG,a.aP,a.bD]),())else none else bif decide (a.cF=2)then(jt (eT1 a) 1000000).bind λe=>bif bn 24 (b.2.1.length+List.length [a.aP,e])then c ((b.2.1++[a.aP,e]),())else none else(jt (eT1 a) 1000000).bind λf=>bif bn 24 (b.2.1.length+List.length [f])then c ((b.2.1++[f]),())else none else oR ((fm b.2.1).bind λi=>(iY i).bind some)) (0,[],())
def sV:=kf func507 [t17] (.one y36) (u1 nn) [] (p_ 5 11 (.ps (.own 3 46 2 y3) (.j ⟨[.val 8 y0,.own 3 5 2 false 46 2 y3],[6,7]⟩ (p_ 3 6 (.j ⟨[.own 3 5 3 false 46 2 y3],[6,7,8]⟩ .e))))) [dy,zY,jY,pj]
noncomputable def iV(a:aj):Y aj:=aX (λ(c:aj×Unit)=>some c.1) λb=>bif decide (1000<=a.al)then b ((aj.mk 1000000 a.Value),())else b (a,())
def DQ:=kf func508 [t3] (.one y3) (u1 iV) [] (.r (.j ⟨[.box 0 1 y3 []],[1,2]⟩ .e)) []
noncomputable def po(a:aj):Y (aj×Unit):=some (a,())
def vu:=kf func511 [t3] (.fn (.aT 551 [.ref (t3)])) (λa=>po a.1) [] .e []
def kN(a:bY)(b:aj):Y Bool:=(aU b).bind λc=>bif c then some false else bif decide (a.ah.cF=1)then(ga a.ah.aG b).bind some else(bt a.ah.aG b).bind some
def rX:=kf func550 [t19,t3] q1 (u2 kN) [] .e [bh,qv,cd]
def pO(a:bY)(b:aj):Y Bool:=(kN (bY.mk (eT1 a.ah)) b).bind some
def zd:=kf func549 [t19,.ref (t3)] q1 (u2 pO) [] .e [rX]
def jF(a:bY)(b:aj):Y Bool:=(aU b).bind λc=>bif c then some false else bif decide (a.ah.cF=1)then(ei a.ah.aP a.ah.bD b).bind some else bif decide (a.ah.cF=2)then(ga a.ah.aP b).bind some else(bt a.ah.aG b).bind some
def qt:=kf func552 [t19,t3] q1 (u2 jF) [] .e [bh,kG,qv,cd]
def nh(a:bY)(b:aj):Y Bool:=(jF (bY.mk (eT1 a.ah)) b).bind some
def sR:=kf func551 [t19,.ref (t3)] q1 (u2 nh) [] .e [qt]
def iX(a:bY)(b:aj)(c:aj):Y Bool:=(pO (bY.mk (eT1 a.ah)) b).bind λd=>(oO d ((nh (bY.mk (eT1 a.ah)) c).bind some)).bind some
def pf:=kf func568 [t19,.ref (.aT 549 [.ref (t3)]),.ref (.aT 551 [.ref (t3)])] q1 (λa=>iX a.1 a.2.1.1 a.2.2.1.1) [] .e [zd,sR]
def jo(c:eK)(e:aj)(f:aj):Y Int:=aE (λ(a:Int×Int×Unit)=>bif decide (a.2.1<(c.bm.length:Int))then aX (λ(g:Int×Unit)=>some (inl (g.1,(aC .i64 a.2.1 1),()))) λd=>(idx c.bm a.2.1).bind λb=>(iX (bY.mk (eT1 b.ah)) e f).bind λh=>bif h then if b.ah.aF<0 then none else d ((vt .i64 a.1 (dF .i64 1 b.ah.aF)),())else d (a.1,())else oR (some a.1)) (0,0,())
def pE:=kf func381 [t18,.aT 568 [.ref (.aT 549 [.ref (t3)]),.ref (.aT 551 [.ref (t3)])]] q0 (λa=>jo a.1 a.2.1.1.1 a.2.1.2.1.1) [] (p_ 5 11 (.j ⟨[.val 5 y0,.val 11 y0],[1,9,10]⟩ (p_ 3 6 (.j ⟨[.val 5 y0],[1,9,10,11]⟩ .e)))) [pf]
def kc(c:eK)(e:aj):Y Int:=aE (λ(a:Int×Int×Unit)=>bif decide (a.2.1<(c.bm.length:Int))then aX (λ(f:Int×Unit)=>some (inl (f.1,(aC .i64 a.2.1 1),()))) λd=>(idx c.bm a.2.1).bind λb=>(nh (bY.mk (eT1 b.ah)) e).bind λg=>bif g then if b.ah.aF<0 then none else d ((vt .i64 a.1 (dF .i64 1 b.ah.aF)),())else d (a.1,())else oR (some a.1)) (0,0,())
def oZ:=kf func381 [t18,.aT 551 [.ref (t3)]] q0 (λa=>kc a.1 a.2.1.1) [] (p_ 5 11 (.j ⟨[.val 5 y0,.val 11 y0],[1,9,10]⟩ (p_ 3 6 (.j ⟨[.val 5 y0],[1,9,10,11]⟩ .e)))) [sR]
def jC(a:eK)(c:aj)(b:aj):Y Bool:=(jo a c b).bind λd=>(kc a b).bind λe=>(jN a.View a.aF d e).bind some
def qo:=kf func548 [t18,.aT 549 [.ref (t3)],.aT 551 [.ref (t3)]] q1 (λa=>jC a.1 a.2.1.1 a.2.2.1.1) [] .e [pE,oZ,mZ]
def mG(b:eK)(a:aj):Y Bool:=(po a).bind λc=>(jC b a c.1).bind some
def AS:=kf func509 [t18,t3] q1 (u2 mG) [] .e [vu,qo]
def As(o:Int)(p:ar)(i:Z ao)(j:aj)(k:aj)(l:C):Y aj:=(gT o (af p) i).bind λm=>(nn i).bind λn=>aE (λ(c:Int×aj×Unit)=>bif decide (c.1<(n.length:Int))then(idx n c.1).bind λa=>aX (λ(q:Bool×Unit)=>bif q.1 then oR (some a)else some (inl ((aC .i64 c.1 1),c.2.1,()))) λb=>bif decide (l=bE)then(iV j).bind λr=>(iV k).bind λs=>(ei r s a).bind λt=>bif (!t)then(mG m a).bind λd=>b (d,())else b (false,())else bif decide (a.Value=l)then(iV j).bind λe=>(iV k).bind λf=>(ei e f a).bind λg=>bif (!g)then(mG m a).bind λh=>b (h,())else b (false,())else b (false,())else oR (some zB)) (0,zB,())
def HD:=kf func480 [t0,t4,t17,t3,t3,t2] (.one y3) (u6 As) [] (p_ 5 11 (.j ⟨[.val 23 y0,.box 3 1 y3 []],[5,9,10,12,13,21,22]⟩ (p_ 6 38 (.j ⟨[.val 48 y1],[5,9,10,12,13,15,21,22,23]⟩ .e)))) [js,sV,DQ,kG,AS]
def Au(b:aj)(c:aj)(a:aj):Y (aj×aj×Unit):=aX (λ(k:aj×aj×aj×Unit)=>some (b,k.1,())) λj=>(aU a).bind λl=>bif l then j (c,zB,zB,())else(aU b).bind λm=>bif m then some (a,c,())else(cE b a).bind λn=>bif n then aX (λ(o:aj×Unit)=>some (a,o.1,())) λd=>(bt b a).bind λp=>bif (!p)then d (b,())else(bt c a).bind λq=>bif q then d (zB,())else d (c,())else(cE a b).bind λe=>(aO e ((bt b a).bind λf=>some (!f))).bind λg=>(aO g ((aU c).bind λh=>(oO h ((cE c a).bind some)).bind some)).bind λi=>bif i then some (b,a,())else j (c,zB,zB,())
def HE:=kf func482 [t3,t3,t3] (.many [y3,y3]) (u3 Au) [] (.r (.j ⟨[.box 1 1 y3 [],.box 3 1 y3 [],.box 4 1 y3 []],[3,4,6,7]⟩ (p_ 8 124 (.j ⟨[.box 1 1 y3 []],[3,4,5,6,7]⟩ .e)))) [bh,fb,cd]
def qI(d:C)(g:Int)(e:aj)(f:aj):Y Int:=aE (λ(a:Int×Int×Unit)=>bif decide (a.2.1<((List.length [e,f]:Nat):Int))then aX (λ(h:Int×Unit)=>some (inl (h.1,(aC .i64 a.2.1 1),()))) λc=>(idx [e,f] a.2.1).bind λb=>(eM b).bind λi=>(oO (!i) ((dn b (aj.mk a.1 d)).bind λj=>some (!j))).bind λk=>bif k then c (a.1,())else(dn b (aj.mk b.al d)).bind λl=>bif l then c ((aC .i64 b.al 1),())else c (b.al,())else oR (some a.1)) ((Ci g 1),0,())
def xr:=kf func483 [t2,t0,t3,t3] q0 (u4 qI) [] (p_ 5 11 (.j ⟨[.val 9 y0,.val 18 y0],[0,16,17]⟩ (p_ 3 6 (.j ⟨[.val 9 y0],[0,16,17,18]⟩ .e)))) [kF,qw]
def nH(s:av):Y ((Unit)×av):=(aU s.aa.aG).bind λf=>(oO f (some (decide (s.aa.dZ=3)))).bind λg=>bif g then some ((()),(av.mk (eT2 s.aa)))else aX (λ(h:C×Unit)=>(cI (av.mk (eT2 s.aa))).bind λi=>(As s.aa.aF (af s.aa.ae) i.1 s.aa.aP s.aa.bD h.1).bind λc=>(aU c).bind λj=>bif j then some ((()),(av.mk (eT2 s.aa)))else(Au s.aa.aP s.aa.bD (aj.mk (rO c.al 1000) c.Value)).bind λa=>(aO (decide (s.aa.dZ=1)) (some (!decide (s.aa.eX=0)))).bind λk=>bif k then(qI s.aa.aG.Value s.aa.eX a.1 a.2.1).bind λb=>(ct {s.aa with ae:=(af s.aa.ae),aP:=a.1,bD:=a.2.1,eX:=b}).bind λd=>bif decide (d.dU<b)then some ((()),(av.mk {s.aa with ae:=(af s.aa.ae),aP:=a.1,bD:=a.2.1,eX:=0}))else some ((()),(av.mk {s.aa with ae:=(af s.aa.ae),aP:=a.1,bD:=a.2.1,eX:=b}))else some ((()),(av.mk {s.aa with ae:=(af s.aa.ae),aP:=a.1,bD:=a.2.1}))) λe=>bif decide (s.aa.dZ=2)then e (s.aa.aG.Value,())else e (bE,())
def wB:=kr func446 0 y10 [] (.many []) (λs a=>nH s) [] (p_ 2 3 (.j ⟨[.val 2 y2],[0]⟩ .e)) [bh,gf,HD,HE,xr,eD]
def lS(a:eK)(b:aj):Y Bool:=(kc a b).bind λc=>(jh a.View a.aF c).bind some
def tx:=kf func510 [t18,.aT 551 [.ref (t3)]] q1 (λa=>lS a.1 a.2.1.1) [] .e [oZ,mo]
def vK(f:Int)(g:ar)(d:Z ao)(h:aj):Y aj:=(gT f (af g) d).bind λi=>(nn d).bind λe=>aE (λ(a:Int×aj×Unit)=>bif decide (a.1<(e.length:Int))then(idx e a.1).bind λb=>aX (λ(j:Bool×Unit)=>bif j.1 then oR (some b)else some (inl ((aC .i64 a.1 1),a.2.1,()))) λc=>(cE h b).bind λk=>bif k then bif decide (b.al<=1000)then(po b).bind λl=>(lS i l.1).bind λm=>c (m,())else c (false,())else c (false,())else oR (some zB)) (0,zB,())
def DR:=kf func484 [t0,t4,t17,t3] (.one y3) (u4 vK) [] (p_ 5 11 (.j ⟨[.val 19 y0,.box 2 1 y3 []],[7,8,9,17,18]⟩ (p_ 6 38 (.j ⟨[.val 36 y1],[7,8,9,11,17,18,19]⟩ .e)))) [js,sV,fb,vu,tx]
def iF(s:av)(a:aj):Y ((Unit)×av):=aX (λ(b:av×Unit)=>some ((()),(av.mk {b.1.aa with ae:=(af b.1.aa.ae),aG:=a}))) λc=>(bt s.aa.aG a).bind λd=>bif (!d)then c ((av.mk {s.aa with ae:=(af s.aa.ae),eX:=0}),())else c ((av.mk (eT2 s.aa)),())
def lG:=kr func345 0 y10 [t3] (.many []) (λs a=>iF s a.1) [] (.r (.j ⟨[.box 0 0 y10 []],[0,3]⟩ .e)) [cd]
def qS(s:av):Y ((Unit)×av):=(aU s.aa.aG).bind λi=>(oO i (some (!decide (s.aa.dZ=1)))).bind λj=>bif j then some ((()),(av.mk (eT2 s.aa)))else(cI (av.mk (eT2 s.aa))).bind λk=>(vK s.aa.aF (af s.aa.ae) k.1 s.aa.bM).bind λb=>(aU b).bind λl=>bif l then some ((()),(av.mk (eT2 s.aa)))else aX (λ(a:av×Unit)=>aX (λ(m:Bool×Unit)=>bif m.1 then(qI b.Value a.1.aa.aG.al a.1.aa.aP a.1.aa.bD).bind λc=>bif decide (c<=b.al)then some ((()),(av.mk {a.1.aa with ae:=(af a.1.aa.ae),eX:=c}))else some ((()),(av.mk (eT2 a.1.aa)))else some ((()),(av.mk (eT2 a.1.aa)))) λg=>bif decide (a.1.aa.eX=0)then(bt a.1.aa.aG b).bind λd=>g (d,())else g (false,())) λh=>(cE s.aa.aG b).bind λe=>bif e then(iF (av.mk {s.aa with ae:=(af s.aa.ae),bM:=b}) b).bind λf=>h ((av.mk (eT2 f.2.aa)),())else h ((av.mk {s.aa with ae:=(af s.aa.ae),bM:=b}),())
def zQ:=kr func447 0 y10 [] (.many []) (λs a=>qS s) [] (p_ 4 15 (.j ⟨[.box 0 0 y10 []],[0,2]⟩ (.r (.j ⟨[.val 67 y1],[0,2]⟩ .e)))) [bh,gf,DR,fb,lG,cd,xr]
def iq(s:Z C):Y (Unit×Z C):=yP (λx y=>eo x y) s
noncomputable def nT:KS U prog:=⟨.rw 472 9 1 y2 [.aT 451 []] (.many []) λs a=>iq s,LS (T:=y2) (F:=λa=>eo a.1 a.2.1) wY.enters wY.none o2.s (λ_=>rfl) wY.Dh (λ_=>rfl)⟩
noncomputable def rj:SA U:=bc (aS prog 10 [] f553) .e
def kM(s:Z C):Y (Z C):=(iq s).bind λa=>(gC a.2).bind some
noncomputable def rW:KS U prog:=⟨.cw 553 9 1 y2 [.aT 451 []] λs a=>kM s,Kf (K:=K) rj 10 [.tmp 4] [nT,kD] (fk f553 [] func553)⟩
def u9(c:Z ao):Y (Z C):=aE (λ(a:Int×Z C×Unit)=>bif decide (a.1<(c.length:Int))then aX (λ(e:(Z C)×Unit)=>some (inl ((aC .i64 a.1 1),e.1,()))) λd=>(idx c a.1).bind λb=>(c6 (eT1 b)).bind λf=>bif f then bif bn 16 (a.2.1.length+List.length [b.aG.Value])then d ((a.2.1++[b.aG.Value]),())else none else d (a.2.1,())else oR ((kM a.2.1).bind some)) (0,[],())
def Cz:=kf func513 [t17] (.one y13) (u1 u9) [] (p_ 5 11 (.ps (.own 3 9 1 y2) (.j ⟨[.val 8 y0,.own 3 5 2 false 9 1 y2],[6,7]⟩ (p_ 3 6 (.j ⟨[.own 3 5 3 false 9 1 y2],[6,7,8]⟩ .e))))) [dy,rW]
def kJ(s:Z Int):Y (Unit×Z Int):=yP (λx y=>bU x y) s
noncomputable def rS:KS U prog:=⟨.rw 569 3 1 y0 [.aT 185 []] (.many []) λs a=>kJ s,LS (T:=y0) (F:=λa=>bU a.1 a.2.1) FB.enters FB.none fu.s (λ_=>rfl) FB.Dh (λ_=>rfl)⟩
noncomputable def we:SA U:=bc (aS prog 61 [] f570) (.r (.r (.l (.r (.l (.j ⟨[.val 3 y0,.own 0 0 0 true 3 1 y0],[]⟩ (.l (.r (.l (.l (.r (.l (.r (.b (.r (.l (.j ⟨[.val 3 y0,.val 5 y0,.own 0 0 0 true 3 1 y0],[4]⟩ (.l (.r (.j ⟨[.val 3 y0,.own 0 0 0 true 3 1 y0],[4,5]⟩ .e)))))) (.r (.l (.g [(4,.ps (.cut 2))])))))))))))))))))
noncomputable def oo(s:Z Int):Y (Z Int):=bif decide ((s.length:Int)<2)then some s else aE (λ(b:Int×Z Int×Unit)=>bif decide (b.1<(b.2.1.length:Int))then(idx b.2.1 b.1).bind λn=>(b.2.1[(toNat b.1)]?).bind λh=>(idx b.2.1 (iG .i64 b.1 1)).bind λo=>(b.2.1[(toNat (iG .i64 b.1 1))]?).bind λi=>bif decide (h=i)then bif eQ b.1 ((b.2.1.length):Int) (b.2.1.length)then aE (λ(a:Int×Int×Z Int×Unit)=>bif decide (a.2.1<((List.length ((a.2.2.1.drop (toNat b.1)).take (toNat ((b.2.1.length):Int) - toNat b.1)):Nat):Int))then aX (λ(f:Int×Z Int×Unit)=>some (inl (f.1,(aC .i64 a.2.1 1),f.2.1,()))) λg=>(idx ((a.2.2.1.drop (toNat b.1)).take (toNat ((b.2.1.length):Int) - toNat b.1)) a.2.1).bind λp=>(a.2.2.1[((toNat b.1)+toNat a.2.1)]?).bind λc=>(idx ((a.2.2.1.drop (toNat b.1)).take (toNat ((b.2.1.length):Int) - toNat b.1)) (iG .i64 a.2.1 1)).bind λj=>(a.2.2.1[((toNat b.1)+toNat (iG .i64 a.2.1 1))]?).bind λd=>bif (!decide (c=d))then(idx ((a.2.2.1.drop (toNat b.1)).take (toNat ((b.2.1.length):Int) - toNat b.1)) a.2.1).bind λk=>(a.2.2.1[((toNat b.1)+toNat a.2.1)]?).bind λe=>(idx a.2.2.1 a.1).bind λl=>(a.2.2.1[(toNat a.1)]?).bind λm=>g ((aC .i64 a.1 1),(a.2.2.1.set (toNat a.1) e),())else g (a.1,a.2.2.1,())else oR (bif eQ a.1 ((a.2.2.1.length):Int) (a.2.2.1.length)then bif eQ 0 a.1 (List.length (a.2.2.1.take (toNat a.1)++replicate (toNat ((a.2.2.1.length):Int) - toNat a.1) 0++a.2.2.1.drop ((toNat a.1)+(toNat ((a.2.2.1.length):Int) - toNat a.1))))then oR (some ((a.2.2.1.take (toNat a.1)++replicate (toNat ((a.2.2.1.length):Int) - toNat a.1) 0++a.2.2.1.drop ((toNat a.1)+(toNat ((a.2.2.1.length):Int) - toNat a.1))).take (toNat a.1 - toNat 0)))else none else none)) (b.1,1,b.2.1,())else none else some (inl ((aC .i64 b.1 1),b.2.1,()))else oR (some b.2.1)) (1,s,())
noncomputable def xi:KS U prog:=⟨.cw 570 3 1 y0 [] λs a=>oo s,Kf (K:=K) we 61 [.tmp 2] [] (fk f570 [] func570)⟩
noncomputable def th:SA U:=bc (aS prog 10 [] f554) .e
def mg(s:Z Int):Y (Z Int):=(kJ s).bind λa=>(oo a.2).bind some
noncomputable def uA:KS U prog:=⟨.cw 554 3 1 y0 [.aT 185 []] λs a=>mg s,Kf (K:=K) th 10 [.tmp 4] [rS,xi] (fk f554 [] func554)⟩
def iw(c:Z ao)(e:C):Y (Z Int):=aE (λ(a:Int×Z Int×Unit)=>bif decide (a.1<(c.length:Int))then aX (λ(f:(Z Int)×Unit)=>some (inl ((aC .i64 a.1 1),f.1,()))) λd=>(idx c a.1).bind λb=>(c6 (eT1 b)).bind λg=>(aO g (some (decide (b.aG.Value=e)))).bind λh=>(aO h (some (!decide (b.eX=0)))).bind λi=>bif i then bif bn 8 (a.2.1.length+List.length [b.eX,b.dU])then d ((a.2.1++[b.eX,b.dU]),())else none else d (a.2.1,())else oR ((mg a.2.1).bind some)) (0,[],())
def nX:=kf func514 [t17,t2] (.one y11) (u2 iw) [] (p_ 5 11 (.ps (.own 5 3 1 y0) (.j ⟨[.val 10 y0,.own 5 5 2 false 3 1 y0],[1,8,9]⟩ (p_ 3 6 (.j ⟨[.own 5 5 3 false 3 1 y0],[1,8,9,10]⟩ .e))))) [dy,uA]
def qH(a:C)(b:Int)(c:aj)(d:aj):Y Bool:=(dn c (aj.mk b a)).bind λe=>(oO e ((dn d (aj.mk b a)).bind some)).bind some
def xq:=kf func512 [t2,t0,.ref (t3),.ref (t3)] q1 (u4 qH) [] .e [qw]
noncomputable def qG(a:C)(b:Int)(c:Int):Y (C×Int×Int×Unit):=some (a,b,c,())
def xp:=kf func557 [t2,t0,t0] (.fn (.aT 572 [.ref (t2),.ref (t0),.ref (t0)])) (λa=>qG a.1 a.2.1 a.2.2.1) [] .e []
noncomputable def k9(b:bY)(c:C)(a:Int)(d:Int):Y Bool:=(aO (decide (1<=a)) (some (decide (a<=d)))).bind λe=>(aO e (some (decide (b.ah.aG.Value=c)))).bind λf=>(aO f (some (decide (b.ah.eX<=a)))).bind some
def pF:=kf func571 [t19,t2,t0,t0] q1 (u4 k9) [] .e []
def lj(a:bY)(c:C)(d:Int)(b:Int):Y Bool:=(k9 (bY.mk (eT1 a.ah)) c d b).bind λe=>(aO e ((oO (!decide (a.ah.cF=1)) ((aO (!decide (a.ah.eX=0)) (some (decide (b<=a.ah.dU)))).bind some)).bind some)).bind some
def sO:=kf func556 [t19,t2,t0,t0] q1 (u4 lj) [] .e [pF]
def xP(a:bY)(b:C)(c:Int)(d:Int):Y Bool:=(lj (bY.mk (eT1 a.ah)) b c d).bind some
def E3:=kf func555 [t19,.ref (t2),.ref (t0),.ref (t0)] q1 (u4 xP) [] .e [sO]
def jX(a:bY)(c:C)(d:Int)(b:Int):Y Bool:=(k9 (bY.mk (eT1 a.ah)) c d b).bind λe=>(aO e ((oO (decide (a.ah.cF=3)) ((aO (decide (a.ah.cF=2)) (some (decide (b<=a.ah.dU)))).bind some)).bind some)).bind some
def rC:=kf func573 [t19,t2,t0,t0] q1 (u4 jX) [] .e [pF]
def oC(a:bY)(b:C)(c:Int)(d:Int):Y Bool:=(jX (bY.mk (eT1 a.ah)) b c d).bind some
def uE:=kf func572 [t19,.ref (t2),.ref (t0),.ref (t0)] q1 (u4 oC) [] .e [rC]
def iW(a:bY)(b:C)(c:Int)(d:Int)(e:C)(f:Int)(g:Int):Y Bool:=(xP (bY.mk (eT1 a.ah)) b c d).bind λh=>(oO h ((oC (bY.mk (eT1 a.ah)) e f g).bind some)).bind some
def pd:=kf func568 [t19,.ref (.aT 555 [.ref (t2),.ref (t0),.ref (t0)]),.ref (.aT 572 [.ref (t2),.ref (t0),.ref (t0)])] q1 (λa=>iW a.1 a.2.1.1 a.2.1.2.1 a.2.1.2.2.1 a.2.2.1.1 a.2.2.1.2.1 a.2.2.1.2.2.1) [] .e [E3,uE]
def jn(c:eK)(e:C)(f:Int)(g:Int)(h:C)(i:Int)(j:Int):Y Int:=aE (λ(a:Int×Int×Unit)=>bif decide (a.2.1<(c.bm.length:Int))then aX (λ(k:Int×Unit)=>some (inl (k.1,(aC .i64 a.2.1 1),()))) λd=>(idx c.bm a.2.1).bind λb=>(iW (bY.mk (eT1 b.ah)) e f g h i j).bind λl=>bif l then if b.ah.aF<0 then none else d ((vt .i64 a.1 (dF .i64 1 b.ah.aF)),())else d (a.1,())else oR (some a.1)) (0,0,())
def pD:=kf func381 [t18,.aT 568 [.ref (.aT 555 [.ref (t2),.ref (t0),.ref (t0)]),.ref (.aT 572 [.ref (t2),.ref (t0),.ref (t0)])]] q0 (λa=>jn a.1 a.2.1.1.1 a.2.1.1.2.1 a.2.1.1.2.2.1 a.2.1.2.1.1 a.2.1.2.1.2.1 a.2.1.2.1.2.2.1) [] (p_ 5 11 (.j ⟨[.val 5 y0,.val 11 y0],[1,9,10]⟩ (p_ 3 6 (.j ⟨[.val 5 y0],[1,9,10,11]⟩ .e)))) [pd]
def kb(c:eK)(e:C)(f:Int)(g:Int):Y Int:=aE (λ(a:Int×Int×Unit)=>bif decide (a.2.1<(c.bm.length:Int))then aX (λ(h:Int×Unit)=>some (inl (h.1,(aC .i64 a.2.1 1),()))) λd=>(idx c.bm a.2.1).bind λb=>(oC (bY.mk (eT1 b.ah)) e f g).bind λi=>bif i then if b.ah.aF<0 then none else d ((vt .i64 a.1 (dF .i64 1 b.ah.aF)),())else d (a.1,())else oR (some a.1)) (0,0,())
def oY:=kf func381 [t18,.aT 572 [.ref (t2),.ref (t0),.ref (t0)]] q0 (λa=>kb a.1 a.2.1.1 a.2.1.2.1 a.2.1.2.2.1) [] (p_ 5 11 (.j ⟨[.val 5 y0,.val 11 y0],[1,9,10]⟩ (p_ 3 6 (.j ⟨[.val 5 y0],[1,9,10,11]⟩ .e)))) [uE]
def jB(a:eK)(e:C)(f:Int)(g:Int)(b:C)(c:Int)(d:Int):Y Bool:=(jn a e f g b c d).bind λh=>(kb a b c d).bind λi=>(jN a.View a.aF h i).bind some
def qn:=kf func548 [t18,.aT 555 [.ref (t2),.ref (t0),.ref (t0)],.aT 572 [.ref (t2),.ref (t0),.ref (t0)]] q1 (λa=>jB a.1 a.2.1.1 a.2.1.2.1 a.2.1.2.2.1 a.2.2.1.1 a.2.2.1.2.1 a.2.2.1.2.2.1) [] .e [pD,oY,mZ]
def ju(e:eK)(b:C)(c:Int)(d:Int):Y Bool:=(qG b c d).bind λa=>(jB e b c d a.1 a.2.1 a.2.2.1).bind some
def lH:=kf func515 [t18,t2,t0,t0] q1 (u4 ju) [] .e [xp,qn]
noncomputable def c9(a:Z Int):Y ((Z Int)×Unit):=some (a,())
def dJ:=kf func518 [t11] (.fn (.aT 558 [.ref (t11)])) (λa=>c9 a.1) [] .e []
def tC:KS U prog:=⟨.bk 558 1 none,(⟨f558,[],func558,rfl,d_,d_,d_⟩:ep prog 558 19 (xw 1 none) [])⟩
def ra(b:Int)(c:aj)(d:aj)(a:aj)(e:eK):Y Bool:=(qH a.Value b c d).bind λf=>(aO (!f) ((ju e a.Value b a.al).bind some)).bind some
def z8:=kf func517 [t0,.ref (.aT 512 [.ref (t3),.ref (t3)]),.ref (t3),.ref (t18)] q1 (λa=>ra a.1 a.2.1.1 a.2.1.2.1 a.2.2.1 a.2.2.2.1) [] .e [xq,lH]
def mh(d:Z Int)(e:Int)(f:aj)(g:aj)(h:aj)(i:eK):Y Int:=aX (λ(j:Int×Unit)=>some j.1) λc=>(c9 d).bind λk=>oS (λ(n:Nat) (a:Int) (b:Int×Unit)=>bif decide (b.1<=a)then some (inl (b.1,()))else(ra a f g h i).bind λl=>bif (!l)then oR (c (b.1,()))else some (inl (a,()))) (λ(m:Int×Unit)=>c (m.1,())) (List.reverse k.1) (e,())
def uD:=kf func516 [t11,t0,.aT 517 [.ref (.aT 512 [.ref (t3),.ref (t3)]),.ref (t3),.ref (t18)]] q0 (λa=>mh a.1 a.2.1 a.2.2.1.1.1 a.2.2.1.1.2.1 a.2.2.1.2.1 a.2.2.1.2.2.1) [] (.r (.j ⟨[.box 0 1 y0 []],[4]⟩ (p_ 3 2 (.k ⟨[.box 0 1 y0 []],[4,5,10]⟩ 558 1 none y0 .e)))) [dJ,tC,z8]
def Av(s:Int)(t:ar)(e:Z ao)(l:aj)(m:aj):Y (C×Int×Int×Bool×Unit):=(gT s (af t) e).bind λn=>(u9 e).bind λo=>aE (λ(a:Bool×Int×aj×Unit)=>bif decide (a.2.1<(o.length:Int))then(idx o a.2.1).bind λc=>(iw e c).bind λp=>aE (λ(b:Bool×Int×aj×Unit)=>bif decide (b.2.1<(p.length:Int))then aX (λ(q:Bool×aj×Unit)=>some (inl (q.1,(aC .i64 b.2.1 1),q.2.1,()))) λr=>(idx p b.2.1).bind λd=>(cE b.2.2.1 (aj.mk d c)).bind λf=>(aO f ((qH c d l m).bind λg=>some (!g))).bind λh=>(aO h ((ju n c d d).bind some)).bind λi=>bif i then r (true,(aj.mk d c),())else r (b.1,b.2.2.1,())else oR (some (inl (b.1,(aC .i64 a.2.1 1),b.2.2.1,())))) (a.1,0,a.2.2.1,())else oR (bif (!a.1)then some (bE,0,0,false,())else(iw e a.2.2.1.Value).bind λj=>(mh j a.2.2.1.al l m a.2.2.1 n).bind λk=>some (a.2.2.1.Value,k,a.2.2.1.al,true,()))) (false,0,zB,())
def HG:=kf func485 [t0,t4,t17,t3,t3] (.many [y2,y0,y0,y1]) (u5 Av) [] (p_ 7 47 (.j ⟨[.val 13 y1,.val 30 y0,.box 16 1 y3 []],[2,14,15,16,28,29]⟩ (p_ 8 102 (.j ⟨[.val 13 y1,.val 38 y0,.box 16 1 y3 []],[2,14,15,16,18,28,29,30,36,37]⟩ (p_ 3 6 (.j ⟨[.val 13 y1,.box 16 1 y3 []],[2,14,15,16,18,28,29,30,36,37,38]⟩ .e)))))) [js,Cz,nX,fb,xq,lH,uD]
def vY(a:Int)(b:eK)(c:C)(d:Int):Y Bool:=(ju b c a d).bind some
def D9:=kf func519 [t0,.ref (t18),.ref (t2),.ref (t0)] q1 (u4 vY) [] .e [lH]
def pX(d:Z Int)(e:Int)(f:eK)(g:C)(h:Int):Y Int:=aX (λ(i:Int×Unit)=>some i.1) λc=>(c9 d).bind λj=>oS (λ(m:Nat) (a:Int) (b:Int×Unit)=>bif decide (b.1<=a)then some (inl (b.1,()))else(vY a f g h).bind λk=>bif (!k)then oR (c (b.1,()))else some (inl (a,()))) (λ(l:Int×Unit)=>c (l.1,())) (List.reverse j.1) (e,())
def zm:=kf func516 [t11,t0,.aT 519 [.ref (t18),.ref (t2),.ref (t0)]] q0 (λa=>pX a.1 a.2.1 a.2.2.1.1 a.2.2.1.2.1 a.2.2.1.2.2.1) [] (.r (.j ⟨[.box 0 1 y0 []],[4]⟩ (p_ 3 2 (.k ⟨[.box 0 1 y0 []],[4,5,10]⟩ 558 1 none y0 .e)))) [dJ,tC,D9]
def vX(a:Int)(b:eK)(c:C)(d:Int):Y Bool:=(ju b c a d).bind some
def D8:=kf func520 [t0,.ref (t18),.ref (t2),.ref (t0)] q1 (u4 vX) [] .e [lH]
def pW(d:Z Int)(e:Int)(f:eK)(g:C)(h:Int):Y Int:=aX (λ(i:Int×Unit)=>some i.1) λc=>(c9 d).bind λj=>oS (λ(m:Nat) (a:Int) (b:Int×Unit)=>bif decide (b.1<=a)then some (inl (b.1,()))else(vX a f g h).bind λk=>bif (!k)then oR (c (b.1,()))else some (inl (a,()))) (λ(l:Int×Unit)=>c (l.1,())) (List.reverse j.1) (e,())
def zl:=kf func516 [t11,t0,.aT 520 [.ref (t18),.ref (t2),.ref (t0)]] q0 (λa=>pW a.1 a.2.1 a.2.2.1.1 a.2.2.1.2.1 a.2.2.1.2.2.1) [] (.r (.j ⟨[.box 0 1 y0 []],[4]⟩ (p_ 3 2 (.k ⟨[.box 0 1 y0 []],[4,5,10]⟩ 558 1 none y0 .e)))) [dJ,tC,D8]
def yM(p:Int)(q:ar)(n:Z ao)(f:C)(r:Int)(s:Int):Y (Int×Int×Unit):=(gT p (af q) n).bind λg=>(iw n f).bind λh=>aX (λ(i:Int×Int×Unit)=>(pW h i.1 g f i.2.1).bind λt=>some (t,i.2.1,())) λo=>(c9 h).bind λu=>oS (λ(v:Nat) (b:Int) (c:Int×Int×Unit)=>(oO (decide (b<=c.2.1)) ((ju g f b b).bind λj=>some (!j))).bind λk=>bif k then some (inl (c.1,c.2.1,()))else(pX h b g f b).bind λa=>aX (λ(l:Int×Unit)=>oR (o (l.1,b,()))) λd=>(oO (decide (c.2.1<(iG .i64 a 1))) (some (decide (a<c.1)))).bind λm=>bif m then d (a,())else d (c.1,())) (λ(e:Int×Int×Unit)=>o (e.1,e.2.1,())) (List.reverse u.1) (r,s,())
def Gl:=kf func486 [t0,t4,t17,t2,t0,t0] (.many [y0,y0]) (u6 yM) [] (p_ 3 7 (.j ⟨[.box 2 1 y0 [],.box 3 1 y0 []],[9,10,11,14,15]⟩ (p_ 3 2 (.k ⟨[.box 2 1 y0 [],.box 3 1 y0 []],[9,10,11,14,15,27]⟩ 558 1 none y0 (p_ 4 13 (.j ⟨[.box 2 1 y0 []],[9,10,11,14,15,17,27]⟩ .e)))))) [js,nX,dJ,tC,lH,zm,zl]
end
section
def oz(s:av):Y ((Unit)×av):=bif decide (s.aa.dZ=1)then(cI (av.mk (eT2 s.aa))).bind λn=>(Av s.aa.aF (af s.aa.ae) n.1 s.aa.aP s.aa.bD).bind λa=>bif (!a.2.2.2.1)then some ((()),(av.mk (eT2 s.aa)))else aX (λ(c:av×Unit)=>aX (λ(j:av×Unit)=>some ((()),(av.mk {j.1.aa with ae:=(af j.1.aa.ae),dZ:=2,bD:=zB,bM:=(aj.mk a.2.2.1 a.1),eX:=a.2.1,dU:=a.2.2.1}))) λk=>aX (λ(o:Bool×Unit)=>bif o.1 then k ((av.mk {c.1.aa with ae:=(af c.1.aa.ae),aP:=(aj.mk a.2.2.1 a.1)}),())else k ((av.mk (eT2 c.1.aa)),())) λl=>(cE c.1.aa.aP (aj.mk a.2.2.1 a.1)).bind λp=>bif p then l (true,())else(bt c.1.aa.aP (aj.mk a.2.2.1 a.1)).bind λe=>l ((!e),())) λm=>aX (λ(f:Bool×Unit)=>bif f.1 then m ((av.mk {s.aa with ae:=(af s.aa.ae),aG:=(aj.mk (Ci s.aa.aG.al a.2.2.1) a.1)}),())else m ((av.mk (eT2 s.aa)),())) λd=>(cE s.aa.aG (aj.mk a.2.2.1 a.1)).bind λg=>bif g then d (true,())else(bt s.aa.aG (aj.mk a.2.2.1 a.1)).bind λh=>d ((!h),())else bif decide (s.aa.dZ=2)then(cI (av.mk (eT2 s.aa))).bind λi=>(yM s.aa.aF (af s.aa.ae) i.1 s.aa.aG.Value s.aa.eX s.aa.dU).bind λb=>some ((()),(av.mk {s.aa with ae:=(af s.aa.ae),aG:=(aj.mk (Ci s.aa.aG.al b.2.1) s.aa.aG.Value),aP:=(aj.mk (Ci s.aa.aP.al b.2.1) s.aa.aG.Value),bM:=(aj.mk (Ci s.aa.bM.al b.2.1) s.aa.aG.Value),eX:=b.1,dU:=b.2.1}))else some ((()),(av.mk (eT2 s.aa)))
def xn:=kr func448 0 y10 [] (.many []) (λs a=>oz s) [180] (p_ 3 5 (.b (p_ 3 7 (.j ⟨[.box 0 0 y10 []],[0,3,4,6]⟩ (.b (.j ⟨[.val 65 y1],[0,2,3,4,6]⟩ .e) (.j ⟨[.box 0 0 y10 []],[0,3,4,6]⟩ (.l (.j ⟨[.val 96 y1],[0,3,4,6]⟩ .e)))))) (p_ 5 13 (.u 4 .e)))) [gf,HG,fb,cd,Gl]
def lR(a:eK)(b:C)(c:Int)(d:Int):Y Bool:=(kb a b c d).bind λe=>(jh a.View a.aF e).bind some
def tw:=kf func510 [t18,.aT 572 [.ref (t2),.ref (t0),.ref (t0)]] q1 (λa=>lR a.1 a.2.1.1 a.2.1.2.1 a.2.1.2.2.1) [] .e [oY,mo]
def vr(b:eK)(c:C)(d:Int)(e:Int):Y Bool:=(qG c d e).bind λa=>(lR b a.1 a.2.1 a.2.2.1).bind some
def BA:=kf func521 [t18,t2,t0,t0] q1 (u4 vr) [] .e [xp,tw]
def xQ(a:Int)(b:eK)(c:C)(d:Int):Y Bool:=(vr b c a d).bind some
def E4:=kf func522 [t0,.ref (t18),.ref (t2),.ref (t0)] q1 (u4 xQ) [] .e [BA]
def pV(d:Z Int)(e:Int)(f:eK)(g:C)(h:Int):Y Int:=aX (λ(i:Int×Unit)=>some i.1) λc=>(c9 d).bind λj=>oS (λ(m:Nat) (a:Int) (b:Int×Unit)=>bif decide (b.1<=a)then some (inl (b.1,()))else(xQ a f g h).bind λk=>bif (!k)then oR (c (b.1,()))else some (inl (a,()))) (λ(l:Int×Unit)=>c (l.1,())) (List.reverse j.1) (e,())
def zk:=kf func516 [t11,t0,.aT 522 [.ref (t18),.ref (t2),.ref (t0)]] q0 (λa=>pV a.1 a.2.1 a.2.2.1.1 a.2.2.1.2.1 a.2.2.1.2.2.1) [] (.r (.j ⟨[.box 0 1 y0 []],[4]⟩ (p_ 3 2 (.k ⟨[.box 0 1 y0 []],[4,5,10]⟩ 558 1 none y0 .e)))) [dJ,tC,E4]
def Aw(g:Int)(h:ar)(d:Z ao)(b:C):Y (Int×Int×Bool×Unit):=(gT g (af h) d).bind λe=>(iw d b).bind λf=>(c9 f).bind λi=>oS (λ(l:Nat) (a:Int) (c:Int×Int×Bool×Unit)=>(vr e b a a).bind λj=>bif j then(pV f a e b a).bind λk=>oR (some (k,a,true,()))else some (inl (c.1,c.2.1,c.2.2.1,()))) (λ(m:Int×Int×Bool×Unit)=>some (0,0,false,())) (List.reverse i.1) (0,0,false,())
def HH:=kf func487 [t0,t4,t17,t2] (.many [y0,y0,y1]) (u4 Aw) [] (p_ 6 23 (.k ⟨[.box 2 1 y0 [],.box 3 1 y0 [],.box 4 1 y1 []],[7,8,9,10,11,12,23]⟩ 558 1 none y0 .e)) [js,nX,dJ,tC,BA,zk]
def o7(s:av):Y ((Unit)×av):=bif (!decide (s.aa.dZ=2))then some ((()),(av.mk (eT2 s.aa)))else(cI (av.mk (eT2 s.aa))).bind λb=>(Aw s.aa.aF (af s.aa.ae) b.1 s.aa.aG.Value).bind λa=>bif (!a.2.2.1)then some ((()),(av.mk (eT2 s.aa)))else some ((()),(av.mk (aW.mk s.aa.aF s.aa.br s.aa.cU (af s.aa.ae) 3 (aj.mk a.2.1 s.aa.aG.Value) zB zB zB a.1 a.2.1 s.aa.fZ s.aa.bm)))
def yb:=kr func449 0 y10 [] (.many []) (λs a=>o7 s) [] .e [gf,HH]
noncomputable def ke(a:bY):Y Int:=bif decide (a.ah.cF=3)then some 1000000 else some a.ah.aG.al
def o1:=kf func383 [t19] q0 (u1 ke) [] .e []
def nk(a:ao):Y Int:=(c6 (eT1 a)).bind λb=>bif (!b)then some 0 else(ke (bY.mk (eT1 a))).bind some
def sU:=kf func490 [t7] q0 (u1 nk) [] .e [dy,o1]
noncomputable def yJ(c:Z ao)(d:Z Bool):Y Int:=aE (λ(a:Int×Int×Unit)=>bif decide (a.2.1<(c.length:Int))then aX (λ(f:Int×Unit)=>some (inl (f.1,(aC .i64 a.2.1 1),()))) λe=>(idx c a.2.1).bind λb=>(aO (decide (a.2.1<(d.length:Int))) ((idx d a.2.1).bind some)).bind λg=>(aO g (some (decide (0<=b.aF)))).bind λh=>(aO h (some (decide (b.aF<10)))).bind λi=>bif i then if b.aF<0 then none else e ((vt .i64 a.1 (dF .i64 1 b.aF)),())else e (a.1,())else oR (some a.1)) (0,0,())
def Gi:=kf func523 [t17,.ty (Ty.sl Ty.bool)] q0 (u2 yJ) [] (p_ 5 11 (.j ⟨[.val 5 y0,.val 10 y0],[1,8,9]⟩ (p_ 3 6 (.j ⟨[.val 5 y0],[1,8,9,10]⟩ .e)))) []
def pT(b:av)(c:Int):Y Int:=bif decide ((b.aa.bm.length:Int)<=(b.aa.bm.length:Int))&&decide (0<=(b.aa.bm.length:Int))&&bn 1 (toNat (b.aa.bm.length:Int))then aE (λ(a:Int×Z Bool×Unit)=>bif decide (a.1<(b.aa.bm.length:Int))then(idx b.aa.bm a.1).bind λd=>(nk (eT1 d)).bind λe=>(idx a.2.1 a.1).bind λf=>(a.2.1[(toNat a.1)]?).bind λg=>some (inl ((aC .i64 a.1 1),(a.2.1.set (toNat a.1) (decide (c<e))),()))else oR ((yJ b.aa.bm a.2.1).bind some)) (0,(replicate (toNat (b.aa.bm.length:Int)) false),())else none
def zi:=kf func489 [.ref (.ty y10),t0] q0 (u2 pT) [] (p_ 5 11 (.j ⟨[.val 21 y0,.own 5 7 2 false 4 1 y1],[0,1,19,20]⟩ .e)) [sU,Gi]
def jg(b:Int)(c:bo)(a:av):Y Bool:=(pT (av.mk (eT2 a.aa)) b).bind λd=>(py c a.aa.aF d).bind some
def wC:=kf func488 [t0,.ref (t12),.ref (.ref (.ty y10))] q1 (u3 jg) [] .e [zi,vB]
def o6(s:av):Y ((Unit)×av):=bif decide (s.aa.dZ=3)then some ((()),(av.mk (eT2 s.aa)))else(cI (av.mk (eT2 s.aa))).bind λm=>(tQ s.aa.aF (af s.aa.ae) m.1).bind λk=>(jg s.aa.aG.al k (av.mk (eT2 s.aa))).bind λn=>bif (!n)then some ((()),(av.mk (eT2 s.aa)))else aE (λ(a:Int×Int×Unit)=>bif decide (a.2.1<(s.aa.bm.length:Int))then aX (λ(o:Int×Unit)=>some (inl (o.1,(aC .i64 a.2.1 1),()))) λl=>(idx s.aa.bm a.2.1).bind λp=>(nk (eT1 p)).bind λc=>(aO (decide (s.aa.aG.al<c)) (some (decide (c<a.1)))).bind λq=>(aO q ((jg c k (av.mk (eT2 s.aa))).bind λd=>some (!d))).bind λe=>bif e then l (c,())else l (a.1,())else oR (aX (λ(f:aj×Unit)=>(iF (av.mk (eT2 s.aa)) f.1).bind λg=>some ((()),(av.mk (eT2 g.2.aa)))) λb=>(aU s.aa.aG).bind λh=>(oO h (some (decide (s.aa.dZ=1)))).bind λi=>bif i then(fM (av.mk (eT2 s.aa))).bind λj=>b ((aj.mk (rO a.1 1000) j),())else b ((aj.mk (rO a.1 1000) s.aa.aG.Value),()))) (1000000,0,())
def ya:=kr func450 0 y10 [] (.many []) (λs a=>o6 s) [] (p_ 6 63 (.b (p_ 2 1 (.j ⟨[.val 4 y0,.val 44 y0],[1,3,42,43]⟩ (p_ 3 6 (.j ⟨[.val 4 y0],[1,3,42,43,44]⟩ .e)))) (.r (.j ⟨[.box 52 1 y3 []],[1,8]⟩ .e)))) [gf,zM,wC,sU,bh,kX,lG]
def qT(s:av):Y (Bool×av):=(eu (av.mk (eT2 s.aa))).bind λa=>(nH (av.mk (eT2 s.aa))).bind λi=>(eu (av.mk (eT2 i.2.aa))).bind λd=>bif (xor true (decide (d.oJ=a.oJ)&&(decide (d.low=a.low)&&(decide (d.tE=a.tE)&&(decide (d.ew.al=a.ew.al)&&(decide (d.ew.Value=a.ew.Value)&&(decide (d.cY.al=a.cY.al)&&(decide (d.cY.Value=a.cY.Value)&&(decide (d.fO.al=a.fO.al)&&(decide (d.fO.Value=a.fO.Value)&&(decide (d.cv.al=a.cv.al)&&(decide (d.cv.Value=a.cv.Value)&&true))))))))))))then(dC (av.mk (eT2 i.2.aa))).bind λo=>some (true,(av.mk (eT2 o.2.aa)))else(qS (av.mk (eT2 i.2.aa))).bind λj=>(eu (av.mk (eT2 j.2.aa))).bind λe=>bif (xor true (decide (e.oJ=a.oJ)&&(decide (e.low=a.low)&&(decide (e.tE=a.tE)&&(decide (e.ew.al=a.ew.al)&&(decide (e.ew.Value=a.ew.Value)&&(decide (e.cY.al=a.cY.al)&&(decide (e.cY.Value=a.cY.Value)&&(decide (e.fO.al=a.fO.al)&&(decide (e.fO.Value=a.fO.Value)&&(decide (e.cv.al=a.cv.al)&&(decide (e.cv.Value=a.cv.Value)&&true))))))))))))then(dC (av.mk (eT2 j.2.aa))).bind λp=>some (true,(av.mk (eT2 p.2.aa)))else(oz (av.mk (eT2 j.2.aa))).bind λk=>(eu (av.mk (eT2 k.2.aa))).bind λf=>bif (xor true (decide (f.oJ=a.oJ)&&(decide (f.low=a.low)&&(decide (f.tE=a.tE)&&(decide (f.ew.al=a.ew.al)&&(decide (f.ew.Value=a.ew.Value)&&(decide (f.cY.al=a.cY.al)&&(decide (f.cY.Value=a.cY.Value)&&(decide (f.fO.al=a.fO.al)&&(decide (f.fO.Value=a.fO.Value)&&(decide (f.cv.al=a.cv.al)&&(decide (f.cv.Value=a.cv.Value)&&true))))))))))))then(dC (av.mk (eT2 k.2.aa))).bind λl=>some (true,(av.mk (eT2 l.2.aa)))else(o7 (av.mk (eT2 k.2.aa))).bind λg=>(eu (av.mk (eT2 g.2.aa))).bind λb=>bif (xor true (decide (b.oJ=a.oJ)&&(decide (b.low=a.low)&&(decide (b.tE=a.tE)&&(decide (b.ew.al=a.ew.al)&&(decide (b.ew.Value=a.ew.Value)&&(decide (b.cY.al=a.cY.al)&&(decide (b.cY.Value=a.cY.Value)&&(decide (b.fO.al=a.fO.al)&&(decide (b.fO.Value=a.fO.Value)&&(decide (b.cv.al=a.cv.al)&&(decide (b.cv.Value=a.cv.Value)&&true))))))))))))then(dC (av.mk (eT2 g.2.aa))).bind λm=>some (true,(av.mk (eT2 m.2.aa)))else(o6 (av.mk (eT2 g.2.aa))).bind λh=>(eu (av.mk (eT2 h.2.aa))).bind λc=>bif (xor true (decide (c.oJ=a.oJ)&&(decide (c.low=a.low)&&(decide (c.tE=a.tE)&&(decide (c.ew.al=a.ew.al)&&(decide (c.ew.Value=a.ew.Value)&&(decide (c.cY.al=a.cY.al)&&(decide (c.cY.Value=a.cY.Value)&&(decide (c.fO.al=a.fO.al)&&(decide (c.fO.Value=a.fO.Value)&&(decide (c.cv.al=a.cv.al)&&(decide (c.cv.Value=a.cv.Value)&&true))))))))))))then(dC (av.mk (eT2 h.2.aa))).bind λn=>some (true,(av.mk (eT2 n.2.aa)))else some (false,(av.mk (eT2 h.2.aa)))
def zR:=kr func411 0 y10 [] q1 (λs a=>qT s) [18] (p_ 5 11 (.u 6 .e)) [AX,wB,o0,zQ,xn,yb,ya]
def eV(s:av):Y ((Unit)×av):=(dC (av.mk (eT2 s.aa))).bind λb=>aE (λ(c:av×Unit)=>(qT (av.mk (eT2 c.1.aa))).bind λa=>bif a.1 then some (inl ((av.mk (eT2 a.2.aa)),()))else oR (some ((()),(av.mk (eT2 a.2.aa))))) ((av.mk (eT2 b.2.aa)),())
def gr:=kr func360 0 y10 [] (.many []) (λs a=>eV s) [] (p_ 2 1 (.j ⟨[.box 0 0 y10 []],[0]⟩ .e)) [o0,zR]
def lU(a:ao)(b:ao):Y Bool:=(er (af a.ae) (af b.ae)).bind λc=>(aO c (some (decide (a.cF=b.cF)))).bind λd=>(aO d (some (oe false a.aG.al b.aG.al a.aG.Value b.aG.Value))).bind λe=>(aO e (some (oe false a.aP.al b.aP.al a.aP.Value b.aP.Value))).bind λf=>(aO f (some (oe false a.bD.al b.bD.al a.bD.Value b.bD.Value))).bind λg=>(aO g (some (decide (a.eX=b.eX)))).bind λh=>(aO h (some (decide (a.dU=b.dU)))).bind some
def oL:=kf func361 [t7,t7] q1 (u2 lU) [] .e [eU]
def qX(b:aW)(i:C):Y (aW×Int×Unit):=(fD (eT2 b)).bind λj=>bif (!j)then some (zz1,13,())else(gV (eT2 b)).bind λk=>(s8 (av.mk (eT2 k)) i).bind λc=>bif (!decide (c.1=0))then some (zz1,c.1,())else(eV (av.mk (eT2 c.2.aa))).bind λa=>aX (λ(l:av×Unit)=>some ((eT2 l.1.aa),0,())) λg=>aX (λ(m:Bool×Unit)=>bif m.1 then g ((av.mk {a.2.aa with cU:=(rO (aC .i64 a.2.aa.cU 1) 1000000),ae:=(af a.2.aa.ae)}),())else g ((av.mk (eT2 a.2.aa)),())) λh=>(aU b.aG).bind λn=>bif (!n)then(ct (eT2 b)).bind λd=>(ct (eT2 a.2.aa)).bind λe=>(lU (eT1 d) (eT1 e)).bind λf=>h ((!f),())else h (false,())
def zV:=kf func314 [t9,.aT 315 [.ref (t2)]] (.many [y9,y0]) (λa=>qX a.1 a.2.1.1) [] (p_ 5 31 (.j ⟨[.box 9 1 y10 []],[4,6]⟩ (.l (.j ⟨[.val 39 y1],[4,6]⟩ .e)))) [gu,jz,BS,gr,bh,eD,oL]
def pr(b:aW)(c:C):Y (aW×Int×Unit):=(qX (eT2 b) c).bind λa=>some ((eT2 a.1),a.2.1,())
def vy:=kf func238 [t9,t2] (.many [y9,y0]) (u2 pr) [3] .e [zV]
def gJ(a:ba):Y ba:=aX (λ(b:ba×Unit)=>(pw (eT2 b.1.aa)).bind λe=>some (ba.mk (eT0 b.1.aN) (eT2 b.1.aa) b.1.Timer b.1.Round b.1.Next e.2.1 e.1)) λc=>(aO (decide (a.aa.dZ=1)) ((aU a.aa.bM).bind some)).bind λg=>(aO g (some (decide (0<(a.aN.da.length:Int))))).bind λh=>bif h then(pS a.aN.da).bind λd=>(aO d.2.1 (some (!decide (d.1=a.aa.fZ)))).bind λi=>bif i then(pr (eT2 a.aa) d.1).bind λf=>bif decide (f.2.1=0)then c ({a with aN:=(eT0 a.aN),aa:=(eT2 f.1)},())else c ((eT5 a),())else c ((eT5 a),())else c ((eT5 a),())
def iI:=kf func278 [t5] (.one y5) (u1 gJ) [] (.r (.j ⟨[.box 0 1 y5 []],[1,2]⟩ .e)) [bh,zh,vy,vA]
def sz(c:Int)(d:Int)(e:ar)(g:C)(f:Int):Y (ba×Int×Unit):=(vq f).bind λh=>bif (!h)then some (zz11,1,())else(BE c d (af e)).bind λa=>bif (!decide (a.2.1=0))then some (zz11,a.2.1,())else(u0 c d (af e) g).bind λb=>bif (!decide (b.2.1=0))then some (zz11,b.2.1,())else(qf 1).bind λi=>(gJ (ba.mk (eT0 b.1) (eT2 a.1) (gz.mk 0 (-1:Int)) 1 (aC .i64 f i) false bE)).bind λj=>some ((eT5 j),0,())
def AR:=kf func234 [t0,t0,t4,t2,t0] (.many [y5,y0]) (u5 sz) [] .e [Bz,IQ,Cw,vo,iI]
noncomputable def db(s:Z ba)(a:Int)(b:Z ba):Y (Z ba):=CF 496 s a b
noncomputable def fG:KS U prog:=⟨.cw 235 117 37 y5 [t0,.ty y31] λs a=>db s a.1 a.2.1,JK JQ.ways JQ.enters (λx=>K.len (y5) x)⟩
noncomputable def vl:SA U:=bc (aS prog 23 [] f168) (.r (.r (.b (.i 1 163 12 [.cell 2 (some 6)] (bc (aS prog 12 [] f163) .e) [] []) (.r (.l (.l (.i 1 169 11 [.tmp 5] (bc (aS prog 11 [] f169) (.r (.l (.i 4 170 57 [.tmp 8] (bc (aS prog 57 [] f170) (.r (.b (.i 2 233 14 [.tmp 4,.tmp 5] (bc (aS prog 14 [] f233) .e) [] []) (.r (.r (.j ⟨[.box 1 1 y6 [(5,15,2)],.bO 15 2 false 117 37 y5],[12]⟩ .e)))))) [] [])))) [] [])))))))
def nF(a:ay)(f:Int)(i:C)(j:Int):Y (ay×Int×Unit):=(dt (eT3 a)).bind λk=>bif (!k)then some (zz3,13,())else(bG (af a.ae)).bind λc=>(cx a.bX).bind λb=>bif a.lN then some ({a with ae:=(af c),bX:=b},0,())else(a8 b f).bind λg=>bif g.2.1 then some (zz3,6,())else bif decide ((b.length:Int)=8)then some (zz3,3,())else(sz a.aF f (af c) i j).bind λd=>aX (λ(e:ay×Z ba×Unit)=>bif (!decide (d.2.1=0))then some (zz3,d.2.1,())else some ({e.1 with ae:=(af e.1.ae),bX:=e.2.1},0,())) λh=>bif decide (d.2.1=0)then(db b g.1 [(eT5 d.1)]).bind λl=>h ({a with ae:=(af c),bX:=[]},l,())else h ({a with ae:=(af c),bX:=[]},b,())
noncomputable def wz:KS U prog:=⟨.fn 168 [t6,.aT 169 [.ref (t0),.ref (t2),.ref (t0)]] (.many [y6,y0]) λa=>nF a.1 a.2.1.1 a.2.1.2.1 a.2.1.2.2.1,Fc (K:=K) vl 23 [.cell 4 (some 6),.tmp 5] [dM,bW,c4,c3,AR,fG] [(163,12,(aS prog 12 [] f163),[.cell 2 (some 6)]),(169,11,(aS prog 11 [] f169),[.tmp 5]),(170,57,(aS prog 57 [] f170),[.tmp 8]),(233,14,(aS prog 14 [] f233),[.tmp 4,.tmp 5])] ⟨fk f163 [] func163,⟨fk f169 [] func169,⟨fk f170 [] func170,⟨fk f233 [] func233,trivial⟩⟩⟩⟩ (fk f168 [] func168)⟩
def sZ(b:ay)(c:Int)(d:C)(e:Int):Y (ay×Int×Unit):=(nF (eT3 b) c d e).bind λa=>some ((eT3 a.1),a.2.1,())
def BM:=kf func105 [t6,t0,t2,t0] (.many [y6,y0]) (u4 sZ) [5,6,7] .e [wz]
noncomputable def mP(s:ba)(c:aW)(a:Int):Y (Int×ba):=aX (λ(d:ba×Unit)=>some (a,(eT5 d.1))) λb=>bif decide (a=0)then b ({s with aN:=(eT0 s.aN),aa:=(eT2 c)},())else b ((eT5 s),())
def qc:=kr func239 0 y5 [t9,t0] q0 (λs a=>mP s a.1 a.2.1) [] (.r (.j ⟨[.box 0 0 y5 []],[2]⟩ .e)) []
def yB(s:ba)(c:C):Y (Int×ba):=(pr (eT2 s.aa) c).bind λa=>(mP (eT5 s) (eT2 a.1) a.2.1).bind λb=>some (b.1,(eT5 b.2))
def F7:=kr func237 0 y5 [.ref (t2)] q0 (λs a=>yB s a.1) [] .e [vy,qc]
def uU(b:ba)(c:C):Y (ba×Int×Unit):=(im (eT5 b)).bind λd=>bif (!d)then some (zz11,13,())else(iM (eT5 b)).bind λe=>(yB (eT5 e) c).bind λa=>bif (!decide (a.1=0))then some (zz11,a.1,())else(gJ (eT5 a.2)).bind λf=>some ((eT5 f),0,())
def Cp:=kf func236 [t5,.aT 237 [.ref (t2)]] (.many [y5,y0]) (λa=>uU a.1 a.2.1.1) [] .e [jy,ki,F7,iI]
def BD(b:ba)(c:C):Y (ba×Int×Unit):=(uU (eT5 b) c).bind λa=>some ((eT5 a.1),a.2.1,())
def IN:=kf func174 [t5,t2] (.many [y5,y0]) (u2 BD) [3] .e [Cp]
def ou(b:ba)(c:C):Y (ba×Int×Unit):=(BD (eT5 b) c).bind λa=>some ((eT5 a.1),a.2.1,())
def xk:=kf func173 [t5,.ref (t2)] (.many [y5,y0]) (u2 ou) [] .e [IN]
noncomputable def vk:SA U:=bc (aS prog 23 [] f168) (.r (.r (.b (.i 1 163 12 [.cell 2 (some 6)] (bc (aS prog 12 [] f163) .e) [] []) (.r (.l (.l (.i 1 171 12 [.tmp 5] (bc (aS prog 12 [] f171) (.r (.l (.i 5 172 56 [.tmp 10] (bc (aS prog 56 [] f172) (.r (.b (.j ⟨[.val 11 y0,.box 1 1 y6 [(5,15,2)],.bO 15 2 false 117 37 y5],[0,1,4]⟩ (.l (.i 4 170 57 [.tmp 8] (bc (aS prog 57 [] f170) (.r (.b (.i 2 233 14 [.tmp 4,.tmp 5] (bc (aS prog 14 [] f233) .e) [] []) (.r (.r (.j ⟨[.box 1 1 y6 [(5,15,2)],.bO 15 2 false 117 37 y5],[12]⟩ .e)))))) [] []))) (.b (.i 2 233 14 [.tmp 4,.tmp 5] (bc (aS prog 14 [] f233) .e) [] []) (.r (.j ⟨[.bO 15 2 true 117 37 y5],[15]⟩ .e)))))) [] [])))) [] [])))))))
def nD(b:ay)(l:Int)(p:C)(q:Int):Y (ay×Int×Unit):=(dt (eT3 b)).bind λr=>bif (!r)then some (zz3,13,())else(bG (af b.ae)).bind λg=>(cx b.bX).bind λd=>bif b.lN then some ({b with ae:=(af g),bX:=d},0,())else aX (λ(a:Int×ay×Z ba×Unit)=>(aO (!decide (a.1=0)) (some (!decide (a.1=6)))).bind λs=>bif s then bif (!decide (a.1=0))then some (zz3,a.1,())else some ({a.2.1 with ae:=(af a.2.1.ae),bX:=a.2.2.1},0,())else(a8 a.2.2.1 l).bind λh=>(idx a.2.2.1 h.1).bind λw=>(a.2.2.1[(toNat h.1)]?).bind λt=>(ou (eT5 t) p).bind λc=>aX (λ(m:(Z ba)×Unit)=>bif (!decide (c.2.1=0))then some (zz3,c.2.1,())else some ({a.2.1 with ae:=(af a.2.1.ae),bX:=m.1},0,())) λi=>bif decide (c.2.1=0)then(idx a.2.2.1 h.1).bind λu=>(a.2.2.1[(toNat h.1)]?).bind λv=>i ((a.2.2.1.set (toNat h.1) (eT5 c.1)),())else i (a.2.2.1,())) λn=>(a8 d l).bind λj=>bif j.2.1 then n (6,{b with ae:=(af g),bX:=[]},d,())else bif decide ((d.length:Int)=8)then n (3,{b with ae:=(af g),bX:=[]},d,())else(sz b.aF l (af g) p q).bind λe=>aX (λ(f:ay×Z ba×Unit)=>n (e.2.1,{f.1 with ae:=(af f.1.ae),bX:=[]},f.2.1,())) λk=>bif decide (e.2.1=0)then(db d j.1 [(eT5 e.1)]).bind λo=>k ({b with ae:=(af g),bX:=[]},o,())else k ({b with ae:=(af g),bX:=[]},d,())
noncomputable def wy:KS U prog:=⟨.fn 168 [t6,.aT 171 [.ref (t0),.ref (t2),.ref (t0)]] (.many [y6,y0]) λa=>nD a.1 a.2.1.1 a.2.1.2.1 a.2.1.2.2.1,Fc (K:=K) vk 23 [.cell 4 (some 6),.tmp 5] [dM,bW,c4,c3,AR,fG,xk] [(163,12,(aS prog 12 [] f163),[.cell 2 (some 6)]),(171,12,(aS prog 12 [] f171),[.tmp 5]),(172,56,(aS prog 56 [] f172),[.tmp 10]),(170,57,(aS prog 57 [] f170),[.tmp 8]),(233,14,(aS prog 14 [] f233),[.tmp 4,.tmp 5]),(233,14,(aS prog 14 [] f233),[.tmp 4,.tmp 5])] ⟨fk f163 [] func163,⟨fk f171 [] func171,⟨fk f172 [] func172,⟨fk f170 [] func170,⟨fk f233 [] func233,⟨fk f233 [] func233,trivial⟩⟩⟩⟩⟩⟩ (fk f168 [] func168)⟩
def sA(b:ay)(c:Int)(d:C)(e:Int):Y (ay×Int×Unit):=(nD (eT3 b) c d e).bind λa=>some ((eT3 a.1),a.2.1,())
def AT:=kf func107 [t6,t0,t2,t0] (.many [y6,y0]) (u4 sA) [5,6,7] .e [wy]
noncomputable def BG:SA U:=bc (aS prog 15 [] f109) (.r (.r (.l (.i 1 163 12 [.cell 2 (some 6)] (bc (aS prog 12 [] f163) .e) [] []))))
def uX(a:ay):Y ay:=(dt (eT3 a)).bind λb=>(bG (af a.ae)).bind λc=>(cx a.bX).bind λd=>(oO a.lN (some b)).bind λe=>some (ay.mk a.aF e (af c) d)
noncomputable def Ct:KS U prog:=⟨.fn 109 [t6] (.one y6) λa=>uX a.1,Fc (K:=K) BG 15 [.cell 2 (some 6)] [dM,bW,c4] [(163,12,(aS prog 12 [] f163),[.cell 2 (some 6)])] ⟨fk f163 [] func163,trivial⟩ (fk f109 [] func109)⟩
noncomputable def sH(a:bx)(b:Int):Y Int:=bif decide (b<a.td)then some 1 else some (-1:Int)
def Gc:=kf func200 [.ty y15,t0] q0 (u2 sH) [] .e []
def dW(d:Z bx)(e:Int):Y (Int×Bool×Unit):=aE (λ(a:Int×Int×Unit)=>bif decide (a.1<a.2.1)then(idx d (bB .i64 (iH .u64 (bB .u64 (aC .i64 a.1 a.2.1)) 1))).bind λb=>(sH {b with ak:={b.ak with ai:={b.ak.ai with ae:=(af b.ak.ai.ae)},ah:=(eT1 b.ak.ah)}} e).bind λf=>bif decide (f<0)then some (inl ((aC .i64 (bB .i64 (iH .u64 (bB .u64 (aC .i64 a.1 a.2.1)) 1)) 1),a.2.1,()))else some (inl (a.1,(bB .i64 (iH .u64 (bB .u64 (aC .i64 a.1 a.2.1)) 1)),()))else oR ((aO (decide (a.1<(d.length:Int))) ((idx d a.1).bind λc=>(sH {c with ak:={c.ak with ai:={c.ak.ai with ae:=(af c.ak.ai.ae)},ah:=(eT1 c.ak.ah)}} e).bind λg=>some (decide (g=0)))).bind λh=>some (a.1,h,()))) (0,(d.length:Int),())
def gP:=kf func199 [.ty y26,t0,.aT 200 []] (.many [y0,y1]) (λa=>dW a.1 a.2.1) [] (p_ 5 7 (.j ⟨[.val 9 y0,.val 10 y0],[0,1,2,8]⟩ .e)) [Gc]
noncomputable def nJ:SA U:=bc (aS prog 8 [5] f202) (.r (.l (.r (.l (.l (.g [(1,.ps (.own 2 158 28 y15))]))))))
noncomputable def il(a:Z bx):Y (Z bx):=bif List.isEmpty a then both (some []) (bif bn 344 (List.length ([]:Z bx)+a.length)then some (([]:Z bx)++a)else none)else bif bn 344 (List.length ([]:Z bx)+a.length)then some (([]:Z bx)++a)else none
def dG(a:Z bx):Y (Z bx):=bif bn 344 (List.length ([]:Z bx)+a.length)then some (([]:Z bx)++a)else none
def n9(a0:Z bx):il a0=dG a0:=match a0 with|[]=>uN _|_::_=>rfl
noncomputable def nV:KS U prog:=⟨.fw 202 [.ty y26] 158 28 y15 λa=>dG a.1,CJ (K:=K) nJ 8 [.tmp 2] [] (fk f202 [5] func202) (hF:=qaY (b:=λa:((Z bx)×Unit)=>il a.1) d_ (funext λa=>n9 a.1))⟩
def xI(a:Int)(b:Int):Y Bool:=(ez a b).bind some
def EW:=kf func334 [t0,.ref (t0)] q1 (u2 xI) [] .e [fP]
def jS(b:Z Int)(c:Int):Y Int:=aE (λ(a:Int×Unit)=>bif decide (a.1<(b.length:Int))then(idx b a.1).bind λd=>(xI d c).bind λe=>bif e then oR (some a.1)else some (inl ((aC .i64 a.1 1),()))else oR (some (-1:Int))) (0,())
def rp:=kf func245 [t11,.aT 334 [.ref (t0)]] q0 (λa=>jS a.1 a.2.1.1) [] (p_ 4 5 (.j ⟨[.val 8 y0],[0,1,7]⟩ .e)) [EW]
def tT(a:bI)(b:Int):Y Int:=(jS a.gl b).bind some
def HF:=kf func266 [.ty y25,t0] q0 (u2 tT) [] .e [rp]
def vP(a:Int)(b:Int)(c:Int):Y Bool:=(ez a b).bind λd=>(aO d ((ez a c).bind some)).bind some
def DX:=kf func267 [t0,.ref (t0),.ref (t0)] q1 (u3 vP) [] .e [fP]
def jT(b:Z Int)(c:Int)(d:Int):Y Int:=aE (λ(a:Int×Unit)=>bif decide (a.1<(b.length:Int))then(idx b a.1).bind λe=>(vP e c d).bind λf=>bif f then oR (some a.1)else some (inl ((aC .i64 a.1 1),()))else oR (some (-1:Int))) (0,())
def rq:=kf func245 [t11,.aT 267 [.ref (t0),.ref (t0)]] q0 (λa=>jT a.1 a.2.1.1 a.2.1.2.1) [] (p_ 4 5 (.j ⟨[.val 8 y0],[0,1,7]⟩ .e)) [DX]
def iS(a:Z Int)(b:Int)(c:Int):Y Bool:=(jT a b c).bind λd=>some (decide (0<=d))
def pa:=kf func183 [t11,.aT 267 [.ref (t0),.ref (t0)]] q1 (λa=>iS a.1 a.2.1.1 a.2.1.2.1) [] .e [rq]
def yF(a:bI)(b:Int)(c:Int):Y Bool:=(gU b).bind λd=>(oO (!d) ((gU c).bind λe=>some (!e))).bind λf=>(oO f ((tT a b).bind λg=>some (decide (g<0)))).bind λh=>(oO h ((tT a c).bind λi=>some (decide (i<0)))).bind λj=>bif j then some false else(iS a.gl b c).bind λk=>some (!k)
def Gd:=kf func204 [.ty y25,t0,t0] q1 (u3 yF) [] .e [tz,HF,pa]
def sG(a:bx)(b:bI):Y Bool:=(yF b a.C8 a.To).bind some
def yl:=kf func203 [.ty y15,.ref (.ty y25)] q1 (u2 sG) [] .e [Gd]
def fA(c:Z bx)(d:bI):Y Int:=aE (λ(b:Int×Unit)=>bif decide (b.1<(c.length:Int))then(idx c b.1).bind λa=>(sG {a with ak:={a.ak with ai:={a.ak.ai with ae:=(af a.ak.ai.ae)},ah:=(eT1 a.ak.ah)}} d).bind λe=>bif e then oR (some b.1)else some (inl ((aC .i64 b.1 1),()))else oR (some (-1:Int))) (0,())
def ky:=kf func265 [.ty y26,.aT 203 [.ref (.ty y25)]] q0 (λa=>fA a.1 a.2.1.1) [] (p_ 4 5 (.j ⟨[.val 8 y0],[0,1,7]⟩ .e)) [yl]
def nj(a:aA)(b:Int):Y Int:=(bU a.aF b).bind some
def BN:=kf func336 [.ty y16,t0] q0 (u2 nj) [] .e [fu]
def dm(b:Z aA)(c:Int):Y (Int×Bool×Unit):=aE (λ(a:Int×Int×Unit)=>bif decide (a.1<a.2.1)then(idx b (bB .i64 (iH .u64 (bB .u64 (aC .i64 a.1 a.2.1)) 1))).bind λd=>(nj {d with ae:=(af d.ae)} c).bind λf=>bif decide (f<0)then some (inl ((aC .i64 (bB .i64 (iH .u64 (bB .u64 (aC .i64 a.1 a.2.1)) 1)) 1),a.2.1,()))else some (inl (a.1,(bB .i64 (iH .u64 (bB .u64 (aC .i64 a.1 a.2.1)) 1)),()))else oR ((aO (decide (a.1<(b.length:Int))) ((idx b a.1).bind λe=>(nj {e with ae:=(af e.ae)} c).bind λg=>some (decide (g=0)))).bind λh=>some (a.1,h,()))) (0,(b.length:Int),())
def fW:=kf func335 [.ty y27,t0,.aT 336 []] (.many [y0,y1]) (λa=>dm a.1 a.2.1) [] (p_ 5 7 (.j ⟨[.val 9 y0,.val 10 y0],[0,1,2,8]⟩ .e)) [BN]
noncomputable def fy(s:Z aA)(a:Int)(b:Z aA):Y (Z aA):=CF 120 s a b
noncomputable def kx:KS U prog:=⟨.cw 338 52 7 y16 [t0,.ty y27] λs a=>fy s a.1 a.2.1,JK JO.ways JO.enters (λx=>K.len (y16) x)⟩
noncomputable def gS(b:Z C)(c:Z C):Y Bool:=bif (!decide ((b.length:Int)=(c.length:Int)))then some false else aE (λ(a:Int×Unit)=>bif decide (a.1<(b.length:Int))then(idx b a.1).bind λd=>(idx c a.1).bind λe=>bif (!decide (d=e))then oR (some false)else some (inl ((aC .i64 a.1 1),()))else oR (some true)) (0,())
def tv:=kf func374 [t13,t13] q1 (u2 gS) [] (p_ 5 11 (.j ⟨[.val 13 y0],[0,1,12]⟩ .e)) []
def jM(b:aD)(d:aD):Y aD:=(mJ (eT0 d)).bind λa=>aX (λ(e:aD×Unit)=>(kK (eT0 e.1)).bind λf=>some (eT0 f)) λc=>(er (af b.ae) (af a.ae)).bind λg=>(oO (!g) ((gS b.di a.di).bind λh=>some (!h))).bind λi=>(oO i ((gS b.bK a.bK).bind λj=>some (!j))).bind λk=>bif k then c ({a with cU:=(aC .i64 a.cU 1),ae:=(af a.ae)},())else c ((eT0 a),())
def mY:=kf func339 [t8,t8] (.one y8) (u2 jM) [] (p_ 2 3 (.j ⟨[.box 1 1 y8 []],[3,4]⟩ .e)) [rU,eU,tv,nW]
def vO(a:aD)(b:aA):Y (aD×Int×Unit):=(iu (eT0 a)).bind λk=>(oO (!k) ((oy {b with ae:=(af b.ae)}).bind λl=>some (!l))).bind λm=>(oO m (some (decide (b.aF=a.aF)))).bind λn=>bif n then some (zz2,1,())else(dm a.bm b.aF).bind λc=>aX (λ(o:Bool×Unit)=>bif o.1 then some (zz2,9,())else(bZ a.bm).bind λe=>aX (λ(f:aD×Z aA×Unit)=>(jM (eT0 a) {f.1 with ae:=(af f.1.ae),bm:=f.2.1}).bind λg=>some ((eT0 g),0,())) λd=>bif c.2.1 then(idx e c.1).bind λp=>(e[(toNat c.1)]?).bind λq=>d ({a with ae:=(af a.ae),bm:=[]},(e.set (toNat c.1) {b with ae:=(af b.ae)}),())else(fy e c.1 [{b with ae:=(af b.ae)}]).bind λh=>d ({a with ae:=(af a.ae),bm:=[]},h,())) λj=>bif c.2.1 then(idx a.bm c.1).bind λi=>j ((decide (b.cU<=i.cU)),())else j (false,())
def DW:=kf func270 [t8,.ty y16] (.many [y8,y0]) (u2 vO) [] (p_ 3 7 (.b (.j ⟨[.val 44 y1],[2,3,4,6,7]⟩ .e) (p_ 2 3 (.j ⟨[.box 30 1 y8 [(11,34,2)],.bO 34 2 false 52 7 y16],[2,4,8]⟩ (p_ 2 1 (.g [(0,.ps (.tH 8 11))])))))) [kE,uz,fW,dH,kx,mY]
noncomputable def nu(s:ba)(c:aD)(a:Int):Y (Int×ba):=aX (λ(d:ba×Unit)=>some (a,(eT5 d.1))) λb=>bif decide (a=0)then b ({s with aN:=(eT0 c),aa:=(eT2 s.aa)},())else b ((eT5 s),())
def rR:=kr func271 0 y5 [t8,t0] q0 (λs a=>nu s a.1 a.2.1) [] (.r (.j ⟨[.box 0 0 y5 []],[2]⟩ .e)) []
def uV(s:ba)(a:aA):Y (Int×ba):=(vO (eT0 s.aN) {a with ae:=(af a.ae)}).bind λb=>(nu (eT5 s) (eT0 b.1) b.2.1).bind λc=>some (c.1,(eT5 c.2))
def Cq:=kr func269 0 y5 [.ref (.ty y16)] q0 (λs a=>uV s a.1) [] .e [DW,rR]
def uT(b:ba)(c:aA):Y (ba×Int×Unit):=(im (eT5 b)).bind λd=>bif (!d)then some (zz11,13,())else(iM (eT5 b)).bind λe=>(uV (eT5 e) {c with ae:=(af c.ae)}).bind λa=>bif (!decide (a.1=0))then some (zz11,a.1,())else(gJ (eT5 a.2)).bind λf=>some ((eT5 f),0,())
def Co:=kf func236 [t5,.aT 269 [.ref (.ty y16)]] (.many [y5,y0]) (λa=>uT a.1 a.2.1.1) [] .e [jy,ki,Cq,iI]
def xE(c:ba)(a:aA):Y (ba×Int×Unit):=(uT (eT5 c) {a with ae:=(af a.ae)}).bind λb=>some ((eT5 b.1),b.2.1,())
def EP:=kf func207 [t5,.ty y16] (.many [y5,y0]) (u2 xE) [3] .e [Co]
def pR(c:ba)(a:aL):Y (ba×Int×Unit):=(xE (eT5 c) {a.ai with ae:=(af a.ai.ae)}).bind λb=>some ((eT5 b.1),b.2.1,())
def zg:=kf func206 [t5,.ref (.ty y22)] (.many [y5,y0]) (u2 pR) [] .e [EP]
noncomputable def vW(a:ao)(b:ao):Y Bool:=some (decide (a.aF=b.aF))
def D7:=kf func376 [t7,.ref (t7)] q1 (u2 vW) [] .e []
def eP(b:Z ao)(c:ao):Y Int:=aE (λ(a:Int×Unit)=>bif decide (a.1<(b.length:Int))then(idx b a.1).bind λd=>(vW (eT1 d) (eT1 c)).bind λe=>bif e then oR (some a.1)else some (inl ((aC .i64 a.1 1),()))else oR (some (-1:Int))) (0,())
def jr:=kf func375 [t17,.aT 376 [.ref (t7)]] q0 (λa=>eP a.1 a.2.1.1) [] (p_ 4 5 (.j ⟨[.val 8 y0],[0,1,7]⟩ .e)) [D7]
noncomputable def vV(a:ao)(b:ao):Y Bool:=some (decide (b.aF<a.aF))
def D6:=kf func377 [t7,.ref (t7)] q1 (u2 vV) [] .e []
def eO(b:Z ao)(c:ao):Y Int:=aE (λ(a:Int×Unit)=>bif decide (a.1<(b.length:Int))then(idx b a.1).bind λd=>(vV (eT1 d) (eT1 c)).bind λe=>bif e then oR (some a.1)else some (inl ((aC .i64 a.1 1),()))else oR (some (-1:Int))) (0,())
def jq:=kf func375 [t17,.aT 377 [.ref (t7)]] q0 (λa=>eO a.1 a.2.1.1) [] (p_ 4 5 (.j ⟨[.val 8 y0],[0,1,7]⟩ .e)) [D6]
noncomputable def gp(s:Z ao)(a:Int)(b:Z ao):Y (Z ao):=CF 176 s a b
noncomputable def lY:KS U prog:=⟨.cw 378 48 15 y7 [t0,t17] λs a=>gp s a.1 a.2.1,JK JN.ways JN.enters (λx=>K.len (y7) x)⟩
def yK(i:Z ao)(h:ao):Y ((Z ao)×Bool×Unit):=(eL i).bind λa=>(c6 (eT1 h)).bind λj=>bif (!j)then some (a,false,())else(lA (eT1 h)).bind λc=>(eP a (eT1 c)).bind λb=>bif decide (0<=b)then(idx a b).bind λl=>(a[(toNat b)]?).bind λm=>(a[(toNat b)]?).bind λk=>bif decide (c.cU<=k.cU)then some (a,false,())else(idx a b).bind λn=>(a[(toNat b)]?).bind λo=>some ((a.set (toNat b) (eT1 c)),true,())else(eO a (eT1 c)).bind λd=>aX (λ(f:Int×Unit)=>(gp a f.1 [(eT1 c)]).bind λg=>some (g,true,())) λe=>bif decide (d<0)then e ((a.length:Int),())else e (d,())
def Gj:=kf func341 [t17,t7] (.many [y17,y1]) (u2 yK) [] (p_ 6 63 (.j ⟨[.val 8 y0],[3,6]⟩ .e)) [gw,dy,pk,jr,jq,lY]
def s7(s:av)(a:ao):Y (Int×av):=aX (λ(d:Bool×Unit)=>bif d.1 then some (61,(av.mk (eT2 s.aa)))else(yK s.aa.bm (eT1 a)).bind λc=>bif (!c.2.1)then some (9,(av.mk (eT2 s.aa)))else some (0,(av.mk {s.aa with ae:=(af s.aa.ae),bm:=c.1}))) λb=>(c6 (eT1 a)).bind λe=>bif (!e)then b (true,())else bif decide (a.aF=s.aa.aF)then b (true,())else b ((!decide (a.br=s.aa.br)),())
def BR:=kr func340 0 y10 [.ref (t7)] q0 (λs a=>s7 s a.1) [] (p_ 2 1 (.j ⟨[.val 28 y1],[0,1]⟩ .e)) [dy,Gj]
def qW(b:aW)(i:ao):Y (aW×Int×Unit):=(fD (eT2 b)).bind λj=>bif (!j)then some (zz1,13,())else(gV (eT2 b)).bind λk=>(s7 (av.mk (eT2 k)) (eT1 i)).bind λc=>bif (!decide (c.1=0))then some (zz1,c.1,())else(eV (av.mk (eT2 c.2.aa))).bind λa=>aX (λ(l:av×Unit)=>some ((eT2 l.1.aa),0,())) λg=>aX (λ(m:Bool×Unit)=>bif m.1 then g ((av.mk {a.2.aa with cU:=(rO (aC .i64 a.2.aa.cU 1) 1000000),ae:=(af a.2.aa.ae)}),())else g ((av.mk (eT2 a.2.aa)),())) λh=>(aU b.aG).bind λn=>bif (!n)then(ct (eT2 b)).bind λd=>(ct (eT2 a.2.aa)).bind λe=>(lU (eT1 d) (eT1 e)).bind λf=>h ((!f),())else h (false,())
def zU:=kf func314 [t9,.aT 340 [.ref (t7)]] (.many [y9,y0]) (λa=>qW a.1 a.2.1.1) [] (p_ 5 31 (.j ⟨[.box 9 1 y10 []],[4,6]⟩ (.l (.j ⟨[.val 39 y1],[4,6]⟩ .e)))) [gu,jz,BR,gr,bh,eD,oL]
def vR(b:aW)(c:ao):Y (aW×Int×Unit):=(qW (eT2 b) (eT1 c)).bind λa=>some ((eT2 a.1),a.2.1,())
def DZ:=kf func273 [t9,t7] (.many [y9,y0]) (u2 vR) [3] .e [zU]
def vI(s:ba)(c:ao):Y (Int×ba):=(vR (eT2 s.aa) (eT1 c)).bind λa=>(mP (eT5 s) (eT2 a.1) a.2.1).bind λb=>some (b.1,(eT5 b.2))
def DO:=kr func272 0 y5 [.ref (t7)] q0 (λs a=>vI s a.1) [] .e [DZ,qc]
def uR(b:ba)(c:ao):Y (ba×Int×Unit):=(im (eT5 b)).bind λd=>bif (!d)then some (zz11,13,())else(iM (eT5 b)).bind λe=>(vI (eT5 e) (eT1 c)).bind λa=>bif (!decide (a.1=0))then some (zz11,a.1,())else(gJ (eT5 a.2)).bind λf=>some ((eT5 f),0,())
def Cn:=kf func236 [t5,.aT 272 [.ref (t7)]] (.many [y5,y0]) (λa=>uR a.1 a.2.1.1) [] .e [jy,ki,DO,iI]
def yC(b:ba)(c:ao):Y (ba×Int×Unit):=(uR (eT5 b) (eT1 c)).bind λa=>some ((eT5 a.1),a.2.1,())
def F8:=kf func209 [t5,t7] (.many [y5,y0]) (u2 yC) [3] .e [Cn]
def pQ(b:ba)(c:aL):Y (ba×Int×Unit):=(yC (eT5 b) (eT1 c.ah)).bind λa=>some ((eT5 a.1),a.2.1,())
def zf:=kf func208 [t5,.ref (.ty y22)] (.many [y5,y0]) (u2 pQ) [] .e [F8]
noncomputable def vj:SA U:=bc (aS prog 23 [] f168) (.r (.r (.b (.i 1 163 12 [.cell 2 (some 6)] (bc (aS prog 12 [] f163) .e) [] []) (.r (.l (.l (.i 1 205 30 [.tmp 4] (bc (aS prog 30 [] f205) (.r (.r (.r (.l (.i 5 172 56 [.tmp 10] (bc (aS prog 56 [] f172) (.r (.b (.j ⟨[.val 11 y0,.box 1 1 y6 [(5,15,2)],.bO 15 2 false 117 37 y5],[0,1,4]⟩ (.l (.i 4 170 57 [.tmp 8] (bc (aS prog 57 [] f170) (.r (.b (.i 2 233 14 [.tmp 4,.tmp 5] (bc (aS prog 14 [] f233) .e) [] []) (.r (.r (.j ⟨[.box 1 1 y6 [(5,15,2)],.bO 15 2 false 117 37 y5],[12]⟩ .e)))))) [] []))) (.b (.i 2 233 14 [.tmp 4,.tmp 5] (bc (aS prog 14 [] f233) .e) [] []) (.r (.j ⟨[.bO 15 2 true 117 37 y5],[15]⟩ .e)))))) [] [])))))) [] [])))))))
def nC(d:ay)(b:aL)(E:Int):Y (ay×Int×Unit):=(dt (eT3 d)).bind λF=>bif (!F)then some (zz3,13,())else(bG (af d.ae)).bind λf=>(cx d.bX).bind λe=>bif d.lN then some ({d with ae:=(af f),bX:=e},0,())else bif decide (b.cF=1)then aX (λ(c:Int×ay×Z ba×Unit)=>(aO (!decide (c.1=0)) (some (!decide (c.1=6)))).bind λG=>bif G then bif (!decide (c.1=0))then some (zz3,c.1,())else some ({c.2.1 with ae:=(af c.2.1.ae),bX:=c.2.2.1},0,())else(a8 c.2.2.1 b.br).bind λo=>(idx c.2.2.1 o.1).bind λQ=>(c.2.2.1[(toNat o.1)]?).bind λH=>(pR (eT5 H) {b with ai:={b.ai with ae:=(af b.ai.ae)},ah:=(eT1 b.ah)}).bind λh=>aX (λ(v:(Z ba)×Unit)=>bif (!decide (h.2.1=0))then some (zz3,h.2.1,())else some ({c.2.1 with ae:=(af c.2.1.ae),bX:=v.1},0,())) λp=>bif decide (h.2.1=0)then(idx c.2.2.1 o.1).bind λJ=>(c.2.2.1[(toNat o.1)]?).bind λK=>p ((c.2.2.1.set (toNat o.1) (eT5 h.1)),())else p (c.2.2.1,())) λw=>(a8 e b.br).bind λq=>bif q.2.1 then w (6,{d with ae:=(af f),bX:=[]},e,())else bif decide ((e.length:Int)=8)then w (3,{d with ae:=(af f),bX:=[]},e,())else(sz d.aF b.br (af f) (ByteArray.mk #[48]) E).bind λj=>aX (λ(k:ay×Z ba×Unit)=>w (j.2.1,{k.1 with ae:=(af k.1.ae),bX:=[]},k.2.1,())) λr=>bif decide (j.2.1=0)then(db e q.1 [(eT5 j.1)]).bind λx=>r ({d with ae:=(af f),bX:=[]},x,())else r ({d with ae:=(af f),bX:=[]},e,())else(aO (decide (b.cF=2)) (some (decide (b.br=b.ah.br)))).bind λy=>bif y then aX (λ(a:Int×ay×Z ba×Unit)=>(aO (!decide (a.1=0)) (some (!decide (a.1=6)))).bind λz=>bif z then bif (!decide (a.1=0))then some (zz3,a.1,())else some ({a.2.1 with ae:=(af a.2.1.ae),bX:=a.2.2.1},0,())else(a8 a.2.2.1 b.br).bind λg=>(idx a.2.2.1 g.1).bind λL=>(a.2.2.1[(toNat g.1)]?).bind λA=>(pQ (eT5 A) {b with ai:={b.ai with ae:=(af b.ai.ae)},ah:=(eT1 b.ah)}).bind λi=>aX (λ(B:(Z ba)×Unit)=>bif (!decide (i.2.1=0))then some (zz3,i.2.1,())else some ({a.2.1 with ae:=(af a.2.1.ae),bX:=B.1},0,())) λs=>bif decide (i.2.1=0)then(idx a.2.2.1 g.1).bind λM=>(a.2.2.1[(toNat g.1)]?).bind λP=>s ((a.2.2.1.set (toNat g.1) (eT5 i.1)),())else s (a.2.2.1,())) λl=>(a8 e b.br).bind λt=>bif t.2.1 then l (6,{d with ae:=(af f),bX:=[]},e,())else bif decide ((e.length:Int)=8)then l (3,{d with ae:=(af f),bX:=[]},e,())else(sz d.aF b.br (af f) (ByteArray.mk #[48]) E).bind λm=>aX (λ(n:ay×Z ba×Unit)=>l (m.2.1,{n.1 with ae:=(af n.1.ae),bX:=[]},n.2.1,())) λu=>bif decide (m.2.1=0)then(db e t.1 [(eT5 m.1)]).bind λD=>u ({d with ae:=(af f),bX:=[]},D,())else u ({d with ae:=(af f),bX:=[]},e,())else some (zz3,1,())
noncomputable def wx:KS U prog:=⟨.fn 168 [t6,.aT 205 [.ref (.ty y22),.ref (t0)]] (.many [y6,y0]) λa=>nC a.1 a.2.1.1 a.2.1.2.1,Fc (K:=K) vj 23 [.cell 4 (some 6),.tmp 5] [dM,bW,c4,c3,AR,fG,zg,zf] [(163,12,(aS prog 12 [] f163),[.cell 2 (some 6)]),(205,30,(aS prog 30 [] f205),[.tmp 4]),(172,56,(aS prog 56 [] f172),[.tmp 10]),(170,57,(aS prog 57 [] f170),[.tmp 8]),(233,14,(aS prog 14 [] f233),[.tmp 4,.tmp 5]),(233,14,(aS prog 14 [] f233),[.tmp 4,.tmp 5])] ⟨fk f163 [] func163,⟨fk f205 [] func205,⟨fk f172 [] func172,⟨fk f170 [] func170,⟨fk f233 [] func233,⟨fk f233 [] func233,trivial⟩⟩⟩⟩⟩⟩ (fk f168 [] func168)⟩
def uY(c:ay)(a:aL)(d:Int):Y (ay×Int×Unit):=(nC (eT3 c) {a with ai:={a.ai with ae:=(af a.ai.ae)},ah:=(eT1 a.ah)} d).bind λb=>some ((eT3 b.1),b.2.1,())
def Cu:=kf func137 [t6,.ty y22,t0] (.many [y6,y0]) (u3 uY) [4,5] .e [wx]
def vN(a:aD):Y (aD×Int×Unit):=(iu (eT0 a)).bind λb=>bif (!b)then some (zz2,1,())else bif decide (a.Round=1000)then some (zz2,3,())else(jM (eT0 a) {a with Round:=(aC .i64 a.Round 1),ae:=(af a.ae)}).bind λc=>some ((eT0 c),0,())
def DV:=kf func342 [t8] (.many [y8,y0]) (u1 vN) [] .e [kE,mY]
def C9(s:ba)(b:Int):Y ((Unit)×ba):=(oO (decide (0<(s.aN.da.length:Int))) (some (decide (b<s.Next)))).bind λd=>bif d then some ((()),(eT5 s))else(vN (eT0 s.aN)).bind λc=>(nu (eT5 s) (eT0 c.1) c.2.1).bind λa=>(qf (rO (aC .i64 a.2.Round 1) 1000)).bind λe=>(gJ (ba.mk (eT0 a.2.aN) (eT2 a.2.aa) a.2.Timer (rO (aC .i64 a.2.Round 1) 1000) (aC .i64 b e) a.2.Fu a.2.Value)).bind λf=>some ((()),(eT5 f))
def JG:=kr func275 0 y5 [t0] (.many []) (λs a=>C9 s a.1) [] .e [DV,rR,vo,iI]
def pt(a:aW):Y (ao×Bool×Unit):=(aU a.aG).bind λb=>(oO b ((fD (eT2 a)).bind λc=>some (!c))).bind λd=>bif d then some (zz6,false,())else(gV (eT2 a)).bind λe=>(ct (eT2 e)).bind λf=>some ((eT1 f),true,())
def vz:=kf func281 [t9] (.many [y7,y1]) (u1 pt) [] .e [bh,gu,jz,eD]
def sW(a:bY)(b:ao):Y Bool:=(ke (bY.mk (eT1 a.ah))).bind λc=>some (decide (b.aG.al<=c))
def BJ:=kf func382 [t19,.ref (t7)] q1 (u2 sW) [] .e [o1]
def o5(c:eK)(e:ao):Y Int:=aE (λ(a:Int×Int×Unit)=>bif decide (a.2.1<(c.bm.length:Int))then aX (λ(f:Int×Unit)=>some (inl (f.1,(aC .i64 a.2.1 1),()))) λd=>(idx c.bm a.2.1).bind λb=>(sW (bY.mk (eT1 b.ah)) (eT1 e)).bind λg=>bif g then if b.ah.aF<0 then none else d ((vt .i64 a.1 (dF .i64 1 b.ah.aF)),())else d (a.1,())else oR (some a.1)) (0,0,())
def xZ:=kf func381 [t18,.aT 382 [.ref (t7)]] q0 (λa=>o5 a.1 a.2.1.1) [] (p_ 5 11 (.j ⟨[.val 5 y0,.val 11 y0],[1,9,10]⟩ (p_ 3 6 (.j ⟨[.val 5 y0],[1,9,10,11]⟩ .e)))) [BJ]
def vF(a:aW):Y Bool:=(pt (eT2 a)).bind λb=>(oO (!b.2.1) (some (decide (a.dZ=3)))).bind λe=>bif e then some false else(c8 a.bm).bind λc=>bif bn 176 (c.length+List.length [(eT1 b.1)])then(gT a.aF (af a.ae) (c++[(eT1 b.1)])).bind λd=>(o5 d (eT1 b.1)).bind λf=>(kP d.View f).bind λg=>(ez g a.aF).bind some else none
def DK:=kf func343 [t9] q1 (u1 vF) [28] .e [vz,gq,js,xZ,n5,fP]
def BC(b:gz)(a:aW)(c:Int):Y (gz×Bool×Unit):=(tO b).bind λd=>(oO (!d) (some (decide (c<0)))).bind λe=>(oO e (some (decide (200<c)))).bind λf=>bif f then some ((gz.mk 0 (-1:Int)),false,())else(vF (eT2 a)).bind λg=>bif (!g)then some ((gz.mk a.aG.al (-1:Int)),false,())else(oO (decide (b.td=(-1:Int))) (some (!decide (b.al=a.aG.al)))).bind λh=>bif h then(qf a.aG.al).bind λi=>some ((gz.mk a.aG.al (aC .i64 c i)),false,())else bif decide (b.td<=c)then some ((gz.mk a.aG.al (-1:Int)),true,())else some (b,false,())
def IM:=kf func276 [.ty (Ty.st .Timer),t9,t0] (.many [(Ty.st .Timer),y1]) (u3 BC) [] .e [zI,DK,vo]
def s6(s:av):Y (Int×av):=(oO (decide (s.aa.dZ=3)) ((fM (av.mk (eT2 s.aa))).bind λa=>some (decide (a=bE)))).bind λb=>bif b then some (62,(av.mk (eT2 s.aa)))else bif decide (1000<=s.aa.aG.al)then some (3,(av.mk (eT2 s.aa)))else(fM (av.mk (eT2 s.aa))).bind λc=>(iF (av.mk (eT2 s.aa)) (aj.mk (aC .i64 s.aa.aG.al 1) c)).bind λd=>some (0,(av.mk (eT2 d.2.aa)))
def BQ:=kr func344 0 y10 [] q0 (λs a=>s6 s) [] .e [kX,lG]
def qV(b:aW):Y (aW×Int×Unit):=(fD (eT2 b)).bind λi=>bif (!i)then some (zz1,13,())else(gV (eT2 b)).bind λj=>(s6 (av.mk (eT2 j))).bind λc=>bif (!decide (c.1=0))then some (zz1,c.1,())else(eV (av.mk (eT2 c.2.aa))).bind λa=>aX (λ(k:av×Unit)=>some ((eT2 k.1.aa),0,())) λg=>aX (λ(l:Bool×Unit)=>bif l.1 then g ((av.mk {a.2.aa with cU:=(rO (aC .i64 a.2.aa.cU 1) 1000000),ae:=(af a.2.aa.ae)}),())else g ((av.mk (eT2 a.2.aa)),())) λh=>(aU b.aG).bind λm=>bif (!m)then(ct (eT2 b)).bind λd=>(ct (eT2 a.2.aa)).bind λe=>(lU (eT1 d) (eT1 e)).bind λf=>h ((!f),())else h (false,())
def zT:=kf func314 [t9,.aT 344 []] (.many [y9,y0]) (λa=>qV a.1) [] (p_ 5 31 (.j ⟨[.box 9 1 y10 []],[4,6]⟩ (.l (.j ⟨[.val 39 y1],[4,6]⟩ .e)))) [gu,jz,BQ,gr,bh,eD,oL]
def vQ(b:aW):Y (aW×Int×Unit):=(qV (eT2 b)).bind λa=>some ((eT2 a.1),a.2.1,())
def DY:=kf func277 [t9] (.many [y9,y0]) (u1 vQ) [] .e [zT]
def Ev(e:ba)(b:Int):Y (ba×Int×Unit):=(im (eT5 e)).bind λh=>bif (!h)then some (zz11,13,())else(vq b).bind λi=>bif (!i)then some (zz11,1,())else(iM (eT5 e)).bind λj=>(C9 (eT5 j) b).bind λa=>(BC a.2.Timer (eT2 a.2.aa) b).bind λc=>aX (λ(k:ba×Unit)=>some ((eT5 k.1),0,())) λf=>bif c.2.1 then(vQ (eT2 a.2.aa)).bind λg=>(mP {a.2 with aN:=(eT0 a.2.aN),aa:=(eT2 a.2.aa),Timer:=c.1} (eT2 g.1) g.2.1).bind λl=>(gJ (eT5 l.2)).bind λd=>f ((eT5 d),())else f ({a.2 with aN:=(eT0 a.2.aN),aa:=(eT2 a.2.aa),Timer:=c.1},())
def Lb:=kf func213 [t5,t0] (.many [y5,y0]) (u2 Ev) [] (p_ 6 63 (.j ⟨[.box 0 1 y5 []],[2,4]⟩ .e)) [jy,Bz,ki,JG,IM,DY,qc,iI]
def pP(b:ba)(c:Int):Y (ba×Int×Unit):=(Ev (eT5 b) c).bind λa=>some ((eT5 a.1),a.2.1,())
def ze:=kf func212 [t5,.ref (t0)] (.many [y5,y0]) (u2 pP) [] .e [Lb]
noncomputable def vi:SA U:=bc (aS prog 23 [] f168) (.r (.r (.b (.i 1 163 12 [.cell 2 (some 6)] (bc (aS prog 12 [] f163) .e) [] []) (.r (.l (.l (.i 1 210 7 [.tmp 3] (bc (aS prog 7 [] f210) (.r (.l (.i 2 211 36 [.tmp 4] (bc (aS prog 36 [] f211) (.r (.l (.r (.l (.j ⟨[.val 14 y0,.own 12 15 1 true 117 37 y5],[0,1,13]⟩ .e)))))) [] [])))) [] [])))))))
def nB(b:ay)(f:Int):Y (ay×Int×Unit):=(dt (eT3 b)).bind λg=>bif (!g)then some (zz3,13,())else(bG (af b.ae)).bind λd=>(cx b.bX).bind λe=>bif b.lN then some ({b with ae:=(af d),bX:=e},0,())else aE (λ(a:Int×Z ba×Unit)=>bif decide (a.1<(e.length:Int))then(idx a.2.1 a.1).bind λi=>(a.2.1[(toNat a.1)]?).bind λh=>(pP (eT5 h) f).bind λc=>bif (!decide (c.2.1=0))then oR (bif (!decide (c.2.1=0))then some (zz3,c.2.1,())else some ({b with ae:=(af d),bX:=a.2.1},0,()))else(idx a.2.1 a.1).bind λj=>(a.2.1[(toNat a.1)]?).bind λk=>some (inl ((aC .i64 a.1 1),(a.2.1.set (toNat a.1) (eT5 c.1)),()))else oR (some ({b with ae:=(af d),bX:=a.2.1},0,()))) (0,e,())
noncomputable def wv:KS U prog:=⟨.fn 168 [t6,.aT 210 [.ref (t0)]] (.many [y6,y0]) λa=>nB a.1 a.2.1.1,Fc (K:=K) vi 23 [.cell 4 (some 6),.tmp 5] [dM,bW,c4,ze] [(163,12,(aS prog 12 [] f163),[.cell 2 (some 6)]),(210,7,(aS prog 7 [] f210),[.tmp 3]),(211,36,(aS prog 36 [] f211),[.tmp 4])] ⟨fk f163 [] func163,⟨fk f210 [] func210,⟨fk f211 [] func211,trivial⟩⟩⟩ (fk f168 [] func168)⟩
def uW(b:ay)(c:Int):Y (ay×Int×Unit):=(nB (eT3 b) c).bind λa=>some ((eT3 a.1),a.2.1,())
def Cs:=kf func140 [t6,t0] (.many [y6,y0]) (u2 uW) [3] .e [wv]
def xH(c:aD):Y aA:=(mK (eT0 c)).bind λa=>(mL {a with ae:=(af a.ae)}).bind λb=>some {b with ae:=(af b.ae)}
def EV:=kf func280 [t8] (.one y16) (u1 xH) [] .e [qp,rV]
def Aq(a:ba):Y (Z aL):=(im (eT5 a)).bind λh=>bif (!h)then some []else aX (λ(c:(Z aL)×Unit)=>aX (λ(i:(Z aL)×Unit)=>some i.1) λe=>(pt (eT2 a.aa)).bind λd=>bif d.2.1 then bif bn 312 (c.1.length+List.length [(aL.mk 2 a.aa.br zz7 (eT1 d.1))])then e ((c.1++[(aL.mk 2 a.aa.br zz7 (eT1 d.1))]),())else none else e (c.1,())) λf=>bif (!a.Fu)then(xH (eT0 a.aN)).bind λg=>(jO {g with ae:=(af g.ae)}).bind λb=>bif bn 312 (List.length ([]:Z aL)+List.length [(aL.mk 1 a.aa.br {b with ae:=(af b.ae)} zz6)])then f ((([]:Z aL)++[(aL.mk 1 a.aa.br {b with ae:=(af b.ae)} zz6)]),())else none else f ([],())
def Hz:=kf func214 [t5] (.one (Ty.sl (Ty.st .ak))) (u1 Aq) [] (p_ 3 7 (.ps (.own 3 54 24 y22) (.j ⟨[.own 3 6 2 false 54 24 y22],[1]⟩ (.r (.j ⟨[.own 3 6 3 false 54 24 y22],[]⟩ .e))))) [jy,EV,na,vz]
def qQ(b:ay):Y (Z aL):=(oO b.lN ((dt (eT3 b)).bind λd=>some (!d))).bind λe=>bif e then some []else aE (λ(a:Int×Z aL×Unit)=>bif decide (a.1<(b.bX.length:Int))then(idx b.bX a.1).bind λf=>(Aq (eT5 f)).bind λc=>bif bn 312 (a.2.1.length+c.length)then some (inl ((aC .i64 a.1 1),(a.2.1++c),()))else none else oR (some a.2.1)) (0,[],())
def zO:=kf func142 [t6] (.one (Ty.sl (Ty.st .ak))) (u1 qQ) [] (p_ 6 23 (.ps (.own 3 54 24 y22) (.j ⟨[.val 16 y0,.own 3 14 2 false 54 24 y22],[14,15]⟩ .e))) [dM,Hz]
noncomputable def yE(a:bI)(b:Int)(c:Int):Y Int:=bif decide ((a.gG.length:Int)=0)then some 1 else(idx a.gG (aC .i64 (xf .i64 b 10) c)).bind λd=>some (Ci 1 d)
def Gb:=kf func282 [.ty y25,t0,t0] q0 (u3 yE) [] .e []
def dv(e:Z bx)(b:bx):Y (Int×Bool×Unit):=aE (λ(a:Int×Int×Unit)=>bif decide (a.1<a.2.1)then(idx e (bB .i64 (iH .u64 (bB .u64 (aC .i64 a.1 a.2.1)) 1))).bind λc=>(lz {c with ak:={c.ak with ai:={c.ak.ai with ae:=(af c.ak.ai.ae)},ah:=(eT1 c.ak.ah)}} {b with ak:={b.ak with ai:={b.ak.ai with ae:=(af b.ak.ai.ae)},ah:=(eT1 b.ak.ah)}}).bind λh=>bif decide (h<0)then some (inl ((aC .i64 (bB .i64 (iH .u64 (bB .u64 (aC .i64 a.1 a.2.1)) 1)) 1),a.2.1,()))else some (inl (a.1,(bB .i64 (iH .u64 (bB .u64 (aC .i64 a.1 a.2.1)) 1)),()))else oR (aX (λ(f:Int×Bool×Unit)=>some (f.1,f.2.1,())) λg=>bif decide (a.1<(e.length:Int))then(idx e a.1).bind λd=>(lz {d with ak:={d.ak with ai:={d.ak.ai with ae:=(af d.ak.ai.ae)},ah:=(eT1 d.ak.ah)}} {b with ak:={b.ak with ai:={b.ak.ai with ae:=(af b.ak.ai.ae)},ah:=(eT1 b.ak.ah)}}).bind λi=>g (a.1,(decide (i=0)),())else g (a.1,false,()))) (0,(e.length:Int),())
def gk:=kf func284 [.ty y26,.ty y15,.aT 120 []] (.many [y0,y1]) (λa=>dv a.1 a.2.1) [] (p_ 3 7 (.b (.l (.j ⟨[.val 9 y0,.val 10 y0],[0,2,4,8]⟩ .e)) (.j ⟨[.val 6 y0,.val 7 y1],[]⟩ .e))) [vx]
noncomputable def gX(s:Z bx)(a:Int)(b:Z bx):Y (Z bx):=CF 344 s a b
noncomputable def nK:KS U prog:=⟨.cw 285 158 28 y15 [t0,.ty y26] λs a=>gX s a.1 a.2.1,JK JP.ways JP.enters (λx=>K.len (y15) x)⟩
def mf(a:ar)(b:eA):Y Bool:=(er (af a) (af b.ae)).bind some
def uv:=kf func175 [t4,.ref (.ty y23)] q1 (u2 mf) [] .e [eU]
def fS(c:Z ar)(a:eA):Y Int:=aE (λ(b:Int×Unit)=>bif decide (b.1<(c.length:Int))then(idx c b.1).bind λd=>(mf (af d) {a with ae:=(af a.ae),ak:={a.ak with ai:={a.ak.ai with ae:=(af a.ak.ai.ae)},ah:=(eT1 a.ak.ah)}}).bind λe=>bif e then oR (some b.1)else some (inl ((aC .i64 b.1 1),()))else oR (some (-1:Int))) (0,())
def ll:=kf func192 [t14,.aT 175 [.ref (.ty y23)]] q0 (λa=>fS a.1 a.2.1.1) [] (p_ 4 5 (.j ⟨[.val 8 y0],[0,1,7]⟩ .e)) [uv]
def fp(b:Z ar)(a:eA):Y Bool:=(fS b {a with ae:=(af a.ae),ak:={a.ak with ai:={a.ak.ai with ae:=(af a.ak.ai.ae)},ah:=(eT1 a.ak.ah)}}).bind λc=>some (decide (0<=c))
def jZ:=kf func123 [t14,.aT 175 [.ref (.ty y23)]] q1 (λa=>fp a.1 a.2.1.1) [] .e [ll]
def sD(a:aD)(b:ar):Y (aD×Int×Unit):=(iu (eT0 a)).bind λd=>bif (!d)then some (zz2,1,())else(bF (af b)).bind λc=>bif (!decide (c=0))then some (zz2,c,())else(er (af a.ae) (af b)).bind λe=>bif e then(kK (eT0 a)).bind λf=>some ((eT0 f),0,())else(jM (eT0 a) {a with ae:=(af b)}).bind λg=>some ((eT0 g),0,())
def AW:=kf func318 [t8,t4] (.many [y8,y0]) (u2 sD) [] .e [kE,bL,eU,nW,mY]
def s9(s:av)(a:ar):Y (Int×av):=(bF (af a)).bind λb=>bif (!decide (b=0))then some (1,(av.mk (eT2 s.aa)))else(bG (af a)).bind λc=>some (0,(av.mk {s.aa with ae:=(af c)}))
def BU:=kr func363 0 y10 [.ref (t4)] q0 (λs a=>s9 s a.1) [] .e [bL,bW]
def qU(b:aW)(i:ar):Y (aW×Int×Unit):=(fD (eT2 b)).bind λj=>bif (!j)then some (zz1,13,())else(gV (eT2 b)).bind λk=>(s9 (av.mk (eT2 k)) (af i)).bind λc=>bif (!decide (c.1=0))then some (zz1,c.1,())else(eV (av.mk (eT2 c.2.aa))).bind λa=>aX (λ(l:av×Unit)=>some ((eT2 l.1.aa),0,())) λg=>aX (λ(m:Bool×Unit)=>bif m.1 then g ((av.mk {a.2.aa with cU:=(rO (aC .i64 a.2.aa.cU 1) 1000000),ae:=(af a.2.aa.ae)}),())else g ((av.mk (eT2 a.2.aa)),())) λh=>(aU b.aG).bind λn=>bif (!n)then(ct (eT2 b)).bind λd=>(ct (eT2 a.2.aa)).bind λe=>(lU (eT1 d) (eT1 e)).bind λf=>h ((!f),())else h (false,())
def zS:=kf func314 [t9,.aT 363 [.ref (t4)]] (.many [y9,y0]) (λa=>qU a.1 a.2.1.1) [] (p_ 5 31 (.j ⟨[.box 9 1 y10 []],[4,6]⟩ (.l (.j ⟨[.val 39 y1],[4,6]⟩ .e)))) [gu,jz,BU,gr,bh,eD,oL]
def vS(b:aW)(c:ar):Y (aW×Int×Unit):=(qU (eT2 b) (af c)).bind λa=>some ((eT2 a.1),a.2.1,())
def D3:=kf func319 [t9,t4] (.many [y9,y0]) (u2 vS) [3] .e [zS]
def xF(s:ba)(b:ar):Y (Int×ba):=(sD (eT0 s.aN) (af b)).bind λc=>(nu (eT5 s) (eT0 c.1) c.2.1).bind λa=>bif (!decide (a.1=0))then some (a.1,(eT5 a.2))else(vS (eT2 a.2.aa) (af b)).bind λd=>(mP (eT5 a.2) (eT2 d.1) d.2.1).bind λe=>some (e.1,(eT5 e.2))
def ER:=kr func317 0 y5 [.ref (t4)] q0 (λs a=>xF s a.1) [] .e [AW,rR,D3,qc]
def uQ(b:ba)(c:ar):Y (ba×Int×Unit):=(im (eT5 b)).bind λd=>bif (!d)then some (zz11,13,())else(iM (eT5 b)).bind λe=>(xF (eT5 e) (af c)).bind λa=>bif (!decide (a.1=0))then some (zz11,a.1,())else(gJ (eT5 a.2)).bind λf=>some ((eT5 f),0,())
def k_slot_change_c317:=kf func236 [t5,.aT 317 [.ref (t4)]] (.many [y5,y0]) (λa=>uQ a.1 a.2.1.1) [] .e [jy,ki,ER,iI]
def Ar(b:ba)(c:ar):Y (ba×Int×Unit):=(uQ (eT5 b) (af c)).bind λa=>some ((eT5 a.1),a.2.1,())
def HA:=kf func242 [t5,t4] (.many [y5,y0]) (u2 Ar) [3] .e [k_slot_change_c317]
def nG(b:ba)(c:ar):Y (ba×Int×Unit):=(Ar (eT5 b) (af c)).bind λa=>some ((eT5 a.1),a.2.1,())
def wA:=kf func241 [t5,.ref (t4)] (.many [y5,y0]) (u2 nG) [] .e [HA]
noncomputable def vh:SA U:=bc (aS prog 23 [] f168) (.r (.r (.b (.i 1 163 12 [.cell 2 (some 6)] (bc (aS prog 12 [] f163) .e) [] []) (.r (.l (.l (.i 1 240 15 [.tmp 3] (bc (aS prog 15 [] f240) (.r (.r (.r (.l (.i 2 211 36 [.tmp 4] (bc (aS prog 36 [] f211) (.r (.l (.r (.l (.j ⟨[.val 14 y0,.own 12 15 1 true 117 37 y5],[0,1,13]⟩ .e)))))) [] [])))))) [] [])))))))
def nA(b:ay)(d:ar):Y (ay×Int×Unit):=(dt (eT3 b)).bind λg=>bif (!g)then some (zz3,13,())else(bG (af b.ae)).bind λh=>(cx b.bX).bind λe=>bif b.lN then some ({b with ae:=(af h),bX:=e},0,())else(bF (af d)).bind λi=>bif (!decide (i=0))then some (zz3,1,())else(bG (af d)).bind λf=>aE (λ(a:Int×Z ba×Unit)=>bif decide (a.1<(e.length:Int))then(idx a.2.1 a.1).bind λm=>(a.2.1[(toNat a.1)]?).bind λj=>(nG (eT5 j) (af d)).bind λc=>bif (!decide (c.2.1=0))then oR (bif (!decide (c.2.1=0))then some (zz3,c.2.1,())else some ({b with ae:=(af f),bX:=a.2.1},0,()))else(idx a.2.1 a.1).bind λk=>(a.2.1[(toNat a.1)]?).bind λl=>some (inl ((aC .i64 a.1 1),(a.2.1.set (toNat a.1) (eT5 c.1)),()))else oR (some ({b with ae:=(af f),bX:=a.2.1},0,()))) (0,e,())
noncomputable def wu:KS U prog:=⟨.fn 168 [t6,.aT 240 [.ref (t4)]] (.many [y6,y0]) λa=>nA a.1 a.2.1.1,Fc (K:=K) vh 23 [.cell 4 (some 6),.tmp 5] [dM,bW,c4,bL,wA] [(163,12,(aS prog 12 [] f163),[.cell 2 (some 6)]),(240,15,(aS prog 15 [] f240),[.tmp 3]),(211,36,(aS prog 36 [] f211),[.tmp 4])] ⟨fk f163 [] func163,⟨fk f240 [] func240,⟨fk f211 [] func211,trivial⟩⟩⟩ (fk f168 [] func168)⟩
def qR(b:ay)(c:ar):Y (ay×Int×Unit):=(nA (eT3 b) (af c)).bind λa=>some ((eT3 a.1),a.2.1,())
def zP:=kf func176 [t6,t4] (.many [y6,y0]) (u2 qR) [3] .e [wu]
noncomputable def yR:SA U:=bc (aS prog 27 [] f51) (.r (.r (.b (.i 1 101 16 [.cell 2 (some 8)] (bc (aS prog 16 [] f101) (.r (.l (.i 5 149 16 [.cell 2 (some 4)] (bc (aS prog 16 [] f149) .e) [] [])))) [] []) (.l (.l (.i 2 52 7 [.tmp 3] (bc (aS prog 7 [] f52) (.r (.l (.i 2 53 99 [.tmp 4] (bc (aS prog 99 [] f53) (.r (.r (.r (.l (.r (.l (.r (.b (.i 3 103 43 [.tmp 6] (bc (aS prog 43 [] f103) (.r (.r (.b (.i 10 104 19 [.cell 4 (some 6),.tmp 5] (bc (aS prog 19 [] f104) .e) [] []) (.j ⟨[.bO 12 1 true 60 6 y6],[8]⟩ .e))))) [] []) (.r (.b (.i 3 103 43 [.tmp 6] (bc (aS prog 43 [] f103) (.r (.r (.b (.i 10 106 19 [.cell 4 (some 6),.tmp 5] (bc (aS prog 19 [] f106) .e) [] []) (.j ⟨[.bO 12 1 true 60 6 y6],[8]⟩ .e))))) [] []) (.r (.b (.i 2 103 43 [.tmp 6] (bc (aS prog 43 [] f103) (.r (.r (.b (.i 10 108 6 [.cell 2 (some 6),.tmp 3] (bc (aS prog 6 [] f108) .e) [] []) (.j ⟨[.bO 12 1 true 60 6 y6],[8]⟩ .e))))) [] []) (.r (.b (.r (.i 3 77 15 [.tmp 4] (bc (aS prog 15 [] f77) (.r (.l (.r (.l (.ps (.tH 0 3) (.j ⟨[.val 7 y0,.box 47 1 y24 [(1,12,1),(7,41,1)],.bO 12 1 true 60 6 y6,.bO 41 1 true 42 1 y14],[0,6]⟩ (.l (.r (.r (.l (.l (.j ⟨[.val 5 y0,.box 47 1 y24 [(1,12,1),(7,41,1)],.bO 12 1 true 60 6 y6,.bO 41 1 true 42 1 y14],[0,6,7]⟩ (.l (.i 1 73 106 [.tmp 2] (bc (aS prog 106 [] f73) (.r (.r (.r (.b (.i 10 136 37 [.tmp 4,.cell 5 (some 4)] (bc (aS prog 37 [] f136) (.r (.b (.i 1 149 16 [.cell 2 (some 4)] (bc (aS prog 16 [] f149) .e) [] []) (.b (.r (.l (.j ⟨[.val 9999 y1],[9999]⟩ .e))) (.r (.ps (.tH 2 0) (.j ⟨[.val 8 y26],[2,5,6]⟩ (.l (.i 6 201 42 [.tmp 4] (bc (aS prog 42 [] f201) (.r (.r (.r (.b (.r (.l (.j ⟨[.val 5 y0,.val 6 y0,.own 0 170 1 true 158 28 y15],[1]⟩ (.l (.r (.j ⟨[.val 5 y0,.own 0 170 1 true 158 28 y15],[1,6]⟩ .e)))))) (.r (.l (.g [(4,.ps (.cut 4))])))))))) [] [(1,.ps (.Ae 8))]))))))))) [] []) (.r (.b (.r (.l (.j ⟨[.val 45 y0,.bO 12 1 true 60 6 y6],[1,43,44]⟩ (.l (.r (.r (.j ⟨[.bO 12 1 true 60 6 y6],[1,43,44,45]⟩ (.l (.l (.r (.l (.j ⟨[.val 67 y1],[1,6,43,44,45]⟩ .e)))))))))))) (.b (.i 2 138 32 [] (bc (aS prog 32 [] f138) (.r (.l (.j ⟨[.val 11 y0,.bO 12 1 true 60 6 y6],[0,1,10]⟩ (.l (.r (.r (.j ⟨[.bO 12 1 true 60 6 y6],[0,1,10,11]⟩ (.l (.l (.r (.r (.l (.i 8 139 22 [] (bc (aS prog 22 [] f139) .e) [] [])))))))))))))) [] []) (.l (.i 2 138 32 [] (bc (aS prog 32 [] f138) (.r (.l (.j ⟨[.val 11 y0,.box 47 1 y24 [(1,12,1),(3,170,2),(7,41,1)],.bO 12 1 true 60 6 y6,.bO 41 1 true 42 1 y14,.bO 170 2 false 158 28 y15],[0,1,10]⟩ (.l (.r (.r (.j ⟨[.box 47 1 y24 [(1,12,1),(3,170,3),(7,41,1)],.bO 12 1 true 60 6 y6,.bO 41 1 true 42 1 y14,.bO 170 3 false 158 28 y15],[0,1,10,11]⟩ (.l (.l (.r (.r (.l (.i 8 141 40 [] (bc (aS prog 40 [] f141) (.r (.l (.j ⟨[.val 11 y0,.box 47 1 y24 [(1,12,1),(3,170,3),(7,41,1)],.bO 12 1 true 60 6 y6,.bO 41 1 true 42 1 y14,.bO 170 3 false 158 28 y15],[0,1,9,10]⟩ (.l (.r (.r (.l (.l (.r (.r (.l (.j ⟨[.val 21 y0,.box 47 1 y24 [(1,12,1),(3,170,4),(7,41,1)],.bO 12 1 true 60 6 y6,.bO 41 1 true 42 1 y14,.bO 170 4 false 158 28 y15],[0,1,4,9,10,11,20]⟩ (.l (.r (.r (.j ⟨[.box 47 1 y24 [(1,12,1),(3,170,5),(7,41,1)],.bO 12 1 true 60 6 y6,.bO 41 1 true 42 1 y14,.bO 170 5 false 158 28 y15],[0,1,4,9,10,11,20,21]⟩ (.l (.l (.r (.r (.l (.i 7 143 22 [.tmp 8] (bc (aS prog 22 [] f143) (.r (.l (.i 12 215 71 [.tmp 10] (bc (aS prog 71 [] f215) .e) [] [])))) [] []))))))))))))))))))))))) [] [])))))))))))))) [] [])))))))))) [] [(1,.ps (.tH 0 3))]))))))))))))))) [] [])) (.r (.b (.i 2 110 105 [.tmp 4] (bc (aS prog 105 [] f110) (.r (.r (.r (.r (.b (.l (.j ⟨[.val 31 y1],[0,3,5,6,7]⟩ (.r (.r (.j ⟨[.val 44 y1],[0,3,5,6,7]⟩ .e))))) (.r (.r (.r (.j ⟨[],[]⟩ .e)))))))))) [] []) (.r (.b (.i 2 111 65 [.tmp 4] (bc (aS prog 65 [] f111) (.r (.l (.j ⟨[.val 30 y1],[0,3]⟩ .e)))) [] []) (.r (.b (.i 8 112 22 [.cell 4 (some 4),.tmp 5] (bc (aS prog 22 [] f112) (.r (.b (.l (.r (.l (.j ⟨[.val 9999 y1],[9999]⟩ .e)))) (.l (.i 1 149 16 [.cell 2 (some 4)] (bc (aS prog 16 [] f149) (.r (.l (.ps (.tH 1 0) .e)))) [] []))))) [] []) (.r (.l (.i 12 113 50 [.cell 8 (some 4),.tmp 9] (bc (aS prog 50 [] f113) (.r (.b (.l (.r (.l (.j ⟨[.val 9999 y1],[9999]⟩ .e)))) (.b (.i 1 149 16 [.cell 2 (some 4)] (bc (aS prog 16 [] f149) (.r (.l (.ps (.tH 1 0) .e)))) [] []) (.j ⟨[.box 108 1 y25 [(0,136,1)],.bO 136 1 true 158 28 y15],[1,2,3,4,8]⟩ (.l (.r (.l (.g [(3,.ps (.tH 4 3))]))))))))) [] [])))))))))))))))))))))))) [] [])))) [] []))))))
noncomputable def au(a1:eA)(d:Int×cm×Z ay×(Z (Z ar))×Unit):Y ((Int×cm×Z ay×(Z (Z ar))×Unit)⊕(aH×Int×Unit)):=bif decide (d.1<a1.Count)then aX (λ(k:Int×cm×Z ay×(Z (Z ar))×Unit)=>bif (!decide (k.1=0))then oR (bif (!decide (k.1=0))then some (zz5,k.1,())else some ({k.2.1.World with aY:=k.2.2.1,fl:=k.2.2.2.1},0,()))else some (inl ((aC .i64 d.1 1),(cm.mk {k.2.1.World with aY:=[],fl:=[]}),k.2.2.1,k.2.2.2.1,()))) λy=>bif decide (d.2.1.World.Time=200)then y (3,(cm.mk {d.2.1.World with aY:=[],fl:=[]}),d.2.2.1,d.2.2.2.1,())else(df d.2.1.World.Net.cD).bind λi=>(bw d.2.1.World.Net.gl).bind λo=>(bw d.2.1.World.Net.gG).bind λp=>(kL (bI.mk i d.2.1.World.Net.Next o p)).bind λL=>bif (!L)then none else(dW i (aC .i64 d.2.1.World.Time 1)).bind λq=>aX (λ(z:(Z bx)×Unit)=>bif eQ q.1 (i.length:Int) (i.length)then(dG ((i.take (toNat (i.length:Int))).drop (toNat q.1))).bind λM=>aE (λ(g:Int×Z ay×Unit)=>bif decide (g.1<(z.1.length:Int))then aX (λ(P:(Z ay)×Unit)=>some (inl ((aC .i64 g.1 1),P.1,()))) λs=>(idx z.1 g.1).bind λh=>aX (λ(Q:Bool×Unit)=>bif Q.1 then s (g.2.1,())else(idx g.2.1 h.To).bind λx51=>(g.2.1[(toNat h.To)]?).bind λR=>(uY (eT3 R) {h.ak with ai:={h.ak.ai with ae:=(af h.ak.ai.ae)},ah:=(eT1 h.ak.ah)} (aC .i64 d.2.1.World.Time 1)).bind λA=>bif decide (A.2.1=0)then(idx g.2.1 h.To).bind λx54=>(g.2.1[(toNat h.To)]?).bind λx55=>s ((g.2.1.set (toNat h.To) (eT3 A.1)),())else s (g.2.1,())) λB=>bif decide ((g.2.1.length:Int)<=h.To)then B (true,())else(eB d.2.1.World.fR h.To).bind λS=>B (S,())else oR (aE (λ(e:Int×Z ay×Unit)=>bif decide (e.1<(g.2.1.length:Int))then aX (λ(T:(Z ay)×Unit)=>some (inl ((aC .i64 e.1 1),T.1,()))) λt=>(eB d.2.1.World.fR e.1).bind λW=>bif (!W)then(idx e.2.1 e.1).bind λx61=>(e.2.1[(toNat e.1)]?).bind λx62=>(e.2.1[(toNat e.1)]?).bind λX=>(uW (eT3 X) (aC .i64 d.2.1.World.Time 1)).bind λD=>bif decide (D.2.1=0)then(e.2.1[(toNat e.1)]?).bind λx65=>(e.2.1[(toNat e.1)]?).bind λx66=>t ((e.2.1.set (toNat e.1) (eT3 D.1)),())else t (e.2.1,())else t (e.2.1,())else oR (aE (λ(c:Int×cm×Z ay×(Z (Z ar))×Z bx×Unit)=>bif decide (c.1<(e.2.1.length:Int))then aX (λ(m:cm×Z ay×(Z (Z ar))×Z bx×Unit)=>some (inl ((aC .i64 c.1 1),(cm.mk (aH.mk m.1.World.Time [] m.1.World.fR {m.1.World.Net with cD:=[]} [])),m.2.1,m.2.2.1,m.2.2.2.1,()))) λE=>(eB c.2.1.World.fR c.1).bind λr70=>bif (!r70)then(idx c.2.2.1 c.1).bind λx71=>(c.2.2.1[(toNat c.1)]?).bind λx72=>(c.2.2.1[(toNat c.1)]?).bind λN=>(qQ (eT3 N)).bind λF=>aE (λ(f:Int×cm×Z ay×(Z (Z ar))×Z bx×Unit)=>bif decide (f.1<(F.length:Int))then(idx F f.1).bind λr=>aE (λ(a:Int×cm×Z ay×(Z (Z ar))×Z bx×Unit)=>bif decide (a.1<(f.2.2.1.length:Int))then aX (λ(n:cm×Z ay×(Z (Z ar))×Z bx×Unit)=>some (inl ((aC .i64 a.1 1),(cm.mk (aH.mk n.1.World.Time [] n.1.World.fR {n.1.World.Net with cD:=[]} [])),n.2.1,n.2.2.1,n.2.2.2.1,()))) λu=>(a.2.2.1[(toNat c.1)]?).bind λx80=>(a.2.2.1[(toNat c.1)]?).bind λx81=>(a.2.2.1[(toNat c.1)]?).bind λI=>bif (!decide (a.1=I.aF))then(a.2.2.1[(toNat c.1)]?).bind λx83=>(a.2.2.1[(toNat c.1)]?).bind λx84=>(a.2.2.1[(toNat c.1)]?).bind λv=>(oO (decide ((a.2.2.2.2.1.length:Int)=4000)) (some (decide (a.2.1.World.Net.Next=1000000000)))).bind λb86=>bif b86 then u ((cm.mk (aH.mk a.2.1.World.Time [] a.2.1.World.fR {a.2.1.World.Net with cD:=[]} [])),a.2.2.1,a.2.2.2.1,a.2.2.2.2.1,())else(yE {a.2.1.World.Net with cD:=a.2.2.2.2.1} v.aF a.1).bind λG=>(sK {r with ai:={r.ai with ae:=(af r.ai.ae)},ah:=(eT1 r.ah)}).bind λl=>(dv a.2.2.2.2.1 (bx.mk (aC .i64 a.2.1.World.Time G) v.aF a.1 a.2.1.World.Net.Next {l with ai:={l.ai with ae:=(af l.ai.ae)},ah:=(eT1 l.ah)})).bind λr89=>(gX a.2.2.2.2.1 r89.1 [(bx.mk (aC .i64 a.2.1.World.Time G) v.aF a.1 a.2.1.World.Net.Next {l with ai:={l.ai with ae:=(af l.ai.ae)},ah:=(eT1 l.ah)})]).bind λV=>u ((cm.mk (aH.mk a.2.1.World.Time [] a.2.1.World.fR {a.2.1.World.Net with cD:=[],Next:=(aC .i64 a.2.1.World.Net.Next 1)} [])),a.2.2.1,a.2.2.2.1,V,())else u ((cm.mk (aH.mk a.2.1.World.Time [] a.2.1.World.fR {a.2.1.World.Net with cD:=[]} [])),a.2.2.1,a.2.2.2.1,a.2.2.2.2.1,())else oR (some (inl ((aC .i64 f.1 1),(cm.mk (aH.mk a.2.1.World.Time [] a.2.1.World.fR {a.2.1.World.Net with cD:=[]} [])),a.2.2.1,a.2.2.2.1,a.2.2.2.2.1,())))) (0,(cm.mk (aH.mk f.2.1.World.Time [] f.2.1.World.fR {f.2.1.World.Net with cD:=[]} [])),f.2.2.1,f.2.2.2.1,f.2.2.2.2.1,())else oR (E ((cm.mk (aH.mk f.2.1.World.Time [] f.2.1.World.fR {f.2.1.World.Net with cD:=[]} [])),f.2.2.1,f.2.2.2.1,f.2.2.2.2.1,()))) (0,(cm.mk (aH.mk c.2.1.World.Time [] c.2.1.World.fR {c.2.1.World.Net with cD:=[]} [])),c.2.2.1,c.2.2.2.1,c.2.2.2.2.1,())else E ((cm.mk (aH.mk c.2.1.World.Time [] c.2.1.World.fR {c.2.1.World.Net with cD:=[]} [])),c.2.2.1,c.2.2.2.1,c.2.2.2.2.1,())else oR (y (0,(cm.mk (aH.mk c.2.1.World.Time [] c.2.1.World.fR {c.2.1.World.Net with cD:=c.2.2.2.2.1} [])),c.2.2.1,c.2.2.2.1,()))) (0,(cm.mk (aH.mk (aC .i64 d.2.1.World.Time 1) [] d.2.1.World.fR (bI.mk [] d.2.1.World.Net.Next o p) [])),e.2.1,d.2.2.2.1,M,()))) (0,g.2.1,()))) (0,d.2.2.1,())else none) λH=>bif eQ 0 q.1 (i.length)then(dG ((i.take (toNat q.1)).drop (toNat 0))).bind λw=>(fA w (bI.mk i d.2.1.World.Net.Next o p)).bind λx=>bif decide (x=(-1:Int))then H (w,())else aE (λ(b:Int×Int×Z bx×Unit)=>bif decide (b.2.1<(b.2.2.1.length:Int))then aX (λ(J:Int×Z bx×Unit)=>some (inl (J.1,(aC .i64 b.2.1 1),J.2.1,()))) λK=>(idx b.2.2.1 b.2.1).bind λx96=>(b.2.2.1[(toNat b.2.1)]?).bind λj=>(sG {j with ak:={j.ak with ai:={j.ak.ai with ae:=(af j.ak.ai.ae)},ah:=(eT1 j.ak.ah)}} (bI.mk i d.2.1.World.Net.Next o p)).bind λU=>bif (!U)then(idx b.2.2.1 b.1).bind λx99=>(b.2.2.1[(toNat b.1)]?).bind λx100=>K ((aC .i64 b.1 1),(b.2.2.1.set (toNat b.1) {j with ak:={j.ak with ai:={j.ak.ai with ae:=(af j.ak.ai.ae)},ah:=(eT1 j.ak.ah)}}),())else K (b.1,b.2.2.1,())else oR (bif eQ b.1 ((b.2.2.1.length):Int) (b.2.2.1.length)then bif eQ 0 b.1 (List.length (b.2.2.1.take (toNat b.1)++replicate (toNat ((b.2.2.1.length):Int) - toNat b.1) (bx.mk 0 0 0 0 zz8)++b.2.2.1.drop ((toNat b.1)+(toNat ((b.2.2.1.length):Int) - toNat b.1))))then H (((b.2.2.1.take (toNat b.1)++replicate (toNat ((b.2.2.1.length):Int) - toNat b.1) (bx.mk 0 0 0 0 zz8)++b.2.2.1.drop ((toNat b.1)+(toNat ((b.2.2.1.length):Int) - toNat b.1))).take (toNat b.1 - toNat 0)),())else none else none)) (x,(aC .i64 x 1),w,())else none else oR (some ({d.2.1.World with aY:=d.2.2.1,fl:=d.2.2.2.1},0,()))
def iE(b:aH)(a:eA):Y (aH×Int×Unit):=(mF b).bind λr1=>bif (!r1)then some (zz5,13,())else(fN b.aY).bind λc=>(df b.Net.cD).bind λe=>(bw b.Net.gl).bind λf=>(bw b.Net.gG).bind λg=>(ix b.fl).bind λh=>(oO (decide (a.cF<1)) (some (decide (8<a.cF)))).bind λb7=>bif b7 then some (zz5,63,())else(o4 (cm.mk (aH.mk b.Time c b.fR (bI.mk e b.Net.Next f g) h)) {a with ae:=(af a.ae),ak:={a.ak with ai:={a.ak.ai with ae:=(af a.ak.ai.ae)},ah:=(eT1 a.ak.ah)}}).bind λr8=>bif (!r8)then some (zz5,5,())else bif decide (a.cF=1)then(eB b.fR a.aF).bind λr9=>bif r9 then some (zz5,63,())else(idx c a.aF).bind λx10=>(c[(toNat a.aF)]?).bind λX=>(sZ (eT3 X) a.br a.Value b.Time).bind λj=>aX (λ(v13:(Z ay)×Unit)=>bif (!decide (j.2.1=0))then some (zz5,j.2.1,())else some ((aH.mk b.Time v13.1 b.fR (bI.mk e b.Net.Next f g) h),0,())) λu=>bif decide (j.2.1=0)then(idx c a.aF).bind λx15=>(c[(toNat a.aF)]?).bind λx16=>u ((c.set (toNat a.aF) (eT3 j.1)),())else u (c,())else bif decide (a.cF=8)then(eB b.fR a.aF).bind λr17=>bif r17 then some (zz5,63,())else(idx c a.aF).bind λx18=>(c[(toNat a.aF)]?).bind λN=>(sA (eT3 N) a.br a.Value b.Time).bind λk=>aX (λ(V:(Z ay)×Unit)=>bif (!decide (k.2.1=0))then some (zz5,k.2.1,())else some ((aH.mk b.Time V.1 b.fR (bI.mk e b.Net.Next f g) h),0,())) λv=>bif decide (k.2.1=0)then(idx c a.aF).bind λx23=>(c[(toNat a.aF)]?).bind λx24=>v ((c.set (toNat a.aF) (eT3 k.1)),())else v (c,())else bif decide (a.cF=4)then(eB b.fR a.aF).bind λr25=>bif r25 then some (zz5,63,())else(idx c a.aF).bind λx26=>(c[(toNat a.aF)]?).bind λI=>(uX (eT3 I)).bind λr28=>aX (λ(U:(Z ay)×Unit)=>some ((aH.mk b.Time U.1 b.fR (bI.mk e b.Net.Next f g) h),0,())) λj30=>(idx c a.aF).bind λx31=>(c[(toNat a.aF)]?).bind λx32=>j30 ((c.set (toNat a.aF) (eT3 r28)),())else bif decide (a.cF=2)then(oO (decide (a.Count<1)) (some (decide (200<a.Count)))).bind λb33=>bif b33 then some (zz5,63,())else aE (au a) (0,(cm.mk (aH.mk b.Time [] b.fR (bI.mk e b.Net.Next f g) [])),c,h,())else bif decide (a.cF=3)then(idx c a.aF).bind λx101=>(c[(toNat a.aF)]?).bind λl=>(idx h a.aF).bind λx103=>(h[(toNat a.aF)]?).bind λm=>(fp m {a with ae:=(af a.ae),ak:={a.ak with ai:={a.ak.ai with ae:=(af a.ak.ai.ae)},ah:=(eT1 a.ak.ah)}}).bind λn=>aX (λ(w:Bool×Unit)=>bif w.1 then some (zz5,63,())else aX (λ(x:Bool×Unit)=>bif x.1 then some (zz5,1,())else(aO (!n) (some (decide ((m.length:Int)=4)))).bind λy=>bif y then some (zz5,3,())else(qR (eT3 l) (af a.ae)).bind λd=>bif (!decide (d.2.1=0))then bif (!decide (d.2.1=0))then some (zz5,d.2.1,())else some ((aH.mk b.Time c b.fR (bI.mk e b.Net.Next f g) h),0,())else(idx c a.aF).bind λx112=>(c[(toNat a.aF)]?).bind λx113=>aX (λ(v114:Unit)=>some ((aH.mk b.Time (c.set (toNat a.aF) (eT3 d.1)) b.fR (bI.mk e b.Net.Next f g) h),0,())) λz=>bif (!n)then(bG (af a.ae)).bind λr116=>none else z (())) λo=>(bF (af a.ae)).bind λA=>bif (!decide (A=0))then o (true,())else(qD (af a.ae)).bind λB=>if(c.length:Int)<0 then none else o ((!decide ((iH .i64 B (c.length:Int))=0)),())) λp=>(eB b.fR a.aF).bind λD=>bif D then p (true,())else p (l.lN,())else bif decide (a.cF=5)then aX (λ(E:Bool×Unit)=>bif E.1 then some (zz5,63,())else none) λi=>(eB b.fR a.aF).bind λF=>bif (!F)then i (true,())else(ka (cm.mk (aH.mk b.Time c b.fR (bI.mk e b.Net.Next f g) h)) a.To).bind λG=>bif (!G)then i (true,())else i ((decide (a.To=a.aF)),())else bif decide (a.cF=6)then(kL (bI.mk e b.Net.Next f g)).bind λH=>bif (!H)then none else(sF a.gl).bind λJ=>bif (!J)then some (zz5,1,())else(df e).bind λK=>(bw f).bind λr127=>(bw g).bind λL=>(bw a.gl).bind λM=>some ((aH.mk b.Time c b.fR (bI.mk K b.Net.Next M L) h),0,())else bif decide (a.cF=7)then(kL (bI.mk e b.Net.Next f g)).bind λP=>bif (!P)then none else(gU a.aF).bind λQ=>(oO (!Q) ((gU a.To).bind λR=>some (!R))).bind λS=>bif S then some (zz5,5,())else(oO (decide (a.Count<0)) (some (decide (20<a.Count)))).bind λT=>bif T then some (zz5,1,())else(df e).bind λq=>(bw f).bind λr=>(bw g).bind λs=>aX (λ(W:bI×Z bx×Unit)=>(idx W.1.gG (aC .i64 (xf .i64 a.aF 10) a.To)).bind λx140=>none) λt=>bif decide ((s.length:Int)=0)then bif decide ((100:Int)<=100)&&decide ((0:Int)<=100)&&bn 8 (toNat 100)then t ((bI.mk [] b.Net.Next r (replicate (toNat 100) 0)),q,())else none else t ((bI.mk [] b.Net.Next r s),q,())else some ((aH.mk b.Time c b.fR (bI.mk e b.Net.Next f g) h),0,())
noncomputable def zK:KS U prog:=⟨.fn 51 [.ty y20,.aT 52 [.ref (.ty y23)]] (.many [y20,y0]) λa=>iE a.1 a.2.1.1,Fc (K:=K) yR 27 [.cell 4 (some 8),.tmp 5] [xj,pG,tB,kW,uC,xY,zJ,BM,AT,Ct,ym,gP,nV,ky,yl,Cu,Cs,zO,Gb,yn,gk,nK,jZ,bL,xh,zP,bW,oX,yk,tz] [(101,16,(aS prog 16 [] f101),[.cell 2 (some 8)]),(149,16,(aS prog 16 [] f149),[.cell 2 (some 4)]),(52,7,(aS prog 7 [] f52),[.tmp 3]),(53,99,(aS prog 99 [] f53),[.tmp 4]),(103,43,(aS prog 43 [] f103),[.tmp 6]),(104,19,(aS prog 19 [] f104),[.cell 4 (some 6),.tmp 5]),(103,43,(aS prog 43 [] f103),[.tmp 6]),(106,19,(aS prog 19 [] f106),[.cell 4 (some 6),.tmp 5]),(103,43,(aS prog 43 [] f103),[.tmp 6]),(108,6,(aS prog 6 [] f108),[.cell 2 (some 6),.tmp 3]),(77,15,(aS prog 15 [] f77),[.tmp 4]),(73,106,(aS prog 106 [] f73),[.tmp 2]),(136,37,(aS prog 37 [] f136),[.tmp 4,.cell 5 (some 4)]),(149,16,(aS prog 16 [] f149),[.cell 2 (some 4)]),(201,42,(aS prog 42 [] f201),[.tmp 4]),(138,32,(aS prog 32 [] f138),[]),(139,22,(aS prog 22 [] f139),[]),(138,32,(aS prog 32 [] f138),[]),(141,40,(aS prog 40 [] f141),[]),(143,22,(aS prog 22 [] f143),[.tmp 8]),(215,71,(aS prog 71 [] f215),[.tmp 10]),(110,105,(aS prog 105 [] f110),[.tmp 4]),(111,65,(aS prog 65 [] f111),[.tmp 4]),(112,22,(aS prog 22 [] f112),[.cell 4 (some 4),.tmp 5]),(149,16,(aS prog 16 [] f149),[.cell 2 (some 4)]),(113,50,(aS prog 50 [] f113),[.cell 8 (some 4),.tmp 9]),(149,16,(aS prog 16 [] f149),[.cell 2 (some 4)])] ⟨fk f101 [] func101,⟨fk f149 [] func149,⟨fk f52 [] func52,⟨fk f53 [] func53,⟨fk f103 [] func103,⟨fk f104 [] func104,⟨fk f103 [] func103,⟨fk f106 [] func106,⟨fk f103 [] func103,⟨fk f108 [] func108,⟨fk f77 [] func77,⟨fk f73 [] func73,⟨fk f136 [] func136,⟨fk f149 [] func149,⟨fk f201 [] func201,⟨fk f138 [] func138,⟨fk f139 [] func139,⟨fk f138 [] func138,⟨fk f141 [] func141,⟨fk f143 [] func143,⟨fk f215 [] func215,⟨fk f110 [] func110,⟨fk f111 [] func111,⟨fk f112 [] func112,⟨fk f149 [] func149,⟨fk f113 [] func113,⟨fk f149 [] func149,trivial⟩⟩⟩⟩⟩⟩⟩⟩⟩⟩⟩⟩⟩⟩⟩⟩⟩⟩⟩⟩⟩⟩⟩⟩⟩⟩⟩ (fk f51 [] func51)⟩
def km(c:aH)(a:eA):Y (aH×Int×Unit):=(iE c {a with ae:=(af a.ae),ak:={a.ak with ai:={a.ak.ai with ae:=(af a.ak.ai.ae)},ah:=(eT1 a.ak.ah)}}).bind λb=>some (b.1,b.2.1,())
def IP:=kf func15 [.ty y20,.ty y23] (.many [y20,y0]) (u2 km) [3] .e [zK]
noncomputable def II:SA U:=bc (aS prog 15 [] f54) (.r (.r (.l (.r (.l (.ps (.rK 1 0 65 4 y21) (.j ⟨[.val 2 y0,.box 1 1 y12 [(0,3,2)],.bO 3 2 false 65 4 y21],[0,1]⟩ .e)))))))
noncomputable def KR:Y bo:=aE (λ(a:Int×bo×Z bS×Unit)=>bif decide (a.1<4)then(zx 4 3).bind λb=>bif bn 64 (a.2.2.1.length+List.length [(bS.mk true (af b))])then some (inl ((aC .i64 a.1 1),zz9,(a.2.2.1++[(bS.mk true (af b))]),()))else none else oR (some (bo.mk a.2.2.1))) (0,zz9,[],())
noncomputable def xM:Y bo:=FD KR
noncomputable def JJ:KS U prog:=⟨.fn 54 [] (.one y12) λa=>xM,Pv (N0 (K:=K) II 15 [.cell 0 (some 1)] [Eo] (fk f54 [] func54))⟩
noncomputable def oV(c:Z eA)(a:Int×aH×aH×Unit):Y ((Int×aH×aH×Unit)⊕(aH×Int×Int×Unit)):=bif decide (a.1<(c.length:Int))then(idx c a.1).bind λb=>(km a.2.2.1 {b with ae:=(af b.ae),ak:={b.ak with ai:={b.ak.ai with ae:=(af b.ak.ai.ae)},ah:=(eT1 b.ak.ah)}}).bind λd=>bif (!decide (d.2.1=0))then oR (some (a.2.2.1,a.1,d.2.1,()))else some (inl ((aC .i64 a.1 1),a.2.1,d.1,()))else oR (some (a.2.2.1,(c.length:Int),0,()))
def dX(c:bo)(d:Int)(b:Z eA):Y (aH×Int×Int×Unit):=(tP c d).bind λa=>bif (!decide (a.2.1=0))then some (zz5,0,a.2.1,())else bif decide (300<(b.length:Int))then some (a.1,0,3,())else aE (oV b) (0,zz5,a.1,())
def zL:=kf func19 [t12,t0,.ty (Ty.sl (Ty.st .Step))] (.many [y20,y0,y0]) (u3 dX) [] (p_ 6 23 (.j ⟨[.val 33 y0,.box 1 1 y20 [],.box 10 1 y20 []],[2,6,9,31,32]⟩ .e)) [HC,IP]
def dq(d:aH):Y (Z fY):=(mF d).bind λg=>bif (!g)then some []else aE (λ(a:Int×Z fY×Unit)=>bif decide (a.1<(d.aY.length:Int))then(idx d.aY a.1).bind λe=>aE (λ(b:Int×Z fY×Unit)=>bif decide (b.1<(e.bX.length:Int))then aX (λ(h:(Z fY)×Unit)=>some (inl ((aC .i64 b.1 1),h.1,()))) λf=>(idx e.bX b.1).bind λc=>(aO c.Fu ((eB d.fR a.1).bind λi=>some (!i))).bind λj=>bif j then bif bn 32 (b.2.1.length+List.length [(fY.mk a.1 c.aa.br c.Value)])then f ((b.2.1++[(fY.mk a.1 c.aa.br c.Value)]),())else none else f (b.2.1,())else oR (some (inl ((aC .i64 a.1 1),b.2.1,())))) (0,a.2.1,())else oR (some a.2.1)) (0,[],())
def sQ:=kf func20 [.ty y20] (.one (Ty.sl (Ty.st .Outcome))) (u1 dq) [] (p_ 6 23 (.ps (.own 3 73 3 y29) (.j ⟨[.val 14 y0,.own 3 10 2 false 73 3 y29],[1,12,13]⟩ (p_ 8 102 (.j ⟨[.val 22 y0,.own 3 10 3 false 73 3 y29],[1,4,12,13,14,20,21]⟩ (p_ 3 6 (.j ⟨[.own 3 10 4 false 73 3 y29],[1,4,12,13,14,20,21,22]⟩ .e))))))) [xj,zJ]
noncomputable def IH:SA U:=bc (aS prog 58 [23] f16) (.r (.r (.b (.r (.l (.ps (.own 1 57 34 y23) (.j ⟨[.val 2 y0,.own 1 3 2 false 57 34 y23],[]⟩ .e)))) (.r (.r (.r (.l (.r (.l (.j ⟨[.val 48 y0],[46,47]⟩ .e))))))))))
noncomputable def Db:Y Bool:=aE (λ(a:Int×Z eA×Unit)=>bif decide (a.1<4)then bif bn 448 (a.2.1.length+List.length [(eA.mk 8 a.1 0 1 0 (ByteArray.mk #[97]) zz0 zz8 [])])then some (inl ((aC .i64 a.1 1),(a.2.1++[(eA.mk 8 a.1 0 1 0 (ByteArray.mk #[97]) zz0 zz8 [])]),()))else none else oR ((xM).bind λf=>bif bn 448 (a.2.1.length+List.length [zz12])then(dX f 0 (a.2.1++[zz12])).bind λb=>(dq b.1).bind λd=>(oO (!decide (b.2.1=5)) (some (!decide (b.2.2.1=0)))).bind λg=>(oO g (some (!decide ((d.length:Int)=4)))).bind λh=>(oO h (some (!decide (b.1.Time=12)))).bind λi=>bif i then some false else aE (λ(c:Int×Unit)=>bif decide (c.1<(d.length:Int))then(idx d c.1).bind λe=>bif (xor true (decide (e.aF=c.1)&&(decide (e.br=1)&&(decide (e.Value=(ByteArray.mk #[97]))&&true))))then oR (some false)else some (inl ((aC .i64 c.1 1),()))else oR (some true)) (0,())else none)) (0,[],())
noncomputable def oA:Y Bool:=FD Db
noncomputable def JI:KS U prog:=⟨.fn 16 [] q1 λa=>oA,Pv (N0 (K:=K) IH 58 [.tmp 0] [JJ,zL,sQ] (fk f16 [23] func16))⟩
def lV(j:Z Int):Y Bool:=(wK j).bind λk=>(mI k 1 4).bind λc=>aE (λ(d:Int×bo×Z bS×Unit)=>bif decide (d.1<c.1)then(zx c.1 (aC .i64 (WR .i64 c.1 2) 1)).bind λh=>bif bn 64 (d.2.2.1.length+List.length [(bS.mk true (af h))])then some (inl ((aC .i64 d.1 1),zz9,(d.2.2.1++[(bS.mk true (af h))]),()))else none else oR ((mH c.2).bind λe=>aE (λ(a:Int×Z eA×Unit)=>bif decide (a.1<c.1)then bif bn 448 (a.2.1.length+List.length [(eA.mk 8 a.1 0 1 0 e.1 zz0 zz8 [])])then some (inl ((aC .i64 a.1 1),(a.2.1++[(eA.mk 8 a.1 0 1 0 e.1 zz0 zz8 [])]),()))else none else oR (bif bn 448 (a.2.1.length+List.length [zz12])then(dX (bo.mk d.2.2.1) 0 (a.2.1++[zz12])).bind λi=>(dq i.1).bind λf=>(oO (!decide (i.2.2.1=0)) (some (!decide ((f.length:Int)=c.1)))).bind λl=>bif l then some false else aE (λ(b:Int×Unit)=>bif decide (b.1<(f.length:Int))then(idx f b.1).bind λg=>bif (!decide (g.Value=e.1))then oR (some false)else some (inl ((aC .i64 b.1 1),()))else oR ((oA).bind some)) (0,())else none)) (0,[],()))) (0,zz9,[],())
def zX:=kf func4 [t11] q1 (u1 lV) [54] (p_ 4 15 (.b (p_ 2 1 (.ps (.rK 5 0 65 4 y21) (.j ⟨[.val 6 y0,.box 7 1 y12 [(0,9,2)],.bO 9 2 false 65 4 y21],[3,4,5]⟩ .e))) (p_ 2 3 (.b (p_ 2 1 (.ps (.own 7 57 34 y23) (.j ⟨[.val 9 y0,.own 7 18 2 false 57 34 y23],[4,5,8]⟩ .e))) (.b (.ps (.tH 5 0) .e) (p_ 5 11 (.j ⟨[.val 71 y0],[8,69,70]⟩ .e))))))) [Mp,EU,Eo,ET,zL,sQ,JI]
end
end Go.Proofs.YtppbofaglpdghaaGreat
end
noncomputable section
end
noncomputable section
namespace Go.TQ
@[simp] def R7 {a ρ:Type} (j:a->Y ρ) (f:(a->Y ρ)->Y ρ):aX j f=f j:=rfl
@[simp] def O3 {α:Type} (b:Bool) (x y:α):(bif b then some x else some y)=some (bif b then x else y):=by cases b<;>rfl
@[simp] def W9 {α:Type} (b:Bool) (x:α):(bif b then x else x)=x:=by cases b<;>rfl
def SJ{α:Type}(p:Prop)[Decidable p](x y:α):(bif decide p then x else y)=if p then x else y:=by by_cases h:p<;>simp[h]
def OO{α:Type}(p:Prop)[Decidable p](x y:α):(if p then some x else some y)=some (if p then x else y):=by split<;>rfl
@[simp] def Xb {α:Type} (b:Bool) (x y:α):(bif !b then x else y)=bif b then y else x:=by cases b<;>rfl
@[simp] def N2 (a b:Int) (s t:C):oe false a b s t=(decide (a=b)&&decide (s=t)):=by simp[oe]
@[simp] def WW (a b:Int) (s t:C):oe true a b s t= !(decide (a=b)&&decide (s=t)):=by simp[oe]
def Yd{α:Type}(o:Y α)(p:α->Prop):Prop:=∃x,o=some x/\p x
def Yd.bind{α β:Type}{o:Y α}{p:α->Prop}{f:α->Y β}{q:β->Prop}(h:Yd o p)(k:∀x,p x->Yd (f x) q):Yd (o.bind f) q:=by obtain⟨x,rfl,a⟩:=h;exact k x a
theorem Yd.some{α:Type}{x:α}{p:α->Prop}(h:p x):Yd (Option.some x) p:=⟨x,rfl,h⟩
def Yd.of_eq{α:Type}{o:Y α}{x:α}{p:α->Prop}(h:o=Option.some x)(a:p x):Yd o p:=⟨x,h,a⟩
def Yd.cond{α:Type}{b:Bool}{x y:Y α}{p:α->Prop}(c:b=true->Yd x p)(a:b=false->Yd y p):Yd (bif b then x else y) p:=by
 cases b
 .exact a rfl
 .exact c rfl
def Yd.map{α β:Type}{o:Y α}{f:α->β}{p:β->Prop}(h:Yd o λx=>p (f x)):Yd (o.map f) p:=by obtain⟨x,rfl,a⟩:=h;exact⟨f x,rfl,a⟩
def Yd.eq_true{o:Y Bool}(h:Yd o (·=true)):o=Option.some true:=by obtain⟨x,h1,rfl⟩:=h;exact h1
def wrap64{n:Int}(b: -9223372036854775808<=n)(a:n<=9223372036854775807):IntKind.i64.wrap n=n:=i64_in b a
theorem Bo{a b:Int}(d: -9223372036854775808<=a+b)(c:a+b<=9223372036854775807):aC .i64 a b=a+b:=wrap64 d c
def Pq{a b:Int}(d: -9223372036854775808<=a - b)(c:a - b<=9223372036854775807):iG .i64 a b=a - b:=wrap64 d c
def Sc{α:Type}(l:Z α)(i:Nat):idx l (i:Int)=l[i]?:=by simp[idx]
theorem JR{α:Type}(l:Z α){n:Int}(h:0<=n):idx l n=l[n.toNat]?:=by simp[idx,h]
@[simp] def TV (n:Nat) (h:n<256):bB .i64 (n:Int)=n:=wrap64 O O
@[simp] def UW {a n:Nat} (h:n*a<=140737488355328/\n<=1000000):bn a n=true:=by simp only[bn,Qa,QB];exact⟨h.1,QS h.2 (by simp[maxLen])⟩
def Yd.inr{a ρ:Type}{o:Y ρ}{p:a⊕ρ->Prop}(h:Yd o λr=>p (.inr r)):Yd (Option.map inr o) p:=h.map
def Bb{α b ρ:Type}(g:α->b->Y (b⊕ρ))(a:b->Y ρ):Z α->b->Y ρ
 |[],s=>a s
 |x::l,s=>match g x s with
  |none=>none
  |some (.inr r)=>some r
  |some (.inl s')=>Bb g a l s'
def Mm{α b d ρ:Type}(l:Z α)(mk:Int->b->d){step:d->Y (d⊕ρ)}(g:α->b->Y (b⊕ρ))(a:b->Y ρ)
  (j:∀(i:Nat) (x:α) (s:b),i<l.length->l[i]?=some x->step (mk i s)=match g x s with|none=>none|some (.inr r)=>some (.inr r)|some (.inl s')=>some (.inl (mk (i+1:Nat) s')))
  (f:∀s,step (mk l.length s)=(a s).map inr) (s:b):aE step (mk 0 s)=Bb g a l s:=by
 suffices h:∀(k:Nat) (i:Nat) (s:b),i+k=l.length->aE step (mk i s)=Bb g a (l.drop i) s by have:=h l.length 0 s O;simpa using this
 intro k
 induction k with
 |zero=>intro i s hi;obtain rfl:i=l.length:=O;rw[List.drop_length,Bb,AP,f];cases a s<;>rfl
 |succ k e=>
  intro i s hi;have c:i<l.length:=O;rw[qbb c,Bb,AP,j i l[i] s c (Qt c)]
  cases m:g l[i] s with
  |none=>rfl
  |some y=>
   cases y with
   |inr r=>rfl
   |inl s'=>exact e (i+1) s' O
def K8{α b c ρ:Type}(l:Z α)(h:l.length<=9223372036854775807)(mk:Int->b->c){step:c->Y (c⊕ρ)}(g:α->b->Y (b⊕ρ))(a:b->Y ρ)
  (f:∀(i:Nat) (x:α) (s:b),decide ((i:Int)<(l.length:Int))=true->idx l (i:Int)=some x->aC .i64 (i:Int) 1=((i+1:Nat):Int)->step (mk i s)=match g x s with|none=>none|some (.inr r)=>some (.inr r)|some (.inl s')=>some (.inl (mk (i+1:Nat) s')))
  (e:∀s,decide ((l.length:Int)<(l.length:Int))=false->step (mk l.length s)=(a s).map inr) (s:b):aE step (mk 0 s)=Bb g a l s:=
 Mm l mk g a (λi x s hi d=>f i x s (qad (Int.ofNat_lt.2 hi)) (by rw[Sc];exact d) (Bo O O)) (λs=>e s (qae (Int.lt_irrefl _))) s
end Go.TQ
namespace Go.Proofs.YtppbofaglpdghaaGreat
open Go.TQ
section
def Vj:C:=⟨#[]⟩
def De(b:aj):Bool:=decide (b.al=0)&&decide (b.Value=Vj)
def Mn(a b:C):Bool:=if a.size=b.size then mj a b else decide (a.size<b.size)
def F5(a b:aj):Bool:=if a.al=b.al then Mn a.Value b.Value else decide (a.al<b.al)
def Kh(a b:aj):Bool:=decide (a.Value=b.Value)
def GB(p b:aj):Bool:= !De p&&Kh p b&&decide (b.al<=p.al)
def Ih(p q b:aj):Bool:=GB p b||GB q b||(!De q&&F5 b q)
def Oe(p b:aj):Bool:= !De p&& !Kh p b&&F5 b p
def Fw(b:aj):Bool:=(decide (1<=b.al)&&decide (b.al<=1000)||decide (b.al=1000000))&&decide (1<=b.Value.size)&&decide (b.Value.size<=200)
@[simp] def Ol (b:aj):aU b=some (De b):=by unfold aU De;rw[N2];rfl
@[simp] def KX (a b:aj):bt a b=some (Kh a b):=rfl
@[simp] def Oh (b:aj):eM b=some (Fw b):=by
 have c:decide ((1:Int)<=(b.Value.size:Nat))=decide (1<=b.Value.size):=by rw[decide_eq_decide];omega
 have a:decide (((b.Value.size:Nat):Int)<=200)=decide (b.Value.size<=200):=by rw[decide_eq_decide];omega
 simp only[eM,Fw,c,a,O3,QM,Bool.cond_false_right,Bool.cond_true_left,oO,aO]
@[simp] def Np (a b:aj):ga a b=some (GB a b):=by simp[ga,GB]
def zu(a b:Int):Int:=if a<b then -1 else if b<a then 1 else 0
def Kk(a b:C):Int:=if mj a b then -1 else if mj a b||decide (a=b)then 0 else 1
def PA:Z Int->Int
 |[]=>0
 |x::l=>if x=0 then PA l else x
@[simp] def Nj (a b:Int):bU a b=some (zu a b):=by simp[bU,nI,zu,SJ,OO]
@[simp] def KW (a b:C):gF a b=some (Kk a b):=by simp only[gF,kO,Kk];cases h1:mj a b<;>by_cases c:a=b<;>simp[c]
def Hm(l:Z Int)(e:l.length<=1000000):gE l=some (PA l):=by
 unfold gE;rw[K8 l O (λi (_:Unit)=>(i,())) (λx _=>some (if x=0 then .inl ()else .inr x)) (λ_=>some 0) (λi x s a c d=> ?_) (λs a=> ?_) ()]
 .induction l with
  |nil=>rfl
  |cons x l b=>grind [Bb,PA]
 .grind
 .simp only[a,QN]
@[simp] def Pk (a b:Int):gE [a,b]=some (if a=0 then b else a):=by
 rw[Hm _ t_];simp only[PA]
 by_cases h:a=0<;>by_cases c:b=0<;>simp[h,c]
def Kj(a b:C):Int:=if zu a.size b.size=0 then Kk a b else zu a.size b.size
def ME(a b:aj):Int:=if zu a.al b.al=0 then Kj a.Value b.Value else zu a.al b.al
@[simp] def IS (a b:C):eo a b=some (Kj a b):=by simp[eo,Kj]
@[simp] def Nk (a b:aj):iZ a b=some (ME a b):=by simp[iZ,ME]
theorem IB(a b:Int):zu a b=0↔a=b:=by unfold zu;split<;>(try split)<;>omega
theorem Kl(a b:Int):zu a b<0↔a<b:=by unfold zu;split<;>(try split)<;>omega
theorem OZ(a b:C):Kk a b<0↔mj a b=true:=by grind [Kk]
theorem OY(a b:C):decide (Kj a b<0)=Mn a b:=by grind [Kj,Mn,IB,OZ,Kl]
def O0(a b:aj):decide (ME a b<0)=F5 a b:=by grind [ME,F5,IB,OY,Kl]
@[simp] def Om (a b:aj):cE a b=some (F5 a b):=by simp[cE,O0]
@[simp] def LQ (p q b:aj):ei p q b=some (Ih p q b):=by simp[ei,Ih]
@[simp] def Nq (p b:aj):dn p b=some (Oe p b):=by simp[dn,Oe]
def finite(b:aj):Bool:=Fw b&&decide (b.al<=1000)
@[simp] def LP (b:aj):iv b=some (finite b):=by simp[iv,finite]
@[simp] def KU (b:aj):gD b=some (De b||Fw b):=by simp[gD]
@[simp] def Oj (e:ao) (n:Int):jt e n=some ⟨n,e.aG.Value⟩:=rfl
end
section
structure Hl (s:jA):Prop where
 len:s.L.length<=800
 lo:0<=s.At
 hi:s.At<=800
def UQ(l:Z Int):Yd (wK l) λs=>Hl s:=by
 have h:rO (l.length:Int) 800=((min l.length 800:Nat):Int):=by unfold rO;split<;>omega
 have a:eQ 0 ((min l.length 800:Nat):Int) l.length=true:=by grind [eQ]
 unfold wK;rw[h,a];refine Yd.some ⟨?_,t_,t_⟩
 grind
def RW(x n:Int)(a:1<=n): -n<x.tmod n/\x.tmod n<n:=by
 have c:=Int.emod_nonneg x (show n≠0 by omega)
 have b:=Int.emod_lt_of_pos x (show 0<n by omega)
 rw[Int.tmod_eq_emod];split
 .omega
 .rw[Int.natAbs_of_nonneg O];omega
def UR{s:jA}(h:Hl s){n:Int}(o:n<=1000000000):Yd (oq s n) λp=>Hl p.2/\0<=p.1/\(1<=n->p.1<n)/\(n<1->p.1=0):=by
 unfold oq;simp only[R7];refine Yd.cond (λd=> ?_) (λd=> ?_)
 .grind [Yd.some]
 .simp only[qaC,Int.not_le]at d;refine Yd.cond (λc=> ?_) (λc=> ?_)
  .grind [Yd.some]
  .simp only[qaC,Int.not_lt]at c;obtain⟨e,b,f⟩:=h;have m:aC .i64 s.At 1=s.At+1:=Bo O O;have l:iG .i64 (s.At+1) 1=s.At:=by rw[Pq O O];omega
   rw[m,l];have a:s.At.toNat<s.L.length:=O;rw[JR _ b,Qt a,QM,Qg O,Qg O];have g:=RW s.L[s.At.toNat] n c;have k:L8 .i64 s.L[s.At.toNat] n=s.L[s.At.toNat].tmod n:=rfl;rw[k];generalize s.L[s.At.toNat].tmod n=y at g;have j:aC .i64 y n=y+n:=Bo O O;rw[j];have i:L8 .i64 (y+n) n=(y+n) % n:=Int.tmod_eq_emod_of_nonneg O;rw[i];exact Yd.some ⟨⟨e,o_,o_⟩,Int.emod_nonneg _ O,λ_=>Int.emod_lt_of_pos _ O,λ_=>O⟩
def Pf{s:jA}(h:Hl s){a b:Int}(l:0<=a)(k:a<=b+1)(j:b<=1000000):Yd (mI s a b) λp=>Hl p.2/\a<=p.1/\(a<=b->p.1<=b)/\(b<a->p.1=a):=by
 unfold mI;have d:iG .i64 b a=b - a:=Pq O O;have c:aC .i64 (b - a) 1=b - a+1:=Bo O O;rw[d,c];refine(UR h O).bind λp ⟨i,g,f,e⟩=> ?_
 grind [aC,Bo,Yd.some]
def SX{s:jA}(h:Hl s){l:Z C}(e:1<=l.length)(d:l.length<=1000):Yd (ny s l) λp=>Hl p.2/\p.1∈l:=by
 unfold ny;refine(UR h O).bind λp ⟨c,b,a,_⟩=> ?_
 grind [JR,Yd.some]
def UI(v:C):Prop:=v∈[(ByteArray.mk #[97]),(ByteArray.mk #[98]),(ByteArray.mk #[99]),(ByteArray.mk #[97,97])]
def Bp{s:jA}(h:Hl s):Yd (mH s) λp=>Hl p.2/\UI p.1:=by unfold mH;exact(SX h t_ t_).bind λp a=>Yd.some a
end
section
def aq:C:=bE
def Hd:ar:=⟨0,[],[]⟩
def fX:ar:=⟨1,[0],[]⟩
def bg:ar:=⟨2,[0,1],[]⟩
def aR:ar:=⟨2,[0,1,2],[]⟩
def aB:ar:=⟨3,[0,1,2,3],[]⟩
def V0(k n s c:Int)(v:C):eA:=⟨k,n,0,s,c,v,Hd,⟨0,0,⟨0,0,Hd,[],[]⟩,⟨0,0,0,Hd,0,⟨0,aq⟩,⟨0,aq⟩,⟨0,aq⟩,0,0⟩⟩,[]⟩
def dh:eA:=V0 2 0 0 12 aq
def IG(T:ar)(n:Nat):bo:=⟨replicate n ⟨true,T⟩⟩
def BB(v:C):Nat->Z eA
 |0=>[]
 |n+1=>BB v n++[V0 8 n 1 0 v]
def bH(i:Int)(w:aH):Int×cm×(Z ay)×(Z (Z ar))×Unit:=(i,⟨{w with aY:=[],fl:=[]}⟩,w.aY,w.fl,())
def du(v:C):Prop:=v=⟨#[97]⟩\/v=⟨#[98]⟩\/v=⟨#[99]⟩\/v=⟨#[97,97]⟩
def bb{a ρ:Type}{step:a->Y (a⊕ρ)}{s s':a}(h:step s=some (.inl s')):aE step s=aE step s':=by rw[AP,h]
def qN{a ρ:Type}{step:a->Y (a⊕ρ)}{s:a}{r:ρ}(h:step s=some (.inr r)):aE step s=some r:=by rw[AP,h]
def agq0(v:C):aD:=⟨0,1,1,1,fX,v,[v],[v],[v],[]⟩
def tM(v:C):aW:=⟨0,1,1,fX,3,⟨1,v⟩,⟨0,aq⟩,⟨0,aq⟩,⟨0,aq⟩,1,1,v,[]⟩
def T6(v:C):aD:=⟨0,1,1,1,bg,v,[v],[],[],[]⟩
def T5(v:C):aW:=⟨0,1,1,bg,1,⟨1,v⟩,⟨0,aq⟩,⟨0,aq⟩,⟨0,aq⟩,0,0,v,[]⟩
def T4(v:C):aD:=⟨1,1,1,1,bg,v,[],[],[],[]⟩
def T1(v:C):aW:=⟨1,1,1,bg,1,⟨1,v⟩,⟨0,aq⟩,⟨0,aq⟩,⟨0,aq⟩,0,0,v,[]⟩
def T0(v:C):aA:=⟨0,1,bg,[v],[]⟩
def MX:ao:=⟨0,0,0,Hd,0,⟨0,aq⟩,⟨0,aq⟩,⟨0,aq⟩,0,0⟩
def TZ(v:C):aL:=⟨1,1,(T0 v),MX⟩
def zw:aA:=⟨0,0,Hd,[],[]⟩
def RE(v:C):ao:=⟨0,1,1,bg,1,⟨1,v⟩,⟨0,aq⟩,⟨0,aq⟩,0,0⟩
def RD:aA:=⟨1,1,bg,[],[]⟩
def RC(v:C):ao:=⟨1,1,1,bg,1,⟨1,v⟩,⟨0,aq⟩,⟨0,aq⟩,0,0⟩
def RB(v:C):aD:=⟨1,1,2,2,bg,v,[v],[v],[],[(T0 v)]⟩
def RA(v:C):ao:=⟨0,1,2,bg,1,⟨1,v⟩,⟨1,v⟩,⟨0,aq⟩,0,0⟩
def Rz(v:C):aA:=⟨1,2,bg,[v],[v]⟩
def Ng(v:C):aL:=⟨1,1,(Rz v),MX⟩
def Ry(v:C):ao:=⟨1,1,2,bg,1,⟨1,v⟩,⟨1,v⟩,⟨0,aq⟩,0,0⟩
def uj(v:C):aD:=⟨0,1,2,2,bg,v,[v],[v],[v],[(Rz v)]⟩
def Rx(v:C):aA:=⟨0,2,bg,[v],[v]⟩
def Rw(v:C):aL:=⟨1,1,(Rx v),MX⟩
def Rv(v:C):ao:=⟨0,1,3,bg,1,⟨1,v⟩,⟨1,v⟩,⟨0,aq⟩,1,1⟩
def Ru(v:C):ao:=⟨1,1,3,bg,1,⟨1,v⟩,⟨1,v⟩,⟨0,aq⟩,1,1⟩
def wJ(v:C):aD:=⟨1,1,2,2,bg,v,[v],[v],[v],[(Rx v)]⟩
def Rt(v:C):ao:=⟨0,1,5,bg,2,⟨2,v⟩,⟨1,v⟩,⟨0,aq⟩,1,1⟩
def Rs(v:C):ao:=⟨1,1,5,bg,2,⟨2,v⟩,⟨1,v⟩,⟨0,aq⟩,1,1⟩
def yz(v:C):ao:=⟨0,1,6,bg,3,⟨1,v⟩,⟨0,aq⟩,⟨0,aq⟩,1,1⟩
def yy(v:C):aL:=⟨2,1,zw,(yz v)⟩
def yx(v:C):ao:=⟨1,1,6,bg,3,⟨1,v⟩,⟨0,aq⟩,⟨0,aq⟩,1,1⟩
def yw(v:C):aL:=⟨2,1,zw,(yx v)⟩
def Rr(v:C):aD:=⟨0,1,1,1,aR,v,[v],[],[],[]⟩
def Rq(v:C):aW:=⟨0,1,1,aR,1,⟨1,v⟩,⟨0,aq⟩,⟨0,aq⟩,⟨0,aq⟩,0,0,v,[]⟩
def Rp(v:C):aD:=⟨1,1,1,1,aR,v,[],[],[],[]⟩
def Ro(v:C):aW:=⟨1,1,1,aR,1,⟨1,v⟩,⟨0,aq⟩,⟨0,aq⟩,⟨0,aq⟩,0,0,v,[]⟩
def Rn(v:C):aD:=⟨2,1,1,1,aR,v,[v],[],[],[]⟩
def Rm(v:C):aW:=⟨2,1,1,aR,1,⟨1,v⟩,⟨0,aq⟩,⟨0,aq⟩,⟨0,aq⟩,0,0,v,[]⟩
def Nf(v:C):aA:=⟨0,1,aR,[v],[]⟩
def DA:ao:=⟨0,0,0,Hd,0,⟨0,aq⟩,⟨0,aq⟩,⟨0,aq⟩,0,0⟩
def Rl(v:C):aL:=⟨1,1,(Nf v),DA⟩
def mB:aA:=⟨0,0,Hd,[],[]⟩
def Nd(v:C):ao:=⟨0,1,1,aR,1,⟨1,v⟩,⟨0,aq⟩,⟨0,aq⟩,0,0⟩
def Rk(v:C):aL:=⟨2,1,mB,(Nd v)⟩
def Nc:aA:=⟨1,1,aR,[],[]⟩
def Rj:aL:=⟨1,1,Nc,DA⟩
def Nb(v:C):ao:=⟨1,1,1,aR,1,⟨1,v⟩,⟨0,aq⟩,⟨0,aq⟩,0,0⟩
def Ri(v:C):aL:=⟨2,1,mB,(Nb v)⟩
def Na(v:C):aA:=⟨2,1,aR,[v],[]⟩
def Rh(v:C):aL:=⟨1,1,(Na v),DA⟩
def M9(v:C):ao:=⟨2,1,1,aR,1,⟨1,v⟩,⟨0,aq⟩,⟨0,aq⟩,0,0⟩
def Rg(v:C):aL:=⟨2,1,mB,(M9 v)⟩
def M8(v:C):aA:=⟨0,2,aR,[v],[v]⟩
def Dz(v:C):aL:=⟨1,1,(M8 v),DA⟩
def M7(v:C):ao:=⟨0,1,2,aR,1,⟨1,v⟩,⟨1,v⟩,⟨0,aq⟩,0,0⟩
def Rf(v:C):aL:=⟨2,1,mB,(M7 v)⟩
def M6(v:C):aA:=⟨1,2,aR,[v],[v]⟩
def Dy(v:C):aL:=⟨1,1,(M6 v),DA⟩
def M5(v:C):ao:=⟨1,1,2,aR,1,⟨1,v⟩,⟨1,v⟩,⟨0,aq⟩,0,0⟩
def Re(v:C):aL:=⟨2,1,mB,(M5 v)⟩
def M4(v:C):aA:=⟨2,2,aR,[v],[v]⟩
def Dx(v:C):aL:=⟨1,1,(M4 v),DA⟩
def M3(v:C):ao:=⟨2,1,2,aR,1,⟨1,v⟩,⟨1,v⟩,⟨0,aq⟩,0,0⟩
def Rc(v:C):aL:=⟨2,1,mB,(M3 v)⟩
def ui(v:C):aD:=⟨0,1,2,2,aR,v,[v],[v],[v],[(M6 v),(M4 v)]⟩
def uh(v:C):aD:=⟨1,1,2,2,aR,v,[v],[v],[v],[(M8 v),(M4 v)]⟩
def ug(v:C):aD:=⟨2,1,2,2,aR,v,[v],[v],[v],[(M8 v),(M6 v)]⟩
def M1(v:C):ao:=⟨0,1,3,aR,1,⟨1,v⟩,⟨1,v⟩,⟨0,aq⟩,1,1⟩
def Rb(v:C):aL:=⟨2,1,mB,(M1 v)⟩
def MZ(v:C):ao:=⟨1,1,3,aR,1,⟨1,v⟩,⟨1,v⟩,⟨0,aq⟩,1,1⟩
def Ra(v:C):aL:=⟨2,1,mB,(MZ v)⟩
def MY(v:C):ao:=⟨2,1,3,aR,1,⟨1,v⟩,⟨1,v⟩,⟨0,aq⟩,1,1⟩
def P9(v:C):aL:=⟨2,1,mB,(MY v)⟩
def MW(v:C):ao:=⟨0,1,5,aR,2,⟨2,v⟩,⟨1,v⟩,⟨0,aq⟩,1,1⟩
def P8(v:C):aL:=⟨2,1,mB,(MW v)⟩
def MV(v:C):ao:=⟨1,1,5,aR,2,⟨2,v⟩,⟨1,v⟩,⟨0,aq⟩,1,1⟩
def P7(v:C):aL:=⟨2,1,mB,(MV v)⟩
def MU(v:C):ao:=⟨2,1,5,aR,2,⟨2,v⟩,⟨1,v⟩,⟨0,aq⟩,1,1⟩
def P6(v:C):aL:=⟨2,1,mB,(MU v)⟩
def mA(v:C):ao:=⟨0,1,6,aR,3,⟨1,v⟩,⟨0,aq⟩,⟨0,aq⟩,1,1⟩
def lv(v:C):aL:=⟨2,1,mB,(mA v)⟩
def mz(v:C):ao:=⟨1,1,6,aR,3,⟨1,v⟩,⟨0,aq⟩,⟨0,aq⟩,1,1⟩
def lu(v:C):aL:=⟨2,1,mB,(mz v)⟩
def my(v:C):ao:=⟨2,1,6,aR,3,⟨1,v⟩,⟨0,aq⟩,⟨0,aq⟩,1,1⟩
def lq(v:C):aL:=⟨2,1,mB,(my v)⟩
def P5(v:C):aD:=⟨0,1,1,1,aB,v,[],[],[],[]⟩
def P4(v:C):aW:=⟨0,1,1,aB,1,⟨1,v⟩,⟨0,aq⟩,⟨0,aq⟩,⟨0,aq⟩,0,0,v,[]⟩
def P3(v:C):aD:=⟨1,1,1,1,aB,v,[],[],[],[]⟩
def P2(v:C):aW:=⟨1,1,1,aB,1,⟨1,v⟩,⟨0,aq⟩,⟨0,aq⟩,⟨0,aq⟩,0,0,v,[]⟩
def P1(v:C):aD:=⟨2,1,1,1,aB,v,[],[],[],[]⟩
def P0(v:C):aW:=⟨2,1,1,aB,1,⟨1,v⟩,⟨0,aq⟩,⟨0,aq⟩,⟨0,aq⟩,0,0,v,[]⟩
def PZ(v:C):aD:=⟨3,1,1,1,aB,v,[v],[],[],[]⟩
def PY(v:C):aW:=⟨3,1,1,aB,1,⟨1,v⟩,⟨0,aq⟩,⟨0,aq⟩,⟨0,aq⟩,0,0,v,[]⟩
def I8:aA:=⟨0,1,aB,[],[]⟩
def so:ao:=⟨0,0,0,Hd,0,⟨0,aq⟩,⟨0,aq⟩,⟨0,aq⟩,0,0⟩
def MT:aL:=⟨1,1,I8,so⟩
def iB:aA:=⟨0,0,Hd,[],[]⟩
def I7(v:C):ao:=⟨0,1,1,aB,1,⟨1,v⟩,⟨0,aq⟩,⟨0,aq⟩,0,0⟩
def MS(v:C):aL:=⟨2,1,iB,(I7 v)⟩
def I6:aA:=⟨1,1,aB,[],[]⟩
def MR:aL:=⟨1,1,I6,so⟩
def I5(v:C):ao:=⟨1,1,1,aB,1,⟨1,v⟩,⟨0,aq⟩,⟨0,aq⟩,0,0⟩
def KJ(v:C):aL:=⟨2,1,iB,(I5 v)⟩
def Hc:aA:=⟨2,1,aB,[],[]⟩
def KI:aL:=⟨1,1,Hc,so⟩
def Hb(v:C):ao:=⟨2,1,1,aB,1,⟨1,v⟩,⟨0,aq⟩,⟨0,aq⟩,0,0⟩
def KH(v:C):aL:=⟨2,1,iB,(Hb v)⟩
def xB(v:C):aA:=⟨3,1,aB,[v],[]⟩
def Am(v:C):aL:=⟨1,1,(xB v),so⟩
def Ha(v:C):ao:=⟨3,1,1,aB,1,⟨1,v⟩,⟨0,aq⟩,⟨0,aq⟩,0,0⟩
def KG(v:C):aL:=⟨2,1,iB,(Ha v)⟩
def G9(v:C):aA:=⟨0,2,aB,[v],[]⟩
def KF(v:C):aL:=⟨1,1,(G9 v),so⟩
def G8(v:C):ao:=⟨0,1,2,aB,1,⟨1,v⟩,⟨1,v⟩,⟨0,aq⟩,0,0⟩
def KE(v:C):aL:=⟨2,1,iB,(G8 v)⟩
def G7(v:C):aA:=⟨1,2,aB,[v],[]⟩
def KD(v:C):aL:=⟨1,1,(G7 v),so⟩
def G6(v:C):ao:=⟨1,1,2,aB,1,⟨1,v⟩,⟨1,v⟩,⟨0,aq⟩,0,0⟩
def KC(v:C):aL:=⟨2,1,iB,(G6 v)⟩
def G5(v:C):aA:=⟨2,2,aB,[v],[]⟩
def KB(v:C):aL:=⟨1,1,(G5 v),so⟩
def G4(v:C):ao:=⟨2,1,2,aB,1,⟨1,v⟩,⟨1,v⟩,⟨0,aq⟩,0,0⟩
def KA(v:C):aL:=⟨2,1,iB,(G4 v)⟩
def G3(v:C):ao:=⟨3,1,2,aB,1,⟨1,v⟩,⟨1,v⟩,⟨0,aq⟩,0,0⟩
def Kz(v:C):aL:=⟨2,1,iB,(G3 v)⟩
def G2(v:C):aA:=⟨0,3,aB,[v],[v]⟩
def Al(v:C):aL:=⟨1,1,(G2 v),so⟩
def G1(v:C):ao:=⟨0,1,3,aB,1,⟨1,v⟩,⟨1,v⟩,⟨0,aq⟩,1,1⟩
def Ky(v:C):aL:=⟨2,1,iB,(G1 v)⟩
def G0(v:C):aA:=⟨1,3,aB,[v],[v]⟩
def Ak(v:C):aL:=⟨1,1,(G0 v),so⟩
def GZ(v:C):ao:=⟨1,1,3,aB,1,⟨1,v⟩,⟨1,v⟩,⟨0,aq⟩,1,1⟩
def Kx(v:C):aL:=⟨2,1,iB,(GZ v)⟩
def GY(v:C):aA:=⟨2,3,aB,[v],[v]⟩
def Aj(v:C):aL:=⟨1,1,(GY v),so⟩
def GX(v:C):ao:=⟨2,1,3,aB,1,⟨1,v⟩,⟨1,v⟩,⟨0,aq⟩,1,1⟩
def Kw(v:C):aL:=⟨2,1,iB,(GX v)⟩
def GW(v:C):aA:=⟨3,2,aB,[v],[v]⟩
def Ai(v:C):aL:=⟨1,1,(GW v),so⟩
def GV(v:C):ao:=⟨3,1,3,aB,1,⟨1,v⟩,⟨1,v⟩,⟨0,aq⟩,1,1⟩
def Kv(v:C):aL:=⟨2,1,iB,(GV v)⟩
def sv(v:C):aD:=⟨0,1,2,3,aB,v,[v],[v],[v],[(G0 v),(GY v),(GW v)]⟩
def su(v:C):aD:=⟨1,1,2,3,aB,v,[v],[v],[v],[(G2 v),(GY v),(GW v)]⟩
def ss(v:C):aD:=⟨2,1,2,3,aB,v,[v],[v],[v],[(G2 v),(G0 v),(GW v)]⟩
def sq(v:C):aD:=⟨3,1,2,2,aB,v,[v],[v],[v],[(G2 v),(G0 v),(GY v)]⟩
def GU(v:C):ao:=⟨0,1,5,aB,2,⟨2,v⟩,⟨1,v⟩,⟨0,aq⟩,1,1⟩
def Ku(v:C):aL:=⟨2,1,iB,(GU v)⟩
def GS(v:C):ao:=⟨1,1,5,aB,2,⟨2,v⟩,⟨1,v⟩,⟨0,aq⟩,1,1⟩
def Kt(v:C):aL:=⟨2,1,iB,(GS v)⟩
def GR(v:C):ao:=⟨2,1,5,aB,2,⟨2,v⟩,⟨1,v⟩,⟨0,aq⟩,1,1⟩
def Ks(v:C):aL:=⟨2,1,iB,(GR v)⟩
def GQ(v:C):ao:=⟨3,1,5,aB,2,⟨2,v⟩,⟨1,v⟩,⟨0,aq⟩,1,1⟩
def Kr(v:C):aL:=⟨2,1,iB,(GQ v)⟩
def fj(v:C):ao:=⟨0,1,6,aB,3,⟨1,v⟩,⟨0,aq⟩,⟨0,aq⟩,1,1⟩
def eJ(v:C):aL:=⟨2,1,iB,(fj v)⟩
def fh(v:C):ao:=⟨1,1,6,aB,3,⟨1,v⟩,⟨0,aq⟩,⟨0,aq⟩,1,1⟩
def eI(v:C):aL:=⟨2,1,iB,(fh v)⟩
def fg(v:C):ao:=⟨2,1,6,aB,3,⟨1,v⟩,⟨0,aq⟩,⟨0,aq⟩,1,1⟩
def eH(v:C):aL:=⟨2,1,iB,(fg v)⟩
def ff(v:C):ao:=⟨3,1,6,aB,3,⟨1,v⟩,⟨0,aq⟩,⟨0,aq⟩,1,1⟩
def eG(v:C):aL:=⟨2,1,iB,(ff v)⟩
def Pc(v:C):aH:=⟨0,[⟨0,false,fX,[⟨(agq0 v),(tM v),⟨0,(-1)⟩,1,2,true,v⟩]⟩],0,⟨[],0,[],[]⟩,[[fX]]⟩
def UH(v:C):aH:=⟨1,[⟨0,false,fX,[⟨(agq0 v),(tM v),⟨1,(-1)⟩,1,2,true,v⟩]⟩],0,⟨[],0,[],[]⟩,[[fX]]⟩
def UG(v:C):aH:=⟨2,[⟨0,false,fX,[⟨(agq0 v),(tM v),⟨1,(-1)⟩,1,2,true,v⟩]⟩],0,⟨[],0,[],[]⟩,[[fX]]⟩
def UF(v:C):aH:=⟨3,[⟨0,false,fX,[⟨(agq0 v),(tM v),⟨1,(-1)⟩,1,2,true,v⟩]⟩],0,⟨[],0,[],[]⟩,[[fX]]⟩
def UE(v:C):aH:=⟨4,[⟨0,false,fX,[⟨(agq0 v),(tM v),⟨1,(-1)⟩,1,2,true,v⟩]⟩],0,⟨[],0,[],[]⟩,[[fX]]⟩
def UD(v:C):aH:=⟨5,[⟨0,false,fX,[⟨(agq0 v),(tM v),⟨1,(-1)⟩,1,2,true,v⟩]⟩],0,⟨[],0,[],[]⟩,[[fX]]⟩
def UC(v:C):aH:=⟨6,[⟨0,false,fX,[⟨(agq0 v),(tM v),⟨1,(-1)⟩,1,2,true,v⟩]⟩],0,⟨[],0,[],[]⟩,[[fX]]⟩
def UB(v:C):aH:=⟨7,[⟨0,false,fX,[⟨(agq0 v),(tM v),⟨1,(-1)⟩,1,2,true,v⟩]⟩],0,⟨[],0,[],[]⟩,[[fX]]⟩
def UA(v:C):aH:=⟨8,[⟨0,false,fX,[⟨(agq0 v),(tM v),⟨1,(-1)⟩,1,2,true,v⟩]⟩],0,⟨[],0,[],[]⟩,[[fX]]⟩
def Uz(v:C):aH:=⟨9,[⟨0,false,fX,[⟨(agq0 v),(tM v),⟨1,(-1)⟩,1,2,true,v⟩]⟩],0,⟨[],0,[],[]⟩,[[fX]]⟩
def RP(v:C):aH:=⟨10,[⟨0,false,fX,[⟨(agq0 v),(tM v),⟨1,(-1)⟩,1,2,true,v⟩]⟩],0,⟨[],0,[],[]⟩,[[fX]]⟩
def RO(v:C):aH:=⟨11,[⟨0,false,fX,[⟨(agq0 v),(tM v),⟨1,(-1)⟩,1,2,true,v⟩]⟩],0,⟨[],0,[],[]⟩,[[fX]]⟩
def Hg(v:C):aH:=⟨12,[⟨0,false,fX,[⟨(agq0 v),(tM v),⟨1,(-1)⟩,1,2,true,v⟩]⟩],0,⟨[],0,[],[]⟩,[[fX]]⟩
def Pb(v:C):aH:=⟨0,[⟨0,false,bg,[⟨(T6 v),(T5 v),⟨0,(-1)⟩,1,2,false,aq⟩]⟩,⟨1,false,bg,[⟨(T4 v),(T1 v),⟨0,(-1)⟩,1,2,false,aq⟩]⟩],0,⟨[],0,[],[]⟩,[[bg],[bg]]⟩
def Uy(v:C):aH:=⟨1,[⟨0,false,bg,[⟨(T6 v),(T5 v),⟨1,(-1)⟩,1,2,false,aq⟩]⟩,⟨1,false,bg,[⟨(T4 v),(T1 v),⟨1,(-1)⟩,1,2,false,aq⟩]⟩],0,⟨[⟨2,0,1,0,(TZ v)⟩,⟨2,0,1,1,⟨2,1,zw,(RE v)⟩⟩,⟨2,1,0,2,⟨1,1,RD,MX⟩⟩,⟨2,1,0,3,⟨2,1,zw,(RC v)⟩⟩],4,[],[]⟩,[[bg],[bg]]⟩
def Ux(v:C):aH:=⟨2,[⟨0,false,bg,[⟨⟨0,1,2,1,bg,v,[v],[],[],[RD]⟩,⟨0,1,2,bg,1,⟨1,v⟩,⟨1,v⟩,⟨0,aq⟩,⟨0,aq⟩,0,0,v,[(RC v)]⟩,⟨1,4⟩,2,5,false,aq⟩]⟩,⟨1,false,bg,[⟨(RB v),⟨1,1,2,bg,1,⟨1,v⟩,⟨1,v⟩,⟨0,aq⟩,⟨0,aq⟩,0,0,v,[(RE v)]⟩,⟨1,4⟩,2,5,false,aq⟩]⟩],0,⟨[⟨3,0,1,4,(TZ v)⟩,⟨3,0,1,5,⟨2,1,zw,(RA v)⟩⟩,⟨3,1,0,6,(Ng v)⟩,⟨3,1,0,7,⟨2,1,zw,(Ry v)⟩⟩],8,[],[]⟩,[[bg],[bg]]⟩
def Uw(v:C):aH:=⟨3,[⟨0,false,bg,[⟨(uj v),⟨0,1,3,bg,1,⟨1,v⟩,⟨1,v⟩,⟨0,aq⟩,⟨1,v⟩,1,0,v,[(Ry v)]⟩,⟨1,4⟩,2,5,false,aq⟩]⟩,⟨1,false,bg,[⟨(RB v),⟨1,1,3,bg,1,⟨1,v⟩,⟨1,v⟩,⟨0,aq⟩,⟨1,v⟩,1,0,v,[(RA v)]⟩,⟨1,4⟩,2,5,false,aq⟩]⟩],0,⟨[⟨4,0,1,8,(Rw v)⟩,⟨4,0,1,9,⟨2,1,zw,(Rv v)⟩⟩,⟨4,1,0,10,(Ng v)⟩,⟨4,1,0,11,⟨2,1,zw,(Ru v)⟩⟩],12,[],[]⟩,[[bg],[bg]]⟩
def Uv(v:C):aH:=⟨4,[⟨0,false,bg,[⟨(uj v),⟨0,1,5,bg,2,⟨2,v⟩,⟨1,v⟩,⟨0,aq⟩,⟨1,v⟩,1,1,v,[(Ru v)]⟩,⟨1,(-1)⟩,2,5,false,aq⟩]⟩,⟨1,false,bg,[⟨(wJ v),⟨1,1,5,bg,2,⟨2,v⟩,⟨1,v⟩,⟨0,aq⟩,⟨1,v⟩,1,1,v,[(Rv v)]⟩,⟨1,(-1)⟩,2,5,false,aq⟩]⟩],0,⟨[⟨5,0,1,12,(Rw v)⟩,⟨5,0,1,13,⟨2,1,zw,(Rt v)⟩⟩,⟨5,1,0,14,(Ng v)⟩,⟨5,1,0,15,⟨2,1,zw,(Rs v)⟩⟩],16,[],[]⟩,[[bg],[bg]]⟩
def Uu(v:C):aH:=⟨5,[⟨0,false,bg,[⟨(uj v),⟨0,1,6,bg,3,⟨1,v⟩,⟨0,aq⟩,⟨0,aq⟩,⟨0,aq⟩,1,1,v,[(Rs v)]⟩,⟨1,(-1)⟩,2,5,true,v⟩]⟩,⟨1,false,bg,[⟨(wJ v),⟨1,1,6,bg,3,⟨1,v⟩,⟨0,aq⟩,⟨0,aq⟩,⟨0,aq⟩,1,1,v,[(Rt v)]⟩,⟨1,(-1)⟩,2,5,true,v⟩]⟩],0,⟨[⟨6,0,1,16,(yy v)⟩,⟨6,1,0,17,(yw v)⟩],18,[],[]⟩,[[bg],[bg]]⟩
def Ut(v:C):aH:=⟨6,[⟨0,false,bg,[⟨(uj v),⟨0,1,6,bg,3,⟨1,v⟩,⟨0,aq⟩,⟨0,aq⟩,⟨0,aq⟩,1,1,v,[(yx v)]⟩,⟨1,(-1)⟩,2,5,true,v⟩]⟩,⟨1,false,bg,[⟨(wJ v),⟨1,1,6,bg,3,⟨1,v⟩,⟨0,aq⟩,⟨0,aq⟩,⟨0,aq⟩,1,1,v,[(yz v)]⟩,⟨1,(-1)⟩,2,5,true,v⟩]⟩],0,⟨[⟨7,0,1,18,(yy v)⟩,⟨7,1,0,19,(yw v)⟩],20,[],[]⟩,[[bg],[bg]]⟩
def Us(v:C):aH:=⟨7,[⟨0,false,bg,[⟨(uj v),⟨0,1,6,bg,3,⟨1,v⟩,⟨0,aq⟩,⟨0,aq⟩,⟨0,aq⟩,1,1,v,[(yx v)]⟩,⟨1,(-1)⟩,2,5,true,v⟩]⟩,⟨1,false,bg,[⟨(wJ v),⟨1,1,6,bg,3,⟨1,v⟩,⟨0,aq⟩,⟨0,aq⟩,⟨0,aq⟩,1,1,v,[(yz v)]⟩,⟨1,(-1)⟩,2,5,true,v⟩]⟩],0,⟨[⟨8,0,1,20,(yy v)⟩,⟨8,1,0,21,(yw v)⟩],22,[],[]⟩,[[bg],[bg]]⟩
def Ur(v:C):aH:=⟨8,[⟨0,false,bg,[⟨(uj v),⟨0,1,6,bg,3,⟨1,v⟩,⟨0,aq⟩,⟨0,aq⟩,⟨0,aq⟩,1,1,v,[(yx v)]⟩,⟨1,(-1)⟩,2,5,true,v⟩]⟩,⟨1,false,bg,[⟨(wJ v),⟨1,1,6,bg,3,⟨1,v⟩,⟨0,aq⟩,⟨0,aq⟩,⟨0,aq⟩,1,1,v,[(yz v)]⟩,⟨1,(-1)⟩,2,5,true,v⟩]⟩],0,⟨[⟨9,0,1,22,(yy v)⟩,⟨9,1,0,23,(yw v)⟩],24,[],[]⟩,[[bg],[bg]]⟩
def Uq(v:C):aH:=⟨9,[⟨0,false,bg,[⟨(uj v),⟨0,1,6,bg,3,⟨1,v⟩,⟨0,aq⟩,⟨0,aq⟩,⟨0,aq⟩,1,1,v,[(yx v)]⟩,⟨1,(-1)⟩,2,5,true,v⟩]⟩,⟨1,false,bg,[⟨(wJ v),⟨1,1,6,bg,3,⟨1,v⟩,⟨0,aq⟩,⟨0,aq⟩,⟨0,aq⟩,1,1,v,[(yz v)]⟩,⟨1,(-1)⟩,2,5,true,v⟩]⟩],0,⟨[⟨10,0,1,24,(yy v)⟩,⟨10,1,0,25,(yw v)⟩],26,[],[]⟩,[[bg],[bg]]⟩
def RM(v:C):aH:=⟨10,[⟨0,false,bg,[⟨(uj v),⟨0,1,6,bg,3,⟨1,v⟩,⟨0,aq⟩,⟨0,aq⟩,⟨0,aq⟩,1,1,v,[(yx v)]⟩,⟨1,(-1)⟩,2,5,true,v⟩]⟩,⟨1,false,bg,[⟨(wJ v),⟨1,1,6,bg,3,⟨1,v⟩,⟨0,aq⟩,⟨0,aq⟩,⟨0,aq⟩,1,1,v,[(yz v)]⟩,⟨1,(-1)⟩,2,5,true,v⟩]⟩],0,⟨[⟨11,0,1,26,(yy v)⟩,⟨11,1,0,27,(yw v)⟩],28,[],[]⟩,[[bg],[bg]]⟩
def RL(v:C):aH:=⟨11,[⟨0,false,bg,[⟨(uj v),⟨0,1,6,bg,3,⟨1,v⟩,⟨0,aq⟩,⟨0,aq⟩,⟨0,aq⟩,1,1,v,[(yx v)]⟩,⟨1,(-1)⟩,2,5,true,v⟩]⟩,⟨1,false,bg,[⟨(wJ v),⟨1,1,6,bg,3,⟨1,v⟩,⟨0,aq⟩,⟨0,aq⟩,⟨0,aq⟩,1,1,v,[(yz v)]⟩,⟨1,(-1)⟩,2,5,true,v⟩]⟩],0,⟨[⟨12,0,1,28,(yy v)⟩,⟨12,1,0,29,(yw v)⟩],30,[],[]⟩,[[bg],[bg]]⟩
def Hf(v:C):aH:=⟨12,[⟨0,false,bg,[⟨(uj v),⟨0,1,6,bg,3,⟨1,v⟩,⟨0,aq⟩,⟨0,aq⟩,⟨0,aq⟩,1,1,v,[(yx v)]⟩,⟨1,(-1)⟩,2,5,true,v⟩]⟩,⟨1,false,bg,[⟨(wJ v),⟨1,1,6,bg,3,⟨1,v⟩,⟨0,aq⟩,⟨0,aq⟩,⟨0,aq⟩,1,1,v,[(yz v)]⟩,⟨1,(-1)⟩,2,5,true,v⟩]⟩],0,⟨[⟨13,0,1,30,(yy v)⟩,⟨13,1,0,31,(yw v)⟩],32,[],[]⟩,[[bg],[bg]]⟩
def O9(v:C):aH:=⟨0,[⟨0,false,aR,[⟨(Rr v),(Rq v),⟨0,(-1)⟩,1,2,false,aq⟩]⟩,⟨1,false,aR,[⟨(Rp v),(Ro v),⟨0,(-1)⟩,1,2,false,aq⟩]⟩,⟨2,false,aR,[⟨(Rn v),(Rm v),⟨0,(-1)⟩,1,2,false,aq⟩]⟩],0,⟨[],0,[],[]⟩,[[aR],[aR],[aR]]⟩
def Up(v:C):aH:=⟨1,[⟨0,false,aR,[⟨(Rr v),(Rq v),⟨1,(-1)⟩,1,2,false,aq⟩]⟩,⟨1,false,aR,[⟨(Rp v),(Ro v),⟨1,(-1)⟩,1,2,false,aq⟩]⟩,⟨2,false,aR,[⟨(Rn v),(Rm v),⟨1,(-1)⟩,1,2,false,aq⟩]⟩],0,⟨[⟨2,0,1,0,(Rl v)⟩,⟨2,0,1,2,(Rk v)⟩,⟨2,0,2,1,(Rl v)⟩,⟨2,0,2,3,(Rk v)⟩,⟨2,1,0,4,Rj⟩,⟨2,1,0,6,(Ri v)⟩,⟨2,1,2,5,Rj⟩,⟨2,1,2,7,(Ri v)⟩,⟨2,2,0,8,(Rh v)⟩,⟨2,2,0,10,(Rg v)⟩,⟨2,2,1,9,(Rh v)⟩,⟨2,2,1,11,(Rg v)⟩],12,[],[]⟩,[[aR],[aR],[aR]]⟩
def Uo(v:C):aH:=⟨2,[⟨0,false,aR,[⟨⟨0,1,2,2,aR,v,[v],[v],[],[Nc,(Na v)]⟩,⟨0,1,2,aR,1,⟨1,v⟩,⟨1,v⟩,⟨0,aq⟩,⟨0,aq⟩,0,0,v,[(Nb v),(M9 v)]⟩,⟨1,4⟩,2,5,false,aq⟩]⟩,⟨1,false,aR,[⟨⟨1,1,2,2,aR,v,[v],[v],[],[(Nf v),(Na v)]⟩,⟨1,1,2,aR,1,⟨1,v⟩,⟨1,v⟩,⟨0,aq⟩,⟨0,aq⟩,0,0,v,[(Nd v),(M9 v)]⟩,⟨1,4⟩,2,5,false,aq⟩]⟩,⟨2,false,aR,[⟨⟨2,1,2,2,aR,v,[v],[v],[],[(Nf v),Nc]⟩,⟨2,1,2,aR,1,⟨1,v⟩,⟨1,v⟩,⟨0,aq⟩,⟨0,aq⟩,0,0,v,[(Nd v),(Nb v)]⟩,⟨1,4⟩,2,5,false,aq⟩]⟩],0,⟨[⟨3,0,1,12,(Dz v)⟩,⟨3,0,1,14,(Rf v)⟩,⟨3,0,2,13,(Dz v)⟩,⟨3,0,2,15,(Rf v)⟩,⟨3,1,0,16,(Dy v)⟩,⟨3,1,0,18,(Re v)⟩,⟨3,1,2,17,(Dy v)⟩,⟨3,1,2,19,(Re v)⟩,⟨3,2,0,20,(Dx v)⟩,⟨3,2,0,22,(Rc v)⟩,⟨3,2,1,21,(Dx v)⟩,⟨3,2,1,23,(Rc v)⟩],24,[],[]⟩,[[aR],[aR],[aR]]⟩
def Un(v:C):aH:=⟨3,[⟨0,false,aR,[⟨(ui v),⟨0,1,3,aR,1,⟨1,v⟩,⟨1,v⟩,⟨0,aq⟩,⟨1,v⟩,1,0,v,[(M5 v),(M3 v)]⟩,⟨1,4⟩,2,5,false,aq⟩]⟩,⟨1,false,aR,[⟨(uh v),⟨1,1,3,aR,1,⟨1,v⟩,⟨1,v⟩,⟨0,aq⟩,⟨1,v⟩,1,0,v,[(M7 v),(M3 v)]⟩,⟨1,4⟩,2,5,false,aq⟩]⟩,⟨2,false,aR,[⟨(ug v),⟨2,1,3,aR,1,⟨1,v⟩,⟨1,v⟩,⟨0,aq⟩,⟨1,v⟩,1,0,v,[(M7 v),(M5 v)]⟩,⟨1,4⟩,2,5,false,aq⟩]⟩],0,⟨[⟨4,0,1,24,(Dz v)⟩,⟨4,0,1,26,(Rb v)⟩,⟨4,0,2,25,(Dz v)⟩,⟨4,0,2,27,(Rb v)⟩,⟨4,1,0,28,(Dy v)⟩,⟨4,1,0,30,(Ra v)⟩,⟨4,1,2,29,(Dy v)⟩,⟨4,1,2,31,(Ra v)⟩,⟨4,2,0,32,(Dx v)⟩,⟨4,2,0,34,(P9 v)⟩,⟨4,2,1,33,(Dx v)⟩,⟨4,2,1,35,(P9 v)⟩],36,[],[]⟩,[[aR],[aR],[aR]]⟩
def Um(v:C):aH:=⟨4,[⟨0,false,aR,[⟨(ui v),⟨0,1,5,aR,2,⟨2,v⟩,⟨1,v⟩,⟨0,aq⟩,⟨1,v⟩,1,1,v,[(MZ v),(MY v)]⟩,⟨1,(-1)⟩,2,5,false,aq⟩]⟩,⟨1,false,aR,[⟨(uh v),⟨1,1,5,aR,2,⟨2,v⟩,⟨1,v⟩,⟨0,aq⟩,⟨1,v⟩,1,1,v,[(M1 v),(MY v)]⟩,⟨1,(-1)⟩,2,5,false,aq⟩]⟩,⟨2,false,aR,[⟨(ug v),⟨2,1,5,aR,2,⟨2,v⟩,⟨1,v⟩,⟨0,aq⟩,⟨1,v⟩,1,1,v,[(M1 v),(MZ v)]⟩,⟨1,(-1)⟩,2,5,false,aq⟩]⟩],0,⟨[⟨5,0,1,36,(Dz v)⟩,⟨5,0,1,38,(P8 v)⟩,⟨5,0,2,37,(Dz v)⟩,⟨5,0,2,39,(P8 v)⟩,⟨5,1,0,40,(Dy v)⟩,⟨5,1,0,42,(P7 v)⟩,⟨5,1,2,41,(Dy v)⟩,⟨5,1,2,43,(P7 v)⟩,⟨5,2,0,44,(Dx v)⟩,⟨5,2,0,46,(P6 v)⟩,⟨5,2,1,45,(Dx v)⟩,⟨5,2,1,47,(P6 v)⟩],48,[],[]⟩,[[aR],[aR],[aR]]⟩
def Ul(v:C):aH:=⟨5,[⟨0,false,aR,[⟨(ui v),⟨0,1,6,aR,3,⟨1,v⟩,⟨0,aq⟩,⟨0,aq⟩,⟨0,aq⟩,1,1,v,[(MV v),(MU v)]⟩,⟨1,(-1)⟩,2,5,true,v⟩]⟩,⟨1,false,aR,[⟨(uh v),⟨1,1,6,aR,3,⟨1,v⟩,⟨0,aq⟩,⟨0,aq⟩,⟨0,aq⟩,1,1,v,[(MW v),(MU v)]⟩,⟨1,(-1)⟩,2,5,true,v⟩]⟩,⟨2,false,aR,[⟨(ug v),⟨2,1,6,aR,3,⟨1,v⟩,⟨0,aq⟩,⟨0,aq⟩,⟨0,aq⟩,1,1,v,[(MW v),(MV v)]⟩,⟨1,(-1)⟩,2,5,true,v⟩]⟩],0,⟨[⟨6,0,1,48,(lv v)⟩,⟨6,0,2,49,(lv v)⟩,⟨6,1,0,50,(lu v)⟩,⟨6,1,2,51,(lu v)⟩,⟨6,2,0,52,(lq v)⟩,⟨6,2,1,53,(lq v)⟩],54,[],[]⟩,[[aR],[aR],[aR]]⟩
def Uk(v:C):aH:=⟨6,[⟨0,false,aR,[⟨(ui v),⟨0,1,6,aR,3,⟨1,v⟩,⟨0,aq⟩,⟨0,aq⟩,⟨0,aq⟩,1,1,v,[(mz v),(my v)]⟩,⟨1,(-1)⟩,2,5,true,v⟩]⟩,⟨1,false,aR,[⟨(uh v),⟨1,1,6,aR,3,⟨1,v⟩,⟨0,aq⟩,⟨0,aq⟩,⟨0,aq⟩,1,1,v,[(mA v),(my v)]⟩,⟨1,(-1)⟩,2,5,true,v⟩]⟩,⟨2,false,aR,[⟨(ug v),⟨2,1,6,aR,3,⟨1,v⟩,⟨0,aq⟩,⟨0,aq⟩,⟨0,aq⟩,1,1,v,[(mA v),(mz v)]⟩,⟨1,(-1)⟩,2,5,true,v⟩]⟩],0,⟨[⟨7,0,1,54,(lv v)⟩,⟨7,0,2,55,(lv v)⟩,⟨7,1,0,56,(lu v)⟩,⟨7,1,2,57,(lu v)⟩,⟨7,2,0,58,(lq v)⟩,⟨7,2,1,59,(lq v)⟩],60,[],[]⟩,[[aR],[aR],[aR]]⟩
def Uj(v:C):aH:=⟨7,[⟨0,false,aR,[⟨(ui v),⟨0,1,6,aR,3,⟨1,v⟩,⟨0,aq⟩,⟨0,aq⟩,⟨0,aq⟩,1,1,v,[(mz v),(my v)]⟩,⟨1,(-1)⟩,2,5,true,v⟩]⟩,⟨1,false,aR,[⟨(uh v),⟨1,1,6,aR,3,⟨1,v⟩,⟨0,aq⟩,⟨0,aq⟩,⟨0,aq⟩,1,1,v,[(mA v),(my v)]⟩,⟨1,(-1)⟩,2,5,true,v⟩]⟩,⟨2,false,aR,[⟨(ug v),⟨2,1,6,aR,3,⟨1,v⟩,⟨0,aq⟩,⟨0,aq⟩,⟨0,aq⟩,1,1,v,[(mA v),(mz v)]⟩,⟨1,(-1)⟩,2,5,true,v⟩]⟩],0,⟨[⟨8,0,1,60,(lv v)⟩,⟨8,0,2,61,(lv v)⟩,⟨8,1,0,62,(lu v)⟩,⟨8,1,2,63,(lu v)⟩,⟨8,2,0,64,(lq v)⟩,⟨8,2,1,65,(lq v)⟩],66,[],[]⟩,[[aR],[aR],[aR]]⟩
def Ui(v:C):aH:=⟨8,[⟨0,false,aR,[⟨(ui v),⟨0,1,6,aR,3,⟨1,v⟩,⟨0,aq⟩,⟨0,aq⟩,⟨0,aq⟩,1,1,v,[(mz v),(my v)]⟩,⟨1,(-1)⟩,2,5,true,v⟩]⟩,⟨1,false,aR,[⟨(uh v),⟨1,1,6,aR,3,⟨1,v⟩,⟨0,aq⟩,⟨0,aq⟩,⟨0,aq⟩,1,1,v,[(mA v),(my v)]⟩,⟨1,(-1)⟩,2,5,true,v⟩]⟩,⟨2,false,aR,[⟨(ug v),⟨2,1,6,aR,3,⟨1,v⟩,⟨0,aq⟩,⟨0,aq⟩,⟨0,aq⟩,1,1,v,[(mA v),(mz v)]⟩,⟨1,(-1)⟩,2,5,true,v⟩]⟩],0,⟨[⟨9,0,1,66,(lv v)⟩,⟨9,0,2,67,(lv v)⟩,⟨9,1,0,68,(lu v)⟩,⟨9,1,2,69,(lu v)⟩,⟨9,2,0,70,(lq v)⟩,⟨9,2,1,71,(lq v)⟩],72,[],[]⟩,[[aR],[aR],[aR]]⟩
def Uh(v:C):aH:=⟨9,[⟨0,false,aR,[⟨(ui v),⟨0,1,6,aR,3,⟨1,v⟩,⟨0,aq⟩,⟨0,aq⟩,⟨0,aq⟩,1,1,v,[(mz v),(my v)]⟩,⟨1,(-1)⟩,2,5,true,v⟩]⟩,⟨1,false,aR,[⟨(uh v),⟨1,1,6,aR,3,⟨1,v⟩,⟨0,aq⟩,⟨0,aq⟩,⟨0,aq⟩,1,1,v,[(mA v),(my v)]⟩,⟨1,(-1)⟩,2,5,true,v⟩]⟩,⟨2,false,aR,[⟨(ug v),⟨2,1,6,aR,3,⟨1,v⟩,⟨0,aq⟩,⟨0,aq⟩,⟨0,aq⟩,1,1,v,[(mA v),(mz v)]⟩,⟨1,(-1)⟩,2,5,true,v⟩]⟩],0,⟨[⟨10,0,1,72,(lv v)⟩,⟨10,0,2,73,(lv v)⟩,⟨10,1,0,74,(lu v)⟩,⟨10,1,2,75,(lu v)⟩,⟨10,2,0,76,(lq v)⟩,⟨10,2,1,77,(lq v)⟩],78,[],[]⟩,[[aR],[aR],[aR]]⟩
def RJ(v:C):aH:=⟨10,[⟨0,false,aR,[⟨(ui v),⟨0,1,6,aR,3,⟨1,v⟩,⟨0,aq⟩,⟨0,aq⟩,⟨0,aq⟩,1,1,v,[(mz v),(my v)]⟩,⟨1,(-1)⟩,2,5,true,v⟩]⟩,⟨1,false,aR,[⟨(uh v),⟨1,1,6,aR,3,⟨1,v⟩,⟨0,aq⟩,⟨0,aq⟩,⟨0,aq⟩,1,1,v,[(mA v),(my v)]⟩,⟨1,(-1)⟩,2,5,true,v⟩]⟩,⟨2,false,aR,[⟨(ug v),⟨2,1,6,aR,3,⟨1,v⟩,⟨0,aq⟩,⟨0,aq⟩,⟨0,aq⟩,1,1,v,[(mA v),(mz v)]⟩,⟨1,(-1)⟩,2,5,true,v⟩]⟩],0,⟨[⟨11,0,1,78,(lv v)⟩,⟨11,0,2,79,(lv v)⟩,⟨11,1,0,80,(lu v)⟩,⟨11,1,2,81,(lu v)⟩,⟨11,2,0,82,(lq v)⟩,⟨11,2,1,83,(lq v)⟩],84,[],[]⟩,[[aR],[aR],[aR]]⟩
def RI(v:C):aH:=⟨11,[⟨0,false,aR,[⟨(ui v),⟨0,1,6,aR,3,⟨1,v⟩,⟨0,aq⟩,⟨0,aq⟩,⟨0,aq⟩,1,1,v,[(mz v),(my v)]⟩,⟨1,(-1)⟩,2,5,true,v⟩]⟩,⟨1,false,aR,[⟨(uh v),⟨1,1,6,aR,3,⟨1,v⟩,⟨0,aq⟩,⟨0,aq⟩,⟨0,aq⟩,1,1,v,[(mA v),(my v)]⟩,⟨1,(-1)⟩,2,5,true,v⟩]⟩,⟨2,false,aR,[⟨(ug v),⟨2,1,6,aR,3,⟨1,v⟩,⟨0,aq⟩,⟨0,aq⟩,⟨0,aq⟩,1,1,v,[(mA v),(mz v)]⟩,⟨1,(-1)⟩,2,5,true,v⟩]⟩],0,⟨[⟨12,0,1,84,(lv v)⟩,⟨12,0,2,85,(lv v)⟩,⟨12,1,0,86,(lu v)⟩,⟨12,1,2,87,(lu v)⟩,⟨12,2,0,88,(lq v)⟩,⟨12,2,1,89,(lq v)⟩],90,[],[]⟩,[[aR],[aR],[aR]]⟩
def He(v:C):aH:=⟨12,[⟨0,false,aR,[⟨(ui v),⟨0,1,6,aR,3,⟨1,v⟩,⟨0,aq⟩,⟨0,aq⟩,⟨0,aq⟩,1,1,v,[(mz v),(my v)]⟩,⟨1,(-1)⟩,2,5,true,v⟩]⟩,⟨1,false,aR,[⟨(uh v),⟨1,1,6,aR,3,⟨1,v⟩,⟨0,aq⟩,⟨0,aq⟩,⟨0,aq⟩,1,1,v,[(mA v),(my v)]⟩,⟨1,(-1)⟩,2,5,true,v⟩]⟩,⟨2,false,aR,[⟨(ug v),⟨2,1,6,aR,3,⟨1,v⟩,⟨0,aq⟩,⟨0,aq⟩,⟨0,aq⟩,1,1,v,[(mA v),(mz v)]⟩,⟨1,(-1)⟩,2,5,true,v⟩]⟩],0,⟨[⟨13,0,1,90,(lv v)⟩,⟨13,0,2,91,(lv v)⟩,⟨13,1,0,92,(lu v)⟩,⟨13,1,2,93,(lu v)⟩,⟨13,2,0,94,(lq v)⟩,⟨13,2,1,95,(lq v)⟩],96,[],[]⟩,[[aR],[aR],[aR]]⟩
def O8(v:C):aH:=⟨0,[⟨0,false,aB,[⟨(P5 v),(P4 v),⟨0,(-1)⟩,1,2,false,aq⟩]⟩,⟨1,false,aB,[⟨(P3 v),(P2 v),⟨0,(-1)⟩,1,2,false,aq⟩]⟩,⟨2,false,aB,[⟨(P1 v),(P0 v),⟨0,(-1)⟩,1,2,false,aq⟩]⟩,⟨3,false,aB,[⟨(PZ v),(PY v),⟨0,(-1)⟩,1,2,false,aq⟩]⟩],0,⟨[],0,[],[]⟩,[[aB],[aB],[aB],[aB]]⟩
def Ug(v:C):aH:=⟨1,[⟨0,false,aB,[⟨(P5 v),(P4 v),⟨1,(-1)⟩,1,2,false,aq⟩]⟩,⟨1,false,aB,[⟨(P3 v),(P2 v),⟨1,(-1)⟩,1,2,false,aq⟩]⟩,⟨2,false,aB,[⟨(P1 v),(P0 v),⟨1,(-1)⟩,1,2,false,aq⟩]⟩,⟨3,false,aB,[⟨(PZ v),(PY v),⟨1,(-1)⟩,1,2,false,aq⟩]⟩],0,⟨[⟨2,0,1,0,MT⟩,⟨2,0,1,3,(MS v)⟩,⟨2,0,2,1,MT⟩,⟨2,0,2,4,(MS v)⟩,⟨2,0,3,2,MT⟩,⟨2,0,3,5,(MS v)⟩,⟨2,1,0,6,MR⟩,⟨2,1,0,9,(KJ v)⟩,⟨2,1,2,7,MR⟩,⟨2,1,2,10,(KJ v)⟩,⟨2,1,3,8,MR⟩,⟨2,1,3,11,(KJ v)⟩,⟨2,2,0,12,KI⟩,⟨2,2,0,15,(KH v)⟩,⟨2,2,1,13,KI⟩,⟨2,2,1,16,(KH v)⟩,⟨2,2,3,14,KI⟩,⟨2,2,3,17,(KH v)⟩,⟨2,3,0,18,(Am v)⟩,⟨2,3,0,21,(KG v)⟩,⟨2,3,1,19,(Am v)⟩,⟨2,3,1,22,(KG v)⟩,⟨2,3,2,20,(Am v)⟩,⟨2,3,2,23,(KG v)⟩],24,[],[]⟩,[[aB],[aB],[aB],[aB]]⟩
def Uf(v:C):aH:=⟨2,[⟨0,false,aB,[⟨⟨0,1,2,2,aB,v,[v],[],[],[I6,Hc,(xB v)]⟩,⟨0,1,2,aB,1,⟨1,v⟩,⟨1,v⟩,⟨0,aq⟩,⟨0,aq⟩,0,0,v,[(I5 v),(Hb v),(Ha v)]⟩,⟨1,4⟩,2,5,false,aq⟩]⟩,⟨1,false,aB,[⟨⟨1,1,2,2,aB,v,[v],[],[],[I8,Hc,(xB v)]⟩,⟨1,1,2,aB,1,⟨1,v⟩,⟨1,v⟩,⟨0,aq⟩,⟨0,aq⟩,0,0,v,[(I7 v),(Hb v),(Ha v)]⟩,⟨1,4⟩,2,5,false,aq⟩]⟩,⟨2,false,aB,[⟨⟨2,1,2,2,aB,v,[v],[],[],[I8,I6,(xB v)]⟩,⟨2,1,2,aB,1,⟨1,v⟩,⟨1,v⟩,⟨0,aq⟩,⟨0,aq⟩,0,0,v,[(I7 v),(I5 v),(Ha v)]⟩,⟨1,4⟩,2,5,false,aq⟩]⟩,⟨3,false,aB,[⟨⟨3,1,2,1,aB,v,[v],[],[],[I8,I6,Hc]⟩,⟨3,1,2,aB,1,⟨1,v⟩,⟨1,v⟩,⟨0,aq⟩,⟨0,aq⟩,0,0,v,[(I7 v),(I5 v),(Hb v)]⟩,⟨1,4⟩,2,5,false,aq⟩]⟩],0,⟨[⟨3,0,1,24,(KF v)⟩,⟨3,0,1,27,(KE v)⟩,⟨3,0,2,25,(KF v)⟩,⟨3,0,2,28,(KE v)⟩,⟨3,0,3,26,(KF v)⟩,⟨3,0,3,29,(KE v)⟩,⟨3,1,0,30,(KD v)⟩,⟨3,1,0,33,(KC v)⟩,⟨3,1,2,31,(KD v)⟩,⟨3,1,2,34,(KC v)⟩,⟨3,1,3,32,(KD v)⟩,⟨3,1,3,35,(KC v)⟩,⟨3,2,0,36,(KB v)⟩,⟨3,2,0,39,(KA v)⟩,⟨3,2,1,37,(KB v)⟩,⟨3,2,1,40,(KA v)⟩,⟨3,2,3,38,(KB v)⟩,⟨3,2,3,41,(KA v)⟩,⟨3,3,0,42,(Am v)⟩,⟨3,3,0,45,(Kz v)⟩,⟨3,3,1,43,(Am v)⟩,⟨3,3,1,46,(Kz v)⟩,⟨3,3,2,44,(Am v)⟩,⟨3,3,2,47,(Kz v)⟩],48,[],[]⟩,[[aB],[aB],[aB],[aB]]⟩
def Ue(v:C):aH:=⟨3,[⟨0,false,aB,[⟨⟨0,1,2,3,aB,v,[v],[v],[],[(G7 v),(G5 v),(xB v)]⟩,⟨0,1,3,aB,1,⟨1,v⟩,⟨1,v⟩,⟨0,aq⟩,⟨1,v⟩,1,0,v,[(G6 v),(G4 v),(G3 v)]⟩,⟨1,4⟩,2,5,false,aq⟩]⟩,⟨1,false,aB,[⟨⟨1,1,2,3,aB,v,[v],[v],[],[(G9 v),(G5 v),(xB v)]⟩,⟨1,1,3,aB,1,⟨1,v⟩,⟨1,v⟩,⟨0,aq⟩,⟨1,v⟩,1,0,v,[(G8 v),(G4 v),(G3 v)]⟩,⟨1,4⟩,2,5,false,aq⟩]⟩,⟨2,false,aB,[⟨⟨2,1,2,3,aB,v,[v],[v],[],[(G9 v),(G7 v),(xB v)]⟩,⟨2,1,3,aB,1,⟨1,v⟩,⟨1,v⟩,⟨0,aq⟩,⟨1,v⟩,1,0,v,[(G8 v),(G6 v),(G3 v)]⟩,⟨1,4⟩,2,5,false,aq⟩]⟩,⟨3,false,aB,[⟨⟨3,1,2,2,aB,v,[v],[v],[],[(G9 v),(G7 v),(G5 v)]⟩,⟨3,1,3,aB,1,⟨1,v⟩,⟨1,v⟩,⟨0,aq⟩,⟨1,v⟩,1,0,v,[(G8 v),(G6 v),(G4 v)]⟩,⟨1,4⟩,2,5,false,aq⟩]⟩],0,⟨[⟨4,0,1,48,(Al v)⟩,⟨4,0,1,51,(Ky v)⟩,⟨4,0,2,49,(Al v)⟩,⟨4,0,2,52,(Ky v)⟩,⟨4,0,3,50,(Al v)⟩,⟨4,0,3,53,(Ky v)⟩,⟨4,1,0,54,(Ak v)⟩,⟨4,1,0,57,(Kx v)⟩,⟨4,1,2,55,(Ak v)⟩,⟨4,1,2,58,(Kx v)⟩,⟨4,1,3,56,(Ak v)⟩,⟨4,1,3,59,(Kx v)⟩,⟨4,2,0,60,(Aj v)⟩,⟨4,2,0,63,(Kw v)⟩,⟨4,2,1,61,(Aj v)⟩,⟨4,2,1,64,(Kw v)⟩,⟨4,2,3,62,(Aj v)⟩,⟨4,2,3,65,(Kw v)⟩,⟨4,3,0,66,(Ai v)⟩,⟨4,3,0,69,(Kv v)⟩,⟨4,3,1,67,(Ai v)⟩,⟨4,3,1,70,(Kv v)⟩,⟨4,3,2,68,(Ai v)⟩,⟨4,3,2,71,(Kv v)⟩],72,[],[]⟩,[[aB],[aB],[aB],[aB]]⟩
def Ud(v:C):aH:=⟨4,[⟨0,false,aB,[⟨(sv v),⟨0,1,5,aB,2,⟨2,v⟩,⟨1,v⟩,⟨0,aq⟩,⟨1,v⟩,1,1,v,[(GZ v),(GX v),(GV v)]⟩,⟨1,(-1)⟩,2,5,false,aq⟩]⟩,⟨1,false,aB,[⟨(su v),⟨1,1,5,aB,2,⟨2,v⟩,⟨1,v⟩,⟨0,aq⟩,⟨1,v⟩,1,1,v,[(G1 v),(GX v),(GV v)]⟩,⟨1,(-1)⟩,2,5,false,aq⟩]⟩,⟨2,false,aB,[⟨(ss v),⟨2,1,5,aB,2,⟨2,v⟩,⟨1,v⟩,⟨0,aq⟩,⟨1,v⟩,1,1,v,[(G1 v),(GZ v),(GV v)]⟩,⟨1,(-1)⟩,2,5,false,aq⟩]⟩,⟨3,false,aB,[⟨(sq v),⟨3,1,5,aB,2,⟨2,v⟩,⟨1,v⟩,⟨0,aq⟩,⟨1,v⟩,1,1,v,[(G1 v),(GZ v),(GX v)]⟩,⟨1,(-1)⟩,2,5,false,aq⟩]⟩],0,⟨[⟨5,0,1,72,(Al v)⟩,⟨5,0,1,75,(Ku v)⟩,⟨5,0,2,73,(Al v)⟩,⟨5,0,2,76,(Ku v)⟩,⟨5,0,3,74,(Al v)⟩,⟨5,0,3,77,(Ku v)⟩,⟨5,1,0,78,(Ak v)⟩,⟨5,1,0,81,(Kt v)⟩,⟨5,1,2,79,(Ak v)⟩,⟨5,1,2,82,(Kt v)⟩,⟨5,1,3,80,(Ak v)⟩,⟨5,1,3,83,(Kt v)⟩,⟨5,2,0,84,(Aj v)⟩,⟨5,2,0,87,(Ks v)⟩,⟨5,2,1,85,(Aj v)⟩,⟨5,2,1,88,(Ks v)⟩,⟨5,2,3,86,(Aj v)⟩,⟨5,2,3,89,(Ks v)⟩,⟨5,3,0,90,(Ai v)⟩,⟨5,3,0,93,(Kr v)⟩,⟨5,3,1,91,(Ai v)⟩,⟨5,3,1,94,(Kr v)⟩,⟨5,3,2,92,(Ai v)⟩,⟨5,3,2,95,(Kr v)⟩],96,[],[]⟩,[[aB],[aB],[aB],[aB]]⟩
def Uc(v:C):aH:=⟨5,[⟨0,false,aB,[⟨(sv v),⟨0,1,6,aB,3,⟨1,v⟩,⟨0,aq⟩,⟨0,aq⟩,⟨0,aq⟩,1,1,v,[(GS v),(GR v),(GQ v)]⟩,⟨1,(-1)⟩,2,5,true,v⟩]⟩,⟨1,false,aB,[⟨(su v),⟨1,1,6,aB,3,⟨1,v⟩,⟨0,aq⟩,⟨0,aq⟩,⟨0,aq⟩,1,1,v,[(GU v),(GR v),(GQ v)]⟩,⟨1,(-1)⟩,2,5,true,v⟩]⟩,⟨2,false,aB,[⟨(ss v),⟨2,1,6,aB,3,⟨1,v⟩,⟨0,aq⟩,⟨0,aq⟩,⟨0,aq⟩,1,1,v,[(GU v),(GS v),(GQ v)]⟩,⟨1,(-1)⟩,2,5,true,v⟩]⟩,⟨3,false,aB,[⟨(sq v),⟨3,1,6,aB,3,⟨1,v⟩,⟨0,aq⟩,⟨0,aq⟩,⟨0,aq⟩,1,1,v,[(GU v),(GS v),(GR v)]⟩,⟨1,(-1)⟩,2,5,true,v⟩]⟩],0,⟨[⟨6,0,1,96,(eJ v)⟩,⟨6,0,2,97,(eJ v)⟩,⟨6,0,3,98,(eJ v)⟩,⟨6,1,0,99,(eI v)⟩,⟨6,1,2,100,(eI v)⟩,⟨6,1,3,101,(eI v)⟩,⟨6,2,0,102,(eH v)⟩,⟨6,2,1,103,(eH v)⟩,⟨6,2,3,104,(eH v)⟩,⟨6,3,0,105,(eG v)⟩,⟨6,3,1,106,(eG v)⟩,⟨6,3,2,107,(eG v)⟩],108,[],[]⟩,[[aB],[aB],[aB],[aB]]⟩
def Ub(v:C):aH:=⟨6,[⟨0,false,aB,[⟨(sv v),⟨0,1,6,aB,3,⟨1,v⟩,⟨0,aq⟩,⟨0,aq⟩,⟨0,aq⟩,1,1,v,[(fh v),(fg v),(ff v)]⟩,⟨1,(-1)⟩,2,5,true,v⟩]⟩,⟨1,false,aB,[⟨(su v),⟨1,1,6,aB,3,⟨1,v⟩,⟨0,aq⟩,⟨0,aq⟩,⟨0,aq⟩,1,1,v,[(fj v),(fg v),(ff v)]⟩,⟨1,(-1)⟩,2,5,true,v⟩]⟩,⟨2,false,aB,[⟨(ss v),⟨2,1,6,aB,3,⟨1,v⟩,⟨0,aq⟩,⟨0,aq⟩,⟨0,aq⟩,1,1,v,[(fj v),(fh v),(ff v)]⟩,⟨1,(-1)⟩,2,5,true,v⟩]⟩,⟨3,false,aB,[⟨(sq v),⟨3,1,6,aB,3,⟨1,v⟩,⟨0,aq⟩,⟨0,aq⟩,⟨0,aq⟩,1,1,v,[(fj v),(fh v),(fg v)]⟩,⟨1,(-1)⟩,2,5,true,v⟩]⟩],0,⟨[⟨7,0,1,108,(eJ v)⟩,⟨7,0,2,109,(eJ v)⟩,⟨7,0,3,110,(eJ v)⟩,⟨7,1,0,111,(eI v)⟩,⟨7,1,2,112,(eI v)⟩,⟨7,1,3,113,(eI v)⟩,⟨7,2,0,114,(eH v)⟩,⟨7,2,1,115,(eH v)⟩,⟨7,2,3,116,(eH v)⟩,⟨7,3,0,117,(eG v)⟩,⟨7,3,1,118,(eG v)⟩,⟨7,3,2,119,(eG v)⟩],120,[],[]⟩,[[aB],[aB],[aB],[aB]]⟩
def Ua(v:C):aH:=⟨7,[⟨0,false,aB,[⟨(sv v),⟨0,1,6,aB,3,⟨1,v⟩,⟨0,aq⟩,⟨0,aq⟩,⟨0,aq⟩,1,1,v,[(fh v),(fg v),(ff v)]⟩,⟨1,(-1)⟩,2,5,true,v⟩]⟩,⟨1,false,aB,[⟨(su v),⟨1,1,6,aB,3,⟨1,v⟩,⟨0,aq⟩,⟨0,aq⟩,⟨0,aq⟩,1,1,v,[(fj v),(fg v),(ff v)]⟩,⟨1,(-1)⟩,2,5,true,v⟩]⟩,⟨2,false,aB,[⟨(ss v),⟨2,1,6,aB,3,⟨1,v⟩,⟨0,aq⟩,⟨0,aq⟩,⟨0,aq⟩,1,1,v,[(fj v),(fh v),(ff v)]⟩,⟨1,(-1)⟩,2,5,true,v⟩]⟩,⟨3,false,aB,[⟨(sq v),⟨3,1,6,aB,3,⟨1,v⟩,⟨0,aq⟩,⟨0,aq⟩,⟨0,aq⟩,1,1,v,[(fj v),(fh v),(fg v)]⟩,⟨1,(-1)⟩,2,5,true,v⟩]⟩],0,⟨[⟨8,0,1,120,(eJ v)⟩,⟨8,0,2,121,(eJ v)⟩,⟨8,0,3,122,(eJ v)⟩,⟨8,1,0,123,(eI v)⟩,⟨8,1,2,124,(eI v)⟩,⟨8,1,3,125,(eI v)⟩,⟨8,2,0,126,(eH v)⟩,⟨8,2,1,127,(eH v)⟩,⟨8,2,3,128,(eH v)⟩,⟨8,3,0,129,(eG v)⟩,⟨8,3,1,130,(eG v)⟩,⟨8,3,2,131,(eG v)⟩],132,[],[]⟩,[[aB],[aB],[aB],[aB]]⟩
def T9(v:C):aH:=⟨8,[⟨0,false,aB,[⟨(sv v),⟨0,1,6,aB,3,⟨1,v⟩,⟨0,aq⟩,⟨0,aq⟩,⟨0,aq⟩,1,1,v,[(fh v),(fg v),(ff v)]⟩,⟨1,(-1)⟩,2,5,true,v⟩]⟩,⟨1,false,aB,[⟨(su v),⟨1,1,6,aB,3,⟨1,v⟩,⟨0,aq⟩,⟨0,aq⟩,⟨0,aq⟩,1,1,v,[(fj v),(fg v),(ff v)]⟩,⟨1,(-1)⟩,2,5,true,v⟩]⟩,⟨2,false,aB,[⟨(ss v),⟨2,1,6,aB,3,⟨1,v⟩,⟨0,aq⟩,⟨0,aq⟩,⟨0,aq⟩,1,1,v,[(fj v),(fh v),(ff v)]⟩,⟨1,(-1)⟩,2,5,true,v⟩]⟩,⟨3,false,aB,[⟨(sq v),⟨3,1,6,aB,3,⟨1,v⟩,⟨0,aq⟩,⟨0,aq⟩,⟨0,aq⟩,1,1,v,[(fj v),(fh v),(fg v)]⟩,⟨1,(-1)⟩,2,5,true,v⟩]⟩],0,⟨[⟨9,0,1,132,(eJ v)⟩,⟨9,0,2,133,(eJ v)⟩,⟨9,0,3,134,(eJ v)⟩,⟨9,1,0,135,(eI v)⟩,⟨9,1,2,136,(eI v)⟩,⟨9,1,3,137,(eI v)⟩,⟨9,2,0,138,(eH v)⟩,⟨9,2,1,139,(eH v)⟩,⟨9,2,3,140,(eH v)⟩,⟨9,3,0,141,(eG v)⟩,⟨9,3,1,142,(eG v)⟩,⟨9,3,2,143,(eG v)⟩],144,[],[]⟩,[[aB],[aB],[aB],[aB]]⟩
def T8(v:C):aH:=⟨9,[⟨0,false,aB,[⟨(sv v),⟨0,1,6,aB,3,⟨1,v⟩,⟨0,aq⟩,⟨0,aq⟩,⟨0,aq⟩,1,1,v,[(fh v),(fg v),(ff v)]⟩,⟨1,(-1)⟩,2,5,true,v⟩]⟩,⟨1,false,aB,[⟨(su v),⟨1,1,6,aB,3,⟨1,v⟩,⟨0,aq⟩,⟨0,aq⟩,⟨0,aq⟩,1,1,v,[(fj v),(fg v),(ff v)]⟩,⟨1,(-1)⟩,2,5,true,v⟩]⟩,⟨2,false,aB,[⟨(ss v),⟨2,1,6,aB,3,⟨1,v⟩,⟨0,aq⟩,⟨0,aq⟩,⟨0,aq⟩,1,1,v,[(fj v),(fh v),(ff v)]⟩,⟨1,(-1)⟩,2,5,true,v⟩]⟩,⟨3,false,aB,[⟨(sq v),⟨3,1,6,aB,3,⟨1,v⟩,⟨0,aq⟩,⟨0,aq⟩,⟨0,aq⟩,1,1,v,[(fj v),(fh v),(fg v)]⟩,⟨1,(-1)⟩,2,5,true,v⟩]⟩],0,⟨[⟨10,0,1,144,(eJ v)⟩,⟨10,0,2,145,(eJ v)⟩,⟨10,0,3,146,(eJ v)⟩,⟨10,1,0,147,(eI v)⟩,⟨10,1,2,148,(eI v)⟩,⟨10,1,3,149,(eI v)⟩,⟨10,2,0,150,(eH v)⟩,⟨10,2,1,151,(eH v)⟩,⟨10,2,3,152,(eH v)⟩,⟨10,3,0,153,(eG v)⟩,⟨10,3,1,154,(eG v)⟩,⟨10,3,2,155,(eG v)⟩],156,[],[]⟩,[[aB],[aB],[aB],[aB]]⟩
def RH(v:C):aH:=⟨10,[⟨0,false,aB,[⟨(sv v),⟨0,1,6,aB,3,⟨1,v⟩,⟨0,aq⟩,⟨0,aq⟩,⟨0,aq⟩,1,1,v,[(fh v),(fg v),(ff v)]⟩,⟨1,(-1)⟩,2,5,true,v⟩]⟩,⟨1,false,aB,[⟨(su v),⟨1,1,6,aB,3,⟨1,v⟩,⟨0,aq⟩,⟨0,aq⟩,⟨0,aq⟩,1,1,v,[(fj v),(fg v),(ff v)]⟩,⟨1,(-1)⟩,2,5,true,v⟩]⟩,⟨2,false,aB,[⟨(ss v),⟨2,1,6,aB,3,⟨1,v⟩,⟨0,aq⟩,⟨0,aq⟩,⟨0,aq⟩,1,1,v,[(fj v),(fh v),(ff v)]⟩,⟨1,(-1)⟩,2,5,true,v⟩]⟩,⟨3,false,aB,[⟨(sq v),⟨3,1,6,aB,3,⟨1,v⟩,⟨0,aq⟩,⟨0,aq⟩,⟨0,aq⟩,1,1,v,[(fj v),(fh v),(fg v)]⟩,⟨1,(-1)⟩,2,5,true,v⟩]⟩],0,⟨[⟨11,0,1,156,(eJ v)⟩,⟨11,0,2,157,(eJ v)⟩,⟨11,0,3,158,(eJ v)⟩,⟨11,1,0,159,(eI v)⟩,⟨11,1,2,160,(eI v)⟩,⟨11,1,3,161,(eI v)⟩,⟨11,2,0,162,(eH v)⟩,⟨11,2,1,163,(eH v)⟩,⟨11,2,3,164,(eH v)⟩,⟨11,3,0,165,(eG v)⟩,⟨11,3,1,166,(eG v)⟩,⟨11,3,2,167,(eG v)⟩],168,[],[]⟩,[[aB],[aB],[aB],[aB]]⟩
def RG(v:C):aH:=⟨11,[⟨0,false,aB,[⟨(sv v),⟨0,1,6,aB,3,⟨1,v⟩,⟨0,aq⟩,⟨0,aq⟩,⟨0,aq⟩,1,1,v,[(fh v),(fg v),(ff v)]⟩,⟨1,(-1)⟩,2,5,true,v⟩]⟩,⟨1,false,aB,[⟨(su v),⟨1,1,6,aB,3,⟨1,v⟩,⟨0,aq⟩,⟨0,aq⟩,⟨0,aq⟩,1,1,v,[(fj v),(fg v),(ff v)]⟩,⟨1,(-1)⟩,2,5,true,v⟩]⟩,⟨2,false,aB,[⟨(ss v),⟨2,1,6,aB,3,⟨1,v⟩,⟨0,aq⟩,⟨0,aq⟩,⟨0,aq⟩,1,1,v,[(fj v),(fh v),(ff v)]⟩,⟨1,(-1)⟩,2,5,true,v⟩]⟩,⟨3,false,aB,[⟨(sq v),⟨3,1,6,aB,3,⟨1,v⟩,⟨0,aq⟩,⟨0,aq⟩,⟨0,aq⟩,1,1,v,[(fj v),(fh v),(fg v)]⟩,⟨1,(-1)⟩,2,5,true,v⟩]⟩],0,⟨[⟨12,0,1,168,(eJ v)⟩,⟨12,0,2,169,(eJ v)⟩,⟨12,0,3,170,(eJ v)⟩,⟨12,1,0,171,(eI v)⟩,⟨12,1,2,172,(eI v)⟩,⟨12,1,3,173,(eI v)⟩,⟨12,2,0,174,(eH v)⟩,⟨12,2,1,175,(eH v)⟩,⟨12,2,3,176,(eH v)⟩,⟨12,3,0,177,(eG v)⟩,⟨12,3,1,178,(eG v)⟩,⟨12,3,2,179,(eG v)⟩],180,[],[]⟩,[[aB],[aB],[aB],[aB]]⟩
def DB(v:C):aH:=⟨12,[⟨0,false,aB,[⟨(sv v),⟨0,1,6,aB,3,⟨1,v⟩,⟨0,aq⟩,⟨0,aq⟩,⟨0,aq⟩,1,1,v,[(fh v),(fg v),(ff v)]⟩,⟨1,(-1)⟩,2,5,true,v⟩]⟩,⟨1,false,aB,[⟨(su v),⟨1,1,6,aB,3,⟨1,v⟩,⟨0,aq⟩,⟨0,aq⟩,⟨0,aq⟩,1,1,v,[(fj v),(fg v),(ff v)]⟩,⟨1,(-1)⟩,2,5,true,v⟩]⟩,⟨2,false,aB,[⟨(ss v),⟨2,1,6,aB,3,⟨1,v⟩,⟨0,aq⟩,⟨0,aq⟩,⟨0,aq⟩,1,1,v,[(fj v),(fh v),(ff v)]⟩,⟨1,(-1)⟩,2,5,true,v⟩]⟩,⟨3,false,aB,[⟨(sq v),⟨3,1,6,aB,3,⟨1,v⟩,⟨0,aq⟩,⟨0,aq⟩,⟨0,aq⟩,1,1,v,[(fj v),(fh v),(fg v)]⟩,⟨1,(-1)⟩,2,5,true,v⟩]⟩],0,⟨[⟨13,0,1,180,(eJ v)⟩,⟨13,0,2,181,(eJ v)⟩,⟨13,0,3,182,(eJ v)⟩,⟨13,1,0,183,(eI v)⟩,⟨13,1,2,184,(eI v)⟩,⟨13,1,3,185,(eI v)⟩,⟨13,2,0,186,(eH v)⟩,⟨13,2,1,187,(eH v)⟩,⟨13,2,3,188,(eH v)⟩,⟨13,3,0,189,(eG v)⟩,⟨13,3,1,190,(eG v)⟩,⟨13,3,2,191,(eG v)⟩],192,[],[]⟩,[[aB],[aB],[aB],[aB]]⟩
end
end Go.Proofs.YtppbofaglpdghaaGreat
end
