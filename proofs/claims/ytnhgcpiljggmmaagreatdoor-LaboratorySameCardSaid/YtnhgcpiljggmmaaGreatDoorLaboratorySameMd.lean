/-
  Texts made small by a program (see NOTES). Conditions: those that each theorem names.
-/
import Derived.Test.YtnhgcpiljggmmaaGreatDoorLaboratorySameMc
set_option linter.unusedVariables false
set_option linter.unusedSimpArgs false
set_option linter.unusedSectionVars false
set_option maxHeartbeats 2000000
noncomputable section
namespace Go.Proofs.YtnhgcpiljggmmaaGreatDoor
open Go.TQ Go.Proofs.Tryz
def iE(a0:aA)(a1:aA):Option aA:=bm (fun(v1:aA×Unit)=>aD (fun(v3:Bool×aA×Unit)=>bif v3.1 then(tc {v3.2.1 with aa:=(ae v3.2.1.aa)}).bind fun r4=>aD (fun(v5:Bool×Int×aA×Unit)=>bif (decide (v5.2.1<((r4.length:Nat):Int)))then(idx r4 v5.2.1).bind fun x6=>(wV {v5.2.2.1 with aa:=(ae v5.2.2.1.aa)} x6).bind fun r7=>bif r7 then(nQ v5.2.2.1.bo x6).bind fun r8=>oR (some (Sum.inl (true,{v5.2.2.1 with aa:=(ae v5.2.2.1.aa),bo:=r8},())))else some (Sum.inl (v5.1,(aB .i64 v5.2.1 1),{v5.2.2.1 with aa:=(ae v5.2.2.1.aa)},()))else oR (some (Sum.inl (v5.1,{v5.2.2.1 with aa:=(ae v5.2.2.1.aa)},())))) (false,0,{v3.2.1 with aa:=(ae v3.2.1.aa)},())else oR (aD (fun(v9:Int×aA×Unit)=>bif (decide (v9.1<((v3.2.1.bo.length:Nat):Int)))then bm (fun(v10:aA×Unit)=>some (Sum.inl ((aB .i64 v9.1 1),{v10.1 with aa:=(ae v10.1.aa)},()))) fun j11=>(idx v3.2.1.bo v9.1).bind fun x12=>(pJ {v9.2.1 with aa:=(ae v9.2.1.aa)} x12).bind fun r13=>(ri {v9.2.1 with aa:=(ae v9.2.1.aa)}).bind fun r14=>(kb r14 v9.2.1.aq r13.2.1).bind fun r15=>bif r15 then(nQ v9.2.1.dG x12).bind fun r16=>j11 ({v9.2.1 with aa:=(ae v9.2.1.aa),dG:=r16},())else j11 ({v9.2.1 with aa:=(ae v9.2.1.aa)},())else oR (bm (fun(v17:aA×Unit)=>some {v17.1 with aa:=(ae v17.1.aa)}) fun j18=>(fV a0.cx v9.2.1.cx).bind fun r19=>(bif (!r19)then some true else(fV a0.bo v9.2.1.bo).bind fun r20=>some (!r20)).bind fun b21=>(bif b21 then some true else(dy (ae a0.aa) (ae v9.2.1.aa)).bind fun r22=>some (!r22)).bind fun b23=>bif b23 then j18 ({v9.2.1 with aO:=(aB .i64 a0.aO 1),aa:=(ae v9.2.1.aa)},())else j18 ({v9.2.1 with aa:=(ae v9.2.1.aa)},()))) (0,{v3.2.1 with aa:=(ae v3.2.1.aa)},()))) (true,{v1.1 with aa:=(ae v1.1.aa)},())) fun j2=>bif (decide (((a1.dG.length:Nat):Int)=0))then(rX {a1 with aa:=(ae a1.aa)}).bind fun r24=>j2 ({r24 with aa:=(ae r24.aa)},())else j2 ({a1 with aa:=(ae a1.aa)},())
def pW:=kf func232 [t7,t7] (.one y7) (u2 iE) [] (.r (.j ⟨[.box 1 1 y7 []],[2,3,4]⟩ (.r (.b (p_ 2 1 (.j ⟨[.val 5 y1,.box 1 1 y7 []],[2,3,4]⟩ (p_ 6 26 (.j ⟨[.val 5 y1,.val 22 y0,.box 1 1 y7 []],[2,3,4,20,21]⟩ .e)))) (.b (p_ 2 1 (.j ⟨[.val 38 y0,.box 1 1 y7 []],[2,3,4,36,37]⟩ (p_ 3 6 (.j ⟨[.box 1 1 y7 []],[2,3,4,36,37,38]⟩ .e)))) (.j ⟨[.box 1 1 y7 []],[3,4]⟩ .e)))))) [JV,LZ,PO,Gn,CM,D0,tw,yN,eX]
def tb(a0:Int)(a1:Int)(a2:ab)(a3:ByteArray):Option (aA×Int×Unit):=(bif (decide (a0<0))then some true else some (decide (10<=a0))).bind fun b1=>bif b1 then some ((aA.mk 0 0 0 0 (ab.mk 0 ([]:List Int) ([]:List ab)) (ByteArray.mk #[]) ([]:List ByteArray) ([]:List ByteArray) ([]:List ByteArray) ([]:List ax)),5,())else(bif (decide (a1<0))then some true else some (decide (1000000<a1))).bind fun b2=>bif b2 then some ((aA.mk 0 0 0 0 (ab.mk 0 ([]:List Int) ([]:List ab)) (ByteArray.mk #[]) ([]:List ByteArray) ([]:List ByteArray) ([]:List ByteArray) ([]:List ax)),1,())else(cn (ae a2)).bind fun r3=>bif (!decide (r3=0))then some ((aA.mk 0 0 0 0 (ab.mk 0 ([]:List Int) ([]:List ab)) (ByteArray.mk #[]) ([]:List ByteArray) ([]:List ByteArray) ([]:List ByteArray) ([]:List ax)),r3,())else bif (decide (200<((ByteArray.size a3:Nat):Int)))then some ((aA.mk 0 0 0 0 (ab.mk 0 ([]:List Int) ([]:List ab)) (ByteArray.mk #[]) ([]:List ByteArray) ([]:List ByteArray) ([]:List ByteArray) ([]:List ax)),3,())else(iE (aA.mk a0 a1 1 1 (ae a2) a3 ([]:List ByteArray) ([]:List ByteArray) ([]:List ByteArray) ([]:List ax)) (aA.mk a0 a1 1 1 (ae a2) a3 ([]:List ByteArray) ([]:List ByteArray) ([]:List ByteArray) ([]:List ax))).bind fun r4=>some ({r4 with aO:=1,aa:=(ae r4.aa)},0,())
def LY:=kf func206 [t0,t0,t3,t2] (.many [y7,y0]) (u4 tb) [] .e [dh,pW]
noncomputable def oC(a0:Int):Option Int:=bif (decide (12<=a0))then some 12 else some (bV (aB .i64 a0 1) 1)
def yL:=kf func200 [t0] q0 (u1 oC) [] .e []
def oc(a0:(List ByteArray)):Option (ByteArray×Bool×Unit):=aD (fun(v1:ByteArray×Bool×Int×Unit)=>bif (decide (v1.2.2.1<((a0.length:Nat):Int)))then bm (fun(v2:ByteArray×Bool×Unit)=>some (Sum.inl (v2.1,v2.2.1,(aB .i64 v1.2.2.1 1),()))) fun j3=>(idx a0 v1.2.2.1).bind fun x4=>(pI x4).bind fun r5=>(bif r5 then(bif (!v1.2.1)then some true else(gD x4 v1.1).bind fun r6=>some (decide (0<r6))).bind fun b7=>some b7 else some false).bind fun b8=>bif b8 then j3 (x4,true,())else j3 (v1.1,v1.2.1,())else oR (some (v1.1,v1.2.1,()))) ((ByteArray.mk #[]),false,0,())
def FL:=kf func210 [t15] (.many [y2,y1]) (u1 oc) [] (p_ 5 11 (.j ⟨[.val 4 y2,.val 5 y1,.val 10 y0],[8,9]⟩ (p_ 3 6 (.j ⟨[.val 4 y2,.val 5 y1],[8,9,10]⟩ .e)))) [CK,pX]
def my(a0:(List ao)):Option ao:=aD (fun(v1:Int×ao×Unit)=>bif (decide (v1.1<((a0.length:Nat):Int)))then bm (fun(v2:ao×Unit)=>some (Sum.inl ((aB .i64 v1.1 1),v2.1,()))) fun j3=>(idx a0 v1.1).bind fun x4=>(bif (decide (v1.1=0))then some true else(eF v1.2.1 x4).bind fun r5=>some r5).bind fun b6=>bif b6 then j3 (x4,())else j3 (v1.2.1,())else oR (some v1.2.1)) (0,zB,())
def GY:=kf func235 [.ty y21] (.one y5) (u1 my) [] (p_ 5 11 (.j ⟨[.val 8 y0,.box 1 1 y5 []],[2,3,6,7]⟩ (p_ 3 6 (.j ⟨[.box 1 1 y5 []],[2,3,6,7,8]⟩ .e)))) [iL]
def lu(a0:ah):Option ByteArray:=(bL a0.aC).bind fun r1=>bif (!r1)then some a0.aC.Value else bif (!decide (a0.ba=1))then some a0.aj.Value else bif (!decide (a0.bU=(ByteArray.mk #[])))then some a0.bU else aD (fun(v2:Int×(List ao)×Unit)=>bif (decide (v2.1<((a0.aF.length:Nat):Int)))then(idx a0.aF v2.1).bind fun x3=>bif aT 24 (v2.2.1.length+List.length [x3.aj])then some (Sum.inl ((aB .i64 v2.1 1),(v2.2.1++[x3.aj]),()))else none else oR ((my v2.2.1).bind fun r4=>some r4.Value)) (0,([]:List ao),())
def xq:=kf func208 [t4] q2 (u1 lu) [] (p_ 8 95 (.ps (.own 3 45 2 y5) (.j ⟨[.val 27 y0,.own 3 17 1 45 2 y5],[25,26]⟩ .e))) [dc,GY]
def jm(a0:ah):Option (List ak):=(bL a0.aj).bind fun r1=>bif r1 then some a0.aF else(fQ {a0 with aa:=(ae a0.aa)}).bind fun r2=>aD (fun(v3:Bool×Int×(List ak)×Unit)=>bif (decide (v3.2.1<((a0.aF.length:Nat):Int)))then(idx a0.aF v3.2.1).bind fun x4=>bm (fun(v5:Bool×(List ak)×Unit)=>bif aT 176 (v5.2.1.length+List.length [{x4 with aa:=(ae x4.aa)}])then some (Sum.inl (v5.1,(aB .i64 v3.2.1 1),(v5.2.1++[{x4 with aa:=(ae x4.aa)}]),()))else none) fun j6=>(bif (!v3.1)then some (decide (r2.aq<x4.aq))else some false).bind fun b7=>bif b7 then bif aT 176 (v3.2.2.1.length+List.length [{r2 with aO:=(bV r2.aO 1),aa:=(ae r2.aa)}])then j6 (true,(v3.2.2.1++[{r2 with aO:=(bV r2.aO 1),aa:=(ae r2.aa)}]),())else none else j6 (v3.1,v3.2.2.1,())else oR (bm (fun(v8:(List ak)×Unit)=>some v8.1) fun j9=>bif (!v3.1)then bif aT 176 (v3.2.2.1.length+List.length [{r2 with aO:=(bV r2.aO 1),aa:=(ae r2.aa)}])then j9 ((v3.2.2.1++[{r2 with aO:=(bV r2.aO 1),aa:=(ae r2.aa)}]),())else none else j9 (v3.2.2.1,()))) (false,0,([]:List ak),())
def sK:=kf func276 [t4] (.one y14) (u1 jm) [] (p_ 6 63 (.b (p_ 2 1 (.ps (.own 4 47 15 y11) (.j ⟨[.val 5 y1,.val 22 y0,.own 4 20 1 47 15 y11],[3,20,21]⟩ (p_ 6 38 (.j ⟨[.val 5 y1,.own 4 20 1 47 15 y11],[3,7,20,21,22]⟩ .e))))) (.j ⟨[.own 4 20 1 47 15 y11],[]⟩ .e))) [dc,mh]
def rh(a0:(List ao))(a1:ao):Option (List ao):=(bL a1).bind fun r1=>bif r1 then some a0 else aD (fun(v2:Int×Unit)=>bm (fun(v3:Bool×Unit)=>bif v3.1 then some (Sum.inl ((aB .i64 v2.1 1),()))else oR (bm (fun(v5:Bool×Unit)=>bif v5.1 then some a0 else bif dN 0 v2.1 (a0.length)then bif aT 24 (List.length ((a0.take (Int.toNat v2.1)).drop (Int.toNat 0)))then bif aT 24 (List.length ((a0.take (Int.toNat v2.1)).drop (Int.toNat 0))+List.length [a1])then bif dN v2.1 (a0.length:Int) (a0.length)then bif aT 24 (List.length (((a0.take (Int.toNat v2.1)).drop (Int.toNat 0))++[a1])+List.length ((a0.take (Int.toNat (a0.length:Int))).drop (Int.toNat v2.1)))then some ((((a0.take (Int.toNat v2.1)).drop (Int.toNat 0))++[a1])++((a0.take (Int.toNat (a0.length:Int))).drop (Int.toNat v2.1)))else none else none else none else none else none) fun j6=>bif (decide (v2.1<((a0.length:Nat):Int)))then(idx a0 v2.1).bind fun x7=>j6 ((ml false x7.an a1.an x7.Value a1.Value),())else j6 (false,()))) fun j4=>bif (decide (v2.1<((a0.length:Nat):Int)))then(idx a0 v2.1).bind fun x8=>(eF a1 x8).bind fun r9=>j4 (r9,())else j4 (false,())) (0,())
def N2:=kf func302 [.ty y21,t5] (.one y21) (u2 rh) [] (p_ 3 7 (.b (.l (.j ⟨[.val 5 y0],[0,3]⟩ (p_ 2 0 (.j ⟨[.val 20 y1],[0,3,5]⟩ .e)))) (.l (.j ⟨[.val 34 y1],[0,3,5]⟩ .e)))) [dc,iL]
def jA(a0:(List ak)):Option (List ao):=aD (fun(v1:(List ao)×Int×Unit)=>bif (decide (v1.2.1<((a0.length:Nat):Int)))then bm (fun(v2:(List ao)×Unit)=>some (Sum.inl (v2.1,(aB .i64 v1.2.1 1),()))) fun j3=>(idx a0 v1.2.1).bind fun x4=>(cJ {x4 with aa:=(ae x4.aa)}).bind fun r5=>bif (!r5)then j3 (v1.1,())else bm (fun(v6:(List ao)×Unit)=>aD (fun(v8:(List ao)×Int×Unit)=>bif (decide (v8.2.1<((v6.1.length:Nat):Int)))then(idx v6.1 v8.2.1).bind fun x9=>(rh v8.1 x9).bind fun r10=>some (Sum.inl (r10,(aB .i64 v8.2.1 1),()))else oR (j3 (v8.1,()))) (v1.1,0,())) fun j7=>bif (!decide (x4.az=1))then j7 ([x4.av,(ao.mk 1000000 x4.aj.Value)],())else j7 ([x4.aj,x4.av,x4.aJ],())else oR (some v1.1)) (([]:List ao),0,())
def zQ:=kf func288 [t14] (.one y21) (u1 jA) [] (p_ 5 11 (.j ⟨[.val 3 y21,.val 11 y0],[9,10]⟩ (p_ 3 6 (.j ⟨[.val 3 y21],[9,10,11]⟩ (p_ 5 28 (.j ⟨[.val 6 y21],[3,9,10,11]⟩ (p_ 3 3 (.j ⟨[.val 3 y21,.val 37 y0],[9,10,11,35,36]⟩ .e)))))))) [eV,N2]
noncomputable def j0(a0:ao):Option ao:=bm (fun(v1:ao×Unit)=>some v1.1) fun j2=>bif (decide (1000<=a0.an))then j2 ((ao.mk 1000000 a0.Value),())else j2 (a0,())
def JT:=kf func289 [t5] (.one y5) (u1 j0) [] (.r (.j ⟨[.box 0 1 y5 []],[1,2]⟩ .e)) []
def ku(a0:ak)(a1:ao):Option Bool:=(cJ {a0 with aa:=(ae a0.aa)}).bind fun r1=>(bif (!r1)then some true else(bL a1).bind fun r2=>some r2).bind fun b3=>bif b3 then some false else bif (decide (a0.az=3))then(cC a0.aj a1).bind fun r4=>some r4 else(gY a0.av a0.aJ a1).bind fun r5=>some r5
def Aq:=kf func308 [t11,t5] q1 (u2 ku) [] .e [eV,dc,ep,o0]
def lM(a0:ak)(a1:ao):Option Bool:=(cJ {a0 with aa:=(ae a0.aa)}).bind fun r1=>(bif (!r1)then some true else(bL a1).bind fun r2=>some r2).bind fun b3=>bif b3 then some false else bif (decide (a0.az=1))then(ka a0.aj a1).bind fun r4=>some r4 else(cC a0.aj a1).bind fun r5=>some r5
def B7:=kf func309 [t11,t5] q1 (u2 lM) [] .e [eV,dc,vT,ep]
noncomputable def fb(a0:(List ak))(a1:(List Bool)):Option Int:=aD (fun(v1:Int×Int×Unit)=>bif (decide (v1.2.1<((a0.length:Nat):Int)))then bm (fun(v2:Int×Unit)=>some (Sum.inl (v2.1,(aB .i64 v1.2.1 1),()))) fun j3=>(idx a0 v1.2.1).bind fun x4=>(bif (decide (v1.2.1<((a1.length:Nat):Int)))then(idx a1 v1.2.1).bind fun x5=>some x5 else some false).bind fun b6=>(bif b6 then some (decide (0<=x4.aq))else some false).bind fun b7=>(bif b7 then some (decide (x4.aq<=9))else some false).bind fun b8=>bif b8 then if(bI .u64 x4.aq)<0 then none else j3 ((qy .i64 v1.1 (cP .i64 1 (bI .u64 x4.aq))),())else j3 (v1.1,())else oR (some v1.1)) (0,0,())
def wC:=kf func259 [t14,.ty (Ty.sl Ty.bool)] q0 (u2 fb) [] (p_ 5 11 (.j ⟨[.val 5 y0,.val 10 y0],[1,8,9]⟩ (p_ 3 6 (.j ⟨[.val 5 y0],[1,8,9,10]⟩ .e)))) []
def ra(a0:(List ak))(a1:ao):Option (Int×Int×Unit):=aD (fun(v1:Int×(List Bool)×(List Bool)×Unit)=>bif (decide (v1.1<((a0.length:Nat):Int)))then(idx a0 v1.1).bind fun x2=>(ku {x2 with aa:=(ae x2.aa)} a1).bind fun r3=>(bif r3 then some true else(lM {x2 with aa:=(ae x2.aa)} a1).bind fun r4=>some r4).bind fun b5=>bif aT 1 (v1.2.1.length+List.length [b5])then bif aT 1 (v1.2.2.1.length+List.length [r3])then some (Sum.inl ((aB .i64 v1.1 1),(v1.2.1++[b5]),(v1.2.2.1++[r3]),()))else none else none else oR ((fb a0 v1.2.1).bind fun r6=>(fb a0 v1.2.2.1).bind fun r7=>some (r6,r7,()))) (0,([]:List Bool),([]:List Bool),())
def DZ:=kf func303 [t14,t5] (.many [y0,y0]) (u2 ra) [] (p_ 5 11 (.ps (.own 6 4 1 y1) (.ps (.own 7 4 1 y1) (.j ⟨[.val 13 y0,.own 6 8 1 4 1 y1,.own 7 9 1 4 1 y1],[0,3,11,12]⟩ .e)))) [Aq,B7,wC]
def gX(a0:Int)(a1:ab)(a2:(List ak)):Option bQ:=bif decide ((10:Int)<=10)&&decide ((0:Int)<=10)&&aT 64 (Int.toNat 10)then(bif (decide (a0<0))then some true else some (decide (9<a0))).bind fun b1=>bif b1 then some (bQ.mk (List.replicate (Int.toNat 10) (aU.mk false (ab.mk 0 ([]:List Int) ([]:List ab)))))else(idx (List.replicate (Int.toNat 10) (aU.mk false (ab.mk 0 ([]:List Int) ([]:List ab)))) a0).bind fun x2=>((List.replicate (Int.toNat 10) (aU.mk false (ab.mk 0 ([]:List Int) ([]:List ab))))[(Int.toNat a0)]?).bind fun x3=>aD (fun(v4:Int×bQ×(List aU)×Unit)=>bif (decide (v4.1<((a2.length:Nat):Int)))then bm (fun(v5:bQ×(List aU)×Unit)=>some (Sum.inl ((aB .i64 v4.1 1),(bQ.mk ([]:List aU)),v5.2.1,()))) fun j6=>(idx a2 v4.1).bind fun x7=>(cJ {x7 with aa:=(ae x7.aa)}).bind fun r8=>(bif r8 then(idx v4.2.2.1 x7.aq).bind fun x9=>(v4.2.2.1[(Int.toNat x7.aq)]?).bind fun x10=>(v4.2.2.1[(Int.toNat x7.aq)]?).bind fun x11=>some (!x11.dD)else some false).bind fun b12=>bif b12 then(idx v4.2.2.1 x7.aq).bind fun x13=>(v4.2.2.1[(Int.toNat x7.aq)]?).bind fun x14=>j6 ((bQ.mk ([]:List aU)),(v4.2.2.1.set (Int.toNat x7.aq) (aU.mk true (ae x7.aa))),())else j6 ((bQ.mk ([]:List aU)),v4.2.2.1,())else oR (some (bQ.mk v4.2.2.1))) (0,(bQ.mk ([]:List aU)),((List.replicate (Int.toNat 10) (aU.mk false (ab.mk 0 ([]:List Int) ([]:List ab)))).set (Int.toNat a0) (aU.mk true (ae a1))),())else none
def ov:=kf func258 [t0,t3,t14] (.one y16) (u3 gX) [] (p_ 7 47 (.j ⟨[.val 27 y0,.box 4 1 y16 [(0,2,1)],.eR 2 1 97 4 y22],[6,7,25,26]⟩ (p_ 3 6 (.j ⟨[.box 4 1 y16 [(0,2,1)],.eR 2 1 97 4 y22],[6,7,25,26,27]⟩ .e)))) [eV]
def nA(a0:Int)(a1:ab)(a2:(List ak))(a3:ao):Option Bool:=(ra a2 a3).bind fun r1=>(gX a0 (ae a1) a2).bind fun r2=>(k9 r2 a0 r1.1 r1.2.1).bind fun r3=>some r3
def IC:=kf func290 [t0,t3,t14,t5] q1 (u4 nA) [] .e [DZ,ov,uB]
def oE(a0:Int)(a1:ab)(a2:(List ak))(a3:ao)(a4:ao)(a5:ByteArray):Option ao:=(jA a2).bind fun r1=>aD (fun(v2:Int×ao×Unit)=>bif (decide (v2.1<((r1.length:Nat):Int)))then bm (fun(v3:ao×Unit)=>some (Sum.inl ((aB .i64 v2.1 1),v3.1,()))) fun j4=>(idx r1 v2.1).bind fun x5=>bm (fun(v6:Bool×Unit)=>bif v6.1 then j4 (v2.2.1,())else(nA a0 (ae a1) a2 x5).bind fun r8=>bif r8 then oR (some x5)else j4 (v2.2.1,())) fun j7=>bif (!decide (a5=(ByteArray.mk #[])))then bif (!decide (x5.Value=a5))then j7 (true,())else(j0 a3).bind fun r9=>(j0 a4).bind fun r10=>(gY r9 r10 x5).bind fun r11=>j7 (r11,())else(j0 a3).bind fun r12=>(j0 a4).bind fun r13=>(gY r12 r13 x5).bind fun r14=>j7 (r14,())else oR (some zB)) (0,zB,())
def N0:=kf func275 [t0,t3,t14,t5,t5,t2] (.one y5) (u6 oE) [] (p_ 4 5 (.j ⟨[.val 18 y0,.box 3 1 y5 []],[0,2,5,7,9,10,12,16,17]⟩ (p_ 3 6 (.j ⟨[.box 3 1 y5 []],[0,2,5,7,9,10,12,16,17,18]⟩ (p_ 4 4 (.j ⟨[.val 37 y1],[0,2,5,7,9,10,12,14,16,17,18]⟩ .e)))))) [zQ,JT,o0,IC]
noncomputable def oD(a0:ao):Option ao:=bm (fun(v1:ao×Unit)=>some v1.1) fun j2=>bif (decide (1000<a0.an))then j2 ((ao.mk 1000 a0.Value),())else j2 (a0,())
def JP:=kf func274 [t5] (.one y5) (u1 oD) [] (.r (.j ⟨[.box 0 1 y5 []],[1,2]⟩ .e)) []
def vk(a0:ao)(a1:ao)(a2:ao):Option (ao×ao×Unit):=(bL a2).bind fun r1=>bif r1 then some (a0,a1,())else(bL a0).bind fun r2=>bif r2 then some (a2,a1,())else(eF a0 a2).bind fun r3=>bif r3 then(cC a0 a2).bind fun r4=>bif (!r4)then some (a2,a0,())else bm (fun(v5:ao×Unit)=>some (a2,v5.1,())) fun j6=>(cC a1 a2).bind fun r7=>bif r7 then j6 (zB,())else j6 (a1,())else(eF a2 a0).bind fun r8=>(bif r8 then(cC a2 a0).bind fun r9=>some (!r9)else some false).bind fun b10=>(bif b10 then(bL a1).bind fun r11=>(bif r11 then some true else(eF a1 a2).bind fun r12=>some r12).bind fun b13=>some b13 else some false).bind fun b14=>bif b14 then some (a0,a2,())else some (a0,a1,())
def N1:=kf func277 [t5,t5,t5] (.many [y5,y5]) (u3 vk) [] (p_ 10 761 (.j ⟨[.box 1 1 y5 []],[4,5,6,7]⟩ .e)) [dc,iL,ep]
def oF(a0:ByteArray)(a1:Int)(a2:ao)(a3:ao):Option Int:=aD (fun(v1:Int×Int×Unit)=>bif (decide (v1.2.1<2))then bm (fun(v2:Int×Unit)=>some (Sum.inl (v2.1,(aB .i64 v1.2.1 1),()))) fun j3=>(idx [a2,a3] v1.2.1).bind fun x4=>(hZ x4).bind fun r5=>(bif r5 then(fu x4 (ao.mk v1.1 a0)).bind fun r6=>some r6 else some false).bind fun b7=>bif b7 then(fu x4 (ao.mk x4.an a0)).bind fun r8=>bif r8 then j3 ((aB .i64 x4.an 1),())else j3 (x4.an,())else j3 (v1.1,())else oR (some v1.1)) ((bV a1 1),0,())
def Be:=kf func278 [t2,t0,t5,t5] q0 (u4 oF) [] (p_ 5 11 (.j ⟨[.val 9 y0,.val 17 y0],[0,16]⟩ (p_ 3 6 (.j ⟨[.val 9 y0],[0,16,17]⟩ .e)))) [xr,vU]
def pa(a0:ah):Option ah:=(bif (decide (a0.ba=3))then some true else(bL a0.aj).bind fun r1=>some r1).bind fun b2=>bif b2 then some {a0 with aa:=(ae a0.aa)}else bm (fun(v3:ByteArray×Unit)=>(jm {a0 with aa:=(ae a0.aa)}).bind fun r5=>(oE a0.aq (ae a0.aa) r5 a0.av a0.aJ v3.1).bind fun r6=>(oD r6).bind fun r7=>(vk a0.av a0.aJ r7).bind fun r8=>bm (fun(v9:ah×Unit)=>some {v9.1 with aa:=(ae v9.1.aa)}) fun j10=>(bif (decide (a0.ba=1))then some (!decide (a0.bf=0))else some false).bind fun b11=>bif b11 then(fQ {a0 with aa:=(ae a0.aa),av:=r8.1,aJ:=r8.2.1}).bind fun r12=>(oF a0.aj.Value a0.bf r8.1 r8.2.1).bind fun r13=>bif (decide (r12.bM<r13))then j10 ({a0 with aa:=(ae a0.aa),av:=r8.1,aJ:=r8.2.1,bf:=0},())else j10 ({a0 with aa:=(ae a0.aa),av:=r8.1,aJ:=r8.2.1,bf:=r13},())else j10 ({a0 with aa:=(ae a0.aa),av:=r8.1,aJ:=r8.2.1},())) fun j4=>bif (decide (a0.ba=2))then j4 (a0.aj.Value,())else j4 ((ByteArray.mk #[]),())
def GV:=kf func260 [t4] (.one y4) (u1 pa) [] (p_ 3 7 (.j ⟨[.val 3 y2],[1,2]⟩ (p_ 3 7 (.j ⟨[.box 0 1 y4 []],[1,2]⟩ .e)))) [dc,sK,N0,JP,N1,mh,Be]
noncomputable def iR(a0:ah)(a1:ah):Option Bool:=(bif (decide (a0.ba=a1.ba))then some (ml false a0.aj.an a1.aj.an a0.aj.Value a1.aj.Value)else some false).bind fun b1=>(bif b1 then some (ml false a0.av.an a1.av.an a0.av.Value a1.av.Value)else some false).bind fun b2=>(bif b2 then some (ml false a0.aJ.an a1.aJ.an a0.aJ.Value a1.aJ.Value)else some false).bind fun b3=>(bif b3 then some (ml false a0.aC.an a1.aC.an a0.aC.Value a1.aC.Value)else some false).bind fun b4=>(bif b4 then some (decide (a0.bf=a1.bf))else some false).bind fun b5=>(bif b5 then some (decide (a0.bM=a1.bM))else some false).bind fun b6=>some b6
def DX:=kf func174 [t4,t4] q1 (u2 iR) [] .e []
def mw(a0:Int)(a1:ab)(a2:(List ak))(a3:ao):Option Bool:=(ra a2 a3).bind fun r1=>(gX a0 (ae a1) a2).bind fun r2=>(kb r2 a0 r1.2.1).bind fun r3=>some r3
def GX:=kf func291 [t0,t3,t14,t5] q1 (u4 mw) [] .e [DZ,ov,tw]
def kY(a0:Int)(a1:ab)(a2:(List ak))(a3:ao):Option ao:=(jA a2).bind fun r1=>aD (fun(v2:Int×ao×Unit)=>bif (decide (v2.1<((r1.length:Nat):Int)))then(idx r1 v2.1).bind fun x3=>(bif (decide (x3.an<=1000))then(eF a3 x3).bind fun r4=>some r4 else some false).bind fun b5=>(bif b5 then(mw a0 (ae a1) a2 x3).bind fun r6=>some r6 else some false).bind fun b7=>bif b7 then oR (some x3)else some (Sum.inl ((aB .i64 v2.1 1),v2.2.1,()))else oR (some zB)) (0,zB,())
def IB:=kf func279 [t0,t3,t14,t5] (.one y5) (u4 kY) [] (p_ 4 5 (.j ⟨[.val 14 y0,.box 2 1 y5 []],[0,2,5,7,8,12,13]⟩ .e)) [zQ,iL,GX]
def nZ(a0:ah):Option ah:=(bif (!decide (a0.ba=1))then some true else(bL a0.aj).bind fun r1=>some r1).bind fun b2=>bif b2 then some {a0 with aa:=(ae a0.aa)}else(jm {a0 with aa:=(ae a0.aa)}).bind fun r3=>(kY a0.aq (ae a0.aa) r3 a0.aC).bind fun r4=>(bL r4).bind fun r5=>bif r5 then some {a0 with aa:=(ae a0.aa)}else bm (fun(v6:ah×Unit)=>bm (fun(v8:ah×Unit)=>some {v8.1 with aa:=(ae v8.1.aa)}) fun j9=>(bif (decide (v6.1.bf=0))then(cC v6.1.aj r4).bind fun r10=>some r10 else some false).bind fun b11=>bif b11 then(oF r4.Value v6.1.aj.an v6.1.av v6.1.aJ).bind fun r12=>bif (decide (r12<=r4.an))then j9 ({v6.1 with aa:=(ae v6.1.aa),bf:=r12},())else j9 ({v6.1 with aa:=(ae v6.1.aa)},())else j9 ({v6.1 with aa:=(ae v6.1.aa)},())) fun j7=>(eF a0.aj r4).bind fun r13=>bif r13 then bm (fun(v14:ah×Unit)=>j7 ({v14.1 with aa:=(ae v14.1.aa),aj:=r4},())) fun j15=>(cC a0.aj r4).bind fun r16=>bif (!r16)then j15 ({a0 with aa:=(ae a0.aa),aC:=r4,bf:=0},())else j15 ({a0 with aa:=(ae a0.aa),aC:=r4},())else j7 ({a0 with aa:=(ae a0.aa),aC:=r4},())
def FI:=kf func261 [t4] (.one y4) (u1 nZ) [] (p_ 5 31 (.j ⟨[.box 0 1 y4 []],[1,2,3]⟩ (.b (p_ 2 1 (.j ⟨[.box 0 1 y4 []],[1,2,3]⟩ .e)) (.j ⟨[.box 0 1 y4 []],[1,2]⟩ .e)))) [dc,sK,IB,iL,ep,Be]
def lW(a0:(List ak)):Option (List ByteArray):=aD (fun(v1:(List ByteArray)×Int×Unit)=>bif (decide (v1.2.1<((a0.length:Nat):Int)))then bm (fun(v2:(List ByteArray)×Unit)=>some (Sum.inl (v2.1,(aB .i64 v1.2.1 1),()))) fun j3=>(idx a0 v1.2.1).bind fun x4=>(cJ {x4 with aa:=(ae x4.aa)}).bind fun r5=>bif (!r5)then j3 (v1.1,())else aD (fun(v6:Int×Unit)=>bm (fun(v7:Bool×Unit)=>bif v7.1 then some (Sum.inl ((aB .i64 v6.1 1),()))else oR (bm (fun(v9:Bool×Unit)=>bif v9.1 then bif dN 0 v6.1 (v1.1.length)then bif aT 16 (List.length ((v1.1.take (Int.toNat v6.1)).drop (Int.toNat 0)))then bif aT 16 (List.length ((v1.1.take (Int.toNat v6.1)).drop (Int.toNat 0))+List.length [x4.aj.Value])then bif dN v6.1 (v1.1.length:Int) (v1.1.length)then bif aT 16 (List.length (((v1.1.take (Int.toNat v6.1)).drop (Int.toNat 0))++[x4.aj.Value])+List.length ((v1.1.take (Int.toNat (v1.1.length:Int))).drop (Int.toNat v6.1)))then j3 (((((v1.1.take (Int.toNat v6.1)).drop (Int.toNat 0))++[x4.aj.Value])++((v1.1.take (Int.toNat (v1.1.length:Int))).drop (Int.toNat v6.1))),())else none else none else none else none else none else j3 (v1.1,())) fun j10=>bif (decide (v6.1=((v1.1.length:Nat):Int)))then j10 (true,())else(idx v1.1 v6.1).bind fun x11=>j10 ((!decide (x11=x4.aj.Value)),()))) fun j8=>bif (decide (v6.1<((v1.1.length:Nat):Int)))then(idx v1.1 v6.1).bind fun x12=>(lC x12 x4.aj.Value).bind fun r13=>j8 (r13,())else j8 (false,())) (0,())else oR (some v1.1)) (([]:List ByteArray),0,())
def JU:=kf func292 [t14] (.one y15) (u1 lW) [] (p_ 5 11 (.j ⟨[.val 3 y15,.val 9 y0],[7,8]⟩ (p_ 3 6 (.j ⟨[.val 3 y15],[7,8,9]⟩ (p_ 5 28 (.b (.l (.j ⟨[.val 6 y0],[3,5,7,8,9]⟩ (p_ 2 0 (.j ⟨[.val 29 y1],[3,5,6,7,8,9]⟩ .e)))) (.j ⟨[.val 45 y1],[3,5,6,7,8,9]⟩ (p_ 2 1 (.AY (.zX 3) .e))))))))) [eV,xy]
def gm(a0:(List ak))(a1:ByteArray):Option (List Int):=aD (fun(v1:(List Int)×Int×Unit)=>bif (decide (v1.2.1<((a0.length:Nat):Int)))then bm (fun(v2:(List Int)×Unit)=>some (Sum.inl (v2.1,(aB .i64 v1.2.1 1),()))) fun j3=>(idx a0 v1.2.1).bind fun x4=>(cJ {x4 with aa:=(ae x4.aa)}).bind fun r5=>(bif (!r5)then some true else some (!decide (x4.aj.Value=a1))).bind fun b6=>(bif b6 then some true else some (decide (x4.bf=0))).bind fun b7=>bif b7 then j3 (v1.1,())else aD (fun(v8:(List Int)×Int×Unit)=>bif (decide (v8.2.1<2))then bm (fun(v9:(List Int)×Unit)=>some (Sum.inl (v9.1,(aB .i64 v8.2.1 1),()))) fun j10=>(idx [x4.bf,x4.bM] v8.2.1).bind fun x11=>aD (fun(v12:Int×Unit)=>(bif (decide (v12.1<((v8.1.length:Nat):Int)))then(idx v8.1 v12.1).bind fun x13=>some (decide (x13<x11))else some false).bind fun b14=>bif b14 then some (Sum.inl ((aB .i64 v12.1 1),()))else oR ((bif (decide (v12.1=((v8.1.length:Nat):Int)))then some true else(idx v8.1 v12.1).bind fun x15=>some (!decide (x15=x11))).bind fun b16=>bif b16 then bif dN 0 v12.1 (v8.1.length)then bif aT 8 (List.length ((v8.1.take (Int.toNat v12.1)).drop (Int.toNat 0)))then bif aT 8 (List.length ((v8.1.take (Int.toNat v12.1)).drop (Int.toNat 0))+List.length [x11])then bif dN v12.1 (v8.1.length:Int) (v8.1.length)then bif aT 8 (List.length (((v8.1.take (Int.toNat v12.1)).drop (Int.toNat 0))++[x11])+List.length ((v8.1.take (Int.toNat (v8.1.length:Int))).drop (Int.toNat v12.1)))then j10 (((((v8.1.take (Int.toNat v12.1)).drop (Int.toNat 0))++[x11])++((v8.1.take (Int.toNat (v8.1.length:Int))).drop (Int.toNat v12.1))),())else none else none else none else none else none else j10 (v8.1,()))) (0,())else oR (j3 (v8.1,()))) (v1.1,0,())else oR (some v1.1)) (([]:List Int),0,())
def rI:=kf func293 [t14,t2] (.one y12) (u2 gm) [] (p_ 5 11 (.j ⟨[.val 5 y12,.val 13 y0],[1,11,12]⟩ (p_ 3 6 (.j ⟨[.val 5 y12],[1,11,12,13]⟩ (p_ 6 28 (.j ⟨[.val 5 y12,.val 37 y0],[1,11,12,13,36]⟩ (p_ 3 6 (.j ⟨[.val 5 y12],[1,11,12,13,36,37]⟩ (p_ 4 12 (.b (.l (.j ⟨[.val 10 y0],[1,5,9,11,12,13,36,37]⟩ .e)) (p_ 2 1 (.AY (.zX 5) .e)))))))))))) [eV]
def qY(a0:ao)(a1:ao)(a2:Int)(a3:ByteArray):Option Bool:=(fu a0 (ao.mk a2 a3)).bind fun r1=>(bif (!r1)then(fu a1 (ao.mk a2 a3)).bind fun r2=>some (!r2)else some false).bind fun b3=>some b3
def NY:=kf func294 [t5,t5,t0,t2] q1 (u4 qY) [] .e [vU]
def kZ(a0:ak)(a1:ByteArray)(a2:Int)(a3:Int):Option Bool:=(cJ {a0 with aa:=(ae a0.aa)}).bind fun r1=>(bif (!r1)then some true else some (decide (a2<1))).bind fun b2=>(bif b2 then some true else some (decide (a3<a2))).bind fun b3=>(bif b3 then some true else some (decide (a0.az=1))).bind fun b4=>(bif b4 then some true else some (!decide (a0.aj.Value=a1))).bind fun b5=>(bif b5 then some true else some (decide (a2<a0.bf))).bind fun b6=>bif b6 then some false else(bif (decide (a0.az=3))then some true else some (decide (a3<=a0.bM))).bind fun b7=>some b7
def Bd:=kf func310 [t11,t2,t0,t0] q1 (u4 kZ) [] .e [eV]
def mC(a0:ak)(a1:ByteArray)(a2:Int)(a3:Int):Option Bool:=(cJ {a0 with aa:=(ae a0.aa)}).bind fun r1=>(bif (!r1)then some true else some (decide (a2<1))).bind fun b2=>(bif b2 then some true else some (decide (a3<a2))).bind fun b3=>(bif b3 then some true else some (!decide (a0.aj.Value=a1))).bind fun b4=>(bif b4 then some true else some (decide (a0.bf=0))).bind fun b5=>(bif b5 then some true else some (decide (a2<a0.bf))).bind fun b6=>bif b6 then some false else(bif (!decide (a0.az=1))then some true else some (decide (a3<=a0.bM))).bind fun b7=>some b7
def C0:=kf func311 [t11,t2,t0,t0] q1 (u4 mC) [] .e [eV]
def qX(a0:(List ak))(a1:ByteArray)(a2:Int)(a3:Int):Option (Int×Int×Unit):=aD (fun(v1:Int×(List Bool)×(List Bool)×Unit)=>bif (decide (v1.1<((a0.length:Nat):Int)))then(idx a0 v1.1).bind fun x2=>(kZ {x2 with aa:=(ae x2.aa)} a1 a2 a3).bind fun r3=>(bif r3 then some true else(mC {x2 with aa:=(ae x2.aa)} a1 a2 a3).bind fun r4=>some r4).bind fun b5=>bif aT 1 (v1.2.1.length+List.length [b5])then bif aT 1 (v1.2.2.1.length+List.length [r3])then some (Sum.inl ((aB .i64 v1.1 1),(v1.2.1++[b5]),(v1.2.2.1++[r3]),()))else none else none else oR ((fb a0 v1.2.1).bind fun r6=>(fb a0 v1.2.2.1).bind fun r7=>some (r6,r7,()))) (0,([]:List Bool),([]:List Bool),())
def DY:=kf func304 [t14,t2,t0,t0] (.many [y0,y0]) (u4 qX) [] (p_ 5 11 (.ps (.own 10 4 1 y1) (.ps (.own 11 4 1 y1) (.j ⟨[.val 17 y0,.own 10 7 1 4 1 y1,.own 11 8 1 4 1 y1],[0,1,2,3,15,16]⟩ .e)))) [Bd,C0,wC]
def iC(a0:Int)(a1:ab)(a2:(List ak))(a3:ByteArray)(a4:Int)(a5:Int):Option Bool:=(qX a2 a3 a4 a5).bind fun r1=>(gX a0 (ae a1) a2).bind fun r2=>(k9 r2 a0 r1.1 r1.2.1).bind fun r3=>some r3
def uz:=kf func295 [t0,t3,t14,t2,t0,t0] q1 (u6 iC) [] .e [DY,ov,uB]
def mQ(a0:Int)(a1:ab)(a2:(List ak))(a3:ao)(a4:ao):Option (ByteArray×Int×Int×Bool×Unit):=(lW a2).bind fun r1=>aD (fun(v2:Int×ao×Unit)=>bif (decide (v2.1<((r1.length:Nat):Int)))then(idx r1 v2.1).bind fun x3=>(gm a2 x3).bind fun r4=>aD (fun(v5:Int×ao×Unit)=>bif (decide (v5.1<((r4.length:Nat):Int)))then bm (fun(v6:ao×Unit)=>some (Sum.inl ((aB .i64 v5.1 1),v6.1,()))) fun j7=>(idx r4 v5.1).bind fun x8=>(eF v5.2.1 (ao.mk x8 x3)).bind fun r9=>(bif r9 then(qY a3 a4 x8 x3).bind fun r10=>some r10 else some false).bind fun b11=>(bif b11 then(iC a0 (ae a1) a2 x3 x8 x8).bind fun r12=>some r12 else some false).bind fun b13=>bif b13 then j7 ((ao.mk x8 x3),())else j7 (v5.2.1,())else oR (some (Sum.inl ((aB .i64 v2.1 1),v5.2.1,())))) (0,v2.2.1,())else oR ((bL v2.2.1).bind fun r14=>bif r14 then some ((ByteArray.mk #[]),0,0,false,())else(gm a2 v2.2.1.Value).bind fun r15=>bm (fun(v16:Int×Unit)=>some (v2.2.1.Value,v16.1,v2.2.1.an,true,())) fun j17=>aD (fun(v18:Int×Int×Unit)=>bif (decide (0<=v18.2.1))then bm (fun(v19:Int×Unit)=>some (Sum.inl (v19.1,(ez .i64 v18.2.1 1),()))) fun j20=>(idx r15 v18.2.1).bind fun x21=>bif (decide (v18.1<=x21))then j20 (v18.1,())else(qY a3 a4 x21 v2.2.1.Value).bind fun r22=>(bif (!r22)then some true else(iC a0 (ae a1) a2 v2.2.1.Value x21 v2.2.1.an).bind fun r23=>some (!r23)).bind fun b24=>bif b24 then oR (j17 (v18.1,()))else j20 (x21,())else oR (j17 (v18.1,()))) (v2.2.1.an,(ez .i64 ((r15.length:Nat):Int) 1),()))) (0,zB,())
def LW:=kf func280 [t0,t3,t14,t5,t5] (.many [y2,y0,y0,y1]) (u5 mQ) [] (p_ 2 3 (.b (p_ 2 1 (.j ⟨[.val 27 y0,.box 7 1 y5 []],[0,2,6,8,9,14,25,26]⟩ (p_ 8 102 (.j ⟨[.val 35 y0,.box 7 1 y5 []],[0,2,6,8,9,14,16,25,26,27,33,34]⟩ (p_ 3 6 (.j ⟨[.box 7 1 y5 []],[0,2,6,8,9,14,16,25,26,27,33,34,35]⟩ .e)))))) (p_ 3 7 (.j ⟨[.val 20 y0],[14]⟩ (p_ 3 2 (.j ⟨[.val 20 y0,.val 22 y0],[0,2,6,8,9,14,21]⟩ (p_ 2 2 (.j ⟨[.val 20 y0],[0,2,6,8,9,14,21,22]⟩ .e)))))))) [JU,rI,iL,NY,uz,dc]
def qZ(a0:Int)(a1:ab)(a2:(List ak))(a3:ByteArray)(a4:Int)(a5:Int):Option Int:=(gm a2 a3).bind fun r1=>bm (fun(v2:Int×Unit)=>some v2.1) fun j3=>aD (fun(v4:Int×Int×Unit)=>bif (decide (0<=v4.2.1))then bm (fun(v5:Int×Unit)=>some (Sum.inl (v5.1,(ez .i64 v4.2.1 1),()))) fun j6=>(idx r1 v4.2.1).bind fun x7=>bif (decide (v4.1<=x7))then j6 (v4.1,())else(idx r1 v4.2.1).bind fun x8=>(iC a0 (ae a1) a2 a3 x8 a5).bind fun r9=>bif (!r9)then oR (j3 (v4.1,()))else(idx r1 v4.2.1).bind fun x10=>j6 (x10,())else oR (j3 (v4.1,()))) (a4,(ez .i64 ((r1.length:Nat):Int) 1),())
def NZ:=kf func296 [t0,t3,t14,t2,t0,t0] q0 (u6 qZ) [] (p_ 2 3 (.j ⟨[.val 4 y0],[]⟩ (p_ 3 2 (.j ⟨[.val 4 y0,.val 14 y0],[0,2,3,5,7,13]⟩ (p_ 2 2 (.j ⟨[.val 4 y0],[0,2,3,5,7,13,14]⟩ .e)))))) [rI,uz]
def lV(a0:Int)(a1:ab)(a2:(List ak))(a3:ByteArray)(a4:Int)(a5:Int):Option (Int×Int×Unit):=(gm a2 a3).bind fun r1=>bm (fun(v2:Int×Int×Unit)=>(qZ a0 (ae a1) a2 a3 v2.1 v2.2.1).bind fun r4=>some (r4,v2.2.1,())) fun j3=>aD (fun(v5:Int×Int×Int×Unit)=>(bif (decide (0<=v5.2.2.1))then(idx r1 v5.2.2.1).bind fun x6=>some (decide (v5.2.1<x6))else some false).bind fun b7=>bif b7 then(idx r1 v5.2.2.1).bind fun x8=>(iC a0 (ae a1) a2 a3 x8 x8).bind fun r9=>bif (!r9)then some (Sum.inl (v5.1,v5.2.1,(ez .i64 v5.2.2.1 1),()))else(qZ a0 (ae a1) a2 a3 x8 x8).bind fun r10=>bm (fun(v11:Int×Unit)=>oR (j3 (v11.1,x8,()))) fun j12=>bif (decide (v5.2.1<(ez .i64 r10 1)))then j12 (r10,())else j12 ((eS v5.1 r10),())else oR (j3 (v5.1,v5.2.1,()))) (a4,a5,(ez .i64 ((r1.length:Nat):Int) 1),())
def JR:=kf func281 [t0,t3,t14,t2,t0,t0] (.many [y0,y0]) (u6 lV) [] (p_ 2 3 (.j ⟨[.val 4 y0,.val 5 y0],[0,2,3,7]⟩ (p_ 3 2 (.j ⟨[.val 4 y0,.val 5 y0,.val 15 y0],[0,2,3,7,14]⟩ (p_ 7 114 (.j ⟨[.val 4 y0],[0,2,3,7,14,16]⟩ .e)))))) [rI,uz,NZ]
def oa(a0:ah):Option ah:=bm (fun(v1:ah×ah×Unit)=>some {v1.1 with aa:=(ae v1.1.aa)}) fun j2=>bif (decide (a0.ba=1))then(jm {a0 with aa:=(ae a0.aa)}).bind fun r3=>(mQ a0.aq (ae a0.aa) r3 a0.av a0.aJ).bind fun r4=>bif (!r4.2.2.2.1)then some {a0 with aa:=(ae a0.aa)}else bm (fun(v5:ah×Unit)=>bm (fun(v7:ah×Unit)=>j2 ({v7.1 with aa:=(ae v7.1.aa),ba:=2,aJ:=zB,aC:=(ao.mk r4.2.2.1 r4.1),bf:=r4.2.1,bM:=r4.2.2.1},(ah.mk 0 0 0 (ab.mk 0 ([]:List Int) ([]:List ab)) 0 zB zB zB zB 0 0 (ByteArray.mk #[]) ([]:List ak)),())) fun j8=>(ka v5.1.av (ao.mk r4.2.2.1 r4.1)).bind fun r9=>bif (!r9)then j8 ({v5.1 with aa:=(ae v5.1.aa),av:=(ao.mk r4.2.2.1 r4.1)},())else j8 ({v5.1 with aa:=(ae v5.1.aa)},())) fun j6=>(cC a0.aj (ao.mk r4.2.2.1 r4.1)).bind fun r10=>(bif (!r10)then some true else(eF a0.aj (ao.mk r4.2.2.1 r4.1)).bind fun r11=>some r11).bind fun b12=>bif b12 then j6 ({a0 with aa:=(ae a0.aa),aj:=(ao.mk (bV a0.aj.an r4.2.2.1) r4.1)},())else j6 ({a0 with aa:=(ae a0.aa)},())else bif (decide (a0.ba=2))then(jm {a0 with aa:=(ae a0.aa)}).bind fun r13=>(lV a0.aq (ae a0.aa) r13 a0.aj.Value a0.bf a0.bM).bind fun r14=>j2 ({a0 with aa:=(ae a0.aa),aj:=(ao.mk (bV a0.aj.an r14.2.1) a0.aj.Value),av:=(ao.mk (bV a0.av.an r14.2.1) a0.av.Value),aC:=(ao.mk (bV a0.aC.an r14.2.1) a0.aj.Value),bf:=r14.1,bM:=r14.2.1},(ah.mk 0 0 0 (ab.mk 0 ([]:List Int) ([]:List ab)) 0 zB zB zB zB 0 0 (ByteArray.mk #[]) ([]:List ak)),())else j2 ({a0 with aa:=(ae a0.aa)},(ah.mk 0 0 0 (ab.mk 0 ([]:List Int) ([]:List ab)) 0 zB zB zB zB 0 0 (ByteArray.mk #[]) ([]:List ak)),())
def FJ:=kf func262 [t4] (.one y4) (u1 oa) [] (.r (.j ⟨[.box 0 1 y4 [],.box 1 1 y4 []],[1,2]⟩ (p_ 8 234 (.j ⟨[.box 0 1 y4 []],[1,2,4,5,7]⟩ (.r (.j ⟨[.box 0 1 y4 []],[1,2,4,5,7]⟩ .e)))))) [sK,LW,ep,iL,vT,JR]
def jZ(a0:Int)(a1:ab)(a2:(List ak))(a3:ByteArray)(a4:Int)(a5:Int):Option Bool:=(qX a2 a3 a4 a5).bind fun r1=>(gX a0 (ae a1) a2).bind fun r2=>(kb r2 a0 r1.2.1).bind fun r3=>some r3
def GW:=kf func297 [t0,t3,t14,t2,t0,t0] q1 (u6 jZ) [] .e [DY,ov,tw]
def mR(a0:Int)(a1:ab)(a2:(List ak))(a3:ByteArray):Option (Int×Int×Bool×Unit):=(gm a2 a3).bind fun r1=>aD (fun(v2:Int×Unit)=>bif (decide (0<=v2.1))then(idx r1 v2.1).bind fun x3=>(jZ a0 (ae a1) a2 a3 x3 x3).bind fun r4=>bif (!r4)then some (Sum.inl ((ez .i64 v2.1 1),()))else aD (fun(v5:Int×Int×Unit)=>bm (fun(v6:Bool×Unit)=>bif v6.1 then(idx r1 v5.2.1).bind fun x8=>some (Sum.inl (x8,(ez .i64 v5.2.1 1),()))else oR (oR (some (v5.1,x3,true,())))) fun j7=>bif (decide (0<=v5.2.1))then(idx r1 v5.2.1).bind fun x9=>(jZ a0 (ae a1) a2 a3 x9 x3).bind fun r10=>j7 (r10,())else j7 (false,())) (x3,(ez .i64 v2.1 1),())else oR (some (0,0,false,()))) ((ez .i64 ((r1.length:Nat):Int) 1),())
def LX:=kf func282 [t0,t3,t14,t2] (.many [y0,y0,y1]) (u4 mR) [] (p_ 5 11 (.j ⟨[.val 12 y0],[0,2,3,5,11]⟩ (p_ 10 370 (.j ⟨[.val 14 y0,.val 15 y0],[0,2,3,5,11,13]⟩ (p_ 2 0 (.j ⟨[.val 54 y1],[0,2,3,5,11,13,14,15]⟩ .e)))))) [rI,GW]
def ta(a0:ah):Option ah:=bif (!decide (a0.ba=2))then some {a0 with aa:=(ae a0.aa)}else(jm {a0 with aa:=(ae a0.aa)}).bind fun r1=>(mR a0.aq (ae a0.aa) r1 a0.aj.Value).bind fun r2=>bif (!r2.2.2.1)then some {a0 with aa:=(ae a0.aa)}else some (ah.mk a0.aq a0.aE a0.aO (ae a0.aa) 3 (ao.mk r2.2.1 a0.aj.Value) zB zB zB r2.1 r2.2.1 a0.bU a0.aF)
def LU:=kf func263 [t4] (.one y4) (u1 ta) [] .e [sK,LX]
def jz(a0:ak):Option Int:=(cJ {a0 with aa:=(ae a0.aa)}).bind fun r1=>bif (!r1)then some 0 else bif (decide (a0.az=3))then some 1000000 else some a0.aj.an
def uA:=kf func256 [t11] q0 (u1 jz) [] .e [eV]
def pH(a0:ah)(a1:Int):Option Bool:=aD (fun(v1:Int×(List Bool)×Unit)=>bif (decide (v1.1<((a0.aF.length:Nat):Int)))then(idx a0.aF v1.1).bind fun x2=>(jz {x2 with aa:=(ae x2.aa)}).bind fun r3=>bif aT 1 (v1.2.1.length+List.length [(decide (a1<r3))])then some (Sum.inl ((aB .i64 v1.1 1),(v1.2.1++[(decide (a1<r3))]),()))else none else oR ((jm {a0 with aa:=(ae a0.aa)}).bind fun r4=>(gX a0.aq (ae a0.aa) r4).bind fun r5=>(fb a0.aF v1.2.1).bind fun r6=>(lX r5 a0.aq r6).bind fun r7=>some r7)) (0,([]:List Bool),())
def LV:=kf func283 [t4,t0] q1 (u2 pH) [] (p_ 5 11 (.ps (.own 5 4 1 y1) (.j ⟨[.val 11 y0,.own 5 7 1 4 1 y1],[1,2,9,10]⟩ .e))) [uA,sK,ov,wC,Bf]
def rW(a0:ah):Option ah:=(bif (decide (a0.ba=3))then some true else(pH {a0 with aa:=(ae a0.aa)} a0.aj.an).bind fun r1=>some (!r1)).bind fun b2=>bif b2 then some {a0 with aa:=(ae a0.aa)}else aD (fun(v3:Int×Int×Unit)=>bif (decide (v3.2.1<((a0.aF.length:Nat):Int)))then bm (fun(v4:Int×Unit)=>some (Sum.inl (v4.1,(aB .i64 v3.2.1 1),()))) fun j5=>(idx a0.aF v3.2.1).bind fun x6=>(jz {x6 with aa:=(ae x6.aa)}).bind fun r7=>(bif (decide (a0.aj.an<r7))then some (decide (r7<v3.1))else some false).bind fun b8=>(bif b8 then(pH {a0 with aa:=(ae a0.aa)} r7).bind fun r9=>some (!r9)else some false).bind fun b10=>bif b10 then j5 (r7,())else j5 (v3.1,())else oR (bm (fun(v11:ByteArray×Unit)=>bm (fun(v13:ah×Unit)=>some {v13.1 with aa:=(ae v13.1.aa),aj:=(ao.mk (bV v13.1.aj.an (eS v3.1 1000)) v11.1)}) fun j14=>bif (!decide (v11.1=a0.aj.Value))then j14 ({a0 with aa:=(ae a0.aa),bf:=0},())else j14 ({a0 with aa:=(ae a0.aa)},())) fun j12=>bif (decide (a0.ba=1))then(lu {a0 with aa:=(ae a0.aa)}).bind fun r15=>j12 (r15,())else j12 (a0.aj.Value,()))) (1000000,0,())
def JQ:=kf func264 [t4] (.one y4) (u1 rW) [] (p_ 3 7 (.b (p_ 2 1 (.j ⟨[.val 3 y0,.val 23 y0],[1,2,21,22]⟩ (p_ 3 6 (.j ⟨[.val 3 y0],[1,2,21,22,23]⟩ .e)))) (.r (.j ⟨[.val 7 y2],[1,2,3]⟩ (.r (.j ⟨[.box 0 1 y4 []],[1,2,3,7]⟩ .e)))))) [LV,uA,xq]
def qi(a0:ah):Option ah:=(fU {a0 with aa:=(ae a0.aa)}).bind fun r1=>bif (!r1)then some {a0 with aa:=(ae a0.aa)}else aD (fun(v2:ah×ah×Unit)=>(pa {v2.1 with aa:=(ae v2.1.aa)}).bind fun r3=>bm (fun(v4:ah×Unit)=>bm (fun(v6:ah×Unit)=>bm (fun(v8:ah×Unit)=>bm (fun(v10:ah×Unit)=>(iR {v2.1 with aa:=(ae v2.1.aa)} {v10.1 with aa:=(ae v10.1.aa)}).bind fun r12=>bif r12 then bm (fun(v13:ah×Unit)=>oR (some {v13.1 with aa:=(ae v13.1.aa)})) fun j14=>(bL v10.1.aj).bind fun r15=>bif (!r15)then j14 ({v10.1 with aO:=(bV v10.1.aO 1),aa:=(ae v10.1.aa)},())else j14 ({v10.1 with aa:=(ae v10.1.aa)},())else some (Sum.inl ({v10.1 with aa:=(ae v10.1.aa)},{v2.2.1 with aa:=(ae v2.2.1.aa)},()))) fun j11=>(iR {v2.1 with aa:=(ae v2.1.aa)} {v8.1 with aa:=(ae v8.1.aa)}).bind fun r16=>bif r16 then(rW {v8.1 with aa:=(ae v8.1.aa)}).bind fun r17=>j11 ({r17 with aa:=(ae r17.aa)},())else j11 ({v8.1 with aa:=(ae v8.1.aa)},())) fun j9=>(iR {v2.1 with aa:=(ae v2.1.aa)} {v6.1 with aa:=(ae v6.1.aa)}).bind fun r18=>bif r18 then(ta {v6.1 with aa:=(ae v6.1.aa)}).bind fun r19=>j9 ({r19 with aa:=(ae r19.aa)},())else j9 ({v6.1 with aa:=(ae v6.1.aa)},())) fun j7=>(iR {v2.1 with aa:=(ae v2.1.aa)} {v4.1 with aa:=(ae v4.1.aa)}).bind fun r20=>bif r20 then(oa {v4.1 with aa:=(ae v4.1.aa)}).bind fun r21=>j7 ({r21 with aa:=(ae r21.aa)},())else j7 ({v4.1 with aa:=(ae v4.1.aa)},())) fun j5=>(iR {v2.1 with aa:=(ae v2.1.aa)} {r3 with aa:=(ae r3.aa)}).bind fun r22=>bif r22 then(nZ {r3 with aa:=(ae r3.aa)}).bind fun r23=>j5 ({r23 with aa:=(ae r23.aa)},())else j5 ({r3 with aa:=(ae r3.aa)},())) ({a0 with aa:=(ae a0.aa)},(ah.mk 0 0 0 (ab.mk 0 ([]:List Int) ([]:List ab)) 0 zB zB zB zB 0 0 (ByteArray.mk #[]) ([]:List ak)),())
def IA:=kf func236 [t4] (.one y4) (u1 qi) [] (p_ 3 3 (.j ⟨[.box 0 1 y4 [],.box 1 1 y4 []],[1,2]⟩ (p_ 4 12 (.j ⟨[.box 0 1 y4 []],[1,2,3]⟩ (.r (.j ⟨[.box 0 1 y4 []],[1,2,3]⟩ (.r (.j ⟨[.box 0 1 y4 []],[1,2,3]⟩ (.r (.j ⟨[.box 0 1 y4 []],[1,2,3]⟩ (p_ 3 3 (.j ⟨[.box 0 1 y4 []],[1,2]⟩ .e)))))))))))) [jE,GV,DX,FI,FJ,LU,JQ,dc]
def fP(a0:ah)(a1:ah):Option ah:=(qi {a1 with aa:=(ae a1.aa)}).bind fun r1=>(bL r1.aj).bind fun r2=>bif r2 then some {r1 with aa:=(ae r1.aa)}else(fQ {a0 with aa:=(ae a0.aa)}).bind fun r3=>(fQ {r1 with aa:=(ae r1.aa)}).bind fun r4=>bm (fun(v5:ah×Unit)=>some {v5.1 with aa:=(ae v5.1.aa)}) fun j6=>(bL a0.aj).bind fun r7=>(bif (!r7)then(iS {r3 with aO:=0,aa:=(ae r3.aa)} {r4 with aO:=0,aa:=(ae r4.aa)}).bind fun r8=>some (!r8)else some false).bind fun b9=>bif b9 then j6 ({r1 with aO:=(eS (aB .i64 r1.aO 1) 1000000),aa:=(ae r1.aa)},())else j6 ({r1 with aa:=(ae r1.aa)},())
def oZ:=kf func209 [t4,t4] (.one y4) (u2 fP) [] (p_ 5 31 (.j ⟨[.box 1 1 y4 []],[3,4]⟩ .e)) [IA,dc,mh,yM]
def kX(a0:ah)(a1:ByteArray):Option (ah×Int×Unit):=(fU {a0 with aa:=(ae a0.aa)}).bind fun r1=>bif (!r1)then some ((ah.mk 0 0 0 (ab.mk 0 ([]:List Int) ([]:List ab)) 0 zB zB zB zB 0 0 (ByteArray.mk #[]) ([]:List ak)),13,())else(bif (decide (((ByteArray.size a1:Nat):Int)<1))then some true else some (decide (200<((ByteArray.size a1:Nat):Int)))).bind fun b2=>bif b2 then some ((ah.mk 0 0 0 (ab.mk 0 ([]:List Int) ([]:List ab)) 0 zB zB zB zB 0 0 (ByteArray.mk #[]) ([]:List ak)),1,())else bm (fun(v3:ah×Unit)=>(fP {a0 with aa:=(ae a0.aa)} {v3.1 with aa:=(ae v3.1.aa)}).bind fun r5=>some ({r5 with aa:=(ae r5.aa)},0,())) fun j4=>(bL a0.aj).bind fun r6=>bif r6 then(lu {a0 with aa:=(ae a0.aa),bU:=a1}).bind fun r7=>j4 ({a0 with aO:=1,aa:=(ae a0.aa),aj:=(ao.mk 1 r7),bU:=a1},())else j4 ({a0 with aa:=(ae a0.aa),bU:=a1},())
def zN:=kf func169 [t4,t2] (.many [y4,y0]) (u2 kX) [] (p_ 5 31 (.j ⟨[.box 0 1 y4 []],[2,4,6]⟩ .e)) [jE,dc,xq,oZ]
def gl(a0:bw):Option bw:=bm (fun(v1:bw×Unit)=>(ny {v1.1.au with aa:=(ae v1.1.au.aa)}).bind fun r3=>some (bw.mk {v1.1.aw with aa:=(ae v1.1.aw.aa)} {v1.1.au with aa:=(ae v1.1.au.aa)} v1.1.Timer v1.1.Round v1.1.Next r3.2.1 r3.1)) fun j2=>(oc a0.aw.dG).bind fun r4=>(bif r4.2.1 then some (decide (a0.au.ba=1))else some false).bind fun b5=>(bif b5 then(bL a0.au.aC).bind fun r6=>some r6 else some false).bind fun b7=>(bif b7 then some (!decide (r4.1=a0.au.bU))else some false).bind fun b8=>bif b8 then(kX {a0.au with aa:=(ae a0.au.aa)} r4.1).bind fun r9=>bif (decide (r9.2.1=0))then j2 ({a0 with aw:={a0.aw with aa:=(ae a0.aw.aa)},au:={r9.1 with aa:=(ae r9.1.aa)}},())else j2 ({a0 with aw:={a0.aw with aa:=(ae a0.aw.aa)},au:={a0.au with aa:=(ae a0.au.aa)}},())else j2 ({a0 with aw:={a0.aw with aa:=(ae a0.aw.aa)},au:={a0.au with aa:=(ae a0.au.aa)}},())
def lR:=kf func170 [t13] (.one y13) (u1 gl) [] (.r (.j ⟨[.box 0 1 y13 []],[1,2]⟩ .e)) [FL,dc,zN,zP]
def wR(a0:Int)(a1:Int)(a2:ab)(a3:ByteArray)(a4:Int):Option (bw×Int×Unit):=(bif (decide (a4<0))then some true else some (decide (200<a4))).bind fun b1=>bif b1 then some ((bw.mk (aA.mk 0 0 0 0 (ab.mk 0 ([]:List Int) ([]:List ab)) (ByteArray.mk #[]) ([]:List ByteArray) ([]:List ByteArray) ([]:List ByteArray) ([]:List ax)) (ah.mk 0 0 0 (ab.mk 0 ([]:List Int) ([]:List ab)) 0 zB zB zB zB 0 0 (ByteArray.mk #[]) ([]:List ak)) (dX.mk 0 0) 0 0 false (ByteArray.mk #[])),1,())else(wS a0 a1 (ae a2)).bind fun r2=>bif (!decide (r2.2.1=0))then some ((bw.mk (aA.mk 0 0 0 0 (ab.mk 0 ([]:List Int) ([]:List ab)) (ByteArray.mk #[]) ([]:List ByteArray) ([]:List ByteArray) ([]:List ByteArray) ([]:List ax)) (ah.mk 0 0 0 (ab.mk 0 ([]:List Int) ([]:List ab)) 0 zB zB zB zB 0 0 (ByteArray.mk #[]) ([]:List ak)) (dX.mk 0 0) 0 0 false (ByteArray.mk #[])),r2.2.1,())else(tb a0 a1 (ae a2) a3).bind fun r3=>bif (!decide (r3.2.1=0))then some ((bw.mk (aA.mk 0 0 0 0 (ab.mk 0 ([]:List Int) ([]:List ab)) (ByteArray.mk #[]) ([]:List ByteArray) ([]:List ByteArray) ([]:List ByteArray) ([]:List ax)) (ah.mk 0 0 0 (ab.mk 0 ([]:List Int) ([]:List ab)) 0 zB zB zB zB 0 0 (ByteArray.mk #[]) ([]:List ak)) (dX.mk 0 0) 0 0 false (ByteArray.mk #[])),r3.2.1,())else(oC 1).bind fun r4=>(gl (bw.mk {r3.1 with aa:=(ae r3.1.aa)} {r2.1 with aa:=(ae r2.1.aa)} (dX.mk 0 (-1:Int)) 1 (aB .i64 a4 r4) false (ByteArray.mk #[]))).bind fun r5=>some ({r5 with aw:={r5.aw with aa:=(ae r5.aw.aa)},au:={r5.au with aa:=(ae r5.au.aa)}},0,())
def PL:=kf func168 [t0,t0,t3,t2,t0] (.many [y13,y0]) (u5 wR) [] .e [PM,LY,yL,lR]
def pF(a0:ay)(a1:Int)(a2:ByteArray)(a3:Int):Option (ay×Int×Unit):=(vb {a0 with aa:=(ae a0.aa)} a1).bind fun r1=>bif r1.2.1 then some ((ay.mk 0 false (ab.mk 0 ([]:List Int) ([]:List ab)) ([]:List bw)),6,())else bif (decide (((a0.bE.length:Nat):Int)=8))then some ((ay.mk 0 false (ab.mk 0 ([]:List Int) ([]:List ab)) ([]:List bw)),3,())else(wR a0.aq a1 (ae a0.aa) a2 a3).bind fun r2=>bif (!decide (r2.2.1=0))then some ((ay.mk 0 false (ab.mk 0 ([]:List Int) ([]:List ab)) ([]:List bw)),r2.2.1,())else bif dN 0 r1.1 (a0.bE.length)then bif aT 496 (List.length ((a0.bE.take (Int.toNat r1.1)).drop (Int.toNat 0)))then bif aT 496 (List.length ((a0.bE.take (Int.toNat r1.1)).drop (Int.toNat 0))+List.length [{r2.1 with aw:={r2.1.aw with aa:=(ae r2.1.aw.aa)},au:={r2.1.au with aa:=(ae r2.1.au.aa)}}])then bif dN r1.1 (a0.bE.length:Int) (a0.bE.length)then bif aT 496 (List.length (((a0.bE.take (Int.toNat r1.1)).drop (Int.toNat 0))++[{r2.1 with aw:={r2.1.aw with aa:=(ae r2.1.aw.aa)},au:={r2.1.au with aa:=(ae r2.1.au.aa)}}])+List.length ((a0.bE.take (Int.toNat (a0.bE.length:Int))).drop (Int.toNat r1.1)))then some ({a0 with aa:=(ae a0.aa),bE:=((((a0.bE.take (Int.toNat r1.1)).drop (Int.toNat 0))++[{r2.1 with aw:={r2.1.aw with aa:=(ae r2.1.aw.aa)},au:={r2.1.au with aa:=(ae r2.1.au.aa)}}])++((a0.bE.take (Int.toNat (a0.bE.length:Int))).drop (Int.toNat r1.1)))},0,())else none else none else none else none else none
def CI:=kf func130 [t10,t0,t2,t0] (.many [y10,y0]) (u4 pF) [] .e [Ir,PL]
def pE(a0:ay)(a1:Int)(a2:ByteArray)(a3:Int):Option (ay×Int×Int×Unit):=(vb {a0 with aa:=(ae a0.aa)} a1).bind fun r1=>bif r1.2.1 then some ({a0 with aa:=(ae a0.aa)},r1.1,0,())else(pF {a0 with aa:=(ae a0.aa)} a1 a2 a3).bind fun r2=>(vb {r2.1 with aa:=(ae r2.1.aa)} a1).bind fun r3=>some ({r2.1 with aa:=(ae r2.1.aa)},r3.1,r2.2.1,())
def CH:=kf func131 [t10,t0,t2,t0] (.many [y10,y0,y0]) (u4 pE) [] .e [Ir,CI]
def vo(a0:aA)(a1:ax):Option (aA×Int×Unit):=(lx {a0 with aa:=(ae a0.aa)}).bind fun r1=>(bif (!r1)then some true else(pK {a1 with aa:=(ae a1.aa)}).bind fun r2=>some (!r2)).bind fun b3=>(bif b3 then some true else some (decide (a1.aq=a0.aq))).bind fun b4=>bif b4 then some ((aA.mk 0 0 0 0 (ab.mk 0 ([]:List Int) ([]:List ab)) (ByteArray.mk #[]) ([]:List ByteArray) ([]:List ByteArray) ([]:List ByteArray) ([]:List ax)),1,())else aD (fun(v5:Bool×Int×aA×aA×(List ax)×Unit)=>bif (decide (v5.2.1<((a0.aF.length:Nat):Int)))then bm (fun(v6:Bool×aA×aA×(List ax)×Unit)=>some (Sum.inl (v6.1,(aB .i64 v5.2.1 1),{v6.2.1 with aa:=(ae v6.2.1.aa)},{v6.2.2.1 with aa:=(ae v6.2.2.1.aa),aF:=([]:List ax)},v6.2.2.2.1,()))) fun j7=>(idx a0.aF v5.2.1).bind fun x8=>bif (decide (x8.aq=a1.aq))then bif (decide (a1.aO<=x8.aO))then oR (some ((aA.mk 0 0 0 0 (ab.mk 0 ([]:List Int) ([]:List ab)) (ByteArray.mk #[]) ([]:List ByteArray) ([]:List ByteArray) ([]:List ByteArray) ([]:List ax)),9,()))else j7 (v5.1,{v5.2.2.1 with aa:=(ae v5.2.2.1.aa)},{v5.2.2.2.1 with aa:=(ae v5.2.2.2.1.aa),aF:=([]:List ax)},v5.2.2.2.2.1,())else bm (fun(v9:Bool×aA×(List ax)×Unit)=>bif aT 120 (v9.2.2.1.length+List.length [{x8 with aa:=(ae x8.aa)}])then j7 (v9.1,{v5.2.2.1 with aa:=(ae v5.2.2.1.aa)},{v9.2.1 with aa:=(ae v9.2.1.aa),aF:=([]:List ax)},(v9.2.2.1++[{x8 with aa:=(ae x8.aa)}]),())else none) fun j10=>(bif (decide (a1.aq<x8.aq))then some (!v5.1)else some false).bind fun b11=>bif b11 then bif aT 120 (v5.2.2.2.2.1.length+List.length [{a1 with aa:=(ae a1.aa)}])then j10 (true,{v5.2.2.2.1 with aa:=(ae v5.2.2.2.1.aa),aF:=([]:List ax)},(v5.2.2.2.2.1++[{a1 with aa:=(ae a1.aa)}]),())else none else j10 (v5.1,{v5.2.2.2.1 with aa:=(ae v5.2.2.2.1.aa),aF:=([]:List ax)},v5.2.2.2.2.1,())else oR (bm (fun(v12:aA×(List ax)×Unit)=>(iE {a0 with aa:=(ae a0.aa)} {v12.1 with aa:=(ae v12.1.aa),aF:=v12.2.1}).bind fun r14=>some ({r14 with aa:=(ae r14.aa)},0,())) fun j13=>bif (!v5.1)then bif aT 120 (v5.2.2.2.2.1.length+List.length [{a1 with aa:=(ae a1.aa)}])then j13 ({v5.2.2.2.1 with aa:=(ae v5.2.2.2.1.aa),aF:=([]:List ax)},(v5.2.2.2.2.1++[{a1 with aa:=(ae a1.aa)}]),())else none else j13 ({v5.2.2.2.1 with aa:=(ae v5.2.2.2.1.aa),aF:=([]:List ax)},v5.2.2.2.2.1,()))) (false,0,(aA.mk 0 0 0 0 (ab.mk 0 ([]:List Int) ([]:List ab)) (ByteArray.mk #[]) ([]:List ByteArray) ([]:List ByteArray) ([]:List ByteArray) ([]:List ax)),{a0 with aa:=(ae a0.aa),aF:=([]:List ax)},([]:List ax),())
def N5:=kf func197 [t7,.ty y18] (.many [y7,y0]) (u2 vo) [] (p_ 5 31 (.b (p_ 2 1 (.ps (.tu 6 11 43 7 y18) (.j ⟨[.val 7 y1,.val 31 y0,.box 2 1 y7 [],.box 20 1 y7 [(11,29,1)],.eR 29 1 43 7 y18],[2,3,4,6,29,30]⟩ (p_ 3 6 (.j ⟨[.val 7 y1,.box 2 1 y7 [],.box 20 1 y7 [(11,29,1)],.eR 29 1 43 7 y18],[2,3,4,6,29,30,31]⟩ (p_ 4 12 (.j ⟨[.val 7 y1,.box 20 1 y7 [(11,29,1)],.eR 29 1 43 7 y18],[2,3,4,6,9,29,30,31]⟩ .e))))))) (.j ⟨[.box 20 1 y7 [(11,29,1)],.eR 29 1 43 7 y18],[2,4,6]⟩ (p_ 2 1 (.g [(0,.ps (.Ax 6 11))]))))) [sV,CO,pW]
def nY(a0:bw)(a1:ax):Option (bw×Int×Unit):=(hY {a0 with aw:={a0.aw with aa:=(ae a0.aw.aa)},au:={a0.au with aa:=(ae a0.au.aa)}}).bind fun r1=>bif (!r1)then some ((bw.mk (aA.mk 0 0 0 0 (ab.mk 0 ([]:List Int) ([]:List ab)) (ByteArray.mk #[]) ([]:List ByteArray) ([]:List ByteArray) ([]:List ByteArray) ([]:List ax)) (ah.mk 0 0 0 (ab.mk 0 ([]:List Int) ([]:List ab)) 0 zB zB zB zB 0 0 (ByteArray.mk #[]) ([]:List ak)) (dX.mk 0 0) 0 0 false (ByteArray.mk #[])),13,())else(vo {a0.aw with aa:=(ae a0.aw.aa)} {a1 with aa:=(ae a1.aa)}).bind fun r2=>bif (!decide (r2.2.1=0))then some ((bw.mk (aA.mk 0 0 0 0 (ab.mk 0 ([]:List Int) ([]:List ab)) (ByteArray.mk #[]) ([]:List ByteArray) ([]:List ByteArray) ([]:List ByteArray) ([]:List ax)) (ah.mk 0 0 0 (ab.mk 0 ([]:List Int) ([]:List ab)) 0 zB zB zB zB 0 0 (ByteArray.mk #[]) ([]:List ak)) (dX.mk 0 0) 0 0 false (ByteArray.mk #[])),r2.2.1,())else(gl {a0 with aw:={r2.1 with aa:=(ae r2.1.aa)},au:={a0.au with aa:=(ae a0.au.aa)}}).bind fun r3=>some ({r3 with aw:={r3.aw with aa:=(ae r3.aw.aa)},au:={r3.au with aa:=(ae r3.au.aa)}},0,())
def FH:=kf func162 [t13,.ty y18] (.many [y13,y0]) (u2 nY) [] .e [lg,N5,lR]
noncomputable def iQ(a0:ay)(a1:Int)(a2:bw)(a3:Int):Option (ay×Int×Unit):=bif (!decide (a3=0))then some ((ay.mk 0 false (ab.mk 0 ([]:List Int) ([]:List ab)) ([]:List bw)),a3,())else bif aT 496 (a0.bE.length)then(idx a0.bE a1).bind fun x1=>(a0.bE[(Int.toNat a1)]?).bind fun x2=>some ({a0 with aa:=(ae a0.aa),bE:=(a0.bE.set (Int.toNat a1) {a2 with aw:={a2.aw with aa:=(ae a2.aw.aa)},au:={a2.au with aa:=(ae a2.au.aa)}})},0,())else none
def uy:=kf func133 [t10,t0,t13,t0] (.many [y10,y0]) (u4 iQ) [] .e []
def wU(a0:(List ak))(a1:ak):Option ((List ak)×Bool×Unit):=(cJ {a1 with aa:=(ae a1.aa)}).bind fun r1=>bif (!r1)then some (a0,false,())else aD (fun(v2:Int×Unit)=>bif (decide (v2.1<((a0.length:Nat):Int)))then(idx a0 v2.1).bind fun x3=>bif (decide (x3.aq=a1.aq))then bif (decide (a1.aO<=x3.aO))then oR (some (a0,false,()))else bif dN 0 v2.1 (a0.length)then bif aT 176 (List.length ((a0.take (Int.toNat v2.1)).drop (Int.toNat 0)))then bif aT 176 (List.length ((a0.take (Int.toNat v2.1)).drop (Int.toNat 0))+List.length [{a1 with aa:=(ae a1.aa)}])then bif dN (aB .i64 v2.1 1) (a0.length:Int) (a0.length)then bif aT 176 (List.length (((a0.take (Int.toNat v2.1)).drop (Int.toNat 0))++[{a1 with aa:=(ae a1.aa)}])+List.length ((a0.take (Int.toNat (a0.length:Int))).drop (Int.toNat (aB .i64 v2.1 1))))then oR (some (((((a0.take (Int.toNat v2.1)).drop (Int.toNat 0))++[{a1 with aa:=(ae a1.aa)}])++((a0.take (Int.toNat (a0.length:Int))).drop (Int.toNat (aB .i64 v2.1 1)))),true,()))else none else none else none else none else none else some (Sum.inl ((aB .i64 v2.1 1),()))else oR (aD (fun(v4:Int×Unit)=>bm (fun(v5:Bool×Unit)=>bif v5.1 then some (Sum.inl ((aB .i64 v4.1 1),()))else oR (bif dN 0 v4.1 (a0.length)then bif aT 176 (List.length ((a0.take (Int.toNat v4.1)).drop (Int.toNat 0)))then bif aT 176 (List.length ((a0.take (Int.toNat v4.1)).drop (Int.toNat 0))+List.length [{a1 with aa:=(ae a1.aa)}])then bif dN v4.1 (a0.length:Int) (a0.length)then bif aT 176 (List.length (((a0.take (Int.toNat v4.1)).drop (Int.toNat 0))++[{a1 with aa:=(ae a1.aa)}])+List.length ((a0.take (Int.toNat (a0.length:Int))).drop (Int.toNat v4.1)))then some (((((a0.take (Int.toNat v4.1)).drop (Int.toNat 0))++[{a1 with aa:=(ae a1.aa)}])++((a0.take (Int.toNat (a0.length:Int))).drop (Int.toNat v4.1))),true,())else none else none else none else none else none)) fun j6=>bif (decide (v4.1<((a0.length:Nat):Int)))then(idx a0 v4.1).bind fun x7=>j6 ((decide (x7.aq<a1.aq)),())else j6 (false,())) (0,()))) (0,())
def PN:=kf func233 [t14,t11] (.many [y14,y1]) (u2 wU) [] (p_ 2 3 (.b (p_ 2 1 (.j ⟨[.val 15 y0],[0,3,13,14]⟩ .e)) (p_ 3 1 (.j ⟨[.val 8 y0],[0,3]⟩ (p_ 2 0 (.j ⟨[.val 57 y1],[0,3,8]⟩ .e)))))) [eV]
def jy(a0:ah)(a1:ak):Option (ah×Int×Unit):=(fU {a0 with aa:=(ae a0.aa)}).bind fun r1=>bif (!r1)then some ((ah.mk 0 0 0 (ab.mk 0 ([]:List Int) ([]:List ab)) 0 zB zB zB zB 0 0 (ByteArray.mk #[]) ([]:List ak)),13,())else(cJ {a1 with aa:=(ae a1.aa)}).bind fun r2=>(bif (!r2)then some true else some (decide (a1.aq=a0.aq))).bind fun b3=>(bif b3 then some true else some (!decide (a1.aE=a0.aE))).bind fun b4=>bif b4 then some ((ah.mk 0 0 0 (ab.mk 0 ([]:List Int) ([]:List ab)) 0 zB zB zB zB 0 0 (ByteArray.mk #[]) ([]:List ak)),61,())else(wU a0.aF {a1 with aa:=(ae a1.aa)}).bind fun r5=>bif (!r5.2.1)then some ((ah.mk 0 0 0 (ab.mk 0 ([]:List Int) ([]:List ab)) 0 zB zB zB zB 0 0 (ByteArray.mk #[]) ([]:List ak)),9,())else(fP {a0 with aa:=(ae a0.aa)} {a0 with aa:=(ae a0.aa),aF:=r5.1}).bind fun r6=>some ({r6 with aa:=(ae r6.aa)},0,())
def Iy:=kf func198 [t4,t11] (.many [y4,y0]) (u2 jy) [] .e [jE,eV,PN,oZ]
def o8(a0:bw)(a1:ak):Option (bw×Int×Unit):=(hY {a0 with aw:={a0.aw with aa:=(ae a0.aw.aa)},au:={a0.au with aa:=(ae a0.au.aa)}}).bind fun r1=>bif (!r1)then some ((bw.mk (aA.mk 0 0 0 0 (ab.mk 0 ([]:List Int) ([]:List ab)) (ByteArray.mk #[]) ([]:List ByteArray) ([]:List ByteArray) ([]:List ByteArray) ([]:List ax)) (ah.mk 0 0 0 (ab.mk 0 ([]:List Int) ([]:List ab)) 0 zB zB zB zB 0 0 (ByteArray.mk #[]) ([]:List ak)) (dX.mk 0 0) 0 0 false (ByteArray.mk #[])),13,())else(jy {a0.au with aa:=(ae a0.au.aa)} {a1 with aa:=(ae a1.aa)}).bind fun r2=>bif (!decide (r2.2.1=0))then some ((bw.mk (aA.mk 0 0 0 0 (ab.mk 0 ([]:List Int) ([]:List ab)) (ByteArray.mk #[]) ([]:List ByteArray) ([]:List ByteArray) ([]:List ByteArray) ([]:List ax)) (ah.mk 0 0 0 (ab.mk 0 ([]:List Int) ([]:List ab)) 0 zB zB zB zB 0 0 (ByteArray.mk #[]) ([]:List ak)) (dX.mk 0 0) 0 0 false (ByteArray.mk #[])),r2.2.1,())else(gl {a0 with aw:={a0.aw with aa:=(ae a0.aw.aa)},au:={r2.1 with aa:=(ae r2.1.aa)}}).bind fun r3=>some ({r3 with aw:={r3.aw with aa:=(ae r3.aw.aa)},au:={r3.au with aa:=(ae r3.au.aa)}},0,())
def GS:=kf func163 [t13,t11] (.many [y13,y0]) (u2 o8) [] .e [lg,Iy,lR]
def vf(a0:ay)(a1:aQ)(a2:Int):Option (ay×Int×Unit):=(fT {a0 with aa:=(ae a0.aa)}).bind fun r1=>bif (!r1)then some ((ay.mk 0 false (ab.mk 0 ([]:List Int) ([]:List ab)) ([]:List bw)),13,())else bif a0.kU then some ({a0 with aa:=(ae a0.aa)},0,())else(bif (!decide (a1.az=1))then some (!decide (a1.az=2))else some false).bind fun b2=>(bif b2 then some true else(bif (decide (a1.az=2))then some (!decide (a1.aE=a1.ai.aE))else some false).bind fun b3=>some b3).bind fun b4=>bif b4 then some ((ay.mk 0 false (ab.mk 0 ([]:List Int) ([]:List ab)) ([]:List bw)),1,())else(pE {a0 with aa:=(ae a0.aa)} a1.aE (ByteArray.mk #[48]) a2).bind fun r5=>bif (!decide (r5.2.2.1=0))then some ((ay.mk 0 false (ab.mk 0 ([]:List Int) ([]:List ab)) ([]:List bw)),r5.2.2.1,())else bif (decide (a1.az=1))then(idx r5.1.bE r5.2.1).bind fun x6=>(nY {x6 with aw:={x6.aw with aa:=(ae x6.aw.aa)},au:={x6.au with aa:=(ae x6.au.aa)}} {a1.al with aa:=(ae a1.al.aa)}).bind fun r7=>(iQ {r5.1 with aa:=(ae r5.1.aa)} r5.2.1 {r7.1 with aw:={r7.1.aw with aa:=(ae r7.1.aw.aa)},au:={r7.1.au with aa:=(ae r7.1.au.aa)}} r7.2.1).bind fun r8=>some ({r8.1 with aa:=(ae r8.1.aa)},r8.2.1,())else(idx r5.1.bE r5.2.1).bind fun x9=>(o8 {x9 with aw:={x9.aw with aa:=(ae x9.aw.aa)},au:={x9.au with aa:=(ae x9.au.aa)}} {a1.ai with aa:=(ae a1.ai.aa)}).bind fun r10=>(iQ {r5.1 with aa:=(ae r5.1.aa)} r5.2.1 {r10.1 with aw:={r10.1.aw with aa:=(ae r10.1.aw.aa)},au:={r10.1.au with aa:=(ae r10.1.au.aa)}} r10.2.1).bind fun r11=>some ({r11.1 with aa:=(ae r11.1.aa)},r11.2.1,())
def NS:=kf func124 [t10,.ty y19,t0] (.many [y10,y0]) (u3 vf) [] .e [jD,CH,FH,uy,GS]
noncomputable def mr(a0:aZ)(a1:ay):Option aZ:=bif aT 96 (a0.aH.length)then(idx a0.aH a1.aq).bind fun x1=>(a0.aH[(Int.toNat a1.aq)]?).bind fun x2=>some {a0 with aH:=(a0.aH.set (Int.toNat a1.aq) {a1 with aa:=(ae a1.aa)})}else none
def yJ:=kf func88 [t8,t10] (.one y8) (u2 mr) [] .e []
def vm(a0:aA):Option (aA×Int×Unit):=(lx {a0 with aa:=(ae a0.aa)}).bind fun r1=>bif (!r1)then some ((aA.mk 0 0 0 0 (ab.mk 0 ([]:List Int) ([]:List ab)) (ByteArray.mk #[]) ([]:List ByteArray) ([]:List ByteArray) ([]:List ByteArray) ([]:List ax)),1,())else bif (decide (a0.Round=1000))then some ((aA.mk 0 0 0 0 (ab.mk 0 ([]:List Int) ([]:List ab)) (ByteArray.mk #[]) ([]:List ByteArray) ([]:List ByteArray) ([]:List ByteArray) ([]:List ax)),3,())else(iE {a0 with aa:=(ae a0.aa)} {a0 with Round:=(aB .i64 a0.Round 1),aa:=(ae a0.aa)}).bind fun r2=>some ({r2 with aa:=(ae r2.aa)},0,())
def N3:=kf func199 [t7] (.many [y7,y0]) (u1 vm) [] .e [sV,pW]
def nu(a0:ah):Option (ak×Bool×Unit):=(fU {a0 with aa:=(ae a0.aa)}).bind fun r1=>(bif (!r1)then some true else(bL a0.aj).bind fun r2=>some r2).bind fun b3=>bif b3 then some ((ak.mk 0 0 0 (ab.mk 0 ([]:List Int) ([]:List ab)) 0 zB zB zB 0 0),false,())else(fQ {a0 with aa:=(ae a0.aa)}).bind fun r4=>some ({r4 with aa:=(ae r4.aa)},true,())
def zO:=kf func204 [t4] (.many [y11,y1]) (u1 nu) [] .e [jE,dc,mh]
def o9(a0:ah):Option Bool:=(nu {a0 with aa:=(ae a0.aa)}).bind fun r1=>(bif (!r1.2.1)then some true else some (decide (a0.ba=3))).bind fun b2=>bif b2 then some false else bif aT 176 (List.length [{r1.1 with aa:=(ae r1.1.aa)}]+a0.aF.length)then aD (fun(v3:Int×(List Bool)×Unit)=>bif (decide (v3.1<((List.length ([{r1.1 with aa:=(ae r1.1.aa)}]++a0.aF):Nat):Int)))then(idx ([{r1.1 with aa:=(ae r1.1.aa)}]++a0.aF) v3.1).bind fun x4=>(([{r1.1 with aa:=(ae r1.1.aa)}]++a0.aF)[(Int.toNat v3.1)]?).bind fun x5=>(jz {x5 with aa:=(ae x5.aa)}).bind fun r6=>(jz {r1.1 with aa:=(ae r1.1.aa)}).bind fun r7=>bif aT 1 (v3.2.1.length+List.length [(decide (r7<=r6))])then some (Sum.inl ((aB .i64 v3.1 1),(v3.2.1++[(decide (r7<=r6))]),()))else none else oR ((gX a0.aq (ae a0.aa) ([{r1.1 with aa:=(ae r1.1.aa)}]++a0.aF)).bind fun r8=>(fb ([{r1.1 with aa:=(ae r1.1.aa)}]++a0.aF) v3.2.1).bind fun r9=>(ja r8 r9).bind fun r10=>if(bI .u64 a0.aq)<0 then none else some (decide ((qQ .i64 (oi .i64 r10 (bI .u64 a0.aq)) 1)=1)))) (0,([]:List Bool),())else none
def GU:=kf func234 [t4] q1 (u1 o9) [23] (p_ 5 31 (.b (p_ 2 1 (.ps (.own 6 4 1 y1) (.j ⟨[.val 29 y0,.own 6 27 1 4 1 y1],[1,3,5,27,28]⟩ .e))) (.l (.g [(0,.ps (.zX 5))])))) [zO,uA,ov,wC,tx]
def vh(a0:dX)(a1:ah)(a2:Int):Option (dX×Bool×Unit):=(pG a0).bind fun r1=>(bif (!r1)then some true else some (decide (a2<0))).bind fun b2=>(bif b2 then some true else some (decide (200<a2))).bind fun b3=>bif b3 then some ((dX.mk 0 (-1:Int)),false,())else(o9 {a1 with aa:=(ae a1.aa)}).bind fun r4=>bif (!r4)then some ((dX.mk a1.aj.an (-1:Int)),false,())else(bif (decide (a0.nC<0))then some true else some (!decide (a0.an=a1.aj.an))).bind fun b5=>bif b5 then(oC a1.aj.an).bind fun r6=>some ((dX.mk a1.aj.an (aB .i64 a2 r6)),false,())else bif (decide (a0.nC<=a2))then some ((dX.mk a1.aj.an (-1:Int)),true,())else some (a0,false,())
def NW:=kf func201 [.ty (Ty.st .Timer),t4,t0] (.many [(Ty.st .Timer),y1]) (u3 vh) [] .e [CJ,GU,yL]
def nr(a0:ah):Option (ah×Int×Unit):=(fU {a0 with aa:=(ae a0.aa)}).bind fun r1=>bif (!r1)then some ((ah.mk 0 0 0 (ab.mk 0 ([]:List Int) ([]:List ab)) 0 zB zB zB zB 0 0 (ByteArray.mk #[]) ([]:List ak)),13,())else(lu {a0 with aa:=(ae a0.aa)}).bind fun r2=>(bif (decide (a0.ba=3))then some true else some (decide (r2=(ByteArray.mk #[])))).bind fun b3=>bif b3 then some ((ah.mk 0 0 0 (ab.mk 0 ([]:List Int) ([]:List ab)) 0 zB zB zB zB 0 0 (ByteArray.mk #[]) ([]:List ak)),62,())else bif (decide (1000<=a0.aj.an))then some ((ah.mk 0 0 0 (ab.mk 0 ([]:List Int) ([]:List ab)) 0 zB zB zB zB 0 0 (ByteArray.mk #[]) ([]:List ak)),3,())else bm (fun(v4:ah×Unit)=>(fP {a0 with aa:=(ae a0.aa)} {v4.1 with aO:=(bV v4.1.aO 1),aa:=(ae v4.1.aa),aj:=(ao.mk (aB .i64 v4.1.aj.an 1) r2)}).bind fun r6=>some ({r6 with aa:=(ae r6.aa)},0,())) fun j5=>bif (!decide (r2=a0.aj.Value))then j5 ({a0 with aa:=(ae a0.aa),bf:=0},())else j5 ({a0 with aa:=(ae a0.aa)},())
def Ix:=kf func202 [t4] (.many [y4,y0]) (u1 nr) [] (p_ 6 63 (.j ⟨[.box 0 1 y4 []],[1,2,4,5]⟩ .e)) [jE,xq,oZ]
def qW(a0:bw)(a1:Int):Option (bw×Int×Unit):=(hY {a0 with aw:={a0.aw with aa:=(ae a0.aw.aa)},au:={a0.au with aa:=(ae a0.au.aa)}}).bind fun r1=>bif (!r1)then some ((bw.mk (aA.mk 0 0 0 0 (ab.mk 0 ([]:List Int) ([]:List ab)) (ByteArray.mk #[]) ([]:List ByteArray) ([]:List ByteArray) ([]:List ByteArray) ([]:List ax)) (ah.mk 0 0 0 (ab.mk 0 ([]:List Int) ([]:List ab)) 0 zB zB zB zB 0 0 (ByteArray.mk #[]) ([]:List ak)) (dX.mk 0 0) 0 0 false (ByteArray.mk #[])),13,())else(bif (decide (a1<0))then some true else some (decide (200<a1))).bind fun b2=>bif b2 then some ((bw.mk (aA.mk 0 0 0 0 (ab.mk 0 ([]:List Int) ([]:List ab)) (ByteArray.mk #[]) ([]:List ByteArray) ([]:List ByteArray) ([]:List ByteArray) ([]:List ax)) (ah.mk 0 0 0 (ab.mk 0 ([]:List Int) ([]:List ab)) 0 zB zB zB zB 0 0 (ByteArray.mk #[]) ([]:List ak)) (dX.mk 0 0) 0 0 false (ByteArray.mk #[])),1,())else bm (fun(v3:bw×Unit)=>(vh v3.1.Timer {v3.1.au with aa:=(ae v3.1.au.aa)} a1).bind fun r5=>bm (fun(v6:bw×Unit)=>some ({v6.1 with aw:={v6.1.aw with aa:=(ae v6.1.aw.aa)},au:={v6.1.au with aa:=(ae v6.1.au.aa)}},0,())) fun j7=>bif r5.2.1 then bm (fun(v8:bw×Unit)=>(gl {v8.1 with aw:={v8.1.aw with aa:=(ae v8.1.aw.aa)},au:={v8.1.au with aa:=(ae v8.1.au.aa)}}).bind fun r10=>j7 ({r10 with aw:={r10.aw with aa:=(ae r10.aw.aa)},au:={r10.au with aa:=(ae r10.au.aa)}},())) fun j9=>(nr {v3.1.au with aa:=(ae v3.1.au.aa)}).bind fun r11=>bif (decide (r11.2.1=0))then j9 ({v3.1 with aw:={v3.1.aw with aa:=(ae v3.1.aw.aa)},au:={r11.1 with aa:=(ae r11.1.aa)},Timer:=r5.1},())else j9 ({v3.1 with aw:={v3.1.aw with aa:=(ae v3.1.aw.aa)},au:={v3.1.au with aa:=(ae v3.1.au.aa)},Timer:=r5.1},())else j7 ({v3.1 with aw:={v3.1.aw with aa:=(ae v3.1.aw.aa)},au:={v3.1.au with aa:=(ae v3.1.au.aa)},Timer:=r5.1},())) fun j4=>(bif (decide (((a0.aw.dG.length:Nat):Int)=0))then some (decide (a0.Next<=a1))else some false).bind fun b12=>bif b12 then bm (fun(v13:bw×Unit)=>(oC (eS (aB .i64 v13.1.Round 1) 1000)).bind fun r15=>(gl (bw.mk {v13.1.aw with aa:=(ae v13.1.aw.aa)} {v13.1.au with aa:=(ae v13.1.au.aa)} v13.1.Timer (eS (aB .i64 v13.1.Round 1) 1000) (aB .i64 a1 r15) v13.1.AJ v13.1.Value)).bind fun r16=>j4 ({r16 with aw:={r16.aw with aa:=(ae r16.aw.aa)},au:={r16.au with aa:=(ae r16.au.aa)}},())) fun j14=>(vm {a0.aw with aa:=(ae a0.aw.aa)}).bind fun r17=>bif (decide (r17.2.1=0))then j14 ({a0 with aw:={r17.1 with aa:=(ae r17.1.aa)},au:={a0.au with aa:=(ae a0.au.aa)}},())else j14 ({a0 with aw:={a0.aw with aa:=(ae a0.aw.aa)},au:={a0.au with aa:=(ae a0.au.aa)}},())else j4 ({a0 with aw:={a0.aw with aa:=(ae a0.aw.aa)},au:={a0.au with aa:=(ae a0.au.aa)}},())
def NU:=kf func164 [t13,t0] (.many [y13,y0]) (u2 qW) [] (p_ 3 7 (.j ⟨[.box 0 1 y13 []],[1,2,4]⟩ (.b (p_ 2 1 (.j ⟨[.box 0 1 y13 []],[1,2,4]⟩ .e)) (p_ 2 3 (.j ⟨[.box 0 1 y13 []],[2,4]⟩ (p_ 3 2 (.j ⟨[.box 0 1 y13 []],[2,4]⟩ .e))))))) [lg,N3,yL,lR,NW,Ix]
def vc(a0:ay)(a1:Int):Option (ay×Int×Unit):=(fT {a0 with aa:=(ae a0.aa)}).bind fun r1=>bif (!r1)then some ((ay.mk 0 false (ab.mk 0 ([]:List Int) ([]:List ab)) ([]:List bw)),13,())else bif a0.kU then some ({a0 with aa:=(ae a0.aa)},0,())else aD (fun(v2:Int×ay×ay×Unit)=>bif (decide (v2.1<((a0.bE.length:Nat):Int)))then(idx v2.2.1.bE v2.1).bind fun x3=>(qW {x3 with aw:={x3.aw with aa:=(ae x3.aw.aa)},au:={x3.au with aa:=(ae x3.au.aa)}} a1).bind fun r4=>(iQ {v2.2.1 with aa:=(ae v2.2.1.aa)} v2.1 {r4.1 with aw:={r4.1.aw with aa:=(ae r4.1.aw.aa)},au:={r4.1.au with aa:=(ae r4.1.au.aa)}} r4.2.1).bind fun r5=>bif (!decide (r5.2.1=0))then oR (some ((ay.mk 0 false (ab.mk 0 ([]:List Int) ([]:List ab)) ([]:List bw)),r5.2.1,()))else some (Sum.inl ((aB .i64 v2.1 1),{r5.1 with aa:=(ae r5.1.aa)},{v2.2.2.1 with aa:=(ae v2.2.2.1.aa)},()))else oR (some ({v2.2.1 with aa:=(ae v2.2.1.aa)},0,()))) (0,{a0 with aa:=(ae a0.aa)},(ay.mk 0 false (ab.mk 0 ([]:List Int) ([]:List ab)) ([]:List bw)),())
def NP:=kf func125 [t10,t0] (.many [y10,y0]) (u2 vc) [] (p_ 6 23 (.j ⟨[.val 20 y0,.box 0 1 y10 [],.box 1 1 y10 []],[1,2,4,19]⟩ .e)) [jD,NU,uy]
def qh(a0:bw):Option (List aQ):=(hY {a0 with aw:={a0.aw with aa:=(ae a0.aw.aa)},au:={a0.au with aa:=(ae a0.au.aa)}}).bind fun r1=>bif (!r1)then some ([]:List aQ)else bm (fun(v2:(List aQ)×Unit)=>bm (fun(v4:(List aQ)×Unit)=>some v4.1) fun j5=>(nu {a0.au with aa:=(ae a0.au.aa)}).bind fun r6=>bif r6.2.1 then bif aT 312 (v2.1.length+List.length [(aQ.mk 2 a0.au.aE (ax.mk 0 0 (ab.mk 0 ([]:List Int) ([]:List ab)) ([]:List ByteArray) ([]:List ByteArray)) {r6.1 with aa:=(ae r6.1.aa)})])then j5 ((v2.1++[(aQ.mk 2 a0.au.aE (ax.mk 0 0 (ab.mk 0 ([]:List Int) ([]:List ab)) ([]:List ByteArray) ([]:List ByteArray)) {r6.1 with aa:=(ae r6.1.aa)})]),())else none else j5 (v2.1,())) fun j3=>bif (!a0.AJ)then(sR {a0.aw with aa:=(ae a0.aw.aa)}).bind fun r7=>bif aT 312 (List.length ([]:List aQ)+List.length [(aQ.mk 1 a0.au.aE {r7 with aa:=(ae r7.aa)} (ak.mk 0 0 0 (ab.mk 0 ([]:List Int) ([]:List ab)) 0 zB zB zB 0 0))])then j3 ((([]:List aQ)++[(aQ.mk 1 a0.au.aE {r7 with aa:=(ae r7.aa)} (ak.mk 0 0 0 (ab.mk 0 ([]:List Int) ([]:List ab)) 0 zB zB zB 0 0))]),())else none else j3 (([]:List aQ),())
def Iv:=kf func165 [t13] (.one (Ty.sl (Ty.st .af))) (u1 qh) [] (p_ 3 7 (.ps (.own 3 49 24 y19) (.j ⟨[.own 3 6 1 49 24 y19],[1]⟩ (.r (.j ⟨[.own 3 6 1 49 24 y19],[]⟩ .e))))) [lg,Gp,zO]
def qf(a0:ay):Option (List aQ):=(fT {a0 with aa:=(ae a0.aa)}).bind fun r1=>(bif (!r1)then some true else some a0.kU).bind fun b2=>bif b2 then some ([]:List aQ)else aD (fun(v3:Int×(List aQ)×Unit)=>bif (decide (v3.1<((a0.bE.length:Nat):Int)))then(idx a0.bE v3.1).bind fun x4=>(qh {x4 with aw:={x4.aw with aa:=(ae x4.aw.aa)},au:={x4.au with aa:=(ae x4.au.aa)}}).bind fun r5=>bif aT 312 (v3.2.1.length+r5.length)then some (Sum.inl ((aB .i64 v3.1 1),(v3.2.1++r5),()))else none else oR (some v3.2.1)) (0,([]:List aQ),())
def Is:=kf func126 [t10] (.one (Ty.sl (Ty.st .af))) (u1 qf) [] (p_ 6 23 (.ps (.own 3 49 24 y19) (.j ⟨[.val 16 y0,.own 3 14 1 49 24 y19],[14,15]⟩ .e))) [jD,Iv]
noncomputable def s7(a0:aY)(a1:Int)(a2:Int):Option Int:=(bif (decide (((a0.eO.length:Nat):Int)=0))then some true else(idx a0.eO (aB .i64 (sj .i64 a1 10) a2)).bind fun x1=>some (decide (x1=0))).bind fun b2=>bif b2 then some 1 else(idx a0.eO (aB .i64 (sj .i64 a1 10) a2)).bind fun x3=>some x3
def LP:=kf func166 [t17,t0,t0] q0 (u3 s7) [] .e []
def qV(a0:aY)(a1:Int)(a2:Int)(a3:aQ)(a4:Int):Option (aY×Int×Unit):=(jF a0).bind fun r1=>bif (!r1)then some ((aY.mk ([]:List bD) 0 ([]:List Int) ([]:List Int)),13,())else(gW a1).bind fun r2=>(bif (!r2)then some true else(gW a2).bind fun r3=>some (!r3)).bind fun b4=>(bif b4 then some true else some (decide (a1=a2))).bind fun b5=>bif b5 then some ((aY.mk ([]:List bD) 0 ([]:List Int) ([]:List Int)),5,())else(bif (decide (a4<0))then some true else some (decide (200<a4))).bind fun b6=>bif b6 then some ((aY.mk ([]:List bD) 0 ([]:List Int) ([]:List Int)),1,())else(bif (decide (((a0.bh.length:Nat):Int)=4000))then some true else some (decide (a0.Next=1000000000))).bind fun b7=>bif b7 then some ((aY.mk ([]:List bD) 0 ([]:List Int) ([]:List Int)),3,())else(s7 a0 a1 a2).bind fun r8=>aD (fun(v9:Int×Unit)=>bm (fun(v10:Bool×Unit)=>bif v10.1 then some (Sum.inl ((ez .i64 v9.1 1),()))else oR (bif decide (0<=(aB .i64 ((a0.bh.length:Nat):Int) 1))&&decide ((0:Int)<=0)&&aT 344 (Int.toNat (aB .i64 ((a0.bh.length:Nat):Int) 1))then bif dN 0 v9.1 (a0.bh.length)then bif aT 344 (List.length (List.replicate (Int.toNat 0) (bD.mk 0 0 0 0 (aQ.mk 0 0 (ax.mk 0 0 (ab.mk 0 ([]:List Int) ([]:List ab)) ([]:List ByteArray) ([]:List ByteArray)) (ak.mk 0 0 0 (ab.mk 0 ([]:List Int) ([]:List ab)) 0 zB zB zB 0 0))))+List.length ((a0.bh.take (Int.toNat v9.1)).drop (Int.toNat 0)))then bif aT 344 (List.length ((List.replicate (Int.toNat 0) (bD.mk 0 0 0 0 (aQ.mk 0 0 (ax.mk 0 0 (ab.mk 0 ([]:List Int) ([]:List ab)) ([]:List ByteArray) ([]:List ByteArray)) (ak.mk 0 0 0 (ab.mk 0 ([]:List Int) ([]:List ab)) 0 zB zB zB 0 0))))++((a0.bh.take (Int.toNat v9.1)).drop (Int.toNat 0)))+List.length [(bD.mk (aB .i64 a4 r8) a1 a2 a0.Next {a3 with al:={a3.al with aa:=(ae a3.al.aa)},ai:={a3.ai with aa:=(ae a3.ai.aa)}})])then bif dN v9.1 (a0.bh.length:Int) (a0.bh.length)then bif aT 344 (List.length (((List.replicate (Int.toNat 0) (bD.mk 0 0 0 0 (aQ.mk 0 0 (ax.mk 0 0 (ab.mk 0 ([]:List Int) ([]:List ab)) ([]:List ByteArray) ([]:List ByteArray)) (ak.mk 0 0 0 (ab.mk 0 ([]:List Int) ([]:List ab)) 0 zB zB zB 0 0))))++((a0.bh.take (Int.toNat v9.1)).drop (Int.toNat 0)))++[(bD.mk (aB .i64 a4 r8) a1 a2 a0.Next {a3 with al:={a3.al with aa:=(ae a3.al.aa)},ai:={a3.ai with aa:=(ae a3.ai.aa)}})])+List.length ((a0.bh.take (Int.toNat (a0.bh.length:Int))).drop (Int.toNat v9.1)))then some ({a0 with bh:=((((List.replicate (Int.toNat 0) (bD.mk 0 0 0 0 (aQ.mk 0 0 (ax.mk 0 0 (ab.mk 0 ([]:List Int) ([]:List ab)) ([]:List ByteArray) ([]:List ByteArray)) (ak.mk 0 0 0 (ab.mk 0 ([]:List Int) ([]:List ab)) 0 zB zB zB 0 0))))++((a0.bh.take (Int.toNat v9.1)).drop (Int.toNat 0)))++[(bD.mk (aB .i64 a4 r8) a1 a2 a0.Next {a3 with al:={a3.al with aa:=(ae a3.al.aa)},ai:={a3.ai with aa:=(ae a3.ai.aa)}})])++((a0.bh.take (Int.toNat (a0.bh.length:Int))).drop (Int.toNat v9.1))),Next:=(aB .i64 a0.Next 1)},0,())else none else none else none else none else none else none)) fun j11=>bif (decide (0<v9.1))then(idx a0.bh (ez .i64 v9.1 1)).bind fun x12=>(oB (bD.mk (aB .i64 a4 r8) a1 a2 a0.Next {a3 with al:={a3.al with aa:=(ae a3.al.aa)},ai:={a3.ai with aa:=(ae a3.ai.aa)}}) {x12 with af:={x12.af with al:={x12.af.al with aa:=(ae x12.af.al.aa)},ai:={x12.af.ai with aa:=(ae x12.af.ai.aa)}}}).bind fun r13=>j11 (r13,())else j11 (false,())) (((a0.bh.length:Nat):Int),())
def DU:=kf func127 [t17,t0,t0,.ty y19,t0] (.many [y17,y0]) (u5 qV) [] (p_ 6 15 (.j ⟨[.val 13 y0],[5,10,12]⟩ (p_ 2 0 (.j ⟨[.val 80 y1],[5,10,12,13]⟩ .e)))) [pk,ux,LP,Bb]
def uZ(a0:aZ):Option (aZ×Int×Unit):=bif (decide (200<=a0.Time))then some ((aZ.mk 0 ([]:List ay) 0 (aY.mk ([]:List bD) 0 ([]:List Int) ([]:List Int)) ([]:List (List ab))),3,())else(wQ a0.Net (aB .i64 a0.Time 1)).bind fun r1=>aD (fun(v2:Int×aZ×Unit)=>bif (decide (v2.1<((r1.1.length:Nat):Int)))then bm (fun(v3:aZ×Unit)=>some (Sum.inl ((aB .i64 v2.1 1),v3.1,()))) fun j4=>(idx r1.1 v2.1).bind fun x5=>(bif (decide (((v2.2.1.aH.length:Nat):Int)<=x5.To))then some true else(kL v2.2.1 x5.To).bind fun r6=>some r6).bind fun b7=>bif b7 then j4 (v2.2.1,())else(idx v2.2.1.aH x5.To).bind fun x8=>(vf {x8 with aa:=(ae x8.aa)} {x5.af with al:={x5.af.al with aa:=(ae x5.af.al.aa)},ai:={x5.af.ai with aa:=(ae x5.af.ai.aa)}} v2.2.1.Time).bind fun r9=>bif (decide (r9.2.1=0))then(mr v2.2.1 {r9.1 with aa:=(ae r9.1.aa)}).bind fun r10=>j4 (r10,())else j4 (v2.2.1,())else oR (aD (fun(v11:Int×aZ×Unit)=>bif (decide (v11.1<((v2.2.1.aH.length:Nat):Int)))then bm (fun(v12:aZ×Unit)=>some (Sum.inl ((aB .i64 v11.1 1),v12.1,()))) fun j13=>(kL v11.2.1 v11.1).bind fun r14=>bif r14 then j13 (v11.2.1,())else(idx v11.2.1.aH v11.1).bind fun x15=>(vc {x15 with aa:=(ae x15.aa)} v11.2.1.Time).bind fun r16=>bif (decide (r16.2.1=0))then(mr v11.2.1 {r16.1 with aa:=(ae r16.1.aa)}).bind fun r17=>j13 (r17,())else j13 (v11.2.1,())else oR (aD (fun(v18:Int×aZ×Unit)=>bif (decide (v18.1<((v11.2.1.aH.length:Nat):Int)))then bm (fun(v19:aZ×Unit)=>some (Sum.inl ((aB .i64 v18.1 1),v19.1,()))) fun j20=>(idx v11.2.1.aH v18.1).bind fun x21=>(kL v18.2.1 v18.1).bind fun r22=>bif r22 then j20 (v18.2.1,())else(qf {x21 with aa:=(ae x21.aa)}).bind fun r23=>aD (fun(v24:Int×aZ×Unit)=>bif (decide (v24.1<((r23.length:Nat):Int)))then(idx r23 v24.1).bind fun x25=>aD (fun(v26:Int×aZ×Unit)=>bif (decide (v26.1<((v24.2.1.aH.length:Nat):Int)))then bm (fun(v27:aZ×Unit)=>some (Sum.inl ((aB .i64 v26.1 1),v27.1,()))) fun j28=>bif (decide (v26.1=v18.1))then j28 (v26.2.1,())else(qV v26.2.1.Net v18.1 v26.1 {x25 with al:={x25.al with aa:=(ae x25.al.aa)},ai:={x25.ai with aa:=(ae x25.ai.aa)}} v26.2.1.Time).bind fun r29=>bif (decide (r29.2.1=0))then j28 ({v26.2.1 with Net:=r29.1},())else j28 (v26.2.1,())else oR (some (Sum.inl ((aB .i64 v24.1 1),v26.2.1,())))) (0,v24.2.1,())else oR (j20 (v24.2.1,()))) (0,v18.2.1,())else oR (some (v18.2.1,0,()))) (0,v11.2.1,()))) (0,v2.2.1,()))) (0,{a0 with Time:=(aB .i64 a0.Time 1),Net:=r1.2.1},())
def NJ:=kf func79 [t8] (.many [y8,y0]) (u1 uZ) [] (p_ 5 31 (.b (p_ 2 1 (.j ⟨[.val 40 y0,.box 0 1 y8 []],[1,2,38,39]⟩ (p_ 3 6 (.j ⟨[.box 0 1 y8 []],[1,2,38,39,40]⟩ .e)))) (.b (p_ 2 1 (.j ⟨[.val 79 y0,.box 0 1 y8 []],[1,2,78]⟩ (p_ 3 6 (.j ⟨[.box 0 1 y8 []],[1,2,78,79]⟩ .e)))) (p_ 3 2 (.j ⟨[.val 105 y0,.box 0 1 y8 []],[1,2,103,104]⟩ (p_ 3 6 (.j ⟨[.box 0 1 y8 []],[1,2,103,104,105]⟩ (p_ 6 28 (.j ⟨[.val 116 y0,.box 0 1 y8 []],[1,2,13,103,104,105,114,115]⟩ (p_ 8 102 (.j ⟨[.val 123 y0,.box 0 1 y8 []],[1,2,13,16,103,104,105,114,115,116,122]⟩ (p_ 3 6 (.j ⟨[.box 0 1 y8 []],[1,2,13,16,103,104,105,114,115,116,122,123]⟩ .e))))))))))))) [PK,yK,NS,yJ,NP,Is,DU]
def va(a0:aY)(a1:(List Int)):Option (aY×Int×Unit):=(jF a0).bind fun r1=>bif (!r1)then some ((aY.mk ([]:List bD) 0 ([]:List Int) ([]:List Int)),13,())else(pC a1).bind fun r2=>bif (!r2)then some ((aY.mk ([]:List bD) 0 ([]:List Int) ([]:List Int)),1,())else bif aT 8 (a1.length)then some ({a0 with bx:=a1},0,())else none
def NO:=kf func80 [t17,t12] (.many [y17,y0]) (u2 va) [] .e [pk,CG]
def s8(a0:aY)(a1:Int)(a2:Int)(a3:Int):Option (aY×Int×Unit):=(jF a0).bind fun r1=>bif (!r1)then some ((aY.mk ([]:List bD) 0 ([]:List Int) ([]:List Int)),13,())else(gW a1).bind fun r2=>(bif (!r2)then some true else(gW a2).bind fun r3=>some (!r3)).bind fun b4=>bif b4 then some ((aY.mk ([]:List bD) 0 ([]:List Int) ([]:List Int)),5,())else(bif (decide (a3<0))then some true else some (decide (20<a3))).bind fun b5=>bif b5 then some ((aY.mk ([]:List bD) 0 ([]:List Int) ([]:List Int)),1,())else bif decide ((100:Int)<=100)&&decide ((0:Int)<=100)&&aT 8 (Int.toNat 100)then(idx (ll (List.replicate (Int.toNat 100) 0) 0 (List.length (List.replicate (Int.toNat 100) 0)) a0.eO) (aB .i64 (sj .i64 a1 10) a2)).bind fun x6=>((ll (List.replicate (Int.toNat 100) 0) 0 (List.length (List.replicate (Int.toNat 100) 0)) a0.eO)[(Int.toNat (aB .i64 (sj .i64 a1 10) a2))]?).bind fun x7=>some ({a0 with eO:=((ll (List.replicate (Int.toNat 100) 0) 0 (List.length (List.replicate (Int.toNat 100) 0)) a0.eO).set (Int.toNat (aB .i64 (sj .i64 a1 10) a2)) a3)},0,())else none
def LQ:=kf func81 [t17,t0,t0,t0] (.many [y17,y0]) (u4 s8) [] .e [pk,ux]
def u7(a0:aZ)(a1:aI):Option (aZ×Int×Unit):=(kL a0 a1.aq).bind fun r1=>(bif (!r1)then some true else(pB a0 a1.To).bind fun r2=>some (!r2)).bind fun b3=>(bif b3 then some true else some (decide (a1.To=a1.aq))).bind fun b4=>bif b4 then some ((aZ.mk 0 ([]:List ay) 0 (aY.mk ([]:List bD) 0 ([]:List Int) ([]:List Int)) ([]:List (List ab))),63,())else(bif (decide (a1.af.az=1))then some (!decide (a1.af.al.aq=a1.aq))else some false).bind fun b5=>(bif b5 then some true else(bif (decide (a1.af.az=2))then some (!decide (a1.af.ai.aq=a1.aq))else some false).bind fun b6=>some b6).bind fun b7=>bif b7 then some ((aZ.mk 0 ([]:List ay) 0 (aY.mk ([]:List bD) 0 ([]:List Int) ([]:List Int)) ([]:List (List ab))),64,())else(bif (!decide (a1.af.az=1))then some (!decide (a1.af.az=2))else some false).bind fun b8=>bif b8 then some ((aZ.mk 0 ([]:List ay) 0 (aY.mk ([]:List bD) 0 ([]:List Int) ([]:List Int)) ([]:List (List ab))),1,())else(qV a0.Net a1.aq a1.To {a1.af with al:={a1.af.al with aa:=(ae a1.af.al.aa)},ai:={a1.af.ai with aa:=(ae a1.af.ai.aa)}} a0.Time).bind fun r9=>bif (!decide (r9.2.1=0))then some ((aZ.mk 0 ([]:List ay) 0 (aY.mk ([]:List bD) 0 ([]:List Int) ([]:List Int)) ([]:List (List ab))),r9.2.1,())else some ({a0 with Net:=r9.1},0,())
def NK:=kf func82 [t8,t6] (.many [y8,y0]) (u2 u7) [] .e [yK,CF,DU]
def s9(a0:ay)(a1:Int)(a2:ByteArray)(a3:Int):Option (ay×Int×Unit):=(fT {a0 with aa:=(ae a0.aa)}).bind fun r1=>bif (!r1)then some ((ay.mk 0 false (ab.mk 0 ([]:List Int) ([]:List ab)) ([]:List bw)),13,())else bif a0.kU then some ({a0 with aa:=(ae a0.aa)},0,())else(pF {a0 with aa:=(ae a0.aa)} a1 a2 a3).bind fun r2=>some ({r2.1 with aa:=(ae r2.1.aa)},r2.2.1,())
def LS:=kf func84 [t10,t0,t2,t0] (.many [y10,y0]) (u4 s9) [] .e [jD,CI]
def rU(a0:bw)(a1:ByteArray):Option (bw×Int×Unit):=(hY {a0 with aw:={a0.aw with aa:=(ae a0.aw.aa)},au:={a0.au with aa:=(ae a0.au.aa)}}).bind fun r1=>bif (!r1)then some ((bw.mk (aA.mk 0 0 0 0 (ab.mk 0 ([]:List Int) ([]:List ab)) (ByteArray.mk #[]) ([]:List ByteArray) ([]:List ByteArray) ([]:List ByteArray) ([]:List ax)) (ah.mk 0 0 0 (ab.mk 0 ([]:List Int) ([]:List ab)) 0 zB zB zB zB 0 0 (ByteArray.mk #[]) ([]:List ak)) (dX.mk 0 0) 0 0 false (ByteArray.mk #[])),13,())else(kX {a0.au with aa:=(ae a0.au.aa)} a1).bind fun r2=>bif (!decide (r2.2.1=0))then some ((bw.mk (aA.mk 0 0 0 0 (ab.mk 0 ([]:List Int) ([]:List ab)) (ByteArray.mk #[]) ([]:List ByteArray) ([]:List ByteArray) ([]:List ByteArray) ([]:List ax)) (ah.mk 0 0 0 (ab.mk 0 ([]:List Int) ([]:List ab)) 0 zB zB zB zB 0 0 (ByteArray.mk #[]) ([]:List ak)) (dX.mk 0 0) 0 0 false (ByteArray.mk #[])),r2.2.1,())else(gl {a0 with aw:={a0.aw with aa:=(ae a0.aw.aa)},au:={r2.1 with aa:=(ae r2.1.aa)}}).bind fun r3=>some ({r3 with aw:={r3.aw with aa:=(ae r3.aw.aa)},au:={r3.au with aa:=(ae r3.au.aa)}},0,())
def JN:=kf func132 [t13,t2] (.many [y13,y0]) (u2 rU) [] .e [lg,zN,lR]
def rS(a0:ay)(a1:Int)(a2:ByteArray)(a3:Int):Option (ay×Int×Unit):=(fT {a0 with aa:=(ae a0.aa)}).bind fun r1=>bif (!r1)then some ((ay.mk 0 false (ab.mk 0 ([]:List Int) ([]:List ab)) ([]:List bw)),13,())else bif a0.kU then some ({a0 with aa:=(ae a0.aa)},0,())else(pE {a0 with aa:=(ae a0.aa)} a1 a2 a3).bind fun r2=>bif (!decide (r2.2.2.1=0))then some ((ay.mk 0 false (ab.mk 0 ([]:List Int) ([]:List ab)) ([]:List bw)),r2.2.2.1,())else(idx r2.1.bE r2.2.1).bind fun x3=>(rU {x3 with aw:={x3.aw with aa:=(ae x3.aw.aa)},au:={x3.au with aa:=(ae x3.au.aa)}} a2).bind fun r4=>(iQ {r2.1 with aa:=(ae r2.1.aa)} r2.2.1 {r4.1 with aw:={r4.1.aw with aa:=(ae r4.1.aw.aa)},au:={r4.1.au with aa:=(ae r4.1.au.aa)}} r4.2.1).bind fun r5=>some ({r5.1 with aa:=(ae r5.1.aa)},r5.2.1,())
def JL:=kf func85 [t10,t0,t2,t0] (.many [y10,y0]) (u4 rS) [] .e [jD,CH,JN,uy]
def vd(a0:ay):Option ay:=(fT {a0 with aa:=(ae a0.aa)}).bind fun r1=>bif (!r1)then some {a0 with aa:=(ae a0.aa)}else some {a0 with kU:=true,aa:=(ae a0.aa)}
def NQ:=kf func86 [t10] (.one y10) (u1 vd) [] .e [jD]
def qj(a0:aA)(a1:ab):Option (aA×Int×Unit):=(lx {a0 with aa:=(ae a0.aa)}).bind fun r1=>bif (!r1)then some ((aA.mk 0 0 0 0 (ab.mk 0 ([]:List Int) ([]:List ab)) (ByteArray.mk #[]) ([]:List ByteArray) ([]:List ByteArray) ([]:List ByteArray) ([]:List ax)),1,())else(cn (ae a1)).bind fun r2=>bif (!decide (r2=0))then some ((aA.mk 0 0 0 0 (ab.mk 0 ([]:List Int) ([]:List ab)) (ByteArray.mk #[]) ([]:List ByteArray) ([]:List ByteArray) ([]:List ByteArray) ([]:List ax)),r2,())else(dy (ae a0.aa) (ae a1)).bind fun r3=>bif r3 then some ({a0 with aa:=(ae a0.aa)},0,())else(iE {a0 with aa:=(ae a0.aa)} {a0 with aa:=(ae a1)}).bind fun r4=>some ({r4 with aa:=(ae r4.aa)},0,())
def ID:=kf func211 [t7,t3] (.many [y7,y0]) (u2 qj) [] .e [sV,dh,eX,pW]
def nv(a0:ah)(a1:ab):Option (ah×Int×Unit):=(fU {a0 with aa:=(ae a0.aa)}).bind fun r1=>bif (!r1)then some ((ah.mk 0 0 0 (ab.mk 0 ([]:List Int) ([]:List ab)) 0 zB zB zB zB 0 0 (ByteArray.mk #[]) ([]:List ak)),13,())else(cn (ae a1)).bind fun r2=>bif (!decide (r2=0))then some ((ah.mk 0 0 0 (ab.mk 0 ([]:List Int) ([]:List ab)) 0 zB zB zB zB 0 0 (ByteArray.mk #[]) ([]:List ak)),1,())else(fP {a0 with aa:=(ae a0.aa)} {a0 with aa:=(ae a1)}).bind fun r3=>some ({r3 with aa:=(ae r3.aa)},0,())
def Iz:=kf func212 [t4,t3] (.many [y4,y0]) (u2 nv) [] .e [jE,dh,oZ]
def nq(a0:bw)(a1:ab):Option (bw×Int×Unit):=(hY {a0 with aw:={a0.aw with aa:=(ae a0.aw.aa)},au:={a0.au with aa:=(ae a0.au.aa)}}).bind fun r1=>bif (!r1)then some ((bw.mk (aA.mk 0 0 0 0 (ab.mk 0 ([]:List Int) ([]:List ab)) (ByteArray.mk #[]) ([]:List ByteArray) ([]:List ByteArray) ([]:List ByteArray) ([]:List ax)) (ah.mk 0 0 0 (ab.mk 0 ([]:List Int) ([]:List ab)) 0 zB zB zB zB 0 0 (ByteArray.mk #[]) ([]:List ak)) (dX.mk 0 0) 0 0 false (ByteArray.mk #[])),13,())else(qj {a0.aw with aa:=(ae a0.aw.aa)} (ae a1)).bind fun r2=>bif (!decide (r2.2.1=0))then some ((bw.mk (aA.mk 0 0 0 0 (ab.mk 0 ([]:List Int) ([]:List ab)) (ByteArray.mk #[]) ([]:List ByteArray) ([]:List ByteArray) ([]:List ByteArray) ([]:List ax)) (ah.mk 0 0 0 (ab.mk 0 ([]:List Int) ([]:List ab)) 0 zB zB zB zB 0 0 (ByteArray.mk #[]) ([]:List ak)) (dX.mk 0 0) 0 0 false (ByteArray.mk #[])),r2.2.1,())else(nv {a0.au with aa:=(ae a0.au.aa)} (ae a1)).bind fun r3=>bif (!decide (r3.2.1=0))then some ((bw.mk (aA.mk 0 0 0 0 (ab.mk 0 ([]:List Int) ([]:List ab)) (ByteArray.mk #[]) ([]:List ByteArray) ([]:List ByteArray) ([]:List ByteArray) ([]:List ax)) (ah.mk 0 0 0 (ab.mk 0 ([]:List Int) ([]:List ab)) 0 zB zB zB zB 0 0 (ByteArray.mk #[]) ([]:List ak)) (dX.mk 0 0) 0 0 false (ByteArray.mk #[])),r3.2.1,())else(gl {a0 with aw:={r2.1 with aa:=(ae r2.1.aa)},au:={r3.1 with aa:=(ae r3.1.aa)}}).bind fun r4=>some ({r4 with aw:={r4.aw with aa:=(ae r4.aw.aa)},au:={r4.au with aa:=(ae r4.au.aa)}},0,())
def Iw:=kf func171 [t13,t3] (.many [y13,y0]) (u2 nq) [] .e [lg,ID,Iz,lR]
def qg(a0:ay)(a1:ab):Option (ay×Int×Unit):=(fT {a0 with aa:=(ae a0.aa)}).bind fun r1=>bif (!r1)then some ((ay.mk 0 false (ab.mk 0 ([]:List Int) ([]:List ab)) ([]:List bw)),13,())else bif a0.kU then some ({a0 with aa:=(ae a0.aa)},0,())else(cn (ae a1)).bind fun r2=>bif (!decide (r2=0))then some ((ay.mk 0 false (ab.mk 0 ([]:List Int) ([]:List ab)) ([]:List bw)),1,())else aD (fun(v3:Int×ay×ay×Unit)=>bif (decide (v3.1<((a0.bE.length:Nat):Int)))then(idx v3.2.1.bE v3.1).bind fun x4=>(nq {x4 with aw:={x4.aw with aa:=(ae x4.aw.aa)},au:={x4.au with aa:=(ae x4.au.aa)}} (ae a1)).bind fun r5=>(iQ {v3.2.1 with aa:=(ae v3.2.1.aa)} v3.1 {r5.1 with aw:={r5.1.aw with aa:=(ae r5.1.aw.aa)},au:={r5.1.au with aa:=(ae r5.1.au.aa)}} r5.2.1).bind fun r6=>bif (!decide (r6.2.1=0))then oR (some ((ay.mk 0 false (ab.mk 0 ([]:List Int) ([]:List ab)) ([]:List bw)),r6.2.1,()))else some (Sum.inl ((aB .i64 v3.1 1),{r6.1 with aa:=(ae r6.1.aa)},{v3.2.2.1 with aa:=(ae v3.2.2.1.aa)},()))else oR (some ({v3.2.1 with aa:=(ae v3.2.1.aa)},0,()))) (0,{a0 with aa:=(ae a1)},(ay.mk 0 false (ab.mk 0 ([]:List Int) ([]:List ab)) ([]:List bw)),())
def Iu:=kf func134 [t10,t3] (.many [y10,y0]) (u2 qg) [] (p_ 8 95 (.j ⟨[.val 26 y0,.box 0 1 y10 [],.box 2 1 y10 []],[2,3,4,25]⟩ .e)) [jD,dh,Iw,uy]
def qd(a0:aZ)(a1:aI):Option (aZ×Int×Unit):=(idx a0.aH a1.aq).bind fun x1=>bif x1.kU then some ((aZ.mk 0 ([]:List ay) 0 (aY.mk ([]:List bD) 0 ([]:List Int) ([]:List Int)) ([]:List (List ab))),63,())else bm (fun(v2:Bool×Unit)=>bif v2.1 then some ((aZ.mk 0 ([]:List ay) 0 (aY.mk ([]:List bD) 0 ([]:List Int) ([]:List Int)) ([]:List (List ab))),1,())else(idx a0.cM a1.aq).bind fun x4=>(nP x4 (ae a1.aa)).bind fun r5=>(bif (!r5)then(idx a0.cM a1.aq).bind fun x6=>some (decide (4<=((x6.length:Nat):Int)))else some false).bind fun b7=>bif b7 then some ((aZ.mk 0 ([]:List ay) 0 (aY.mk ([]:List bD) 0 ([]:List Int) ([]:List Int)) ([]:List (List ab))),3,())else(qg {x1 with aa:=(ae x1.aa)} (ae a1.aa)).bind fun r8=>bif (!decide (r8.2.1=0))then some ((aZ.mk 0 ([]:List ay) 0 (aY.mk ([]:List bD) 0 ([]:List Int) ([]:List Int)) ([]:List (List ab))),r8.2.1,())else(mr a0 {r8.1 with aa:=(ae r8.1.aa)}).bind fun r9=>bm (fun(v10:aZ×Unit)=>some (v10.1,0,())) fun j11=>bif (!r5)then bif aT 24 (r9.cM.length)then(idx r9.cM a1.aq).bind fun x12=>(r9.cM[(Int.toNat a1.aq)]?).bind fun x13=>bif aT 56 (x13.length)then bif aT 56 (x13.length+List.length [(ae a1.aa)])then(idx r9.cM a1.aq).bind fun x14=>(r9.cM[(Int.toNat a1.aq)]?).bind fun x15=>j11 ({r9 with cM:=(r9.cM.set (Int.toNat a1.aq) (x13++[(ae a1.aa)]))},())else none else none else none else j11 (r9,())) fun j3=>(cn (ae a1.aa)).bind fun r16=>bif (!decide (r16=0))then j3 (true,())else(vr (ae a1.aa)).bind fun r17=>if(bI .u64 ((a0.aH.length:Nat):Int))<0 then none else j3 ((!decide ((oi .i64 r17 (bI .u64 ((a0.aH.length:Nat):Int)))=0)),())
def Ip:=kf func87 [t8,t6] (.many [y8,y0]) (u2 qd) [91] (p_ 3 7 (.b (.j ⟨[.val 33 y1],[2,3,4,6]⟩ .e) (p_ 5 31 (.j ⟨[.box 0 1 y8 []],[2,4]⟩ (p_ 4 10 (.AY (.Ax 2 7) .e)))))) [dh,D2,Gl,Iu,yJ]
def xW(a0:aZ)(a1:aI):Option (aZ×Int×Unit):=(s6 a0).bind fun r1=>bif (!r1)then some ((aZ.mk 0 ([]:List ay) 0 (aY.mk ([]:List bD) 0 ([]:List Int) ([]:List Int)) ([]:List (List ab))),13,())else(bif (decide (a1.az<1))then some true else some (decide (8<a1.az))).bind fun b2=>bif b2 then some ((aZ.mk 0 ([]:List ay) 0 (aY.mk ([]:List bD) 0 ([]:List Int) ([]:List Int)) ([]:List (List ab))),63,())else(bif (!decide (a1.az=2))then some (!decide (a1.az=6))else some false).bind fun b3=>(bif b3 then(pB a0 a1.aq).bind fun r4=>some (!r4)else some false).bind fun b5=>bif b5 then some ((aZ.mk 0 ([]:List ay) 0 (aY.mk ([]:List bD) 0 ([]:List Int) ([]:List Int)) ([]:List (List ab))),5,())else bif (decide (a1.az=2))then(bif (decide (a1.Count<1))then some true else some (decide (200<a1.Count))).bind fun b6=>bif b6 then some ((aZ.mk 0 ([]:List ay) 0 (aY.mk ([]:List bD) 0 ([]:List Int) ([]:List Int)) ([]:List (List ab))),63,())else aD (fun(v7:Int×aZ×aZ×Unit)=>bif (decide (v7.1<a1.Count))then(uZ v7.2.1).bind fun r8=>bif (!decide (r8.2.1=0))then oR (some ((aZ.mk 0 ([]:List ay) 0 (aY.mk ([]:List bD) 0 ([]:List Int) ([]:List Int)) ([]:List (List ab))),r8.2.1,()))else some (Sum.inl ((aB .i64 v7.1 1),r8.1,v7.2.2.1,()))else oR (some (v7.2.1,0,()))) (0,a0,(aZ.mk 0 ([]:List ay) 0 (aY.mk ([]:List bD) 0 ([]:List Int) ([]:List Int)) ([]:List (List ab))),())else bif (decide (a1.az=6))then(va a0.Net a1.bx).bind fun r9=>bif (!decide (r9.2.1=0))then some ((aZ.mk 0 ([]:List ay) 0 (aY.mk ([]:List bD) 0 ([]:List Int) ([]:List Int)) ([]:List (List ab))),r9.2.1,())else some ({a0 with Net:=r9.1},0,())else bif (decide (a1.az=7))then(s8 a0.Net a1.aq a1.To a1.Count).bind fun r10=>bif (!decide (r10.2.1=0))then some ((aZ.mk 0 ([]:List ay) 0 (aY.mk ([]:List bD) 0 ([]:List Int) ([]:List Int)) ([]:List (List ab))),r10.2.1,())else some ({a0 with Net:=r10.1},0,())else bif (decide (a1.az=5))then(u7 a0 {a1 with aa:=(ae a1.aa),af:={a1.af with al:={a1.af.al with aa:=(ae a1.af.al.aa)},ai:={a1.af.ai with aa:=(ae a1.af.ai.aa)}}}).bind fun r11=>some (r11.1,r11.2.1,())else(kL a0 a1.aq).bind fun r12=>bif r12 then some ((aZ.mk 0 ([]:List ay) 0 (aY.mk ([]:List bD) 0 ([]:List Int) ([]:List Int)) ([]:List (List ab))),63,())else(idx a0.aH a1.aq).bind fun x13=>bm (fun(v14:Int×aZ×ay×Unit)=>bif (!decide (v14.1=0))then some ((aZ.mk 0 ([]:List ay) 0 (aY.mk ([]:List bD) 0 ([]:List Int) ([]:List Int)) ([]:List (List ab))),v14.1,())else(mr a0 {v14.2.2.1 with aa:=(ae v14.2.2.1.aa)}).bind fun r16=>some (r16,0,())) fun j15=>bif (decide (a1.az=1))then(s9 {x13 with aa:=(ae x13.aa)} a1.aE a1.Value a0.Time).bind fun r17=>j15 (r17.2.1,(aZ.mk 0 ([]:List ay) 0 (aY.mk ([]:List bD) 0 ([]:List Int) ([]:List Int)) ([]:List (List ab))),{r17.1 with aa:=(ae r17.1.aa)},())else bif (decide (a1.az=8))then(rS {x13 with aa:=(ae x13.aa)} a1.aE a1.Value a0.Time).bind fun r18=>j15 (r18.2.1,(aZ.mk 0 ([]:List ay) 0 (aY.mk ([]:List bD) 0 ([]:List Int) ([]:List Int)) ([]:List (List ab))),{r18.1 with aa:=(ae r18.1.aa)},())else bif (decide (a1.az=4))then(vd {x13 with aa:=(ae x13.aa)}).bind fun r19=>j15 (0,(aZ.mk 0 ([]:List ay) 0 (aY.mk ([]:List bD) 0 ([]:List Int) ([]:List Int)) ([]:List (List ab))),{r19 with aa:=(ae r19.aa)},())else(qd a0 {a1 with aa:=(ae a1.aa),af:={a1.af with al:={a1.af.al with aa:=(ae a1.af.al.aa)},ai:={a1.af.ai with aa:=(ae a1.af.ai.aa)}}}).bind fun r20=>some (r20.1,r20.2.1,())
def Tj:=kf func37 [t8,t6] (.many [y8,y0]) (u2 xW) [] (p_ 4 15 (.b (p_ 8 85 (.j ⟨[.val 6 y0,.box 0 1 y8 [],.box 2 1 y8 []],[2,3,4]⟩ .e)) (p_ 4 15 (.j ⟨[.val 15 y0,.box 2 1 y8 [],.box 52 1 y10 []],[2,4,14]⟩ .e)))) [LO,CF,NJ,NO,LQ,NK,yK,LS,JL,NQ,Ip,yJ]
def sQ(a0:bQ)(a1:Int)(a2:(List aI)):Option (aZ×Int×Int×Unit):=(wP a0 a1).bind fun r1=>bif (!decide (r1.2.1=0))then some ((aZ.mk 0 ([]:List ay) 0 (aY.mk ([]:List bD) 0 ([]:List Int) ([]:List Int)) ([]:List (List ab))),0,r1.2.1,())else bif (decide (300<((a2.length:Nat):Int)))then some (r1.1,0,3,())else aD (fun(v2:Int×aZ×aZ×Unit)=>bif (decide (v2.1<((a2.length:Nat):Int)))then(idx a2 v2.1).bind fun x3=>(xW v2.2.2.1 {x3 with aa:=(ae x3.aa),af:={x3.af with al:={x3.af.al with aa:=(ae x3.af.al.aa)},ai:={x3.af.ai with aa:=(ae x3.af.ai.aa)}}}).bind fun r4=>bif (!decide (r4.2.1=0))then oR (some (v2.2.2.1,v2.1,r4.2.1,()))else some (Sum.inl ((aB .i64 v2.1 1),v2.2.1,r4.1,()))else oR (some (v2.2.2.1,((a2.length:Nat):Int),0,()))) (0,(aZ.mk 0 ([]:List ay) 0 (aY.mk ([]:List bD) 0 ([]:List Int) ([]:List Int)) ([]:List (List ab))),r1.1,())
def PI:=kf func18 [t16,t0,.ty y23] (.many [y8,y0,y0]) (u3 sQ) [] (p_ 7 47 (.j ⟨[.val 31 y0,.box 1 1 y8 [],.box 10 1 y8 []],[2,6,9,29,30]⟩ .e)) [PJ,Tj]
def qe(a0:(List bD))(a1:(List bD)):Option Bool:=bif (!decide (((a0.length:Nat):Int)=((a1.length:Nat):Int)))then some false else aD (fun(v1:Int×Unit)=>bif (decide (v1.1<((a0.length:Nat):Int)))then(idx a0 v1.1).bind fun x2=>(idx a1 v1.1).bind fun x3=>(bif (!decide (x2.nC=x3.nC))then some true else some (!decide (x2.o6=x3.o6))).bind fun b4=>(bif b4 then some true else some (!decide (x2.To=x3.To))).bind fun b5=>(bif b5 then some true else some (!decide (x2.Number=x3.Number))).bind fun b6=>(bif b6 then some true else(jY {x2.af with al:={x2.af.al with aa:=(ae x2.af.al.aa)},ai:={x2.af.ai with aa:=(ae x2.af.ai.aa)}} {x3.af with al:={x3.af.al with aa:=(ae x3.af.al.aa)},ai:={x3.af.ai with aa:=(ae x3.af.ai.aa)}}).bind fun r7=>some (!r7)).bind fun b8=>bif b8 then oR (some false)else some (Sum.inl ((aB .i64 v1.1 1),()))else oR (some true)) (0,())
def Iq:=kf func89 [.ty y29,.ty y29] q1 (u2 qe) [] (p_ 5 11 (.j ⟨[.val 15 y0],[0,1,14]⟩ .e)) [Bc]
def u9(a0:aY)(a1:aY):Option Bool:=(qe a0.bh a1.bh).bind fun r1=>(bif r1 then some (decide (a0.Next=a1.Next))else some false).bind fun b2=>(bif b2 then(mu a0.bx a1.bx).bind fun r3=>some r3 else some false).bind fun b4=>(bif b4 then(mu a0.eO a1.eO).bind fun r5=>some r5 else some false).bind fun b6=>some b6
def NN:=kf func38 [t17,t17] q1 (u2 u9) [] .e [Iq,DV]
def kx(a0:ax)(a1:ax):Option Bool:=(bif (decide (a0.aq=a1.aq))then some (decide (a0.aO=a1.aO))else some false).bind fun b1=>(bif b1 then(dy (ae a0.aa) (ae a1.aa)).bind fun r2=>some r2 else some false).bind fun b3=>(bif b3 then(fV a0.cx a1.cx).bind fun r4=>some r4 else some false).bind fun b5=>(bif b5 then(fV a0.bo a1.bo).bind fun r6=>some r6 else some false).bind fun b7=>some b7
def Ar:=kf func173 [.ty y18,.ty y18] q1 (u2 kx) [] .e [eX,yN]
def vn(a0:aA)(a1:aA):Option Bool:=(bif (!decide (a0.aq=a1.aq))then some true else some (!decide (a0.aE=a1.aE))).bind fun b1=>(bif b1 then some true else some (!decide (a0.Round=a1.Round))).bind fun b2=>(bif b2 then some true else some (!decide (a0.aO=a1.aO))).bind fun b3=>(bif b3 then some true else some (!decide (a0.Own=a1.Own))).bind fun b4=>(bif b4 then some true else(dy (ae a0.aa) (ae a1.aa)).bind fun r5=>some (!r5)).bind fun b6=>(bif b6 then some true else(fV a0.cx a1.cx).bind fun r7=>some (!r7)).bind fun b8=>(bif b8 then some true else(fV a0.bo a1.bo).bind fun r9=>some (!r9)).bind fun b10=>(bif b10 then some true else(fV a0.dG a1.dG).bind fun r11=>some (!r11)).bind fun b12=>(bif b12 then some true else some (!decide (((a0.aF.length:Nat):Int)=((a1.aF.length:Nat):Int)))).bind fun b13=>bif b13 then some false else aD (fun(v14:Int×Unit)=>bif (decide (v14.1<((a0.aF.length:Nat):Int)))then(idx a0.aF v14.1).bind fun x15=>(idx a1.aF v14.1).bind fun x16=>(kx {x15 with aa:=(ae x15.aa)} {x16 with aa:=(ae x16.aa)}).bind fun r17=>bif (!r17)then oR (some false)else some (Sum.inl ((aB .i64 v14.1 1),()))else oR (some true)) (0,())
def N4:=kf func135 [t7,t7] q1 (u2 vn) [] (p_ 5 11 (.j ⟨[.val 83 y0],[2,3,82]⟩ .e)) [eX,yN,Ar]
def ob(a0:(List ak))(a1:(List ak)):Option Bool:=bif (!decide (((a0.length:Nat):Int)=((a1.length:Nat):Int)))then some false else aD (fun(v1:Int×Unit)=>bif (decide (v1.1<((a0.length:Nat):Int)))then(idx a0 v1.1).bind fun x2=>(idx a1 v1.1).bind fun x3=>(iS {x2 with aa:=(ae x2.aa)} {x3 with aa:=(ae x3.aa)}).bind fun r4=>bif (!r4)then oR (some false)else some (Sum.inl ((aB .i64 v1.1 1),()))else oR (some true)) (0,())
def FK:=kf func175 [t14,t14] q1 (u2 ob) [] (p_ 5 11 (.j ⟨[.val 13 y0],[0,1,12]⟩ .e)) [yM]
def vj(a0:ah)(a1:ah):Option Bool:=(iR {a0 with aa:=(ae a0.aa)} {a1 with aa:=(ae a1.aa)}).bind fun r1=>(bif r1 then some (decide (a0.aq=a1.aq))else some false).bind fun b2=>(bif b2 then some (decide (a0.aE=a1.aE))else some false).bind fun b3=>(bif b3 then some (decide (a0.aO=a1.aO))else some false).bind fun b4=>(bif b4 then(dy (ae a0.aa) (ae a1.aa)).bind fun r5=>some r5 else some false).bind fun b6=>(bif b6 then some (decide (a0.bU=a1.bU))else some false).bind fun b7=>(bif b7 then(ob a0.aF a1.aF).bind fun r8=>some r8 else some false).bind fun b9=>some b9
def NX:=kf func136 [t4,t4] q1 (u2 vj) [] .e [DX,eX,FK]
def vg(a0:bw)(a1:bw):Option Bool:=(vn {a0.aw with aa:=(ae a0.aw.aa)} {a1.aw with aa:=(ae a1.aw.aa)}).bind fun r1=>(bif r1 then(vj {a0.au with aa:=(ae a0.au.aa)} {a1.au with aa:=(ae a1.au.aa)}).bind fun r2=>some r2 else some false).bind fun b3=>(bif b3 then some (xor false (decide (a0.Timer.an=a1.Timer.an)&&(decide (a0.Timer.nC=a1.Timer.nC)&&true)))else some false).bind fun b4=>(bif b4 then some (decide (a0.Round=a1.Round))else some false).bind fun b5=>(bif b5 then some (decide (a0.Next=a1.Next))else some false).bind fun b6=>(bif b6 then some (xor false (decide (a0.AJ=a1.AJ)))else some false).bind fun b7=>(bif b7 then some (decide (a0.Value=a1.Value))else some false).bind fun b8=>some b8
def NV:=kf func90 [t13,t13] q1 (u2 vg) [] .e [N4,NX]
def ve(a0:ay)(a1:ay):Option Bool:=(bif (!decide (a0.aq=a1.aq))then some true else some (xor true (decide (a0.kU=a1.kU)))).bind fun b1=>(bif b1 then some true else(dy (ae a0.aa) (ae a1.aa)).bind fun r2=>some (!r2)).bind fun b3=>(bif b3 then some true else some (!decide (((a0.bE.length:Nat):Int)=((a1.bE.length:Nat):Int)))).bind fun b4=>bif b4 then some false else aD (fun(v5:Int×Unit)=>bif (decide (v5.1<((a0.bE.length:Nat):Int)))then(idx a0.bE v5.1).bind fun x6=>(idx a1.bE v5.1).bind fun x7=>(vg {x6 with aw:={x6.aw with aa:=(ae x6.aw.aa)},au:={x6.au with aa:=(ae x6.au.aa)}} {x7 with aw:={x7.aw with aa:=(ae x7.aw.aa)},au:={x7.au with aa:=(ae x7.au.aa)}}).bind fun r8=>bif (!r8)then oR (some false)else some (Sum.inl ((aB .i64 v5.1 1),()))else oR (some true)) (0,())
def NR:=kf func39 [t10,t10] q1 (u2 ve) [] (p_ 5 11 (.j ⟨[.val 38 y0],[2,3,37]⟩ .e)) [eX,NV]
def oA(a0:aZ)(a1:aZ):Option Bool:=(bif (!decide (a0.Time=a1.Time))then some true else some (!decide (a0.LA=a1.LA))).bind fun b1=>(bif b1 then some true else(u9 a0.Net a1.Net).bind fun r2=>some (!r2)).bind fun b3=>(bif b3 then some true else some (!decide (((a0.aH.length:Nat):Int)=((a1.aH.length:Nat):Int)))).bind fun b4=>(bif b4 then some true else some (!decide (((a0.cM.length:Nat):Int)=((a1.cM.length:Nat):Int)))).bind fun b5=>bif b5 then some false else aD (fun(v6:Int×Unit)=>bif (decide (v6.1<((a0.aH.length:Nat):Int)))then(idx a0.aH v6.1).bind fun x7=>(idx a1.aH v6.1).bind fun x8=>(ve {x7 with aa:=(ae x7.aa)} {x8 with aa:=(ae x8.aa)}).bind fun r9=>bif (!r9)then oR (some false)else some (Sum.inl ((aB .i64 v6.1 1),()))else oR (aD (fun(v10:Int×Unit)=>bif (decide (v10.1<((a0.cM.length:Nat):Int)))then(idx a0.cM v10.1).bind fun x11=>(idx a1.cM v10.1).bind fun x12=>bif (!decide (((x11.length:Nat):Int)=((x12.length:Nat):Int)))then oR (some false)else(idx a0.cM v10.1).bind fun x13=>aD (fun(v14:Int×Unit)=>bif (decide (v14.1<((x13.length:Nat):Int)))then(idx a0.cM v10.1).bind fun x15=>(idx x15 v14.1).bind fun x16=>(idx a1.cM v10.1).bind fun x17=>(idx x17 v14.1).bind fun x18=>(dy (ae x16) (ae x18)).bind fun r19=>bif (!r19)then oR (oR (some false))else some (Sum.inl ((aB .i64 v14.1 1),()))else oR (some (Sum.inl ((aB .i64 v10.1 1),())))) (0,())else oR (some true)) (0,()))) (0,())
def NL:=kf func19 [t8,t8] q1 (u2 oA) [] (p_ 2 3 (.b (p_ 2 1 (.j ⟨[.val 49 y0],[2,3,48]⟩ .e)) (p_ 3 2 (.j ⟨[.val 68 y0],[2,3,67]⟩ (p_ 9 230 (.j ⟨[.val 90 y0],[2,3,6,67,68,89]⟩ .e)))))) [NN,NR,eX]
def nR(a0:(List Int)):Option Bool:=(xX a0).bind fun r1=>(cD r1 1 4).bind fun p2=>(oe p2.2 p2.1).bind fun p3=>(oK p3.2 p2.1).bind fun p4=>(pO p4.2 p2.1 p4.1).bind fun p5=>(mF p5.1).bind fun r6=>(jh r6.1).bind fun r7=>(bif (!decide (r6.2.1=0))then some true else some (!decide (r7.2.2.1=0))).bind fun b8=>bif b8 then some false else(sQ p3.1 p4.1 p5.1).bind fun r9=>(sQ p3.1 p4.1 r7.1).bind fun r10=>(oA r9.1 r10.1).bind fun r11=>(bif r11 then some (decide (r9.2.1=r10.2.1))else some false).bind fun b12=>(bif b12 then some (decide (r9.2.2.1=r10.2.2.1))else some false).bind fun b13=>(bif b13 then(vw).bind fun r14=>some r14 else some false).bind fun b15=>some b15
def Av:=kf func5 [t12] q1 (u1 nR) [] .e [Tl,mi,FN,J0,Mb,C9,w9,PI,NL,Oc]
end Go.Proofs.YtnhgcpiljggmmaaGreatDoor
end
noncomputable section
end
noncomputable section
namespace Go.TQ
@[simp] theorem bz {σ ρ:Type} (j:σ->Option ρ) (f:(σ->Option ρ)->Option ρ):bm j f=f j:=rfl
@[simp] theorem tE {α:Type} (b:Bool) (x y:α):(bif b then some x else some y)=some (bif b then x else y):=by cases b<;>rfl
@[simp] theorem aeX {α:Type} (b:Bool) (x:α):(bif b then x else x)=x:=by cases b<;>rfl
theorem Kh{α:Type}(p:Prop)[Decidable p](x y:α):(bif decide p then x else y)=if p then x else y:=by
 by_cases h:p<;>simp[h]
theorem G5{α:Type}(p:Prop)[Decidable p](x y:α):(if p then some x else some y)=some (if p then x else y):=by split<;>rfl
@[simp] theorem aaJ {α:Type} (b:Bool) (x y:α):(bif !b then x else y)=bif b then y else x:=by cases b<;>rfl
@[simp] theorem z7 (a b:Int) (s t:ByteArray):ml false a b s t=(decide (a=b)&&decide (s=t)):=by simp[ml]
@[simp] theorem aeR (a b:Int) (s t:ByteArray):ml true a b s t= !(decide (a=b)&&decide (s=t)):=by simp[ml]
def Yd{α:Type}(o:Option α)(p:α->Prop):Prop:=∃x,o=some x/\p x
theorem Yd.bind{α β:Type}{o:Option α}{p:α->Prop}{f:α->Option β}{q:β->Prop}(h:Yd o p)(k:∀x,p x->Yd (f x) q):Yd (o.bind f) q:=by
 obtain⟨x,rfl,hx⟩:=h;exact k x hx
theorem Yd.mono{α:Type}{o:Option α}{p q:α->Prop}(h:Yd o p)(k:∀x,p x->q x):Yd o q:=by
 obtain⟨x,h1,hx⟩:=h;exact⟨x,h1,k x hx⟩
theorem Yd.some{α:Type}{x:α}{p:α->Prop}(h:p x):Yd (Option.some x) p:=⟨x,rfl,h⟩
theorem Yd.of_eq{α:Type}{o:Option α}{x:α}{p:α->Prop}(h:o=Option.some x)(hp:p x):Yd o p:=⟨x,h,hp⟩
theorem Yd.cond{α:Type}{b:Bool}{x y:Option α}{p:α->Prop}(h1:b=true->Yd x p)(h2:b=false->Yd y p):Yd (bif b then x else y) p:=by
 cases b
 ·exact h2 rfl
 ·exact h1 rfl
theorem Yd.map{α β:Type}{o:Option α}{f:α->β}{p:β->Prop}(h:Yd o fun x=>p (f x)):Yd (o.map f) p:=by
 obtain⟨x,rfl,hx⟩:=h;exact⟨f x,rfl,hx⟩
theorem Yd.eq_true{o:Option Bool}(h:Yd o (·=true)):o=Option.some true:=by
 obtain⟨x,h1,rfl⟩:=h;exact h1
theorem wrap64{n:Int}(h1: -9223372036854775808<=n)(h2:n<=9223372036854775807):IntKind.i64.wrap n=n:=i64_in h1 h2
theorem bY{a b:Int}(h1: -9223372036854775808<=a+b)(h2:a+b<=9223372036854775807):aB .i64 a b=a+b:=wrap64 h1 h2
theorem nS{a b:Int}(h1: -9223372036854775808<=a - b)(h2:a - b<=9223372036854775807):ez .i64 a b=a - b:=wrap64 h1 h2
theorem bA{α:Type}(l:List α)(i:Nat):idx l (i:Int)=l[i]?:=by simp[idx]
theorem IM{α:Type}(l:List α){n:Int}(h:0<=n):idx l n=l[n.toNat]?:=by simp[idx,h]
@[simp] theorem acw (n:Nat) (h:n<256):bI .i64 (n:Int)=n:=wrap64 (by omega) (by omega)
@[simp] theorem br {bytes n:Nat} (h:n*bytes<=140737488355328/\n<=1000000):aT bytes n=true:=by
 simp only[aT,Qm,Qi];exact⟨h.1,QK h.2 (by simp[maxLen])⟩
theorem zJ(a:Nat)(h:a<2 ^ 62):(BitVec.ofInt 64 (a:Int)).toNat=a:=by
 grind
theorem Gz(n:Nat)(h:n<2 ^ 62):IntKind.i64.wrap (n:Int)=n:=wrap64 (by omega) (by omega)
theorem Cv(a b:Nat)(ha:a<2 ^ 62)(hb:b<2 ^ 62):qQ .i64 (a:Int) (b:Int)=((a&&&b:Nat):Int):=by
 show IntKind.i64.wrap (((BitVec.ofInt 64 (a:Int)&&&BitVec.ofInt 64 (b:Int)).toNat:Nat):Int)=_;rw[BitVec.toNat_and,zJ a ha,zJ b hb];exact Gz _ (Nat.lt_of_le_of_lt Nat.and_le_left ha)
theorem JD(a b:Nat)(ha:a<2 ^ 62)(hb:b<2 ^ 62):qy .i64 (a:Int) (b:Int)=((a|||b:Nat):Int):=by
 show IntKind.i64.wrap (((BitVec.ofInt 64 (a:Int)|||BitVec.ofInt 64 (b:Int)).toNat:Nat):Int)=_
 rw[BitVec.toNat_or,zJ a ha,zJ b hb];exact Gz _ (Nat.or_lt_two_pow ha hb)
theorem aaM(s k:Nat):s&&&2 ^ k=if s.testBit k then 2 ^ k else 0:=by
 refine Nat.eq_of_testBit_eq fun i=> ?_
 grind
theorem yp(k:Nat)(h:k<=60):cP .i64 1 (k:Int)=((2 ^ k:Nat):Int):=by
 show IntKind.i64.wrap (1*2 ^ min (k:Int).toNat 64)=_;rw[QV,show min k 64=k from Nat.min_eq_left (by omega),Int.one_mul]
 have:=Gz (2 ^ k) (Nat.pow_lt_pow_right (by omega) (by omega))
 simpa using this
theorem WM(a k:Nat)(h:k<=60):oi .i64 (a:Int) (k:Int)=((a>>>k:Nat):Int):=by
 show(a:Int).fdiv (2 ^ min (k:Int).toNat 64)=_;rw[QV,show min k 64=k from Nat.min_eq_left (by omega),Nat.shiftRight_eq_div_pow]
 grind
theorem cd{σ ρ:Type}{step:σ->Option (σ⊕ρ)}{s:σ}{r:ρ}(h:step s=some (.inr r)):aD step s=some r:=by rw[jr,h]
theorem cm{σ ρ:Type}{step:σ->Option (σ⊕ρ)}{s s':σ}(h:step s=some (.inl s')):aD step s=aD step s':=by rw[jr,h]
theorem ur{σ ρ:Type}{step:σ->Option (σ⊕ρ)}{s:σ}(h:step s=none):aD step s=none:=by rw[jr,h]
theorem Yd.loop{σ ρ:Type}{step:σ->Option (σ⊕ρ)}{s:σ}{p:ρ->Prop}(h:Yd (step s) fun y=>match y with| .inl s'=>Yd (aD step s') p| .inr r=>p r):Yd (aD step s) p:=by
 obtain⟨y,h1,h2⟩:=h
 cases y with
 |inl s'=>rw[cm h1];exact h2
 |inr r=>exact⟨r,cd h1,h2⟩
theorem Yd.join{σ ρ:Type}{j:σ->Option ρ}{f:(σ->Option ρ)->Option ρ}{p:ρ->Prop}(inv:σ->Prop)(h1:∀v,inv v->Yd (j v) p)(h2:∀j':σ->Option ρ,(∀v,inv v->Yd (j' v) p)->Yd (f j') p):Yd (bm j f) p:=h2 j h1
theorem Yd.inr{σ ρ:Type}{o:Option ρ}{p:σ⊕ρ->Prop}(h:Yd o fun r=>p (.inr r)):Yd (Option.map Sum.inr o) p:=h.map
def dQ{α σ ρ:Type}(g:α->σ->Option (σ⊕ρ))(fin:σ->Option ρ):List α->σ->Option ρ
 |[],s=>fin s
 |x::l,s=>match g x s with
  |none=>none
  |some (.inr r)=>some r
  |some (.inl s')=>dQ g fin l s'
theorem Td{α σ τ ρ:Type}(l:List α)(mk:Int->σ->τ){step:τ->Option (τ⊕ρ)}(g:α->σ->Option (σ⊕ρ))(fin:σ->Option ρ)
  (h1:∀(i:Nat) (x:α) (s:σ),i<l.length->l[i]?=some x->step (mk i s)=match g x s with|none=>none|some (.inr r)=>some (.inr r)|some (.inl s')=>some (.inl (mk (i+1:Nat) s')))
  (h2:∀s,step (mk l.length s)=(fin s).map Sum.inr) (s:σ):aD step (mk 0 s)=dQ g fin l s:=by
 suffices h:∀(k:Nat) (i:Nat) (s:σ),i+k=l.length->aD step (mk i s)=dQ g fin (l.drop i) s by
  have:=h l.length 0 s (by omega)
  simpa using this
 intro k
 induction k with
 |zero=>
  intro i s hi;obtain rfl:i=l.length:=by omega
  rw[Qq65,dQ,jr,h2];cases fin s<;>rfl
 |succ k ih=>
  intro i s hi;have hlt:i<l.length:=by omega
  rw[QM hlt,dQ,jr,h1 i l[i] s hlt (Qv hlt)]
  cases hg:g l[i] s with
  |none=>rfl
  |some y=>
   cases y with
   |inr r=>rfl
   |inl s'=>exact ih (i+1) s' (by omega)
theorem gf{α σ τ ρ:Type}(l:List α)(hl:l.length<=9223372036854775807)(mk:Int->σ->τ){step:τ->Option (τ⊕ρ)}(g:α->σ->Option (σ⊕ρ))(fin:σ->Option ρ)
  (h1:∀(i:Nat) (x:α) (s:σ),decide ((i:Int)<((l.length:Nat):Int))=true->idx l (i:Int)=some x->aB .i64 (i:Int) 1=((i+1:Nat):Int)->step (mk i s)=match g x s with|none=>none|some (.inr r)=>some (.inr r)|some (.inl s')=>some (.inl (mk (i+1:Nat) s')))
  (h2:∀s,decide (((l.length:Nat):Int)<((l.length:Nat):Int))=false->step (mk l.length s)=(fin s).map Sum.inr) (s:σ):aD step (mk 0 s)=dQ g fin l s:=
 Td l mk g fin (fun i x s hi hx=>h1 i x s (Qg (Int.ofNat_lt.2 hi)) (by rw[bA];exact hx) (bY (by omega) (by omega))) (fun s=>h2 s (Qh (Qq63 _))) s
end Go.TQ
namespace Go.Proofs.YtnhgcpiljggmmaaGreatDoor
open Go.TQ
section
def gH:ByteArray:=⟨#[]⟩
def aP(b:ao):Bool:=decide (b.an=0)&&decide (b.Value=gH)
def dW(a b:ByteArray):Bool:=if a.size=b.size then mA a b else decide (a.size<b.size)
def bJ(a b:ao):Bool:=if a.an=b.an then dW a.Value b.Value else decide (a.an<b.an)
def cS(a b:ao):Bool:=decide (a.Value=b.Value)
def kI(p b:ao):Bool:= !aP p&&cS p b&&decide (b.an<=p.an)
def fj(p q b:ao):Bool:=kI p b||kI q b||(!aP q&&bJ b q)
def eN(p b:ao):Bool:= !aP p&& !cS p b&&bJ b p
def dJ(b:ao):Bool:=(decide (1<=b.an)&&decide (b.an<=1000)||decide (b.an=1000000))&&decide (1<=b.Value.size)&&decide (b.Value.size<=200)
theorem Lu:∀x:List UInt8,Op.bytesLess x x=false
 |[]=>rfl
 |a::l=>by simp[Op.bytesLess,Lu l]
theorem OS:∀{x y:List UInt8},x≠y->Op.bytesLess x y=true\/Op.bytesLess y x=true
 |[],[],h=>absurd rfl h
 |[],_::_,_=> .inl rfl
 |_::_,[],_=> .inr rfl
 |a::l,b::m,h=>by
  simp only[Op.bytesLess]
  by_cases hab:a=b
  ·subst hab;have:l≠m:=fun e=>h (by rw[e])
   simpa using OS this
  ·rcases Nat.lt_or_gt_of_ne (fun e=>hab (UInt8.toNat_inj.1 e))with h1|h1
   ·have h2:a<b:=h1;simp[h2]
   ·have h2:b<a:=h1;simp[h2]
theorem MO(a:ByteArray):mA a a=false:=Lu _
@[simp] theorem cT (b:ao):bL b=some (aP b):=by unfold bL aP;rw[z7];rfl
@[simp] theorem ft (a b:ao):cC a b=some (cS a b):=rfl
@[simp] theorem zr (b:ao):hZ b=some (dJ b):=by
 have h1:decide ((1:Int)<=(b.Value.size:Nat))=decide (1<=b.Value.size):=by rw[decide_eq_decide];omega
 have h2:decide (((b.Value.size:Nat):Int)<=200)=decide (b.Value.size<=200):=by rw[decide_eq_decide];omega
 simp only[hZ,dJ,h1,h2,tE,Qa,Bool.cond_false_right,Bool.cond_true_left]
@[simp] theorem vl (a b:ByteArray):lC a b=some (dW a b):=by
 simp only[lC,dW,aaJ,Int.ofNat_inj,Int.ofNat_lt,Kh,G5]
@[simp] theorem iD (a b:ao):eF a b=some (bJ a b):=by
 simp[eF,bJ,Kh,G5]
@[simp] theorem xD (a b:ao):ka a b=some (kI a b):=by simp[ka,kI]
@[simp] theorem pU (p q b:ao):gY p q b=some (fj p q b):=by simp[gY,fj]
@[simp] theorem xE (p b:ao):fu p b=some (eN p b):=by simp[fu,eN]
def finite(b:ao):Bool:=dJ b&&decide (b.an<=1000)
end
section
theorem Km{rec:(ab×Unit)->Option Int}{t:ab}(hl:t.aL.length<=9223372036854775807):
  ix rec t=dQ (fun u m=>(rec (u,())).map fun r=> .inl (bV m r)) (fun m=>some (aB .i64 m 1)) t.aL 0:=by
 unfold ix;rw[gf t.aL hl (fun i (m:Int)=>(m,i,())) (fun u m=>(rec (u,())).map fun r=> .inl (bV m r)) (fun m=>some (aB .i64 m 1)) (fun i x s hd hx hw=> ?_) (fun s hd=> ?_) 0]
 ·simp only[hd,hx,hw,Qk,Qa,ab.eta];cases rec (x,())<;>rfl
 ·simp only[hd,Ql]
theorem Pd{rec:(ab×Unit)->Option Int}{t:ab}(hl:t.aL.length<=9223372036854775807):
  jb rec t=dQ (fun u m=>(rec (u,())).map fun r=> .inl (aB .i64 m r)) (fun m=>some m) t.aL (aB .i64 t.aH.length t.aL.length):=by
 unfold jb;rw[gf t.aL hl (fun i (m:Int)=>(m,i,())) (fun u m=>(rec (u,())).map fun r=> .inl (aB .i64 m r)) (fun m=>some m) (fun i x s hd hx hw=> ?_) (fun s hd=> ?_) (aB .i64 t.aH.length t.aL.length)]
 ·simp only[hd,hx,hw,Qk,Qa,ab.eta];cases rec (x,())<;>rfl
 ·simp only[hd,Ql]
theorem KE(t:ab):xx t=iv t:=rfl
theorem MU(t:ab):zu t=iZ t:=rfl
def eY(x:Int):Bool:=decide (0<=x)&&decide (x<10)
def vW(s x:Int):Bool:=decide (0<=s)&&decide (s<1024)&&eY x&&s.toNat.testBit x.toNat
theorem aaK(s:Int):qn s=some (decide (0<=s)&&decide (s<1024)):=by
 have:cP .i64 1 10=1024:=yp 10 (by omega)
 simp[qn,vu,this]
theorem O4{s x:Int}(h1:0<=s)(h2:s<1024)(h3:0<=x)(h4:x<10):(qQ .i64 s (cP .i64 1 x)=0)=(s.toNat.testBit x.toNat=false):=by
 obtain⟨n,rfl⟩:=Int.eq_ofNat_of_zero_le h1;obtain⟨j,rfl⟩:=Int.eq_ofNat_of_zero_le h3;have hj:2 ^ j<=2 ^ 10:=Nat.pow_le_pow_right (by omega) (by omega)
 rw[yp j (by omega),Cv n (2 ^ j) (by omega) (by omega),aaM]
 grind
@[simp] theorem zw (s x:Int):tg s x=some (vW s x):=by
 unfold tg vW eY;rw[aaK]
 by_cases h1:0<=s
 ·by_cases h2:s<1024
  ·by_cases h3:0<=x
   ·by_cases h4:x<10
    ·have h5:¬x<0:=by omega
     have:=O4 h1 h2 h3 h4;simp[h1,h2,h3,h4,h5,this]
    ·simp[h1,h2,h3,h4]
   ·simp[h1,h2,h3]
  ·simp[h1,h2]
 ·simp[h1]
theorem Pm{s x:Int}(h1:0<=s)(h2:s<1024)(h3:0<=x)(h4:x<10):(qQ .i64 (oi .i64 s x) 1=1)=(s.toNat.testBit x.toNat=true):=by
 obtain⟨n,rfl⟩:=Int.eq_ofNat_of_zero_le h1;obtain⟨j,rfl⟩:=Int.eq_ofNat_of_zero_le h3;have hle:n>>>j<=n:=by rw[Nat.shiftRight_eq_div_pow];exact Nat.div_le_self _ _
 rw[WM n j (by omega),show(1:Int)=((1:Nat):Int)from rfl,Cv _ 1 (by omega) (by omega)]
 simp only[QV,Int.ofNat_inj,Nat.testBit,eq_iff_iff];rw[Nat.and_comm];simp
@[simp] theorem oI (s x:Int):jn s x=some (vW s x):=by
 unfold jn eD vW eY
 by_cases h1:0<=s
 ·by_cases h2:s<1024
  ·have h2':s<=1023:=by omega
   by_cases h3:0<=x
   ·by_cases h4:x<10
    ·have h5:¬x<0:=by omega
     have:=Pm h1 h2 h3 h4;simp[h1,h2,h2',h3,h4,h5,this]
    ·simp[h1,h2,h2',h3,h4]
   ·simp[h1,h2,h2',h3]
  ·have h2':¬s<=1023:=by omega
   simp[h1,h2,h2']
 ·simp[h1]
theorem yc{s:Nat}{x:Int}(h1:s<1024)(h3:0<=x)(h4:x<10):qy .i64 (s:Int) (cP .i64 1 x)=((s|||2 ^ x.toNat:Nat):Int):=by
 obtain⟨j,rfl⟩:=Int.eq_ofNat_of_zero_le h3;have hj:2 ^ j<=2 ^ 9:=Nat.pow_le_pow_right (by omega) (by omega)
 rw[yp j (by omega)]
 exact JD s (2 ^ j) (by omega) (by omega)
theorem E3{s:Nat}{x:Int}(h1:s<1024)(h4:x<10):s|||2 ^ x.toNat<1024:=by
 have hj:2 ^ x.toNat<=2 ^ 9:=Nat.pow_le_pow_right (by omega) (by omega)
 exact Nat.or_lt_two_pow (n:=10) h1 (by omega)
def rF(s:Nat):List Int->Int×Int×Unit
 |[]=>(s,0,())
 |x::l=>if eY x then(if s.testBit x.toNat then(0,6,())else rF (s|||2 ^ x.toNat) l)else(0,5,())
theorem Rv(g:Int->Int->Option (Int⊕(Int×Int×Unit)))
  (hg:∀x (s:Nat),s<1024->g x s=some (if eY x then(if s.testBit x.toNat then .inr (0,6,())else .inl ((s|||2 ^ x.toNat:Nat):Int))else .inr (0,5,()))):
  ∀(l:List Int) (s:Nat),s<1024->dQ g (fun s=>some (s,0,())) l s=some (rF s l)
 |[],s,_=>rfl
 |x::l,s,hs=>by
  rw[dQ,hg x s hs,rF]
  cases h1:eY x with
  |false=>simp
  |true=>
   cases h2:s.testBit x.toNat with
   |true=>simp
   |false=>
    simp only[Qt,Qq,Qu];have h3:x<10:=by simp[eY]at h1;omega
    exact Rv g hg l _ (E3 hs h3)
theorem Ah(l:List Int)(hl:l.length<=9223372036854775807):oL l=some (rF 0 l):=by
 unfold oL;rw[gf l hl (fun i (s:Int)=>(s,i,())) (fun x s=>if eY x then(if vW s x then some (.inr (0,6,()))else some (.inl (qy .i64 s (cP .i64 1 x))))else some (.inr (0,5,()))) (fun s=>some (s,0,())) (fun i x s hd hx hw=> ?_) (fun s hd=> ?_) 0]
 ·refine Rv _ (fun x s hs=> ?_) l 0 (by omega)
  grind [eY,vW,yc]
 ·grind [zw,eY,vW]
 ·simp only[hd,Ql]
theorem Mh(l:List Int)(hl:l.length<=9223372036854775807):vt l=some (rF 0 l):=by
 have:vt l=oL l:=by
  unfold vt oL;simp only[oI,zw]
 rw[this,Ah l hl]
@[simp] theorem sP (x:Int):jO x=some (!eY x):=by simp[jO,tJ,eY]
theorem FT(l:List Int)(hl:l.length<=9223372036854775807):fl l=some (l.any fun x=> !eY x):=by
 have key:∀(i:Nat) (k:Nat),i+k=l.length->Yd (aD (fun(v1:Int×Unit)=>bif (decide (v1.1<((List.length l:Nat):Int)))then Option.bind (idx l v1.1) fun x2=>Option.bind (jO x2) fun r3=>bif r3 then Option.map Sum.inr (some v1.1)else some (Sum.inl ((aB .i64 v1.1 (1:Int)),()))else Option.map Sum.inr (some (-1:Int))) ((i:Int),())) fun r=>decide (0<=r)=(l.drop i).any fun x=> !eY x:=by
  intro i k
  induction k generalizing i with
  |zero=>
   intro hi;refine⟨-1,cd ?_,?_⟩
   ·grind
   ·rw[List.drop_eq_nil_of_le (by omega)];rfl
  |succ k ih=>
   intro hi;have hlt:i<l.length:=by omega
   have hd:decide ((i:Int)<((l.length:Nat):Int))=true:=Qg (Int.ofNat_lt.2 hlt);have hx:idx l (i:Int)=some l[i]:=by rw[bA];exact Qv hlt
   have hw:aB .i64 (i:Int) 1=((i+1:Nat):Int):=bY (by omega) (by omega)
   rw[QM hlt,List.any_cons]
   cases h:eY l[i]with
   |true=>
    rw[cm (s':=(((i+1:Nat):Int),())) (by simp only[hd,hx,hw,Qk,Qa,sP,h];rfl)]
    exact(ih (i+1) (by omega)).mono fun r hr=>by simpa using hr
   |false=>
    refine⟨i,cd (by simp only[hd,hx,Qk,Qa,sP,h];rfl),?_⟩
    simp
 obtain⟨r,h1,h2⟩:=key 0 l.length (by omega)
 unfold fl jl;simp only[Int.natCast_zero]at h1;rw[h1];simpa using h2
def ot(rec:ab->Option Int)(t:ab):Option Int:=
 if t.aM<1\/aB .i64 t.aH.length t.aL.length<t.aM then some 4
 else if(t.aH.any fun x=> !eY x)then some 5
 else if(rF 0 t.aH).2.1=0 then dQ (fun u (_:Unit)=>(rec u).map fun r=>if r=0 then .inl ()else .inr r) (fun _=>some 0) t.aL ()
 else some (rF 0 t.aH).2.1
theorem Fy{rec:(ab×Unit)->Option Int}{t:ab}(hn:t.aH.length<=9223372036854775807)(hl:t.aL.length<=9223372036854775807):gu rec t=ot (fun u=>rec (u,())) t:=by
 unfold gu ot;rw[FT _ hn,Ah _ hn];rw[gf t.aL hl (fun i (_:Unit)=>(i,())) (fun u (_:Unit)=>(rec (u,())).map fun r=>if r=0 then .inl ()else .inr r) (fun _=>some 0) (fun i x s hd hx hw=> ?_) (fun s hd=> ?_) ()]
 ·grind
 ·simp only[hd,hx,hw,Qk,Qa,ab.eta]
  cases rec (x,())with
  |none=>rfl
  |some r=>by_cases h:r=0<;>simp[h]
 ·simp only[hd,Ql]
theorem Kn{rec:(ab×Unit)->Option Int}{t:ab}(hn:t.aH.length<=9223372036854775807)(hl:t.aL.length<=9223372036854775807):ly rec t=ot (fun u=>rec (u,())) t:=by
 unfold ly ot;rw[gf t.aH hn (fun i (_:Unit)=>(i,())) (fun x (_:Unit)=>some (if eY x then .inl ()else .inr 5)) (fun _=>if(rF 0 t.aH).2.1=0 then dQ (fun u (_:Unit)=>(rec (u,())).map fun r=>if r=0 then .inl ()else .inr r) (fun _=>some 0) t.aL ()else some (rF 0 t.aH).2.1) (fun i x s hd hx hw=> ?_) (fun s hd=> ?_) ()]
 ·by_cases h1:t.aM<1
  ·simp[h1]
  ·by_cases h2:aB .i64 t.aH.length t.aL.length<t.aM
   ·simp[h1,h2]
   ·simp only[h1,h2,decide_false,Ql,Qa,or_self,Qu]
    have:∀(l:List Int) (fin:Unit->Option Int),dQ (fun x (_:Unit)=>some (if eY x then .inl ()else .inr 5)) fin l ()=if(l.any fun x=> !eY x)then some 5 else fin ():=by
     intro l fin
     induction l with
     |nil=>rfl
     |cons x l ih=>
      grind [dQ,eY]
    exact this _ _
 ·grind [eY]
 ·simp only[hd,Ql];rw[Mh _ hn,Qa];rw[gf t.aL hl (fun i (_:Unit)=>(i,())) (fun u (_:Unit)=>(rec (u,())).map fun r=>if r=0 then .inl ()else .inr r) (fun _=>some 0) (fun i x s hd hx hw=> ?_) (fun s hd=> ?_) ()]
  ·grind
  ·simp only[hd,hx,hw,Qk,Qa,ab.eta]
   cases rec (x,())with
   |none=>rfl
   |some r=>by_cases h:r=0<;>simp[h]
  ·simp only[hd,Ql]
structure cG (t:ab):Prop where
 nodes:∀x∈t.aH,0<=x/\x<10
 nodup:t.aH.Nodup
 len:t.aH.length<=10
 inner:t.aL=[]\/∃x,0<=x/\x<10/\t.aL=[⟨1,[x],[]⟩]
 th:1<=t.aM/\t.aM<=t.aH.length+t.aL.length
theorem BZ:∀(l:List Int) (s:Nat),(∀x∈l,0<=x/\x<10)->l.Nodup->(∀x∈l,s.testBit x.toNat=false)->(rF s l).2.1=0
 |[],s,_,_,_=>rfl
 |x::l,s,h1,h2,h3=>by
  rw[List.nodup_cons]at h2;have hx:=h1 x (by simp)
  have:eY x=true:=by simp[eY];omega
  rw[rF,this,h3 x (by simp)]
  simp only[Qt,Qq,Qu];refine BZ l _ (fun y hy=>h1 y (by simp[hy])) h2.2 fun y hy=> ?_
  have hy1:=h1 y (by simp[hy])
  rw[Nat.testBit_or,h3 y (by simp[hy]),Nat.testBit_two_pow]
  have:x.toNat≠y.toNat:=fun e=>by
   have:x=y:=by omega
   subst this;exact h2.1 hy
  simp[this]
theorem O3{l:List Int}(h:∀x∈l,0<=x/\x<10):(l.any fun x=> !eY x)=false:=by
 grind [eY]
theorem Gf{rec:ab->Option Int}{x:Int}(h0:0<=x)(h1:x<10):ot rec ⟨1,[x],[]⟩=some 0:=by
 have h2:aB .i64 (1:Nat) (0:Nat)=1:=rfl
 grind [rF,BZ,eY,O3,ot,dQ]
theorem Ii{t:ab}(h:cG t){rec:ab->Option Int}(hr:∀x,0<=x->x<10->rec ⟨1,[x],[]⟩=some 0):ot rec t=some 0:=by
 have hil:t.aL.length<=1:=by rcases h.inner with e|⟨x,_,_,e⟩<;>rw[e]<;>simp
 have hlen:=h.len;have h2:aB .i64 t.aH.length t.aL.length=t.aH.length+t.aL.length:=bY (by omega) (by omega)
 have h3:(rF 0 t.aH).2.1=0:=BZ _ 0 h.nodes h.nodup (by simp)
 have h4:=O3 h.nodes;have h5:=h.th;unfold ot;rw[h2,Qs (by omega),h4,h3]
 simp only[Qq,Qu,Qt];rcases h.inner with e|⟨x,hx0,hx1,e⟩
 ·rw[e];rfl
 ·rw[e,dQ,hr x hx0 hx1];rfl
theorem Hv(t:ab):∃n,SizeOf.sizeOf t=n+1:=by
 have:1<=SizeOf.sizeOf t:=by
  cases t;simp only[ab.mk.sizeOf_spec];omega
 exact⟨SizeOf.sizeOf t - 1,by omega⟩
theorem TE(n:Nat)(th:Int)(l:List Int):lB (n+1) (⟨th,l,[]⟩,())=some 1:=by
 show ix _ _=_;rw[Km (by simp)]
 rfl
theorem size_leaf(n:Nat)(th:Int)(l:List Int):mq (n+1) (⟨th,l,[]⟩,())=some (aB .i64 l.length (0:Nat)):=by
 show jb _ _=_;rw[Pd (by simp)]
 rfl
theorem I2{t:ab}(h:cG t):∃d,iv t=some d/\d<=2:=by
 obtain⟨n,hn⟩:=Hv t;have hil:t.aL.length<=1:=by rcases h.inner with e|⟨x,_,_,e⟩<;>rw[e]<;>simp
 unfold iv;rw[hn];show∃d,ix (lB (n+1)) t=some d/\d<=2;rw[Km (by omega)]
 rcases h.inner with e|⟨x,_,_,e⟩
 ·rw[e];exact⟨1,rfl,by omega⟩
 ·rw[e,dQ,TE n 1 [x]];exact⟨2,rfl,by omega⟩
theorem Kw{t:ab}(h:cG t):∃d,iZ t=some d/\d<=200:=by
 obtain⟨n,hn⟩:=Hv t;have hil:t.aL.length<=1:=by rcases h.inner with e|⟨x,_,_,e⟩<;>rw[e]<;>simp
 have hlen:=h.len;unfold iZ;rw[hn];show∃d,jb (mq (n+1)) t=some d/\d<=200;rw[Pd (by omega),bY (by omega) (by omega)]
 rcases h.inner with e|⟨x,_,_,e⟩
 ·rw[e];exact⟨_,rfl,by simp;omega⟩
 ·rw[e,dQ,size_leaf n 1 [x]];have h1:aB .i64 (([x]:List Int).length:Nat) (0:Nat)=1:=rfl;rw[h1];refine⟨_,rfl,?_⟩
  grind [bY]
theorem AI{t:ab}(h:cG t):dr t=some 0:=by
 obtain⟨d,h1,h2⟩:=I2 h;obtain⟨z,h3,h4⟩:=Kw h;obtain⟨n,hn⟩:=Hv t;have hil:t.aL.length<=1:=by rcases h.inner with e|⟨x,_,_,e⟩<;>rw[e]<;>simp
 have hlen:=h.len
 have h5:jC t=some 0:=by
  unfold jC;rw[hn];show gu (eK (n+1)) t=some 0;rw[Fy (by omega) (by omega)]
  refine Ii h fun x hx0 hx1=> ?_
  show gu (eK n) ⟨1,[x],[]⟩=some 0
  grind [Fy,Gf]
 have h6:¬4<d:=by omega
 have h7:¬200<z:=by omega
 simp[dr,h1,h3,h5,h6,h7]
theorem fH{t:ab}(h:cG t):cn t=some 0:=by
 obtain⟨d,h1,h2⟩:=I2 h;obtain⟨z,h3,h4⟩:=Kw h;obtain⟨n,hn⟩:=Hv t;have hil:t.aL.length<=1:=by rcases h.inner with e|⟨x,_,_,e⟩<;>rw[e]<;>simp
 have hlen:=h.len
 have h5:pN t=some 0:=by
  unfold pN;rw[hn];show ly (mP (n+1)) t=some 0;rw[Kn (by omega) (by omega)]
  refine Ii h fun x hx0 hx1=> ?_
  show ly (mP n) ⟨1,[x],[]⟩=some 0
  grind [Kn,Gf]
 have h6:¬4<d:=by omega
 have h7:¬200<z:=by omega
 simp[cn,KE,MU,h1,h3,h5,h6,h7]
end
section
structure fh (s:cr):Prop where
 len:s.L.length<=800
 lo:0<=s.At
 hi:s.At<=800
theorem acL(l:List Int):Yd (xX l) fun s=>fh s:=by
 have h:eS (l.length:Int) 800=((min l.length 800:Nat):Int):=by unfold eS;split<;>omega
 have h2:dN 0 ((min l.length 800:Nat):Int) l.length=true:=by
  grind [dN]
 unfold xX;rw[h,h2];refine Yd.some ⟨?_,by simp,by simp⟩
 grind
theorem Y7(x n:Int)(hn:1<=n): -n<x.tmod n/\x.tmod n<n:=by
 have h2:=Int.emod_nonneg x (show n≠0 by omega)
 have h3:=Int.emod_lt_of_pos x (show 0<n by omega)
 rw[Int.tmod_eq_emod];split
 ·omega
 ·rw[Int.natAbs_of_nonneg (by omega)];omega
theorem iO{s:cr}(h:fh s){n:Int}(hn:n<=1000000000):Yd (bF s n) fun p=>fh p.2/\0<=p.1/\(1<=n->p.1<n)/\(n<1->p.1=0):=by
 unfold bF;simp only[bz];refine Yd.cond (fun h1=> ?_) (fun h1=> ?_)
 ·grind [Yd.some]
 ·simp only[Qj,Int.not_le]at h1;refine Yd.cond (fun h2=> ?_) (fun h2=> ?_)
  ·grind [Yd.some]
  ·simp only[Qj,Int.not_lt]at h2;obtain⟨hl,hlo,hhi⟩:=h;have e1:aB .i64 s.At 1=s.At+1:=bY (by omega) (by omega)
   have e2:ez .i64 (s.At+1) 1=s.At:=by rw[nS (by omega) (by omega)];omega
   rw[e1,e2];have hlt:s.At.toNat<s.L.length:=by omega
   rw[IM _ hlo,Qv hlt,Qa,Qs (by omega),Qs (by omega)]
   have hb:=Y7 s.L[s.At.toNat] n h2;have e3:Du .i64 s.L[s.At.toNat] n=s.L[s.At.toNat].tmod n:=rfl;rw[e3];generalize s.L[s.At.toNat].tmod n=y at hb;have e4:aB .i64 y n=y+n:=bY (by omega) (by omega)
   rw[e4];have h5:Du .i64 (y+n) n=(y+n) % n:=Int.tmod_eq_emod_of_nonneg (by omega)
   rw[h5];exact Yd.some ⟨⟨hl,by simp;omega,by simp;omega⟩,Int.emod_nonneg _ (by omega),fun _=>Int.emod_lt_of_pos _ (by omega),fun _=>by omega⟩
theorem ln{s:cr}(h:fh s){a b:Int}(h1:0<=a)(h2:a<=b+1)(h3:b<=1000000):Yd (cD s a b) fun p=>fh p.2/\a<=p.1/\(a<=b->p.1<=b)/\(b<a->p.1=a):=by
 unfold cD;have e1:ez .i64 b a=b - a:=nS (by omega) (by omega)
 have e2:aB .i64 (b - a) 1=b - a+1:=bY (by omega) (by omega)
 rw[e1,e2];refine(iO h (by omega)).bind fun p ⟨h4,h5,h6,h7⟩=> ?_
 grind [aB,bY,Yd.some]
theorem Sc{s:cr}(h:fh s){l:List ByteArray}(h1:1<=l.length)(h2:l.length<=1000):Yd (la s l) fun p=>fh p.2/\p.1∈l:=by
 unfold la;refine(iO h (by omega)).bind fun p ⟨h4,h5,h6,_⟩=> ?_
 grind [IM,Yd.some]
def Ly(v:ByteArray):Prop:=v∈[(ByteArray.mk #[97]),(ByteArray.mk #[98]),(ByteArray.mk #[99]),(ByteArray.mk #[97,97])]
theorem Ly.size{v:ByteArray}(h:Ly v):1<=v.size/\v.size<=2:=by
 simp only[Ly,QA,QR,or_false]at h;rcases h with rfl|rfl|rfl|rfl<;>exact⟨by decide,by decide⟩
theorem zm{s:cr}(h:fh s):Yd (gZ s) fun p=>fh p.2/\Ly p.1:=by
 unfold gZ;exact(Sc h (by simp) (by simp)).bind fun p hp=>Yd.some hp
theorem Wt{s:cr}(h:fh s):Yd (oJ s) fun p=>fh p.2/\1<=p.1.an/\p.1.an<=6/\Ly p.1.Value:=by
 unfold oJ;refine(ln h (by omega) (by omega) (by omega)).bind fun p ⟨h1,h2,h3,_⟩=> ?_
 refine(zm h1).bind fun q ⟨h4,h5⟩=> ?_
 exact Yd.some ⟨h4,h2,h3 (by omega),h5⟩
theorem Hp{s:cr}(h:fh s){n:Nat}(hn1:1<=n)(hn:n<=10):Yd (ke s n) fun p=>fh p.2/\cG p.1/\(∀x∈p.1.aH,x<n)/\p.1.aH≠[]:=by
 unfold ke;simp only[bz]
 let I (i:Nat) (s:cr) (t:ab) (ns:List Int) (is:List ab):Prop:=fh s/\t.aM=0/\(∀x∈ns,0<=x/\x<i)/\ns.Nodup/\ns.length<=i/\is=[]
 suffices key:∀(k i:Nat) (s:cr) (t:ab) (ns:List Int) (is:List ab),i+k=n->I i s t ns is->Yd (aD _ ((i:Int),s,t,ns,is,())) _ from key n 0 s _ _ _ (by omega) ⟨h,rfl,by simp,by simp,by simp,rfl⟩
 intro k
 induction k with
 |zero=>
  intro i s t ns is hi ⟨h1,h2,h3,h4,h5,h6⟩;obtain rfl:i=n:=by omega
  subst h6;have hd:decide ((i:Int)<(i:Int))=false:=Qh (Qq63 _);refine Yd.loop ?_;simp only[hd,Ql];refine Yd.inr ?_
  have fin:∀(s:cr) (ns:List Int) (is:List ab) (th:Int),fh s->(∀x∈ns,0<=x/\x<i)->ns.Nodup->ns.length<=10->ns≠[]->(is=[]\/∃x,0<=x/\x<10/\is=[⟨1,[x],[]⟩])->1<=th->th<=ns.length+is.length->
    fh s/\cG ⟨th,ns,is⟩/\(∀x∈ns,x<(i:Int))/\ns≠[]:=by
   intro s ns is th a1 a2 a3 a4 a5 a6 a7 a8;exact⟨a1,⟨fun x hx=>by have:=a2 x hx;exact⟨this.1,by omega⟩,a3,a4,a6,a7,a8⟩,fun x hx=>(a2 x hx).2,a5⟩
  have tail:∀(s:cr) (ns:List Int) (is:List ab),fh s->(∀x∈ns,0<=x/\x<i)->ns.Nodup->ns.length<=10->ns≠[]->(is=[]\/∃x,0<=x/\x<10/\is=[⟨1,[x],[]⟩])->
    Yd (Option.bind (cD s (yw .i64 (aB .i64 (aB .i64 ((List.length ns:Nat):Int) ((List.length is:Nat):Int)) (1:Int)) (2:Int)) (aB .i64 ((List.length ns:Nat):Int) ((List.length is:Nat):Int))) fun p9=>
     Option.bind (bF p9.2 (6:Int)) fun p12=>
     bif (decide (p12.1=(5:Int)))then some ((ab.mk (1:Int) ns is),p12.2)else some ((ab.mk p9.1 ns is),p12.2)) fun p=>fh p.2/\cG p.1/\(∀x∈p.1.aH,x<(i:Int))/\p.1.aH≠[]:=by
   intro s ns is a1 a2 a3 a4 a5 a6;have hp:1<=ns.length:=by cases ns with|nil=>exact absurd rfl a5|cons x l=>simp
   have hil:is.length<=1:=by rcases a6 with e|⟨x,_,_,e⟩<;>rw[e]<;>simp
   have e1:aB .i64 ((List.length ns:Nat):Int) ((List.length is:Nat):Int)=ns.length+is.length:=bY (by omega) (by omega)
   have e2:aB .i64 ((ns.length:Int)+is.length) 1=ns.length+is.length+1:=bY (by omega) (by omega)
   have e3:yw .i64 ((ns.length:Int)+is.length+1) 2=(ns.length+is.length+1) / 2:=by
    show IntKind.i64.wrap (Int.tdiv _ _)=_;rw[Int.tdiv_eq_ediv_of_nonneg (by omega)]
    exact wrap64 (by omega) (by omega)
   rw[e1,e2,e3];refine(ln a1 (by omega) (by omega) (by omega)).bind fun p ⟨b1,b2,b3,_⟩=> ?_
   refine(iO b1 (by omega)).bind fun q ⟨c1,_⟩=> ?_
   have b4:=b3 (by omega)
   refine Yd.cond (fun _=>Yd.some (fin q.2 ns is 1 c1 a2 a3 a4 a5 a6 (by omega) (by omega))) (fun _=>Yd.some (fin q.2 ns is p.1 c1 a2 a3 a4 a5 a6 (by omega) (by omega)))
  have mid:∀(s:cr) (ns:List Int),fh s->(∀x∈ns,0<=x/\x<i)->ns.Nodup->ns.length<=10->ns≠[]->
    Yd (Option.bind (bF s (4:Int)) fun p13=>
     bif (decide (p13.1=(3:Int)))then
     Option.bind (bF p13.2 (i:Int)) fun p14=>
     bif aT 56 (List.length ([]:List ab)+List.length [(ab.mk (1:Int) [p14.1] ([]:List ab))])then
     (Option.bind (cD p14.2 (yw .i64 (aB .i64 (aB .i64 ((List.length ns:Nat):Int) ((List.length (([]:List ab)++[(ab.mk (1:Int) [p14.1] ([]:List ab))]):Nat):Int)) (1:Int)) (2:Int)) (aB .i64 ((List.length ns:Nat):Int) ((List.length (([]:List ab)++[(ab.mk (1:Int) [p14.1] ([]:List ab))]):Nat):Int))) fun p9=>
     Option.bind (bF p9.2 (6:Int)) fun p12=>
     bif (decide (p12.1=(5:Int)))then some ((ab.mk (1:Int) ns (([]:List ab)++[(ab.mk (1:Int) [p14.1] ([]:List ab))])),p12.2)else some ((ab.mk p9.1 ns (([]:List ab)++[(ab.mk (1:Int) [p14.1] ([]:List ab))])),p12.2))
     else none
     else
     (Option.bind (cD p13.2 (yw .i64 (aB .i64 (aB .i64 ((List.length ns:Nat):Int) ((List.length ([]:List ab):Nat):Int)) (1:Int)) (2:Int)) (aB .i64 ((List.length ns:Nat):Int) ((List.length ([]:List ab):Nat):Int))) fun p9=>
     Option.bind (bF p9.2 (6:Int)) fun p12=>
     bif (decide (p12.1=(5:Int)))then some ((ab.mk (1:Int) ns []),p12.2)else some ((ab.mk p9.1 ns []),p12.2))) fun p=>fh p.2/\cG p.1/\(∀x∈p.1.aH,x<(i:Int))/\p.1.aH≠[]:=by
   intro s ns a1 a2 a3 a4 a5;refine(iO a1 (by omega)).bind fun p ⟨b1,b2,b3,_⟩=> ?_
   refine Yd.cond (fun _=> ?_) (fun _=> ?_)
   ·refine(iO b1 (by omega)).bind fun q ⟨c1,c2,c3,_⟩=> ?_
    have c4:=c3 (by omega)
    rw[br (by simp)]
    exact tail q.2 ns _ c1 a2 a3 a4 a5 (.inr ⟨q.1,c2,by omega,rfl⟩)
   ·exact tail p.2 ns [] b1 a2 a3 a4 a5 (.inl rfl)
  refine Yd.cond (fun hz=> ?_) (fun hz=> ?_)
  ·refine(iO h1 (by omega)).bind fun p ⟨b1,b2,b3,_⟩=> ?_
   have b4:=b3 (by omega)
   exact mid p.2 [p.1] b1 (by simp;omega) (by simp) (by simp) (by simp)
  ·grind
 |succ k ih=>
  intro i s t ns is hi ⟨h1,h2,h3,h4,h5,h6⟩;have hd:decide ((i:Int)<(n:Int))=true:=Qg (by omega)
  have hw:aB .i64 (i:Int) 1=((i+1:Nat):Int):=bY (by omega) (by omega)
  refine Yd.loop ?_;simp only[hd,Qk,hw];refine(iO h1 (by omega)).bind fun p ⟨b1,b2,b3,_⟩=> ?_
  refine Yd.cond (fun _=> ?_) (fun _=> ?_)
  ·rw[br (by simp;omega)]
   refine Yd.some (ih (i+1) p.2 _ _ _ (by omega) ⟨b1,h2,?_,?_,by simp;omega,h6⟩)
   ·grind
   ·grind
  ·refine Yd.some (ih (i+1) p.2 _ _ _ (by omega) ⟨b1,h2,?_,h4,by omega,h6⟩)
   intro x hx;have:=h3 x hx;omega
end
section
inductive de:ab->Prop where
 |mk (t:ab) (h1:t.aH.length<=1000000) (h2:t.aL.length<=1000000) (h3:∀u∈t.aL,de u):de t
theorem de.nodes{t:ab}:de t->t.aH.length<=1000000| .mk _ h _ _=>h
theorem de.len{t:ab}:de t->t.aL.length<=1000000| .mk _ _ h _=>h
theorem de.inner{t:ab}:de t->∀u∈t.aL,de u| .mk _ _ _ h=>h
theorem jt{t u:ab}(h:u∈t.aL):SizeOf.sizeOf u<SizeOf.sizeOf t:=by
 have h1:=List.sizeOf_lt_of_mem h
 cases t with
 |mk th ns is=>
  grind
theorem cG.sm{t:ab}(h:cG t):de t:=by
 have:=h.len;refine .mk t (by omega) ?_ fun u hu=> ?_
 ·rcases h.inner with e|⟨x,_,_,e⟩<;>rw[e]<;>simp
 ·rcases h.inner with e|⟨x,_,_,e⟩
  ·rw[e]at hu;cases hu
  ·rw[e]at hu;simp only[Q4]at hu;subst hu;exact .mk _ (by simp) (by simp) (by simp)
theorem wG{α σ ρ:Type}{g:α->σ->Option (σ⊕ρ)}{fin:σ->Option ρ}(hf:∀s,∃r,fin s=some r):∀(l:List α),(∀x∈l,∀s,∃y,g x s=some y)->∀s,∃r,dQ g fin l s=some r
 |[],_,s=>hf s
 |x::l,h,s=>by
  obtain⟨y,hy⟩:=h x (by simp) s
  rw[dQ,hy]
  cases y with
  |inr r=>exact⟨r,rfl⟩
  |inl s'=>exact wG hf l (fun x hx=>h x (by simp[hx])) s'
theorem Gr{α σ ρ:Type}{g g':α->σ->Option (σ⊕ρ)}{fin:σ->Option ρ}:∀(l:List α),(∀x∈l,∀s,g x s=g' x s)->∀s,dQ g fin l s=dQ g' fin l s
 |[],_,s=>rfl
 |x::l,h,s=>by
  rw[dQ,dQ,h x (by simp) s]
  cases g' x s with
  |none=>rfl
  |some y=>
   cases y with
   |inr r=>rfl
   |inl s'=>exact Gr l (fun x hx=>h x (by simp[hx])) s'
theorem Gu{n:Nat}:∀{t:ab},SizeOf.sizeOf t<n->de t->∃d,lB n (t,())=some d:=by
 induction n with
 |zero=>intro t h;omega
 |succ n ih=>
  intro t hs hm;show∃d,ix (lB n) t=some d;have hl:=hm.len;rw[Km (by omega)]
  refine wG (fun s=>⟨_,rfl⟩) _ (fun u hu s=> ?_) _
  obtain⟨d,hd⟩:=ih (t:=u) (by have:=jt hu;omega) (hm.inner u hu)
  exact⟨_,by rw[hd];rfl⟩
theorem HC{n:Nat}:∀{t:ab},SizeOf.sizeOf t<n->de t->∃d,mq n (t,())=some d:=by
 induction n with
 |zero=>intro t h;omega
 |succ n ih=>
  intro t hs hm;show∃d,jb (mq n) t=some d;have hl:=hm.len;rw[Pd (by omega)]
  refine wG (fun s=>⟨_,rfl⟩) _ (fun u hu s=> ?_) _
  obtain⟨d,hd⟩:=ih (t:=u) (by have:=jt hu;omega) (hm.inner u hu)
  exact⟨_,by rw[hd];rfl⟩
theorem DQ{rec:ab->Option Int}{t:ab}(h:∀u∈t.aL,∃r,rec u=some r):∃r,ot rec t=some r:=by
 unfold ot;split
 ·exact⟨_,rfl⟩
 ·split
  ·exact⟨_,rfl⟩
  ·split
   ·refine wG (fun s=>⟨_,rfl⟩) _ (fun u hu s=> ?_) _
    obtain⟨r,hr⟩:=h u hu;exact⟨_,by rw[hr];rfl⟩
   ·exact⟨_,rfl⟩
theorem NA{rec rec':ab->Option Int}{t:ab}(h:∀u∈t.aL,rec u=rec' u):ot rec t=ot rec' t:=by
 grind [ot,Gr]
theorem PB{n:Nat}:∀{t:ab},SizeOf.sizeOf t<n->de t->∃d,eK n (t,())=some d/\mP n (t,())=some d:=by
 induction n with
 |zero=>intro t h;omega
 |succ n ih=>
  intro t hs hm;show∃d,gu (eK n) t=some d/\ly (mP n) t=some d;have hl:=hm.len;have hn:=hm.nodes;rw[Fy (by omega) (by omega),Kn (by omega) (by omega)]
  have hih:∀u∈t.aL,∃r,eK n (u,())=some r/\mP n (u,())=some r:=fun u hu=>ih (t:=u) (by have:=jt hu;omega) (hm.inner u hu)
  obtain⟨r,hr⟩:=DQ (rec:=fun u=>eK n (u,())) (t:=t) fun u hu=>by obtain⟨r,h1,_⟩:=hih u hu;exact⟨r,h1⟩
  grind [NA]
theorem ZP{n:Nat}:∀{t:ab},SizeOf.sizeOf t<n->de t->∃d,eK n (t,())=some d:=by
 induction n with
 |zero=>intro t h;omega
 |succ n ih=>
  intro t hs hm;show∃d,gu (eK n) t=some d;have hl:=hm.len;have hn:=hm.nodes;rw[Fy (by omega) (by omega)]
  exact DQ (rec:=fun u=>eK n (u,())) (t:=t) fun u hu=>ih (t:=u) (by have:=jt hu;omega) (hm.inner u hu)
theorem Y4{t:ab}(h:de t):∃v,dr t=some v:=by
 obtain⟨d,hd⟩:∃d,iv t=some d:=Gu (by omega) h
 obtain⟨z,hz⟩:∃z,iZ t=some z:=HC (by omega) h
 obtain⟨l,hl1⟩:∃l,jC t=some l:=ZP (by omega) h
 simp[dr,hd,hz,hl1]
theorem Sj{t:ab}(h:de t):∃v,dr t=some v/\cn t=some v:=by
 obtain⟨d,hd⟩:∃d,iv t=some d:=Gu (by omega) h
 obtain⟨z,hz⟩:∃z,iZ t=some z:=HC (by omega) h
 obtain⟨l,hl1,hl2⟩:∃l,jC t=some l/\pN t=some l:=PB (by omega) h
 simp[dr,cn,KE,MU,hd,hz,hl1,hl2]
 def mH(t:ab):Int:=(dr t).getD 1
theorem Jo{t:ab}(h:de t):dr t=some (mH t):=by
 grind [Y4,mH]
theorem lZ{t:ab}(h:de t):cn t=some (mH t):=by
 grind [Sj,mH]
theorem wZ{t:ab}(h:cG t):mH t=0:=by rw[mH,AI h];rfl
end
section
def at_(e:ak)(n:Int):ao:=⟨n,e.aj.Value⟩
def E1(e:ak):Bool:=aP e.aJ||(!aP e.av&&bJ e.aJ e.av&& !cS e.aJ e.av)
def gK(e:ak):Bool:=
 finite e.aj&&(aP e.av||dJ e.av)&&(aP e.aJ||dJ e.aJ)&&E1 e&&decide (0<=e.bf)&&decide (e.bf<=e.bM)&&decide (e.bM<=e.aj.an)
  &&(decide (e.bM=0)||fj e.av e.aJ (at_ e e.bM))&&(decide (e.bf=0)||(!eN e.av (at_ e e.bf)&& !eN e.aJ (at_ e e.bf)))
def uh(e:ak):Bool:=decide (1<=e.bf)&&decide (e.bf<=e.bM)&&decide (e.bM<=1000)
def uI(e:ak):Bool:=finite e.aj&&dJ e.av&&cS e.av e.aj&&aP e.aJ&&uh e&&decide (e.bM<=e.av.an)
def z6(e:ak):Bool:=dJ e.aj&&aP e.av&&aP e.aJ&&uh e
def Ea(e:ak):Bool:=decide (0<=e.aq)&&decide (e.aq<10)&&decide (1<=e.aE)&&decide (e.aE<=1000000)&&decide (1<=e.aO)&&decide (e.aO<=1000000)
def lY(tv:Int)(e:ak):Bool:=
 Ea e&&decide (tv=0)&&(if e.az=1 then gK e else if e.az=2 then uI e else if e.az=3 then z6 e else false)
theorem dlt(a b:Int):decide (a<b)= !decide (b<=a):=by by_cases h:a<b<;>simp[h]<;>omega
theorem zq{e:ak}{tv:Int}(hT:cn e.aa=some tv):cJ e=some (lY tv e):=by
 unfold cJ lY Ea;simp[hT,dlt,uI,z6,uh,gK,finite,E1,at_]
 have h9:decide (e.aq<=9)= !decide (10<=e.aq):=by by_cases h:e.aq<=9<;>simp[h]<;>omega
 rw[h9];generalize (decide (0<=e.aq)&& !decide (10<=e.aq)&&decide (1<=e.aE)&&decide (e.aE<=1000000)&&decide (1<=e.aO)&&decide (e.aO<=1000000)&&decide (tv=0))=hd
 by_cases k1:e.az=1
 ·simp only[k1,decide_true,Qk,Qt]
  grind
 ·grind
def Mr(e:ak)(v:ByteArray)(lo hi:Int):Bool:=decide (1<=lo)&&decide (lo<=hi)&&decide (e.aj.Value=v)&&decide (e.bf<=lo)
def AM(e:ak)(v:ByteArray)(lo hi:Int):Bool:=Mr e v lo hi&&(!decide (e.az=1)||(!decide (e.bf=0)&&decide (hi<=e.bM)))
def nM(e:ak)(v:ByteArray)(lo hi:Int):Bool:=Mr e v lo hi&&(decide (e.az=3)||(decide (e.az=2)&&decide (hi<=e.bM)))
def yk(e:ak)(b:ao):Bool:= !aP b&&(if e.az=1 then kI e.aj b else cS e.aj b)
def gU(e:ak)(b:ao):Bool:= !aP b&&(if e.az=1 then fj e.av e.aJ b else if e.az=2 then kI e.av b else cS e.aj b)
def gQ(e:ak):Int:=if e.az=3 then 1000000 else e.aj.an
def sA(n:Nat):List Int:=(List.range n).map fun i:Nat=>(i:Int)
theorem ME(n:Nat):sA (n+1)=sA n++[(n:Int)]:=by simp[sA,List.range_succ]
@[simp] theorem acW (n:Nat):(sA n).length=n:=by simp[sA]
theorem aaX(n:Nat)(hn:n<=1000)(k:Int):wW n k=some ⟨k,sA n,[]⟩:=by
 unfold wW
 suffices key:∀(m i:Nat) (t:ab),i+m=n->t.aM=k->t.aL=[]->aD (fun(v1:Int×ab×(List Int)×Unit)=>
   bif (decide (v1.1<(n:Int)))then
   bif aT 8 (List.length v1.2.2.1+List.length [v1.1])then
   some (Sum.inl ((aB .i64 v1.1 (1:Int)),(ab.mk v1.2.1.aM ([]:List Int) v1.2.1.aL),(v1.2.2.1++[v1.1]),()))
   else none
   else
   Option.map Sum.inr (some (ab.mk v1.2.1.aM v1.2.2.1 v1.2.1.aL))) ((i:Int),t,sA i,())=some ⟨k,sA n,[]⟩from key n 0 _ (by omega) rfl rfl
 intro m
 induction m with
 |zero=>
  grind [cd]
 |succ m ih=>
  intro i t hi h1 h2;have hd:decide ((i:Int)<(n:Int))=true:=Qg (by omega)
  have hw:aB .i64 (i:Int) 1=((i+1:Nat):Int):=bY (by omega) (by omega)
  rw[cm (s':=(((i+1:Nat):Int),⟨t.aM,[],t.aL⟩,sA (i+1),()))]
  ·exact ih (i+1) _ (by omega) h1 h2
  ·simp only[hd,hw,Qk];rw[br (by simp;omega)]
   simp[ME]
theorem Ld(n:Nat)(hn:n<=10)(k:Int)(h1:1<=k)(h2:k<=n):cG ⟨k,sA n,[]⟩:=by
 refine⟨fun x hx=> ?_,?_,by simpa using hn,.inl rfl,h1,by simpa using h2⟩
 ·grind [sA]
 ·show(sA n).Nodup;exact List.Pairwise.map _ (fun a b h e=>h (by omega)) List.nodup_range
structure ad5 (aG bj n:Int) (e:ak):Prop where
 aG:e.aq=aG
 bj:e.aE=bj
 seq:1<=e.aO/\e.aO<=9
 aN:cG e.aa
 nodes:∀x∈e.aa.aH,x<n
 ne:e.aa.aH≠[]
 val:Ly e.aj.Value
 valid:lY 0 e=true
theorem Uv{b:ao}(h1:1<=b.an)(h2:b.an<=1000)(h3:Ly b.Value):dJ b=true:=by
 have:=h3.size
 grind [dJ]
end
section
 def aX(e:ak):Bool:=lY (mH e.aa) e
theorem iy{e:ak}(h:de e.aa):cJ e=some (aX e):=zq (lZ h)
def kF(s:Nat)(x:Int):Bool:=eY x&&s.testBit x.toNat
theorem yS{s:Nat}(h:s<1024)(x:Int):vW s x=kF s x:=by
 grind [vW,kF]
mutual
def kC(s:Nat):ab->Bool
 |⟨th,ns,is⟩=>decide (th<=((ns.countP (kF s)+tj s is:Nat):Int))
def tj(s:Nat):List ab->Nat
 |[]=>0
 |t::l=>(if kC s t then 1 else 0)+tj s l
end
theorem ET(s:Nat)(t:ab):kC s t=decide (t.aM<=((t.aH.countP (kF s)+tj s t.aL:Nat):Int)):=by
 cases t;rw[kC]
theorem Co(s:Nat)(hs:s<1024)(fin:Int->Option Bool):∀(l:List Int) (n:Nat),n+l.length<=9000000->
  dQ (fun x (m:Int)=>some (.inl (if vW s x then aB .i64 m 1 else m))) fin l n=fin ((n+l.countP (kF s):Nat):Int)
 |[],n,_=>by simp[dQ]
 |x::l,n,h=>by
  simp at h;rw[dQ,yS hs,List.countP_cons]
  cases hx:kF s x with
  |false=>
   simp only[Qq,Qu,Nat.add_zero];exact Co s hs fin l n (by omega)
  |true=>
   simp only[Qt];rw[bY (by omega) (by omega)]
   rw[show(n:Int)+1=((n+1:Nat):Int)by omega,Co s hs fin l (n+1) (by omega)]
   congr 2;omega
theorem GC(s:Nat)(rec:ab->Option Bool)(fin:Int->Option Bool):∀(l:List ab) (n:Nat),n+l.length<=9000000->(∀u∈l,rec u=some (kC s u))->
  dQ (fun u (m:Int)=>(rec u).map fun r=> .inl (if r then aB .i64 m 1 else m)) fin l n=fin ((n+tj s l:Nat):Int)
 |[],n,_,_=>by simp[dQ,tj]
 |u::l,n,h,hr=>by
  simp at h;rw[dQ,hr u (by simp),tj]
  cases hx:kC s u with
  |false=>
   simp only[Qe,Qq,Qu,Nat.zero_add];exact GC s rec fin l n (by omega) fun u hu=>hr u (by simp[hu])
  |true=>
   simp only[Qe,Qt];rw[bY (by omega) (by omega)]
   rw[show(n:Int)+1=((n+1:Nat):Int)by omega,GC s rec fin l (n+1) (by omega) fun u hu=>hr u (by simp[hu])]
   congr 2;omega
theorem ad6{rec:(ab×Int×Unit)->Option Bool}{t:ab}{s:Nat}(hs:s<1024)(hm:de t)(hr:∀u∈t.aL,rec (u,(s:Int),())=some (kC s u)):lF rec t s=some (kC s t):=by
 unfold lF;have hn:=hm.nodes;have hl:=hm.len;have hv:eD (s:Int)=some true:=by unfold eD;simp;omega
 rw[hv];simp only[Qa,Qo,Ql,bz];rw[gf t.aH (by omega) (fun i (m:Int)=>(m,i,())) (fun x (m:Int)=>some (.inl (if vW s x then aB .i64 m 1 else m))) (fun m=>dQ (fun u (m:Int)=>(rec (u,(s:Int),())).map fun r=> .inl (if r then aB .i64 m 1 else m)) (fun m=>some (decide (t.aM<=m))) t.aL m) (fun i x m hd hx hw=> ?_) (fun m hd=> ?_) 0]
 ·rw[show(0:Int)=((0:Nat):Int)from rfl,Co s hs _ t.aH 0 (by omega)]
  rw[GC s (fun u=>rec (u,(s:Int),())) _ t.aL _ (by have:=List.countP_le_length (p:=kF s) (l:=t.aH);omega) hr,ET]
  simp
 ·grind [oI,vW]
 ·simp only[hd,Ql];rw[gf t.aL (by omega) (fun i (m:Int)=>(m,i,())) (fun u (m:Int)=>(rec (u,(s:Int),())).map fun r=> .inl (if r then aB .i64 m 1 else m)) (fun m=>some (decide (t.aM<=m))) (fun i x m hd hx hw=> ?_) (fun m hd=> ?_) m]
  ·simp only[hd,hx,hw,Qk,Qa,ab.eta]
   cases rec (x,(s:Int),())with
   |none=>rfl
   |some r=>cases r<;>rfl
  ·simp only[hd,Ql]
theorem ad2{s:Nat}(hs:s<1024){n:Nat}:∀{t:ab},SizeOf.sizeOf t<n->de t->sw n (t,(s:Int),())=some (kC s t):=by
 induction n with
 |zero=>intro t h;omega
 |succ n ih=>
  intro t hz hm;show lF (sw n) t s=some (kC s t);exact ad6 hs hm fun u hu=>ih (t:=u) (by have:=jt hu;omega) (hm.inner u hu)
theorem CE{s:Nat}(hs:s<1024){t:ab}(hm:de t):lD t s=some (kC s t):=ad2 hs (by omega) hm
theorem La{s s':Nat}(h:∀k,s.testBit k=true->s'.testBit k=true)(x:Int)(hx:kF s x=true):kF s' x=true:=by
 grind [kF]
mutual
theorem Kz{s s':Nat}(h:∀k,s.testBit k=true->s'.testBit k=true):∀(t:ab),kC s t=true->kC s' t=true
 |⟨th,ns,is⟩,ht=>by
  rw[kC,Qi]at ht ⊢;have h1:=KA h is;have h2:ns.countP (kF s)<=ns.countP (kF s'):=List.countP_mono_left fun x _ hx=>La h x hx
  omega
theorem KA{s s':Nat}(h:∀k,s.testBit k=true->s'.testBit k=true):∀(l:List ab),tj s l<=tj s' l
 |[]=>by simp[tj]
 |t::l=>by
  have h1:=KA h l;have h2:=Kz h t;rw[tj,tj]
  cases hs:kC s t with
  |false=>simp;omega
  |true=>rw[h2 hs];simp;omega
end
end
section
theorem Zj(s:Int):eD s=some (decide (0<=s)&&decide (s<1024)):=by
 unfold eD;simp;congr 1;rw[decide_eq_decide];omega
theorem sE{s:Nat}(h:s<1024):eD (s:Int)=some true:=by rw[Zj];simp;omega
theorem JH{a b:Nat}(h:∀k,a.testBit k=b.testBit k):a=b:=Nat.eq_of_testBit_eq h
theorem OT{s k:Nat}(hs:s<1024)(hk:s.testBit k=true):k<10:=by
 rcases Nat.lt_or_ge k 10 with h|h
 ·exact h
 ·have:s.testBit k=false:=Nat.testBit_lt_two_pow (QJ hs (show 2 ^ 10<=2 ^ k from Nat.pow_le_pow_right (by omega) h))
  rw[this]at hk;cases hk
theorem E9{s:Nat}(h:∀k,s.testBit k=true->k<10):s<1024:=by
 rcases Nat.lt_or_ge s 1024 with h1|h1
 ·exact h1
 ·obtain⟨k,hk1,hk2⟩:=Nat.exists_ge_and_testBit_of_ge_two_pow (n:=10) h1;have:=h k hk2;omega
theorem Ce(s k:Nat):kF s (k:Int)=(decide (k<10)&&s.testBit k):=by
 have h1:decide ((k:Int)<10)=decide (k<10):=by rw[decide_eq_decide];omega
 have h2:decide (0<=(k:Int))=true:=Qg (by omega)
 simp only[kF,eY,h1,h2,Bool.true_and,QV]
def Ck(i:Nat)(s:Nat):List aU->Nat
 |[]=>s
 |m::l=>Ck (i+1) (if m.dD&&decide (i<10)then s|||2 ^ i else s) l
def lK(l:List aU):Nat:=Ck 0 0 l
theorem Lm:∀(l:List aU) (i s k:Nat),(Ck i s l).testBit k=(s.testBit k||(decide (i<=k)&&decide (k<10)&&((l[k - i]?).any (·.dD))))
 |[],i,s,k=>by simp[Ck]
 |m::l,i,s,k=>by
  rw[Ck,Lm l (i+1)]
  by_cases hk:k=i
  ·subst hk;have h1:¬(k+1<=k):=by omega
   cases hm:m.dD<;>by_cases hi:k<10<;>simp[hm,hi,h1,Nat.testBit_or]
  ·have h2:i<=k↔i+1<=k:=by omega
   have h3:∀b:Bool,(if(b&&decide (i<10))=true then s|||2 ^ i else s).testBit k=s.testBit k:=by
    intro b;split
    ·rw[Nat.testBit_or,Nat.testBit_two_pow];have:¬i=k:=fun e=>hk e.symm
     simp[this]
    ·rfl
   rw[h3]
   by_cases hik:i+1<=k
   ·have h4:(m::l)[k - i]?=l[k - (i+1)]?:=by
     rw[show k - i=(k - (i+1))+1 by omega,List.getElem?_cons_succ]
    rw[h4];have:i<=k:=by omega
    simp[this,hik]
   ·have:¬i<=k:=by omega
    simp[this,hik]
theorem El(l:List aU)(k:Nat):(lK l).testBit k=(decide (k<10)&&((l[k]?).any (·.dD))):=by
 rw[lK,Lm];simp
theorem He(l:List aU):lK l<1024:=E9 fun k hk=>by
 rw[El]at hk;simp at hk;exact hk.1
theorem V5(step:(Int×Int×Unit)->Option ((Int×Int×Unit)⊕Int))(l:List aU)
  (h1:∀(i:Nat) (m:aU) (s:Nat),l[i]?=some m->s<1024->step ((s:Int),(i:Int),())=some (.inl (((if m.dD&&decide (i<10)then s|||2 ^ i else s:Nat):Int),((i+1:Nat):Int),())))
  (h2:∀s:Int,step (s,(l.length:Int),())=some (.inr s)):aD step (0,0,())=some ((lK l:Nat):Int):=by
 suffices key:∀(k i s:Nat),i+k=l.length->s<1024->aD step ((s:Int),(i:Int),())=some ((Ck i s (l.drop i):Nat):Int)by
  have:=key l.length 0 0 (by omega) (by omega)
  simpa[lK]using this
 intro k
 induction k with
 |zero=>
  intro i s hi hs;obtain rfl:i=l.length:=by omega
  rw[cd (h2 s),Qq65];rfl
 |succ k ih=>
  intro i s hi hs;have hlt:i<l.length:=by omega
  rw[QM hlt,Ck,cm (h1 i l[i] s (Qv hlt) hs)];refine ih (i+1) _ (by omega) ?_
  split
  ·rename_i hc;simp only[Qm,Qi]at hc;have:=E3 (x:=(i:Int)) hs (by omega)
   simpa using this
  ·exact hs
theorem yv{c:bQ}(h:c.bq.length<=1000000):kc c=some ((lK c.bq:Nat):Int):=by
 unfold kc;refine V5 _ _ (fun i m s hm hs=> ?_) (fun s=> ?_)
 ·have hlt:i<c.bq.length:=(Qw.1 hm).1;have hd:decide ((i:Int)<((c.bq.length:Nat):Int))=true:=Qg (by omega)
  have hw:aB .i64 (i:Int) 1=((i+1:Nat):Int):=bY (by omega) (by omega)
  have hx:idx c.bq (i:Int)=some m:=by rw[bA];exact hm
  have h0:¬(i:Int)<0:=by omega
  simp only[hd,hx,hw,Qk,Qa,bz,h0,Qu]
  by_cases h10:i<10
  ·have:(i:Int)<10:=by omega
   have ho:=yc (x:=(i:Int)) hs (by omega) (by omega)
   simp only[QV]at ho;cases m.dD<;>simp[this,h10,ho]
  ·have:¬(i:Int)<10:=by omega
   cases m.dD<;>simp[this,h10]
 ·have hd:decide (((c.bq.length:Nat):Int)<((c.bq.length:Nat):Int))=false:=Qh (Qq63 _);simp only[hd,Ql,Qe]
structure EE (c:bQ):Prop where
 len:c.bq.length<=1000000
 aN:∀m∈c.bq,de m.aa
def kN(l:List aU)(k:Nat):ab:=((l[k]?).map (·.aa)).getD ⟨0,[],[]⟩
def po(l:List aU)(k:Nat):Bool:=(lK l).testBit k
theorem Cb{l:List aU}{k:Nat}(h:po l k=true):k<10/\∃m,l[k]?=some m/\m.dD=true:=by
 rw[po,El]at h;simp only[Qm,Qi,Option.any_eq_true]at h;obtain⟨h1,m,h2,h3⟩:=h;exact⟨h1,m,h2,h3⟩
theorem wu{l:List aU}{k:Nat}{m:aU}(h:l[k]?=some m):kN l k=m.aa:=by rw[kN,h];rfl
def AZ(s v:Nat):Nat:=(1023^^^s)|||2 ^ v
def Bp(l:List aU)(v s:Nat):Bool:=po l v&& !kC (AZ s v) (kN l v)
theorem ac6(k:Nat):(1023:Nat).testBit k=decide (k<10):=by
 rw[show(1023:Nat)=2 ^ 10 - 1 from rfl,Nat.testBit_two_pow_sub_one]
theorem BW{s:Nat}(hs:s<1024)(v k:Nat):(AZ s v).testBit k=(decide (k<10)&& !s.testBit k||decide (v=k)):=by
 rw[AZ,Nat.testBit_or,Nat.testBit_xor,ac6,Nat.testBit_two_pow]
 by_cases hk:k<10
 ·simp[hk]
 ·have:s.testBit k=false:=by
   cases h:s.testBit k with
   |false=>rfl
   |true=>exact absurd (OT hs h) hk
  simp[hk,this]
theorem Vp{s v:Nat}(hs:s<1024)(hv:v<10):AZ s v<1024:=E9 fun k hk=>by
 rw[BW hs]at hk;simp at hk;omega
theorem S4{s v:Nat}(hs:s<1024)(hv:v<10):qy .i64 (ez .i64 1023 (s:Int)) (cP .i64 1 (v:Int))=((AZ s v:Nat):Int):=by
 have h1:ez .i64 1023 (s:Int)=((1023 - s:Nat):Int):=by rw[nS (by omega) (by omega)];omega
 rw[h1,yp v (by omega),JD _ (2 ^ v) (by omega) (Nat.pow_lt_pow_right (by omega) (by omega))]
 congr 1;refine JH fun k=> ?_
 rw[BW hs,Nat.testBit_or,Nat.testBit_two_pow]
 have h2:(1023 - s).testBit k=(decide (k<10)&& !s.testBit k):=by
  have:=Nat.testBit_two_pow_sub_succ (x:=s) (n:=10) (by omega) k
  rw[show 2 ^ 10 - (s+1)=1023 - s by omega]at this
  exact this
 rw[h2]
theorem HP{c:bQ}(hc:EE c){v s:Nat}(hs:s<1024):lX c v s=some (Bp c.bq v s):=by
 unfold lX Bp;rw[sE hs,yv hc.len];simp only[Qa,Qo,Ql,oI,yS (He _),Ce]
 cases hd:po c.bq v with
 |false=>
  have:(decide (v<10)&&(lK c.bq).testBit v)=false:=by
   rw[show(lK c.bq).testBit v=po c.bq v from rfl,hd];simp
  simp[this]
 |true=>
  obtain⟨h10,m,hm,hdm⟩:=Cb hd
  have:(decide (v<10)&&(lK c.bq).testBit v)=true:=by
   rw[show(lK c.bq).testBit v=po c.bq v from rfl,hd];simp[h10]
  rw[bA,hm,S4 hs h10];have h0:¬(v:Int)<0:=by omega
  have hmem:m∈c.bq:=Q7 hm;simp only[this,Qo,Ql,Qa,h0,Qu,ab.eta,CE (Vp hs h10) (hc.aN m hmem),wu hm,Bool.true_and]
end
section
def sH(s:Nat):List Int:=(sA 10).filter (kF s)
theorem ZM{n:Nat}{x:Int}:x∈sA n↔∃k:Nat,k<n/\x=k:=by
 grind [sA]
theorem B1{s:Nat}{x:Int}:x∈sH s↔∃k:Nat,k<10/\x=k/\s.testBit k=true:=by
 grind [sH,ZM,Ce]
theorem S7(step:(Int×List Int×Unit)->Option ((Int×List Int×Unit)⊕List Int))(s:Nat)
  (h1:∀(i:Nat) (acc:List Int),i<10->acc.length<=i->step ((i:Int),acc,())=some (.inl (((i+1:Nat):Int),(if kF s i then acc++[(i:Int)]else acc),())))
  (h2:∀acc,step (((10:Nat):Int),acc,())=some (.inr acc)):aD step (0,[],())=some (sH s):=by
 suffices key:∀(k i:Nat) (acc:List Int),i+k=10->acc=(sA i).filter (kF s)->aD step ((i:Int),acc,())=some (sH s)from key 10 0 [] rfl rfl
 intro k
 induction k with
 |zero=>
  intro i acc hi ha;obtain rfl:i=10:=by omega
  rw[cd (h2 acc),ha];rfl
 |succ k ih=>
  intro i acc hi ha;have hlen:acc.length<=i:=by rw[ha];exact QK (List.length_filter_le _ _) (by simp)
  rw[cm (h1 i acc (by omega) hlen)]
  refine ih (i+1) _ (by omega) ?_
  rw[ME,List.filter_append,<-ha];cases hh:kF s i<;>simp[hh]
theorem KH{s:Nat}(hs:s<1024):mS (s:Int)=some (sH s):=by
 grind [mS,S7,aB,bY,bz,oI,yS,br,kF]
def Bv(l:List aU)(s r:Nat):Prop:=∀k,r.testBit k=true->s.testBit k=true/\po l k=true/\kC r (kN l k)=true
structure xw (l:List aU) (s q:Nat):Prop where
 inside:Bv l s q
 max:∀r,Bv l s r->∀k,r.testBit k=true->q.testBit k=true
theorem xw.unique{l:List aU}{s q q':Nat}(h:xw l s q)(h':xw l s q'):q=q':=by
 refine JH fun k=> ?_
 rw[QW];exact⟨h'.max q h.inside k,h.max q' h'.inside k⟩
theorem xw.lt{l:List aU}{s q:Nat}(h:xw l s q):q<1024:=E9 fun k hk=>(Cb (h.inside k hk).2.1).1
def qq(l:List aU)(s:Nat):Option Int:=(sH s).find? fun x=> !kC s (kN l x.toNat)
theorem CC{l:List aU}{s:Nat}{x:Int}(h:qq l s=some x):∃k:Nat,x=k/\k<10/\s.testBit k=true/\kC s (kN l k)=false:=by
 have h1:=List.mem_of_find?_eq_some h;have h2:=List.find?_some h;obtain⟨k,hk,rfl,hb⟩:=B1.1 h1;simp at h2;exact⟨k,rfl,hk,hb,h2⟩
theorem LB{l:List aU}{s:Nat}(hs:s<1024)(h:qq l s=none):∀k,s.testBit k=true->kC s (kN l k)=true:=by
 intro k hk;have:=List.find?_eq_none.1 h (k:Int) (B1.2 ⟨k,OT hs hk,rfl,hk⟩);simpa using this
theorem Y9:∀s,s<1024->∀k,k<10->s.testBit k=true->s - 2 ^ k=s^^^2 ^ k:=by decide+kernel
theorem Jq{s k:Nat}(hs:s<1024)(hk:s.testBit k=true):2 ^ k<=s/\∀j,(s - 2 ^ k).testBit j=(s.testBit j&& !decide (k=j)):=by
 have hle:2 ^ k<=s:=Nat.ge_two_pow_of_testBit hk;refine⟨hle,?_⟩;have hx:s - 2 ^ k=s^^^2 ^ k:=Y9 s hs k (OT hs hk) hk
 grind
structure oM (l:List aU) (s0 s:Nat):Prop where
 lt:s<1024
 sub:∀k,s.testBit k=true->s0.testBit k=true/\po l k=true
 max:∀r,Bv l s0 r->∀k,r.testBit k=true->s.testBit k=true
theorem oM.first(l:List aU){s:Nat}(hs:s<1024):oM l s (s&&&lK l):=by
 refine⟨Nat.lt_of_le_of_lt Nat.and_le_left hs,fun k hk=> ?_,fun r hr k hk=> ?_⟩
 ·rw[Nat.testBit_and,Qm]at hk;exact hk
 ·rw[Nat.testBit_and,Qm];exact⟨(hr k hk).1,(hr k hk).2.1⟩
theorem oM.next{l:List aU}{s0 s k:Nat}(h:oM l s0 s)(hk:s.testBit k=true)(hu:kC s (kN l k)=false):oM l s0 (s - 2 ^ k):=by
 obtain⟨h1,h2⟩:=Jq h.lt hk;refine⟨Nat.lt_of_le_of_lt (Nat.sub_le _ _) h.lt,fun j hj=> ?_,fun r hr j hj=> ?_⟩
 ·rw[h2]at hj;simp at hj;exact h.sub j hj.1
 ·rw[h2,h.max r hr j hj]
  have:k≠j:=by
   intro e;subst e;have:=Kz (fun i hi=>h.max r hr i hi) _ (hr k hj).2.2
   rw[hu]at this;cases this
  simp[this]
theorem oM.done{l:List aU}{s0 s:Nat}(h:oM l s0 s)(hn:qq l s=none):xw l s0 s:=
 ⟨fun k hk=>⟨(h.sub k hk).1,(h.sub k hk).2,LB h.lt hn k hk⟩,h.max⟩
theorem VX{l:List Int}{ρ:Type}{f:Int->Bool}{hit:Int->ρ}{fin:Unit->Option ρ}{g:Int->Unit->Option (Unit⊕ρ)}(hg:∀x∈l,∀s,g x s=some (if f x then .inr (hit x)else .inl ())):
  dQ g fin l ()=match l.find? f with|some x=>some (hit x)|none=>fin ():=by
 induction l with
 |nil=>rfl
 |cons x l ih=>
  grind [dQ]
theorem H5(s:Nat):(sH s).length<=10:=QK (List.length_filter_le _ _) (by simp)
theorem VQ{c:bQ}(hc:EE c){s:Nat}(hs:s<1024):∃q,xw c.bq s q:=by
 suffices key:∀(n t:Nat),t<n->oM c.bq s t->∃q,xw c.bq s q from key _ _ (Nat.lt_succ_self _) (oM.first c.bq hs)
 intro n
 induction n with
 |zero=>intro t h;omega
 |succ n ih=>
  intro t ht hinv
  cases hu:qq c.bq t with
  |none=>exact⟨t,hinv.done hu⟩
  |some x=>
   obtain⟨k,rfl,_,hkb,hks⟩:=CC hu;have hp:0<2 ^ k:=Nat.pow_pos (by omega)
   have:=(Jq hinv.lt hkb).1;exact ih (t - 2 ^ k) (by omega) (hinv.next hkb hks)
open Classical in
 def gq(l:List aU)(s:Nat):Nat:=if h:∃q,xw l s q then Classical.choose h else 0
theorem IU{c:bQ}(hc:EE c){s:Nat}(hs:s<1024):xw c.bq s (gq c.bq s):=by
 grind [VQ,gq]
def sC(s:Nat):List Int->Nat
 |[]=>s
 |x::l=>sC (s - 2 ^ x.toNat) l
theorem Hx(s:Nat):∀(l:List Int) (x:Int),sC s (l++[x])=sC s l - 2 ^ x.toNat
 |[],x=>rfl
 |y::l,x=>by rw[List.cons_append,sC,Hx _ l x,sC]
def Fq(s:Nat):List Int->Prop
 |[]=>True
 |x::l=>(∃k:Nat,x=k/\k<10/\2 ^ k<=s)/\Fq (s - 2 ^ x.toNat) l
theorem Lz{s:Nat}:∀{l:List Int} {k:Nat},Fq s l->k<10->2 ^ k<=sC s l->Fq s (l++[(k:Int)])
 |[],k,_,h1,h2=>⟨⟨k,rfl,h1,h2⟩,trivial⟩
 |_::_,_,h,h1,h2=>⟨h.1,Lz h.2 h1 h2⟩
theorem ML{t k:Nat}(hk:k<10)(h:2 ^ k<=t)(ht:t<1024):ez .i64 (t:Int) (cP .i64 1 (k:Int))=((t - 2 ^ k:Nat):Int):=by
 grind [yp,nS]
theorem aaY{c:bQ}(hc:EE c){s:Nat}(hs:s<1024):Yd (mD c s) fun out=>Fq (s&&&lK c.bq) out/\xw c.bq s (sC (s&&&lK c.bq) out)/\out.length<=1024:=by
 unfold mD;rw[sE hs,yv hc.len];simp only[Qa,Qo,Ql];have hdl:=He c.bq;rw[Cv s (lK c.bq) (by omega) (by omega)]
 generalize hs0:s&&&lK c.bq=s0
 suffices key:∀(n t:Nat) (b:Bool) (out:List Int),t<n->oM c.bq s t->(b=false->qq c.bq t=none)->out.length+t<=1024->Fq s0 out->sC s0 out=t->
   Yd (aD (fun(v3:Int×Bool×(List Int)×Unit)=>
    bif v3.2.1 then
    Option.bind (mS v3.1) fun r4=>
    aD (fun(v5:Int×Bool×Int×(List Int)×Unit)=>
    bif (decide (v5.2.2.1<((List.length r4:Nat):Int)))then
    Option.bind (idx r4 v5.2.2.1) fun x6=>
    Option.bind (idx c.bq x6) fun x7=>
    Option.bind (lD (ab.mk x7.aa.aM x7.aa.aH x7.aa.aL) v5.1) fun r8=>
    bif (!r8)then
    if x6<0 then none else
    bif aT 8 (List.length v5.2.2.2.1+List.length [x6])then
    Option.map Sum.inr (some (Sum.inl ((ez .i64 v5.1 (cP .i64 (1:Int) x6)),true,(v5.2.2.2.1++[x6]),())))
    else none
    else
    some (Sum.inl (v5.1,v5.2.1,(aB .i64 v5.2.2.1 (1:Int)),v5.2.2.2.1,()))
    else
    Option.map Sum.inr (some (Sum.inl (v5.1,v5.2.1,v5.2.2.2.1,())))) (v3.1,false,(0:Int),v3.2.2.1,())
    else
    Option.map Sum.inr (some v3.2.2.1)) ((t:Int),b,out,())) fun out=>Fq s0 out/\xw c.bq s (sC s0 out)/\out.length<=1024 by
  have hfirst:=oM.first c.bq hs
  rw[hs0]at hfirst;have hb:=hfirst.lt;exact key 1024 s0 true [] hb hfirst (fun h=>by cases h) (by simp;omega) trivial rfl
 intro n
 induction n with
 |zero=>intro t b out h;omega
 |succ n ih=>
  intro t b out ht hinv hb hout hso hsub;refine Yd.loop ?_
  cases b with
  |false=>
   simp only[Ql];refine Yd.inr (Yd.some ⟨hso,?_,by omega⟩)
   rw[hsub];exact hinv.done (hb rfl)
  |true=>
   simp only[Qk];rw[KH hinv.lt,Qa];have hlen:=H5 t;rw[gf (sH t) (by omega) (fun i (_:Unit)=>((t:Int),false,i,out,())) (fun x (_:Unit)=>some (if !kC t (kN c.bq x.toNat)then .inr (Sum.inl ((ez .i64 (t:Int) (cP .i64 (1:Int) x)),true,(out++[x]),()))else .inl ())) (fun _=>some (Sum.inl ((t:Int),false,out,()))) (fun i x u hd hx hw=> ?_) (fun u hd=> ?_) ()]
   ·rw[VX (f:=fun x=> !kC t (kN c.bq x.toNat)) (hit:=fun x=>Sum.inl ((ez .i64 (t:Int) (cP .i64 (1:Int) x)),true,(out++[x]),())) (fun x hx u=>rfl)]
    cases hu:qq c.bq t with
    |none=>
     rw[qq]at hu;rw[hu];refine Yd.some ?_;refine Yd.loop ?_;simp only[Ql];refine Yd.inr (Yd.some ⟨hso,?_,by omega⟩)
     rw[hsub];exact hinv.done hu
    |some x=>
     obtain⟨k,rfl,hk10,hkb,hks⟩:=CC hu;rw[qq]at hu;rw[hu];have hlb:=(Jq hinv.lt hkb).1;have hp:0<2 ^ k:=Nat.pow_pos (by omega)
     simp only;rw[ML hk10 hlb hinv.lt];refine Yd.some (ih (t - 2 ^ k) true _ (by omega) (hinv.next hkb hks) (fun h=>by cases h) (by simp;omega) (Lz hso hk10 (by rw[hsub];exact hlb)) (by rw[Hx,hsub];rfl))
   ·have hmem:x∈sH t:=by
     rw[bA]at hx;exact Q7 hx
    obtain⟨k,hk10,rfl,hkb⟩:=B1.1 hmem;obtain⟨_,m,hm,_⟩:=Cb (hinv.sub k hkb).2;have h0:¬(k:Int)<0:=by omega
    simp only[hd,hx,hw,Qk,Qa,bA c.bq,hm,ab.eta,CE hinv.lt (hc.aN m (Q7 hm)),h0,Qu,QV,wu hm];rw[br (by simp;omega)]
    cases kC t m.aa<;>rfl
   ·simp only[hd,Ql]
theorem yu{c:bQ}(hc:EE c){s:Nat}(hs:s<1024):ja c s=some ((gq c.bq s:Nat):Int):=by
 unfold ja;rw[sE hs,yv hc.len];simp only[Qa,Qo,Ql];have hdl:=He c.bq;rw[Cv s (lK c.bq) (by omega) (by omega)]
 obtain⟨out,h1,h2,h3,h4⟩:=aaY hc hs;rw[h1,Qa];rw[gf out (by omega) (fun i (t:Int)=>(t,i,())) (fun x (t:Int)=>if x<0 then none else some (.inl (ez .i64 t (cP .i64 1 x)))) (fun t=>some t) (fun i x u hd hx hw=> ?_) (fun u hd=> ?_) _]
 ·rw[<-h3.unique (IU hc hs)];have hlt:s&&&lK c.bq<1024:=Nat.lt_of_le_of_lt Nat.and_le_left hs;generalize s&&&lK c.bq=t at h2 hlt;clear h1 h3 h4
  induction out generalizing t with
  |nil=>rfl
  |cons x l ih=>
   obtain⟨⟨k,rfl,hk,hle⟩,h2⟩:=h2
   grind [dQ,ML,sC]
 ·grind
 ·simp only[hd,Ql]
end
section
structure xi (l:List ak):Prop where
 len:l.length<=100000
 aN:∀e∈l,de e.aa
theorem kE{e:ak}(h:aX e=true):0<=e.aq/\e.aq<10:=by
 simp only[aX,lY,Ea,Qm,Qi]at h;exact⟨h.1.1.1.1.1.1.1,h.1.1.1.1.1.1.2⟩
def gM:aU:=⟨false,⟨0,[],[]⟩⟩
 def dA(ms:List aU)(e:ak):List aU:=
 if aX e&& !((ms[e.aq.toNat]?).any (·.dD))then ms.set e.aq.toNat ⟨true,e.aa⟩else ms
 def ji(aG:Nat)(t:ab)(l:List ak):List aU:=l.foldl dA ((List.replicate 10 gM).set aG ⟨true,t⟩)
theorem ym(ms:List aU)(e:ak):(dA ms e).length=ms.length:=by
 unfold dA;split
 ·rw[QX]
 ·rfl
theorem AN:∀(l:List ak) (ms:List aU),(l.foldl dA ms).length=ms.length
 |[],_=>rfl
 |e::l,ms=>by rw[QU,AN l,ym]
theorem Us(aG:Nat)(t:ab)(l:List ak):(ji aG t l).length=10:=by
 rw[ji,AN,QX,List.length_replicate]
theorem YF{ms:List aU}(hl:ms.length=10){n:Int}(h0:0<=n)(h1:n<10):∃m,ms[n.toNat]?=some m/\idx ms n=some m:=by
 have:n.toNat<ms.length:=by omega
 exact⟨ms[n.toNat],Qv this,by rw[IM _ h0];exact Qv this⟩
theorem vI{aG:Nat}(hn:aG<10){t:ab}{l:List ak}(hl:xi l):gX aG t l=some ⟨ji aG t l⟩:=by
 unfold gX
 have h1:(decide ((10:Int)<=10)&&decide ((0:Int)<=10)&&aT 64 (Int.toNat 10))=true:=by
  rw[br (by decide)];rfl
 have h2:¬(aG:Int)<0:=by omega
 have h3:¬(9:Int)<aG:=by omega
 rw[h1];simp only[Qk,h2,h3,decide_false,Ql,Qa,ab.eta,bz];obtain⟨m,hm1,hm2⟩:=YF (ms:=List.replicate 10 gM) (by simp) (n:=(aG:Int)) (by omega) (by omega)
 have e10:List.replicate (Int.toNat 10) (aU.mk false (ab.mk 0 [] []))=List.replicate 10 gM:=rfl;rw[e10,hm2,hm1,Qa,Qa];have hlen:=hl.len
 suffices key:∀(k i:Nat) (ms:List aU) (c:bQ),i+k=l.length->ms.length=10->aD _ ((i:Int),c,ms,())=some (bQ.mk ((l.drop i).foldl dA ms))by
  have:=key l.length 0 ((List.replicate 10 gM).set aG ⟨true,t⟩) ⟨[]⟩ (by omega) (by simp)
  simpa[ji]using this
 intro k
 induction k with
 |zero=>
  intro i ms c hi hms;obtain rfl:i=l.length:=by omega
  refine cd ?_;have hd:decide (((l.length:Nat):Int)<((l.length:Nat):Int))=false:=Qh (Qq63 _);simp only[hd,Ql,Qq65,List.foldl_nil]
 |succ k ih=>
  intro i ms c hi hms;have hlt:i<l.length:=by omega
  have hd:decide ((i:Int)<((l.length:Nat):Int))=true:=Qg (by omega)
  have hw:aB .i64 (i:Int) 1=((i+1:Nat):Int):=bY (by omega) (by omega)
  have hx:idx l (i:Int)=some l[i]:=by rw[bA];exact Qv hlt
  have hsm:=hl.aN _ (QZ hlt);rw[QM hlt,QU];refine Eq.trans (cm (s':=(((i+1:Nat):Int),⟨[]⟩,dA ms l[i],())) ?_) (ih (i+1) _ _ (by omega) (by rw[ym];exact hms))
  simp only[hd,hx,hw,Qk,Qa,iy hsm];unfold dA
  cases hv:aX l[i]with
  |false=>simp
  |true=>
   obtain⟨h4,h5⟩:=kE hv;obtain⟨m,hm1,hm2⟩:=YF hms h4 h5;simp only[Qk,hm1,hm2,Qa,Option.any_some,Bool.true_and];cases m.dD<;>simp
theorem qp{aG:Nat}{t:ab}(ht:de t){l:List ak}(hl:xi l):EE ⟨ji aG t l⟩:=by
 refine⟨by rw[Us];omega,?_⟩
 have key:∀(l:List ak) (ms:List aU),(∀e∈l,de e.aa)->(∀m∈ms,de m.aa)->∀m∈l.foldl dA ms,de m.aa:=by
  intro l
  induction l with
  |nil=>intro ms _ h;exact h
  |cons e l ih=>
   intro ms he h;rw[QU];refine ih _ (fun e' h'=>he e' (by simp[h'])) fun m hm=> ?_
   unfold dA at hm;split at hm
   ·rcases List.mem_or_eq_of_mem_set hm with hm|rfl
    ·exact h m hm
    ·exact he e (by simp)
   ·exact h m hm
 refine key l _ hl.aN fun m hm=> ?_
 rcases List.mem_or_eq_of_mem_set hm with hm|rfl
 ·rw[List.eq_of_mem_replicate hm];exact .mk _ (by simp[gM]) (by simp[gM]) (by simp[gM])
 ·exact ht
 def dV(l:List ak):List ak:=l.filter aX
def iH(p:ak->Bool):List ak->Nat
 |[]=>0
 |e::l=>(if p e then 2 ^ e.aq.toNat else 0)|||iH p l
theorem Bz(p:ak->Bool)(k:Nat):∀(l:List ak),(iH p l).testBit k=l.any fun e=>p e&&decide (e.aq.toNat=k)
 |[]=>by simp[iH]
 |e::l=>by
  rw[iH,Nat.testBit_or,Bz p k l,List.any_cons];cases p e<;>simp[Nat.testBit_two_pow]
def Fw(l:List ak):Prop:=∀e∈l,0<=e.aq/\e.aq<10
theorem w6(l:List ak):Fw (dV l):=fun _ he=>kE (List.mem_filter.1 he).2
theorem rq{p:ak->Bool}{l:List ak}(h:Fw l):iH p l<1024:=E9 fun k hk=>by
 rw[Bz,List.any_eq_true]at hk;obtain⟨e,he,h1⟩:=hk;simp only[Qm,Qi]at h1;have:=h e he;omega
 def xP(ms:List aU)(v gy accepts:Nat):Bool:=Bp ms v accepts||(gq ms (gy|||accepts)).testBit v
 def nF(aG:Nat)(t:ab)(l:List ak)(b:ao):Bool:=
 xP (ji aG t l) aG (iH (fun e=>yk e b||gU e b) (dV l)) (iH (gU · b) (dV l))
 def me(aG:Nat)(t:ab)(l:List ak)(b:ao):Bool:=
 (gq (ji aG t l) (iH (gU · b) (dV l))).testBit aG
end
section
 def A7(l:List ak)(k:Nat):Option ak:=l.find? fun e=>aX e&&decide (e.aq.toNat=k)
theorem Ks:∀(l:List ak) (ms:List aU),ms.length=10->(∀m∈ms,m.dD=false->m=gM)->∀k,k<10->(l.foldl dA ms)[k]?=some (match ms[k]? with
  |some m=>if m.dD then m else(match A7 l k with
   |some e=>⟨true,e.aa⟩
   |none=>gM)
  |none=>gM)
 |[],ms,hl,hn,k,hk=>by
  have hk':k<ms.length:=by omega
  rw[List.foldl_nil,Qv hk']
  cases hd:ms[k].dD with
  |true=>simp[hd]
  |false=>
   have:=hn _ (QZ hk') hd;simp[A7,this]
 |e::l,ms,hl,hn,k,hk=>by
  have hk':k<ms.length:=by omega
  rw[QU];have hlen:(dA ms e).length=10:=by rw[ym];exact hl
  have hn':∀m∈dA ms e,m.dD=false->m=gM:=by
   unfold dA;split
   ·intro m hm hd;rcases List.mem_or_eq_of_mem_set hm with hm|rfl
    ·exact hn m hm hd
    ·cases hd
   ·exact hn
  rw[Ks l (dA ms e) hlen hn' k hk];congr 1
  have hof:A7 (e::l) k=if(aX e&&decide (e.aq.toNat=k))=true then some e else A7 l k:=by
   unfold A7;rw[List.find?_cons];cases aX e&&decide (e.aq.toNat=k)<;>rfl
  rw[hof];unfold dA
  by_cases hv:aX e=true
  ·have hnode:=kE hv;have hi:e.aq.toNat<ms.length:=by omega
   rw[hv,Bool.true_and,Bool.true_and]
   by_cases hke:e.aq.toNat=k
   ·subst hke;rw[Qv hi]
    cases hd:ms[e.aq.toNat].dD with
    |true=>simp[hd,Qv hi]
    |false=>simp[hd,hi]
   ·have hne:decide (e.aq.toNat=k)=false:=Qh hke
    have hset:∀c:Bool,(if c=true then ms.set e.aq.toNat ⟨true,e.aa⟩else ms)[k]?=ms[k]?:=fun c=>by
     cases c
     ·rfl
     ·rw[Qr rfl,List.getElem?_set_ne hke]
    rw[hne,hset];simp
  ·have hv':aX e=false:=by simpa using hv
   simp[hv']
theorem Ur{aG:Nat}(hn:aG<10)(t:ab)(l:List ak){k:Nat}(hk:k<10):(ji aG t l)[k]?=some (if k=aG then⟨true,t⟩else match A7 l k with
  |some e=>⟨true,e.aa⟩
  |none=>gM):=by
 rw[ji,Ks l _ (by simp) (fun m hm hd=> ?_) k hk]
 ·by_cases h:k=aG
  ·subst h;simp[hn]
  ·rw[List.getElem?_set_ne (fun e=>h e.symm),List.getElem?_replicate,Qr hk]
   simp[h,gM]
 ·rcases List.mem_or_eq_of_mem_set hm with hm|rfl
  ·exact(List.mem_replicate.1 hm).2
  ·cases hd
end
section
theorem Ae{τ ρ:Type}(n:Nat)(mk:Int->τ){step:τ->Option (τ⊕ρ)}{fin:Option ρ}(h1:∀i:Nat,i<n->step (mk (i:Int))=some (.inl (mk ((i+1:Nat):Int))))(h2:step (mk (n:Int))=Option.map Sum.inr fin):aD step (mk 0)=fin:=by
 suffices key:∀(k i:Nat),i+k=n->aD step (mk (i:Int))=fin from key n 0 (by omega)
 intro k
 induction k with
 |zero=>
  intro i hi;obtain rfl:i=n:=by omega
  rw[jr,h2];cases fin<;>rfl
 |succ k ih=>exact fun i hi=>(cm (h1 i (by omega))).trans (ih (i+1) (by omega))
theorem abm(s:List Int)(h:s.length<=1000000):oH s s=some true:=by
 unfold oH;simp only[decide_true,Qo,Ql];refine Ae s.length (fun i=>(i,())) (fun i hi=> ?_) ?_
 ·have hd:decide ((i:Int)<((s.length:Nat):Int))=true:=Qg (by omega)
  have hw:aB .i64 (i:Int) 1=((i+1:Nat):Int):=bY (by omega) (by omega)
  have hx:idx s (i:Int)=some s[i]:=by rw[bA];exact Qv hi
  simp only[hd,hx,hw,Qk,Qa,decide_true,Qo,Ql]
 ·have hd:decide (((s.length:Nat):Int)<((s.length:Nat):Int))=false:=Qh (Qq63 _);simp only[hd,Ql]
theorem acP{n:Nat}:∀{t:ab},SizeOf.sizeOf t<n->de t->kK n (t,t,())=some true:=by
 induction n with
 |zero=>intro t h;omega
 |succ n ih=>
  intro t hs hm;show kM (kK n) t t=some true;have hl:=hm.len;have hns:=hm.nodes;unfold kM;simp only[decide_true,Qo,Ql,abm _ hns,Qa];refine Ae t.aL.length (fun i=>(i,())) (fun i hi=> ?_) ?_
  ·have hd:decide ((i:Int)<((t.aL.length:Nat):Int))=true:=Qg (by omega)
   have hw:aB .i64 (i:Int) 1=((i+1:Nat):Int):=bY (by omega) (by omega)
   have hx:idx t.aL (i:Int)=some t.aL[i]:=by rw[bA];exact Qv hi
   have hu:=QZ hi;have:=ih (t:=t.aL[i]) (by have:=jt hu;omega) (hm.inner _ hu)
   simp only[hd,hx,hw,Qk,Qa,ab.eta,this,Qo,Ql]
  ·have hd:decide (((t.aL.length:Nat):Int)<((t.aL.length:Nat):Int))=false:=Qh (Qq63 _);simp only[hd,Ql]
theorem yq{t:ab}(h:de t):dy t t=some true:=acP (by omega) h
theorem CS(a:Int)(s:ByteArray):ml false a a s s=true:=by simp
theorem US{e:ak}(h:de e.aa):iS e e=some true:=by
 simp only[iS,ab.eta,yq h,decide_true,Qk,Qa,CS]
theorem aco{l:List ak}(hlen:l.length<=1000000)(hl:∀e∈l,de e.aa):ob l l=some true:=by
 unfold ob;simp only[decide_true,Qo,Ql];refine Ae l.length (fun i=>(i,())) (fun i hi=> ?_) ?_
 ·have hd:decide ((i:Int)<((l.length:Nat):Int))=true:=Qg (by omega)
  have hw:aB .i64 (i:Int) 1=((i+1:Nat):Int):=bY (by omega) (by omega)
  have hx:idx l (i:Int)=some l[i]:=by rw[bA];exact Qv hi
  simp only[hd,hx,hw,Qk,Qa,ab.eta,ak.eta,US (hl _ (QZ hi)),Qo,Ql]
 ·have hd:decide (((l.length:Nat):Int)<((l.length:Nat):Int))=false:=Qh (Qq63 _);simp only[hd,Ql]
theorem w5{ρ:Type}(n:Nat)(hn:n<=1000000){fin:Option ρ}{step:Int×Unit->Option ((Int×Unit)⊕ρ)}
  (h1:∀i:Nat,i<n->decide ((i:Int)<((n:Nat):Int))=true->aB .i64 (i:Int) 1=((i+1:Nat):Int)->step ((i:Int),())=some (.inl (((i+1:Nat):Int),())))
  (h2:decide (((n:Nat):Int)<((n:Nat):Int))=false->step ((n:Int),())=Option.map Sum.inr fin):aD step (0,())=fin:=
 Ae n (fun i=>(i,())) (fun i hi=>h1 i hi (Qg (by omega)) (bY (by omega) (by omega))) (h2 (Qh (Qq63 _)))
end
section
def Ch:List UInt8->Nat
 |[]=>0
 |a::l=>a.toNat*256 ^ l.length+Ch l
theorem Fj:∀l:List UInt8,Ch l<256 ^ l.length
 |[]=>by simp[Ch]
 |a::l=>by
  have h1:=Fj l;have h2:a.toNat<256:=a.toNat_lt;rw[Ch,QE,Nat.pow_succ];have h3:(a.toNat+1)*256 ^ l.length<=256*256 ^ l.length:=Qq62 _ h2;rw[Qq72,Nat.one_mul,Nat.mul_comm 256]at h3;omega
theorem Wi:∀{x y:List UInt8},x.length=y.length->Op.bytesLess x y=true->Ch x<Ch y
 |[],[],_,h=>by simp[Op.bytesLess]at h
 |[],_::_,hl,_=>by simp at hl
 |_::_,[],hl,_=>by simp at hl
 |a::x,b::y,hl,h=>by
  simp only[QE,Nat.add_right_cancel_iff]at hl;simp only[Op.bytesLess,Qn,Qi,Qm,beq_iff_eq]at h;rw[Ch,Ch,hl];rcases h with h|⟨rfl,h⟩
  ·have h1:=Fj x;rw[hl]at h1;have h2:a.toNat<b.toNat:=UInt8.lt_iff_toNat_lt.1 h;have h3:(a.toNat+1)*256 ^ y.length<=b.toNat*256 ^ y.length:=Qq62 _ h2;rw[Qq72,Nat.one_mul]at h3;omega
  ·have:=Wi hl h;omega
def WV:Nat:=256 ^ 201
def Ka(v:ByteArray):Nat:=v.size*256 ^ 200+Ch v.toList
theorem toList_len(v:ByteArray):v.toList.length=v.size:=by
 rw[Lib.toList_data];cases v;simp[ByteArray.size]
theorem Vb{a b:Nat}(h:a<=b):(256:Nat) ^ a<=256 ^ b:=Nat.pow_le_pow_right (by omega) h
theorem RX{v:ByteArray}(h:v.size<=200):Ka v<WV:=by
 have h1:=Fj v.toList;rw[toList_len]at h1;have h2:=Vb h;have h3:v.size*256 ^ 200<=200*256 ^ 200:=Qq62 _ h;have h4:WV=256*256 ^ 200:=by rw[WV,Nat.pow_succ,Nat.mul_comm]
 unfold Ka;rw[h4];generalize (256:Nat) ^ 200=Z at*;omega
theorem VI{a b:ByteArray}(hb:b.size<=200)(h:dW a b=true):Ka a<Ka b:=by
 unfold dW at h;unfold Ka
 by_cases hs:a.size=b.size
 ·rw[Qr hs]at h;have:=Wi (x:=a.toList) (y:=b.toList) (by rw[toList_len,toList_len,hs]) h
  rw[hs];omega
 ·rw[Qs hs,Qi]at h;have h1:=Fj a.toList;rw[toList_len]at h1;have h2:=Vb (show a.size<=200 by omega)
  have h3:(a.size+1)*256 ^ 200<=b.size*256 ^ 200:=Qq62 _ h;rw[Qq72,Nat.one_mul]at h3;generalize (256:Nat) ^ 200=Z at*;omega
def Sm(b:ao):Prop:=0<=b.an/\b.an<=1000/\b.Value.size<=200
def lJ(b:ao):Nat:=b.an.toNat*WV+Ka b.Value
def WB:Nat:=1001*WV
theorem mO{b:ao}(h:Sm b):lJ b<WB:=by
 obtain⟨h1,h2,h3⟩:=h;have h4:=RX h3;unfold lJ WB;have h5:b.an.toNat*WV<=1000*WV:=Qq62 _ (by omega)
 generalize WV=Z at*;omega
theorem qG{a b:ao}(ha:Sm a)(hb:Sm b)(h:bJ a b=true):lJ a<lJ b:=by
 unfold bJ at h;unfold lJ
 by_cases hc:a.an=b.an
 ·rw[Qr hc]at h;have:=VI hb.2.2 h;rw[hc];omega
 ·rw[Qs hc,Qi]at h;have h1:=RX ha.2.2;have h2:=ha.1;have h3:(a.an.toNat+1)*WV<=b.an.toNat*WV:=Qq62 _ (by omega)
  rw[Qq72,Nat.one_mul]at h3;generalize WV=Z at*;omega
theorem Yd.down{σ ρ:Type}{step:σ->Option (σ⊕ρ)}{p:ρ->Prop}(inv:σ->Prop)(μ:σ->Nat)(h:∀s,inv s->Yd (step s) fun y=>match y with| .inl s'=>inv s'/\μ s'<μ s| .inr r=>p r){s:σ}(hs:inv s):Yd (aD step s) p:=by
 suffices key:∀(n:Nat) (s:σ),μ s<n->inv s->Yd (aD step s) p from key _ s (Nat.lt_succ_self _) hs
 intro n
 induction n with
 |zero=>intro s h0;omega
 |succ n ih=>
  intro s hn hi;refine Yd.loop ((h s hi).mono fun y hy=> ?_)
  cases y with
  |inl s'=>exact ih s' (by have:=hy.2;omega) hy.1
  |inr r=>exact hy
end
section
def cq:ao:=⟨0,gH⟩
def eZ(m:ah):Int:=if(!aP m.aC&&cS m.aC m.aj)=true then m.aC.an else 0
def cR(m:ah):ak:=
 if m.ba=1 then⟨m.aq,m.aE,m.aO,m.aa,m.ba,m.aj,m.av,m.aJ,m.bf,eZ m⟩
 else if m.ba=2 then⟨m.aq,m.aE,m.aO,m.aa,m.ba,m.aj,m.av,cq,m.bf,m.bM⟩
 else⟨m.aq,m.aE,m.aO,m.aa,m.ba,m.aj,cq,cq,m.bf,m.bM⟩
theorem Ei(m:ah):(cR m).aq=m.aq:=by unfold cR;split<;>(try split)<;>rfl
theorem Li(m:ah):(cR m).aE=m.aE:=by unfold cR;split<;>(try split)<;>rfl
theorem OA(m:ah):(cR m).aO=m.aO:=by unfold cR;split<;>(try split)<;>rfl
theorem o3(m:ah):(cR m).aa=m.aa:=by unfold cR;split<;>(try split)<;>rfl
theorem V0(m:ah):(cR m).az=m.ba:=by unfold cR;split<;>(try split)<;>rfl
theorem uH(m:ah):fQ m=some (cR m):=by
 unfold fQ cR eZ;simp only[bz,ab.eta,cT,ft,Qa]
 by_cases h1:m.ba=1
 ·rw[Qg h1,Qr h1];cases aP m.aC<;>cases cS m.aC m.aj<;>rfl
 ·rw[Qh h1,Qs h1]
  by_cases h2:m.ba=2
  ·rw[Qg h2,Qr h2];rfl
  ·rw[Qh h2,Qs h2];rfl
def gL(m:ah):ak:={cR m with aO:=bV (cR m).aO 1}
def uD(e:ak):List ak->List ak
 |[]=>[e]
 |x::l=>if e.aq<x.aq then e::x::l else x::uD e l
theorem D6(e:ak):∀l,(uD e l).Perm (l++[e])
 |[]=> .refl _
 |x::l=>by
  unfold uD;split
  ·exact(List.perm_append_singleton e (x::l)).symm
  ·exact(D6 e l).cons x
def cg(m:ah):List ak:=if aP m.aj=true then m.aF else uD (gL m) m.aF
theorem Jd{m:ah}(h:m.aF.length<=1000):jm m=some (cg m):=by
 unfold jm cg;simp only[ah.eta,ab.eta,ak.eta,cT,uH,Qa]
 cases aP m.aj with
 |true=>rfl
 |false=>
  simp only[Ql,Qq,Qu];have hown:ak.mk (cR m).aq (cR m).aE (bV (cR m).aO 1) (cR m).aa (cR m).az (cR m).aj (cR m).av (cR m).aJ (cR m).bf (cR m).bM=gL m:=rfl;have hnode:(cR m).aq=(gL m).aq:=rfl;rw[hown,hnode];generalize gL m=e
  suffices key:∀(k i:Nat) (b:Bool) (o:List ak),i+k=m.aF.length->o.length<=i+(bif b then 1 else 0)->aD _ (b,(i:Int),o,())=some (o++if b=true then m.aF.drop i else uD e (m.aF.drop i))from(key m.aF.length 0 false [] (by omega) (by simp)).trans (by simp)
  intro k
  induction k with
  |zero=>
   intro i b o hi ho;obtain rfl:i=m.aF.length:=by omega
   have hd:decide (((m.aF.length:Nat):Int)<((m.aF.length:Nat):Int))=false:=Qh (Qq63 _);refine cd ?_;rw[Qq65];simp only[hd,Ql,bz]
   cases b with
   |true=>simp
   |false=>
    simp only[Ql]at ho;rw[br (by simp;omega)]
    simp[uD]
  |succ k ih=>
   intro i b o hi ho;have hlt:i<m.aF.length:=by omega
   have hd:decide ((i:Int)<((m.aF.length:Nat):Int))=true:=Qg (by omega)
   have hw:aB .i64 (i:Int) 1=((i+1:Nat):Int):=bY (by omega) (by omega)
   have hx:idx m.aF (i:Int)=some m.aF[i]:=by rw[bA];exact Qv hlt
   rw[QM hlt]
   cases b with
   |true=>
    simp only[Qk]at ho;have:=ih (i+1) true (o++[m.aF[i]]) (by omega) (by simp;omega)
    simp only[Qt]at this ⊢;rw[show o++m.aF[i]::m.aF.drop (i+1)=(o++[m.aF[i]])++m.aF.drop (i+1)by simp]
    refine Eq.trans (cm ?_) this;simp only[hd,hx,hw,Qk,bz,Qa,Qo,Ql,ab.eta,ak.eta];rw[br (by simp;omega),Qk]
   |false=>
    simp only[Ql]at ho
    by_cases hn:e.aq<m.aF[i].aq
    ·have:=ih (i+1) true (o++[e]++[m.aF[i]]) (by omega) (by simp;omega)
     simp only[Qt,Qq,Qu]at this ⊢;rw[uD,Qr hn,show o++e::m.aF[i]::m.aF.drop (i+1)=(o++[e]++[m.aF[i]])++m.aF.drop (i+1)by simp]
     refine Eq.trans (cm ?_) this;simp only[hd,hx,hw,Qk,bz,Qa,Qp,Qg hn,ab.eta,ak.eta];rw[br (by simp;omega),Qk,br (by simp;omega),Qk]
    ·have:=ih (i+1) false (o++[m.aF[i]]) (by omega) (by simp;omega)
     simp only[Qq,Qu]at this ⊢;rw[uD,Qs hn,show o++m.aF[i]::uD e (m.aF.drop (i+1))=(o++[m.aF[i]])++uD e (m.aF.drop (i+1))by simp]
     refine Eq.trans (cm ?_) this;simp only[hd,hx,hw,Qk,bz,Qa,Qp,Qh hn,Ql,ab.eta,ak.eta];rw[br (by simp;omega),Qk]
def BL(a b:ao):Bool:=decide (a.an=b.an)&&decide (a.Value=b.Value)
theorem KB{a b:ao}:BL a b=true↔a=b:=by
 cases a;cases b;simp[BL]
def zE(a b:ah):Bool:=decide (a.ba=b.ba)&&BL a.aj b.aj&&BL a.av b.av&&BL a.aJ b.aJ&&BL a.aC b.aC&&decide (a.bf=b.bf)&&decide (a.bM=b.bM)
theorem X1(a b:Bool):(bif a then b else false)=(a&&b):=by cases a<;>rfl
theorem abl(a b:ah):iR a b=some (zE a b):=by
 unfold iR zE BL;simp only[z7,Qa,tE,X1]
end
section
def wv(v:ByteArray)(n:Int)(x:ao):Int:=
 if(dJ x&&eN x ⟨n,v⟩)=true then(if eN x ⟨x.an,v⟩=true then x.an+1 else x.an)else n
def oq(v:ByteArray)(n:Int)(p q:ao):Int:=wv v (wv v (bV n 1) p) q
theorem Nx(v:ByteArray)(n:Int)(p q:ao):oF v n p q=some (oq v n p q):=by
 unfold oF oq;generalize bV n 1=k
 have hst:∀(i:Nat) (x:ao) (k:Int),i<2->[p,q][i]?=some x->
   (fun(v1:Int×Int×Unit)=>
    bif (decide (v1.2.1<(2:Int)))then
    bm (fun(v2:Int×Unit)=>some (Sum.inl (v2.1,(aB .i64 v1.2.1 (1:Int)),v2.2))) fun j3=>
    Option.bind (idx [p,q] v1.2.1) fun x4=>
    Option.bind (hZ x4) fun r5=>
    Option.bind (bif r5 then Option.bind (fu x4 (ao.mk v1.1 v)) fun r6=>some r6 else some false) fun b7=>
    bif b7 then Option.bind (fu x4 (ao.mk x4.an v)) fun r8=>
     bif r8 then j3 ((aB .i64 x4.an (1:Int)),())else j3 (x4.an,())
    else j3 (v1.1,())
    else(Option.map Sum.inr (some v1.1):Option ((Int×Int×Unit)⊕Int))) (k,(i:Int),())=some (Sum.inl (wv v k x,((i+1:Nat):Int),())):=by
  intro i x k hi hx;have hd:decide ((i:Int)<2)=true:=Qg (by omega)
  have hw:aB .i64 (i:Int) 1=((i+1:Nat):Int):=bY (by omega) (by omega)
  have hx':idx [p,q] (i:Int)=some x:=by rw[bA];exact hx
  simp only[hd,hw,hx',Qk,bz,Qa,zr,xE];unfold wv
  cases hv:dJ x with
  |false=>simp
  |true=>
   have hc:aB .i64 x.an 1=x.an+1:=by
    have:1<=x.an/\x.an<=1000000:=by
     simp only[dJ,Qm,Qn,Qi]at hv;omega
    exact bY (by omega) (by omega)
   cases h1:eN x ⟨k,v⟩with
   |false=>simp
   |true=>cases h2:eN x ⟨x.an,v⟩<;>simp[hc]
 refine(cm (hst 0 p k (by omega) rfl)).trans ((cm (hst 1 q _ (by omega) rfl)).trans (cd ?_))
 rfl
theorem XN(b:ao):oD b=some (if 1000<b.an then⟨1000,b.Value⟩else b):=by
 unfold oD
 by_cases h:1000<b.an
 ·simp[h]
 ·simp[h]
end
section
theorem Tf{lo k:Int}{v:ByteArray}{p:ao}(h:lo<=k)(hl:bJ ⟨k,v⟩ p=true):bJ ⟨lo,v⟩ p=true:=by
 unfold bJ at hl ⊢;simp only at hl ⊢
 by_cases h1:lo=k
 ·rw[h1];exact hl
 ·have h2:lo<p.an:=by
   split at hl
   ·omega
   ·simp only[Qi]at hl;omega
  rw[Qs (by omega)]
  simpa using h2
theorem PY{lo k:Int}{v:ByteArray}{p:ao}(h:lo<=k)(ha:eN p ⟨lo,v⟩=false):eN p ⟨k,v⟩=false:=by
 cases hk:eN p ⟨k,v⟩with
 |false=>rfl
 |true=>
  simp only[eN,Qm,cS]at hk;simp only[eN,cS,hk.1.1,hk.1.2,Tf h hk.2]at ha;cases ha
theorem ju(p b:ao):kI p b=true↔aP p=false/\p.Value=b.Value/\b.an<=p.an:=by
 simp[kI,cS,and_assoc]
theorem Ic{b:ao}(h:1<=b.an):aP b=false:=by
 have:¬b.an=0:=by omega
 simp[aP,this]
end
section
theorem YP{n:Nat}(h:n<1000000):bI .u64 (n:Int)=n:=by
 unfold bI IntKind.wrap;simp[IntKind.signed,IntKind.bits];omega
def vE(b p:ao)(j:Nat)(t:ab):ak:=⟨j,1,1,t,1,b,p,⟨0,ByteArray.mk #[]⟩,0,0⟩
structure Pa (b:ao):Prop where
 lo:1<=b.an
 hi:b.an<=6
 val:Ly b.Value
theorem Pa.valid{b:ao}(h:Pa b):dJ b=true:=Uv h.lo (by have:=h.hi;omega) h.val
theorem Pa.nz{b:ao}(h:Pa b):aP b=false:=Ic h.lo
theorem SF{l:List ak}(h:∀e∈l,aX e=true):dV l=l:=List.filter_eq_self.2 h
end
section
theorem yl:∀(l:List ak) (ms:List aU) (k:Nat) (m:aU),ms[k]?=some m->
  (l.foldl dA ms)[k]?=some (if m.dD then m else match(dV l).find? (fun e=>decide (e.aq.toNat=k))with|some e=>⟨true,e.aa⟩|none=>m)
 |[],ms,k,m,h=>by simp[dV,h]
 |e::l,ms,k,m,h=>by
  rw[QU]
  by_cases hv:aX e=true
  ·have hr:dV (e::l)=e::dV l:=by simp[dV,hv]
   rw[hr,List.find?_cons]
   by_cases hk:e.aq.toNat=k
   ·have hstep:(dA ms e)[k]?=some (if m.dD then m else⟨true,e.aa⟩):=by
     unfold dA;rw[hv,hk,h]
     cases hm:m.dD with
     |true=>simp[hm,h]
     |false=>
      have hlt:k<ms.length:=(Qw.1 h).1;simp[hm,hlt]
    rw[yl l _ k _ hstep]
    cases hm:m.dD with
    |true=>simp[hm]
    |false=>simp[hk]
   ·have hstep:(dA ms e)[k]?=some m:=by
     unfold dA;split
     ·rw[List.getElem?_set_ne hk];exact h
     ·exact h
    rw[yl l _ k m hstep];simp[hk]
  ·have hv':aX e=false:=by simpa using hv
   have hr:dV (e::l)=dV l:=by simp[dV,hv']
   have hstep:dA ms e=ms:=by simp[dA,hv']
   rw[hr,hstep];exact yl l ms k m h
theorem Ut{aG:Nat}{t:ab}{l:List ak}{k:Nat}(hk:k<10)(hn:aG<10):
  (ji aG t l)[k]?=some (if k=aG then⟨true,t⟩else match(dV l).find? (fun e=>decide (e.aq.toNat=k))with|some e=>⟨true,e.aa⟩|none=>gM):=by
 unfold ji
 by_cases h:k=aG
 ·subst h;rw[yl l _ k ⟨true,t⟩ (by simp[hk])]
  simp
 ·rw[yl l _ k gM (by
   rw[List.getElem?_set_ne (fun e=>h e.symm),List.getElem?_replicate,Qr hk])]
  simp[h,gM]
theorem K5{l:List aU}{k:Nat}{m:aU}(hk:k<10)(h:l[k]?=some m)(hd:m.dD=true):po l k=true:=by
 rw[po,El,h];simp[hk,hd]
theorem Uq{aG:Nat}(hn:aG<10){t:ab}{l:List ak}(T:Nat->ab)(ht:T aG=t)(hT:∀e∈dV l,e.aa=T e.aq.toNat){k:Nat}(hk:k<10)(hs:k=aG\/∃e∈dV l,e.aq.toNat=k):
  po (ji aG t l) k=true/\kN (ji aG t l) k=T k:=by
 have hg:=Ut (t:=t) (l:=l) hk hn
 by_cases h:k=aG
 ·rw[Qr h]at hg;exact⟨K5 hk hg rfl,by rw[wu hg,h,ht]⟩
 ·rw[Qs h]at hg;obtain⟨e,he,hek⟩:=hs.resolve_left h
  cases hf:(dV l).find? (fun e=>decide (e.aq.toNat=k))with
  |none=>
   have:=List.find?_eq_none.1 hf e he;simp[hek]at this
  |some e'=>
   rw[hf]at hg;have h1:=List.mem_of_find?_eq_some hf;have h2:=List.find?_some hf;simp only[Qi]at h2;exact⟨K5 hk hg rfl,by rw[wu hg,<-h2];exact hT e' h1⟩
def vy(b p:ao)(ts:List ab)(q n:Nat)(l:List ak):Prop:=
 l.length<=n/\(∀e∈l,∃i t,i<n/\q.testBit i=true/\ts[i]?=some t/\e=vE b p i t)/\∀i t,i<n->q.testBit i=true->ts[i]?=some t->vE b p i t∈l
theorem vy.nil(b p:ao)(ts:List ab)(q:Nat):vy b p ts q 0 []:=⟨by simp,by simp,fun i t h=>by omega⟩
theorem vy.skip{b p:ao}{ts:List ab}{q n:Nat}{l:List ak}(h:vy b p ts q n l)(hq:q.testBit n=false):vy b p ts q (n+1) l:=by
 obtain⟨h1,h2,h3⟩:=h;refine⟨by omega,fun e he=> ?_,fun i t hi hb ht=> ?_⟩
 ·obtain⟨i,t,a,b,c⟩:=h2 e he;exact⟨i,t,by omega,b,c⟩
 ·rcases Nat.lt_or_ge i n with h|h
  ·exact h3 i t h hb ht
  ·obtain rfl:i=n:=by omega
   rw[hq]at hb;cases hb
theorem vy.take{b p:ao}{ts:List ab}{q n:Nat}{l:List ak}(h:vy b p ts q n l)(hq:q.testBit n=true){t:ab}(ht:ts[n]?=some t):vy b p ts q (n+1) (l++[vE b p n t]):=by
 obtain⟨h1,h2,h3⟩:=h;refine⟨by simp;omega,fun e he=> ?_,fun i t' hi hb ht'=> ?_⟩
 ·rcases Qz.1 he with he|he
  ·obtain⟨i,t,a,b,c⟩:=h2 e he;exact⟨i,t,by omega,b,c⟩
  ·simp only[Q4]at he;exact⟨n,t,by omega,hq,ht,he⟩
 ·rcases Nat.lt_or_ge i n with h|h
  ·exact Qz.2 (.inl (h3 i t' h hb ht'))
  ·obtain rfl:i=n:=by omega
   rw[ht]at ht';injection ht' with ht'
   subst ht';exact Qz.2 (.inr (by simp))
section
variable {b p : ao} (hb : Pa b) (hp : aP p = true \/ dJ p = true) {ts : List ab} (hts : ∀ t ∈ ts, cG t) {q : Nat} {l : List ak} (hlen : ts.length <= 5) (hc : vy b p ts q ts.length l)
 include hb hp hts hlen hc
end
end
section
section
variable {α : Type}
structure SWO (lt:α->α->Bool):Prop where
 asymm:∀x y,lt x y=true->lt y x=false
 trans:∀x y z,lt y x=false->lt z y=false->lt z x=false
end
end
section
section
variable {α : Type}
variable [DecidableEq α]
variable {eq ne : α -> α -> Bool} {z : α}
end
end
section
 def kG(v:ByteArray)(e:ak):Bool:=aX e&&decide (e.aj.Value=v)&& !decide (e.bf=0)
 def ends(v:ByteArray)(l:List ak):List Int:=l.flatMap fun e=>if kG v e then[e.bf,e.bM]else[]
theorem OB(v:ByteArray):∀l,(ends v l).length<=2*l.length
 |[]=>by simp[ends]
 |e::l=>by
  have:=OB v l;rw[ends,List.flatMap_cons,QB,QE];rw[ends]at this;split<;>simp only[QE,QY]<;>omega
theorem GM{v:ByteArray}{l:List ak}{x:Int}:x∈ends v l↔∃e∈l,kG v e=true/\(x=e.bf\/x=e.bM):=by
 simp only[ends,QQ];constructor
 ·rintro⟨e,he,hx⟩;split at hx
  ·rename_i h;exact⟨e,he,h,by simpa using hx⟩
  ·cases hx
 ·rintro⟨e,he,h,hx⟩;exact⟨e,he,by rw[Qr h];simpa using hx⟩
end
section
 def nb(aG:Nat)(t:ab)(l:List ak)(val:ByteArray)(lo hi:Int):Bool:=
 xP (ji aG t l) aG (iH (fun e=>AM e val lo hi||nM e val lo hi) (dV l)) (iH (nM · val lo hi) (dV l))
 def wa(aG:Nat)(t:ab)(l:List ak)(val:ByteArray)(lo hi:Int):Bool:=
 (gq (ji aG t l) (iH (nM · val lo hi) (dV l))).testBit aG
def dR(q:Int->Bool):List Int->Int->Int
 |[],lo=>lo
 |e::l,lo=>if lo<=e then dR q l lo else if q e then dR q l e else lo
def flat(n:Nat)(k:Int):ab:=⟨k,sA n,[]⟩
theorem WN(s n:Nat)(k:Int):kC s (flat n k)=decide (k<=(((sA n).countP (kF s):Nat):Int)):=by
 rw[ET];simp[flat,tj]
theorem TG{s s':Nat}(h:∀k,s.testBit k=true->s'.testBit k=true)(l:List Int):l.countP (kF s)<=l.countP (kF s'):=List.countP_mono_left fun x _ hx=>La h x hx
structure uV (n:Nat) (k:Int) (l:List ak):Prop where
 n10:n<=10
 k1:1<=k
 kn:k<=n
 valid:∀e∈l,aX e=true
 aN:∀e∈l,e.aa=flat n k
 VY:l.length<=1000
 all:∀i,i<n->∃e∈l,e.aq.toNat=i
theorem uV.fp{n:Nat}{k:Int}{l:List ak}(h:uV n k l):cG (flat n k):=Ld n h.n10 k h.k1 h.kn
theorem uV.sm{n:Nat}{k:Int}{l:List ak}(h:uV n k l):xi l:=⟨by have:=h.VY;omega,fun e he=>by rw[h.aN e he];exact h.fp.sm⟩
theorem uV.dV{n:Nat}{k:Int}{l:List ak}(h:uV n k l):Go.Proofs.YtnhgcpiljggmmaaGreatDoor.dV l=l:=SF h.valid
theorem uV.aeG{n:Nat}{k:Int}{l:List ak}(h:uV n k l){i j:Nat}(hi:i<n)(hj:j<n):po (ji i (flat n k) l) j=true/\kN (ji i (flat n k) l) j=flat n k:=by
 have h10:=h.n10;refine Uq (by omega) (fun _=>flat n k) rfl (fun e he=> ?_) (by omega) (.inr ?_)
 ·rw[h.dV]at he;exact h.aN e he
 ·obtain⟨e,he,hn⟩:=h.all j hj;exact⟨e,by rw[h.dV];exact he,hn⟩
theorem uV.no{n:Nat}{k:Int}{l:List ak}(h:uV n k l){i:Nat}(hi:i<n){s:Nat}(hs:s<1024)(hc:(((sA n).countP (kF s):Nat):Int)<k):(gq (ji i (flat n k) l) s).testBit i=false:=by
 have hg:=IU (qp (aG:=i) h.fp.sm h.sm) hs
 cases hb:(gq (ji i (flat n k) l) s).testBit i with
 |false=>rfl
 |true=>
  have h1:=(hg.inside i hb).2.2;rw[(h.aeG hi hi).2,WN]at h1;have h1:=of_decide_eq_true h1;have h2:=TG (s':=s) (fun j hj=>(hg.inside j hj).1) (sA n)
  omega
def cE(n:Nat)(k:Int)(c:Int)(v:ByteArray)(lo hi:Nat->Int)(i:Nat):ak:=⟨i,1,1,flat n k,2,⟨c,v⟩,⟨c,v⟩,⟨0,ByteArray.mk #[]⟩,lo i,hi i⟩
end
section
def Ec(b:List Int)(sure:Int->Int->Bool):Int×Int×Bool×Unit:=
 match b.reverse.find? (fun e=>sure e e)with
 |some e=>(dR (fun x=>sure x e) b.reverse e,e,true,())
 |none=>(0,0,false,())
section
variable {n : Nat} {k c : Int} {v : ByteArray} {lo hi : Nat -> Int} (h : uV n k ((List.range n).map (cE n k c v lo hi))) {i : Nat} (hi' : i < n)
 include h hi'
end
end
section
section
variable {α : Type}
structure xj (lt:α->α->Bool):Prop where
 irrefl:∀x,lt x x=false
 trans:∀x y z,lt x y=true->lt y z=true->lt x z=true
 total:∀x y,lt x y=false->lt y x=false->x=y
variable {lt : α -> α -> Bool}
theorem xj.asymm(h:xj lt){x y:α}(hxy:lt x y=true):lt y x=false:=by
 cases hc:lt y x with
 |false=>rfl
 |true=>have:=h.trans x y x hxy hc;rw[h.irrefl]at this;cases this
theorem xj.ntrans(h:xj lt){x y z:α}(h1:lt x y=false)(h2:lt y z=false):lt x z=false:=by
 cases hc:lt x z with
 |false=>rfl
 |true=>
  cases hyx:lt y x with
  |false=>rw[h.total x y h1 hyx,h2]at hc;cases hc
  |true=>have:=h.trans y x z hyx hc;rw[h2]at this;cases this
theorem xj.own(h:xj lt):SWO lt:=⟨fun _ _=>h.asymm,fun _ _ _ h1 h2=>h.ntrans h2 h1⟩
theorem xj.flip(h:xj lt):xj fun a b=>lt b a:=⟨h.irrefl,fun x y z h1 h2=>h.trans z y x h2 h1,fun x y h1 h2=>h.total x y h2 h1⟩
theorem xj.unique(h:xj lt):∀{a b:List α},a.Pairwise (fun x y=>lt x y=true)->b.Pairwise (fun x y=>lt x y=true)->(∀x,x∈a↔x∈b)->a=b
 |[],[],_,_,_=>rfl
 |[],y::b,_,_,h'=>by have:=(h' y).2 (by simp);cases this
 |x::a,[],_,_,h'=>by have:=(h' x).1 (by simp);cases this
 |x::a,y::b,ha,hb,h'=>by
  rw[Q3]at ha hb
  have hxy:x=y:=by
   have h1:=(h' x).1 (by simp)
   have h2:=(h' y).2 (by simp)
   rcases QA.1 h1 with h1|h1
   ·exact h1
   ·rcases QA.1 h2 with h2|h2
    ·exact h2.symm
    ·have q1:=ha.1 y h2;have q2:=hb.1 x h1;rw[h.asymm q1]at q2;cases q2
  subst hxy;congr 1;refine h.unique ha.2 hb.2 fun z=>⟨fun hz=> ?_,fun hz=> ?_⟩
  ·rcases QA.1 ((h' z).1 (by simp[hz]))with e|e
   ·subst e;have:=ha.1 z hz;rw[h.irrefl]at this;cases this
   ·exact e
  ·rcases QA.1 ((h' z).2 (by simp[hz]))with e|e
   ·subst e;have:=hb.1 z hz;rw[h.irrefl]at this;cases this
   ·exact e
end
theorem Rb:xj fun a b:Int=>decide (a<b):=
 ⟨fun x=>Qh (Qq63 x),fun x y z h1 h2=>by simp only[Qi]at*;omega,fun x y h1 h2=>by simp only[Qj]at*;omega⟩
theorem OR:∀{x y z:List UInt8},Op.bytesLess x y=true->Op.bytesLess y z=true->Op.bytesLess x z=true
 |[],[],_,h,_=>by simp[Op.bytesLess]at h
 |_::_,[],_,h,_=>by simp[Op.bytesLess]at h
 |[],_::_,[],_,h=>by simp[Op.bytesLess]at h
 |[],_::_,_::_,_,_=>rfl
 |_::_,_::_,[],_,h=>by simp[Op.bytesLess]at h
 |a::x,b::y,c::z,h,h'=>by
  simp only[Op.bytesLess,Qn,Qi,Qm,beq_iff_eq]at h h' ⊢;rcases h with h|⟨rfl,h⟩
  ·rcases h' with h'|⟨rfl,h'⟩
   ·exact .inl (UInt8.lt_trans h h')
   ·exact .inl h
  ·rcases h' with h'|⟨rfl,h'⟩
   ·exact .inl h'
   ·exact .inr ⟨rfl,OR h h'⟩
theorem Pk{a b c:ByteArray}(h:mA a b=true)(h':mA b c=true):mA a c=true:=OR h h'
theorem Pl{a b:ByteArray}(h:a≠b):mA a b=true\/mA b a=true:=
 OS fun e=>h (by
  rw[Lib.toList_data,Lib.toList_data]at e;cases a;cases b;rename_i x y;cases x;cases y
  simp_all)
theorem rC:xj dW:=by
 refine⟨fun x=>by rw[dW,Qr rfl,MO],fun x y z h1 h2=> ?_,fun x y h1 h2=> ?_⟩
 ·unfold dW at*
  by_cases e1:x.size=y.size
  ·rw[Qr e1]at h1
   by_cases e2:y.size=z.size
   ·rw[Qr e2]at h2;rw[Qr (e1.trans e2)];exact Pk h1 h2
   ·rw[Qs e2]at h2;rw[Qs (by omega),e1]
    exact h2
  ·rw[Qs e1,Qi]at h1
   by_cases e2:y.size=z.size
   ·rw[Qs (by omega),<-e2]
    exact Qg h1
   ·rw[Qs e2,Qi]at h2;rw[Qs (by omega)]
    exact Qg (by omega)
 ·unfold dW at*
  by_cases e1:x.size=y.size
  ·rw[Qr e1]at h1;rw[Qr e1.symm]at h2;refine Classical.byContradiction fun hne=> ?_
   rcases Pl hne with h|h
   ·rw[h]at h1;cases h1
   ·rw[h]at h2;cases h2
  ·rw[Qs e1,Qj]at h1;rw[Qs (fun e=>e1 e.symm),Qj]at h2
   omega
theorem EO:xj bJ:=by
 refine⟨fun x=>by rw[bJ,Qr rfl,rC.irrefl],fun x y z h1 h2=> ?_,fun x y h1 h2=> ?_⟩
 ·unfold bJ at*
  by_cases e1:x.an=y.an
  ·rw[Qr e1]at h1
   by_cases e2:y.an=z.an
   ·rw[Qr e2]at h2;rw[Qr (e1.trans e2)];exact rC.trans _ _ _ h1 h2
   ·rw[Qs e2]at h2;rw[Qs (by omega),e1]
    exact h2
  ·rw[Qs e1,Qi]at h1
   by_cases e2:y.an=z.an
   ·rw[Qs (by omega),<-e2]
    exact Qg h1
   ·rw[Qs e2,Qi]at h2;rw[Qs (by omega)]
    exact Qg (by omega)
 ·unfold bJ at*
  by_cases e1:x.an=y.an
  ·rw[Qr e1]at h1;rw[Qr e1.symm]at h2;have:=rC.total _ _ h1 h2;cases x;cases y
   simp_all
  ·rw[Qs e1,Qj]at h1;rw[Qs (fun e=>e1 e.symm),Qj]at h2
   omega
end
section
structure Jh (n:Nat) (l:List ak):Prop where
 of:∀e∈l,∃i:Nat,i<n/\ad5 i 1 n e
 asc:l.Pairwise fun a b=>a.aq<b.aq
 len:l.length<=n
theorem Jh.valid{n:Nat}{l:List ak}(h:Jh n l):∀e∈l,aX e=true:=fun e he=>by
 obtain⟨i,_,hi⟩:=h.of e he;rw[aX,wZ hi.aN];exact hi.valid
theorem Jh.sm{n:Nat}{l:List ak}(h:Jh n l)(hn:n<=1000):xi l:=⟨by have:=h.len;omega,fun e he=>by
 obtain⟨i,_,hi⟩:=h.of e he
 exact hi.aN.sm⟩
theorem Bv.mono{l:List aU}{s s' r:Nat}(h:∀k,s.testBit k=true->s'.testBit k=true)(hi:Bv l s r):Bv l s' r:=fun k hk=>⟨h k (hi k hk).1,(hi k hk).2⟩
section
variable {aG : Nat} {t : ab} (ht : de t) {l : List ak} (hl : xi l) {v : ByteArray} {lo hi k : Int} (h1 : lo <= k) (h2 : k <= hi)
 include ht hl h1 h2
end
end
section
instance:Inhabited ao:=⟨⟨0,ByteArray.mk #[]⟩⟩
instance:DecidableEq ao:=fun a b=>decidable_of_iff (a.an=b.an/\a.Value=b.Value) (by cases a;cases b;simp)
 def said(e:ak):List ao:=if aX e then(if e.az=1 then[e.aj,e.av,e.aJ]else if e.az=2 then[e.av,at_ e 1000000]else[at_ e 1000000])else[]
theorem G7{α β:Type}(f:α->List β)(hf:∀x,(f x).length<=3):∀l:List α,(l.flatMap f).length<=3*l.length
 |[]=>by simp
 |x::l=>by
  have:=G7 f hf l;have:=hf x;rw[List.flatMap_cons,QB,QE];omega
section
variable {α : Type} [DecidableEq α] {lt : α -> α -> Bool}
def dK(lt:α->α->Bool)(x:α):List α->List α
 |[]=>[x]
 |y::l=>if lt y x then y::dK lt x l else if y=x then y::l else x::y::l
theorem B2(x:α):∀(l:List α) (z:α),z∈dK lt x l↔z=x\/z∈l
 |[],z=>by simp[dK]
 |y::l,z=>by
  rw[dK];split
  ·rw[QA,B2 x l z,QA];constructor
   ·rintro(h|h|h)
    ·exact .inr (.inl h)
    ·exact .inl h
    ·exact .inr (.inr h)
   ·rintro(h|h|h)
    ·exact .inr (.inl h)
    ·exact .inl h
    ·exact .inr (.inr h)
  ·split
   ·rename_i h;rw[QA];constructor
    ·exact .inr
    ·rintro(h1|h1)
     ·exact .inl (h1.trans h.symm)
     ·exact h1
   ·rw[QA]
theorem xj.dK(h:xj lt)(x:α):∀{l:List α},l.Pairwise (fun a b=>lt a b=true)->(Go.Proofs.YtnhgcpiljggmmaaGreatDoor.dK lt x l).Pairwise (fun a b=>lt a b=true)
 |[],_=>by rw[Go.Proofs.YtnhgcpiljggmmaaGreatDoor.dK];exact List.pairwise_singleton _ _
 |y::l,hp=>by
  rw[Q3]at hp;rw[Go.Proofs.YtnhgcpiljggmmaaGreatDoor.dK];split
  ·rename_i hy;rw[Q3];refine⟨fun z hz=> ?_,h.dK x hp.2⟩
   rcases(B2 x l z).1 hz with rfl|hz
   ·exact hy
   ·exact hp.1 z hz
  ·rename_i hy;split
   ·exact Q3.2 hp
   ·rename_i hne
    have hxy:lt x y=true:=by
     cases hc:lt x y with
     |true=>rfl
     |false=>exact absurd (h.total y x (by simpa using hy) hc) hne
    rw[Q3,Q3];refine⟨fun z hz=> ?_,hp⟩
    rcases QA.1 hz with rfl|hz
    ·exact hxy
    ·exact h.trans _ _ _ hxy (hp.1 z hz)
theorem qJ(x:α):∀l:List α,(dK lt x l).length<=l.length+1
 |[]=>by simp[dK]
 |y::l=>by
  have:=qJ x l;rw[dK];split
  ·simp;omega
  ·split<;>simp
theorem RJ(x:α):∀(l:List α) (i:Nat),(∀j,j<i->∃y,l[j]?=some y/\lt y x=true)->(∀y,l[i]?=some y->lt y x=false)->dK lt x l=if l[i]?=some x then l else l.take i++x::l.drop i
 |[],i,h1,h2=>by
  cases i with
  |zero=>simp[dK]
  |succ i=>obtain⟨y,hy,_⟩:=h1 0 (by omega);simp at hy
 |y::l,i,h1,h2=>by
  cases i with
  |zero=>
   have hy:=h2 y rfl;rw[dK,hy,Qs (by simp)]
   by_cases h:y=x
   ·simp[h]
   ·simp[h]
  |succ i=>
   obtain⟨y',hy',hlt⟩:=h1 0 (by omega)
   simp only[List.getElem?_cons_zero,Qf]at hy';subst hy'
   rw[dK,Qr hlt,RJ x l i (fun j hj=>by
    obtain⟨z,hz,h⟩:=h1 (j+1) (by omega)
    exact⟨z,by simpa using hz,h⟩) (fun z hz=>h2 z (by simpa using hz))]
   simp only[List.getElem?_cons_succ,List.take_succ_cons,List.drop_succ_cons];split<;>simp
theorem IL(h:xj lt):∀(xs l:List α),l.Pairwise (fun a b=>lt a b=true)->(xs.foldl (fun l x=>dK lt x l) l).Pairwise (fun a b=>lt a b=true)/\∀z,z∈xs.foldl (fun l x=>dK lt x l) l↔z∈xs\/z∈l
 |[],l,hp=>⟨hp,by simp⟩
 |x::xs,l,hp=>by
  obtain⟨h1,h2⟩:=IL h xs _ (h.dK x hp);rw[QU];refine⟨h1,fun z=> ?_⟩
  rw[h2,B2,QA];constructor
  ·rintro(a|a|a)
   ·exact .inl (.inr a)
   ·exact .inl (.inl a)
   ·exact .inr a
  ·rintro((a|a)|a)
   ·exact .inr (.inl a)
   ·exact .inl a
   ·exact .inr (.inr a)
theorem xN:∀(xs l:List α),(xs.foldl (fun l x=>dK lt x l) l).length<=l.length+xs.length
 |[],l=>by simp
 |x::xs,l=>by
  have:=xN xs (dK lt x l);have:=qJ (lt:=lt) x l;rw[QU,QE];omega
end
theorem rB{α:Type}(l:List α)(i:Nat):(l.take (Int.toNat (i:Int))).drop (Int.toNat (0:Int))=l.take i:=by simp
theorem vG{α:Type}(l:List α)(i:Nat):(l.take (Int.toNat ((l.length:Nat):Int))).drop (Int.toNat (i:Int))=l.drop i:=by simp
theorem tZ{i n:Nat}(h:i<=n):dN (0:Int) (i:Int) n=true:=by
 simp only[dN,Qm,Qi];omega
theorem ua{i n:Nat}(h:i<=n):dN (i:Int) (n:Int) n=true:=by
 simp only[dN,Qm,Qi];omega
theorem gN{bytes n:Nat}(h:bytes<=200)(hn:n<=1000000):aT bytes n=true:=
 br ⟨QK (Nat.mul_le_mul hn h) (by decide),hn⟩
theorem MA{α ρ:Type}(l:List α)(hl:l.length<=1000000)(P:α->Bool){step:Int×Unit->Option ((Int×Unit)⊕ρ)}{r:Nat->Option ρ}
  (h1:∀(i:Nat) (y:α),l[i]?=some y->decide ((i:Int)<((l.length:Nat):Int))=true->idx l (i:Int)=some y->P y=true->aB .i64 (i:Int) 1=((i+1:Nat):Int)->step ((i:Int),())=some (.inl (((i+1:Nat):Int),())))
  (h2:∀(i:Nat) (y:α),l[i]?=some y->decide ((i:Int)<((l.length:Nat):Int))=true->idx l (i:Int)=some y->P y=false->step ((i:Int),())=Option.map Sum.inr (r i))
  (h3:decide (((l.length:Nat):Int)<((l.length:Nat):Int))=false->step (((l.length:Nat):Int),())=Option.map Sum.inr (r l.length)):
  ∃i,i<=l.length/\(∀j,j<i->∃y,l[j]?=some y/\P y=true)/\(∀y,l[i]?=some y->P y=false)/\aD step ((0:Int),())=r i:=by
 suffices key:∀(k i:Nat),i+k=l.length->(∀j,j<i->∃y,l[j]?=some y/\P y=true)->∃m,m<=l.length/\(∀j,j<m->∃y,l[j]?=some y/\P y=true)/\(∀y,l[m]?=some y->P y=false)/\aD step ((i:Int),())=r m from key l.length 0 (by omega) (fun j hj=>absurd hj (Nat.not_lt_zero _))
 intro k
 induction k with
 |zero=>
  intro i hi hj;obtain rfl:i=l.length:=by omega
  refine⟨l.length,QI _,hj,fun y hy=>by simp at hy,?_⟩
  rw[jr,h3 (Qh (Qq63 _))];cases r l.length<;>rfl
 |succ k ih=>
  intro i hi hj;have hx:l[i]?=some l[i]:=Qv (by omega)
  have hd:decide ((i:Int)<((l.length:Nat):Int))=true:=Qg (by omega)
  cases hP:P l[i]with
  |true=>
   rw[cm (h1 i _ hx hd (by rw[bA];exact hx) hP (bY (by omega) (by omega)))]
   refine ih (i+1) (by omega) fun j hj'=> ?_
   rcases Nat.lt_or_ge j i with h|h
   ·exact hj j h
   ·obtain rfl:j=i:=by omega
    exact⟨_,hx,hP⟩
  |false=>
   refine⟨i,by omega,hj,fun y hy=> ?_,?_⟩
   ·rw[hx]at hy;injection hy with hy
    rw[<-hy];exact hP
   ·rw[jr,h2 i _ hx hd (by rw[bA];exact hx) hP]
    cases r i<;>rfl
theorem D5{α ρ:Type}[DecidableEq α]{lt:α->α->Bool}(l:List α)(hl:l.length<=1000000)(x:α){step:Int×Unit->Option ((Int×Unit)⊕ρ)}{k:List α->Option ρ}
  (h1:∀(i:Nat) (y:α),decide ((i:Int)<((l.length:Nat):Int))=true->idx l (i:Int)=some y->lt y x=true->aB .i64 (i:Int) 1=((i+1:Nat):Int)->step ((i:Int),())=some (.inl (((i+1:Nat):Int),())))
  (h2:∀(i:Nat) (y:α),i<l.length->decide ((i:Int)<((l.length:Nat):Int))=true->decide ((i:Int)=((l.length:Nat):Int))=false->idx l (i:Int)=some y->lt y x=false->step ((i:Int),())=Option.map Sum.inr (k (if y=x then l else l.take i++x::l.drop i)))
  (h3:decide (((l.length:Nat):Int)<((l.length:Nat):Int))=false->decide (((l.length:Nat):Int)=((l.length:Nat):Int))=true->step (((l.length:Nat):Int),())=Option.map Sum.inr (k (l++[x]))):aD step ((0:Int),())=k (dK lt x l):=by
 obtain⟨i,hi,g1,g2,g3⟩:=MA l hl (fun y=>lt y x) (step:=step) (r:=fun i=>k (if l[i]?=some x then l else l.take i++x::l.drop i)) (fun i y hy hd hx hP hw=>h1 i y hd hx hP hw) (fun i y hy hd hx hP=>by
   have hlt:=(Qw.1 hy).1;rw[h2 i y hlt hd (Qh (by omega)) hx hP,hy]
   by_cases hyx:y=x
   ·simp[hyx]
   ·have:¬(some y=some x):=fun h=>hyx (by injection h)
    rw[Qs hyx,Qs this]) (fun hd=>by
   rw[h3 hd (Qg rfl),Qs (by simp),Q9,Qq65])
 rw[g3,RJ x l i g1 g2]
theorem Z2(l:List ao)(hl:l.length<=900000)(b:ao):rh l b=some (if aP b then l else dK (fun x y=>bJ y x) b l):=by
 unfold rh;rw[cT,Qa]
 cases hz:aP b with
 |true=>rfl
 |false=>
  simp only[Ql,bz]
  have he:∀y:ao,(decide (y.an=b.an)&&decide (y.Value=b.Value))=decide (y=b):=fun y=>by
   rw[QW];cases y;cases b;simp
  refine D5 (lt:=fun x y=>bJ y x) l (by omega) b (k:=fun t=>some t) (fun i y hd hx hlt hw=> ?_) (fun i y hi hd hde hx hlt=> ?_) (fun hd hde=> ?_)
  ·simp only[hd,hx,hw,Qk,Qa,iD,hlt]
  ·have e1:=rB l i;have e2:=vG l i;simp only[hd,hx,Qk,Qa,iD,hlt,Ql,z7,e1,e2,tZ (show i<=l.length by omega),ua (show i<=l.length by omega),he]
   rw[gN (by omega) (by simp;omega),gN (by omega) (by simp;omega),gN (by omega) (by simp;omega)]
   by_cases hyb:y=b<;>simp[hyb]
  ·have e1:=rB l l.length;have e2:=vG l l.length;simp only[hd,Ql,e1,e2,tZ (QI l.length),ua (QI l.length),Qk];rw[gN (by omega) (by simp;omega),gN (by omega) (by simp;omega),gN (by omega) (by simp;omega)]
   simp
theorem zY{α σ ρ:Type}(l:List α)(hl:l.length<=1000000)(f:σ->α->σ)(Inv:Nat->σ->Prop){step:σ×Int×Unit->Option ((σ×Int×Unit)⊕ρ)}{fin:σ->Option ρ}
  (hI:∀i s x,x∈l->Inv i s->Inv (i+1) (f s x))
  (h1:∀(i:Nat) (x:α) (s:σ),Inv i s->i<=l.length->x∈l->decide ((i:Int)<((l.length:Nat):Int))=true->idx l (i:Int)=some x->aB .i64 (i:Int) 1=((i+1:Nat):Int)->step (s,(i:Int),())=some (.inl (f s x,((i+1:Nat):Int),())))
  (h2:∀s,decide (((l.length:Nat):Int)<((l.length:Nat):Int))=false->step (s,((l.length:Nat):Int),())=Option.map Sum.inr (fin s)) (s:σ) (hs:Inv 0 s):aD step (s,(0:Int),())=fin (l.foldl f s):=by
 suffices key:∀(k i:Nat) (s:σ),i+k=l.length->Inv i s->aD step (s,(i:Int),())=fin ((l.drop i).foldl f s)from key l.length 0 s (by omega) hs
 intro k
 induction k with
 |zero=>
  intro i s hi hs;obtain rfl:i=l.length:=by omega
  rw[jr,h2 s (Qh (Qq63 _)),Qq65,List.foldl_nil];cases fin s<;>rfl
 |succ k ih=>
  intro i s hi hs;have hlt:i<l.length:=by omega
  rw[cm (h1 i l[i] s hs (by omega) (QZ hlt) (Qg (by omega)) (by rw[bA];exact Qv hlt) (bY (by omega) (by omega))),ih (i+1) _ (by omega) (hI i s _ (QZ hlt) hs),QM hlt,QU]
 def lH(e:ak):List ao:=if aX e then(if e.az=1 then[e.aj,e.av,e.aJ]else[e.av,at_ e 1000000])else[]
theorem HI{e:ak}{x:ao}(hz:aP x=false):x∈lH e↔x∈said e:=by
 unfold lH said
 cases hv:aX e with
 |false=>simp
 |true=>
  by_cases k1:e.az=1
  ·simp[k1]
  ·by_cases k2:e.az=2
   ·simp[k2]
   ·have hp:aP e.av=true:=by
     unfold aX lY at hv;rw[Qm,Qs k1,Qs k2]at hv;have h:=hv.2
     by_cases k3:e.az=3
     ·rw[Qr k3]at h;simp only[z6,Qm]at h;exact h.1.1.2
     ·rw[Qs k3]at h;cases h
    simp only[Qt,k1,k2,Qu,QA,QR,or_false];constructor
    ·rintro(h|h)
     ·rw[h,hp]at hz;cases hz
     ·exact h
    ·exact .inr
def rJ(l:List ao)(b:ao):List ao:=if aP b then l else dK (fun x y=>bJ y x) b l
theorem Gq:∀(xs l:List ao),xs.foldl rJ l=(xs.filter fun b=> !aP b).foldl (fun l x=>dK (fun x y=>bJ y x) x l) l
 |[],l=>rfl
 |x::xs,l=>by
  rw[QU,Gq xs,List.filter_cons];cases hz:aP x<;>simp[rJ,hz]
theorem K6(l:List ao)(b:ao):(rJ l b).length<=l.length+1:=by
 unfold rJ;split
 ·omega
 ·exact qJ b l
 def fL(l:List ak):List ao:=l.foldl (fun s e=>(lH e).foldl rJ s) []
section
variable {l : List ak} (hl : ∀ e ∈ l, de e.aa) (hlen : l.length <= 1000)
 include hl hlen
theorem An:jA l=some (fL l):=by
 have hfold:∀xs:List ao,xs.length<=3->∀s:List ao,(xs.foldl rJ s).length<=s.length+xs.length:=by
  intro xs _
  induction xs with
  |nil=>intro s;simp
  |cons x xs ih=>
   intro s;have:=ih (by simp at*;omega) (rJ s x)
   have:=K6 s x;rw[QU,QE];omega
 have hr3:∀e,(lH e).length<=3:=fun e=>by
  unfold lH;split
  ·split<;>simp
  ·simp
 have hF:jA l=some (l.foldl (fun s e=>(lH e).foldl rJ s) []):=by
  unfold jA;refine zY l (by omega) (fun s e=>(lH e).foldl rJ s) (fun i s=>s.length<=3*i) (fin:=fun s=>some s) (fun i s x _ hs=> ?_) (fun i e s hs hi he hd hx hw=> ?_) (fun s hd=> ?_) [] (by simp)
  ·have:=hfold (lH x) (hr3 x) s;have:=hr3 x;show(List.foldl rJ s (lH x)).length<=3*(i+1);omega
  ·simp only[hd,hx,hw,Qk,bz,Qa,ab.eta,ak.eta,iy (hl e he)]
   have inner:∀L:List ao,L.length<=3->aD (fun(v8:(List ao)×Int×Unit)=>
     bif (decide (v8.2.1<((List.length L:Nat):Int)))then Option.bind (idx L v8.2.1) fun x9=>Option.bind (rh v8.1 x9) fun r10=>some (Sum.inl (r10,(aB .i64 v8.2.1 (1:Int)),()))
     else Option.map Sum.inr (some (Sum.inl (v8.1,((i+1:Nat):Int),()):((List ao)×Int×Unit)⊕(List ao)))) (s,(0:Int),())=some (Sum.inl (L.foldl rJ s,((i+1:Nat):Int),())):=by
    intro L hL;refine zY L (by omega) rJ (fun k t=>t.length<=s.length+k) (fin:=fun t=>some (Sum.inl (t,((i+1:Nat):Int),()))) (fun k t x _ ht=> ?_) (fun k x t ht hk hx' hd' hxx hw'=> ?_) (fun t hd'=> ?_) s (by simp)
    ·have:=K6 t x;omega
    ·simp only[hd',hxx,hw',Qk,Qa,Z2 t (by omega)]
     rfl
    ·simp only[hd',Ql]
   cases hv:aX e with
   |false=>simp[lH,hv]
   |true=>
    by_cases k1:e.az=1
    ·have i3:=inner [e.aj,e.av,e.aJ] (by simp)
     simp only[Qo,Ql,k1,decide_true,i3,lH,hv,Qt]
    ·have i2:=inner [e.av,⟨1000000,e.aj.Value⟩] (by simp)
     simp only[Qo,Qp,Ql,Qk,k1,decide_false,i2,lH,hv,Qt,Qu,at_]
  ·simp only[hd,Ql]
 exact hF
theorem sN:jA l=some (fL l)/\(fL l).Pairwise (fun x y=>bJ y x=true)/\(fL l).length<=3000/\∀x,x∈fL l↔∃e∈l,x∈said e/\aP x=false:=by
 have hr3:∀e,(lH e).length<=3:=fun e=>by
  unfold lH;split
  ·split<;>simp
  ·simp
 have hflat:fL l=(l.flatMap lH).foldl rJ []:=by rw[List.foldl_flatMap];rfl
 refine⟨An hl hlen,?_⟩;rw[hflat,Gq];obtain⟨h5,h6⟩:=IL EO.flip ((l.flatMap lH).filter fun b=> !aP b) [] .nil
 refine⟨h5,?_,fun x=> ?_⟩
 ·have:=xN (lt:=fun x y=>bJ y x) ((l.flatMap lH).filter fun b=> !aP b) []
  have:=List.length_filter_le (fun b=> !aP b) (l.flatMap lH)
  have:=G7 lH hr3 l;simp only[QY]at*;omega
 rw[h6];simp only[List.mem_filter,QQ,QR,or_false,Bool.not_eq_true'];constructor
 ·rintro⟨⟨e,he,hx⟩,hz⟩;exact⟨e,he,(HI hz).1 hx,hz⟩
 ·rintro⟨e,he,hx,hz⟩;exact⟨⟨e,he,(HI hz).2 hx⟩,hz⟩
end
 def fI(l:List ak):List ByteArray:=l.foldl (fun s e=>if aX e then dK dW e.aj.Value s else s) []
 def bG(l:List ak)(v:ByteArray):List Int:=l.foldl (fun s e=>if kG v e then dK (fun a b=>decide (a<b)) e.bM (dK (fun a b=>decide (a<b)) e.bf s)else s) []
section
variable {l : List ak} (hl : ∀ e ∈ l, de e.aa) (hlen : l.length <= 1000)
 include hl hlen
theorem HN:lW l=some (fI l):=by
 have hF:lW l=some (l.foldl (fun s e=>if aX e then dK dW e.aj.Value s else s) []):=by
  unfold lW;refine zY l (by omega) (fun s e=>if aX e then dK dW e.aj.Value s else s) (fun i s=>s.length<=i) (fin:=fun s=>some s) (fun i s x _ hs=> ?_) (fun i e s hs hi he hd hx hw=> ?_) (fun s hd=> ?_) [] (by simp)
  ·show(if aX x then dK dW x.aj.Value s else s).length<=i+1
   have:=qJ (lt:=dW) x.aj.Value s;split<;>omega
  ·simp only[hd,hx,hw,Qk,bz,Qa,ab.eta,ak.eta,iy (hl e he)]
   cases hv:aX e with
   |false=>simp
   |true=>
    simp only[Qo,Ql,Qt];refine D5 (lt:=dW) s (by omega) e.aj.Value (k:=fun t=>some (Sum.inl (t,((i+1:Nat):Int),()))) (fun j y hd' hx' hlt hw'=> ?_) (fun j y hj hd' hde hx' hlt=> ?_) (fun hd' hde=> ?_)
    ·simp only[hd',hx',hw',Qk,Qa,vl,hlt]
    ·have e1:=rB s j;have e2:=vG s j;simp only[hd',hx',hde,Qk,Ql,Qa,vl,hlt,e1,e2,tZ (show j<=s.length by omega),ua (show j<=s.length by omega)]
     rw[gN (by omega) (by simp;omega),gN (by omega) (by simp;omega),gN (by omega) (by simp;omega)]
     by_cases hyx:y=e.aj.Value<;>simp[hyx]
    ·have e1:=rB s s.length;have e2:=vG s s.length;simp only[hd',Qk,Ql,e1,e2,tZ (QI s.length),ua (QI s.length)];rw[gN (by omega) (by simp;omega),gN (by omega) (by simp;omega),gN (by omega) (by simp;omega)]
     simp
  ·simp only[hd,Ql]
 exact hF
theorem xF:lW l=some (fI l)/\(fI l).Pairwise (fun x y=>dW x y=true)/\(fI l).length<=3000/\∀x,x∈fI l↔∃e∈l,aX e=true/\x=e.aj.Value:=by
 have hflat:fI l=(l.flatMap fun e=>if aX e then[e.aj.Value]else[]).foldl (fun l x=>dK dW x l) []:=by
  rw[List.foldl_flatMap];unfold fI;congr 1
  funext s e
  split<;>rfl
 refine⟨HN hl hlen,?_⟩;rw[hflat];obtain⟨h5,h6⟩:=IL rC (l.flatMap fun e=>if aX e then[e.aj.Value]else[]) [] .nil
 refine⟨h5,?_,fun x=> ?_⟩
 ·have:=xN (lt:=dW) (l.flatMap fun e=>if aX e then[e.aj.Value]else[]) []
  have:=G7 (fun e:ak=>if aX e then[e.aj.Value]else[]) (fun e=>by split<;>simp) l
  simp only[QY]at*;omega
 rw[h6];simp only[QQ,QR,or_false];constructor
 ·rintro⟨e,he,hx⟩;split at hx
  ·rename_i hv;exact⟨e,he,hv,by simpa using hx⟩
  ·cases hx
 ·rintro⟨e,he,hv,hx⟩;exact⟨e,he,by rw[Qr hv];simpa using hx⟩
theorem rD(v:ByteArray):gm l v=some (bG l v):=by
 have hF:gm l v=some (l.foldl (fun s e=>if kG v e then dK (fun a b=>decide (a<b)) e.bM (dK (fun a b=>decide (a<b)) e.bf s)else s) []):=by
  unfold gm;refine zY l (by omega) (fun s e=>if kG v e then dK (fun a b=>decide (a<b)) e.bM (dK (fun a b=>decide (a<b)) e.bf s)else s) (fun i s=>s.length<=2*i) (fin:=fun s=>some s) (fun i s x _ hs=> ?_) (fun i e s hs hi he hd hx hw=> ?_) (fun s hd=> ?_) [] (by simp)
  ·show(if kG v x then dK (fun a b=>decide (a<b)) x.bM (dK (fun a b=>decide (a<b)) x.bf s)else s).length<=2*(i+1)
   have h1:=qJ (lt:=fun a b:Int=>decide (a<b)) x.bf s
   have h2:=qJ (lt:=fun a b:Int=>decide (a<b)) x.bM (dK (fun a b=>decide (a<b)) x.bf s)
   split<;>omega
  ·simp only[hd,hx,hw,Qk,bz,Qa,ab.eta,ak.eta,iy (hl e he)]
   have inner:∀(t:List Int) (x:Int) (z:Int),t.length<=3000->aD (fun(v12:Int×Unit)=>
     Option.bind (bif (decide (v12.1<((List.length t:Nat):Int)))then Option.bind (idx t v12.1) fun x13=>some (decide (x13<x))else some false) fun b14=>
     bif b14 then some (Sum.inl ((aB .i64 v12.1 (1:Int)),()))else
     Option.map Sum.inr (Option.bind (bif (decide (v12.1=((List.length t:Nat):Int)))then some true else Option.bind (idx t v12.1) fun x15=>some (!decide (x15=x))) fun b16=>
     bif b16 then
     bif dN (0:Int) v12.1 (List.length t)then
     bif aT 8 (List.length ((t.take (Int.toNat v12.1)).drop (Int.toNat (0:Int))))then
     bif aT 8 (List.length ((t.take (Int.toNat v12.1)).drop (Int.toNat (0:Int)))+List.length [x])then
     bif dN v12.1 (t.length:Int) (List.length t)then
     bif aT 8 (List.length (((t.take (Int.toNat v12.1)).drop (Int.toNat (0:Int)))++[x])+List.length ((t.take (Int.toNat (t.length:Int))).drop (Int.toNat v12.1)))then
     some (Sum.inl (((((t.take (Int.toNat v12.1)).drop (Int.toNat (0:Int)))++[x])++((t.take (Int.toNat (t.length:Int))).drop (Int.toNat v12.1))),z,()):((List Int)×Int×Unit)⊕(((List Int)×Int×Unit)⊕(List Int)))
     else none else none else none else none else none
     else some (Sum.inl (t,z,())))) ((0:Int),())=some (Sum.inl (dK (fun a b=>decide (a<b)) x t,z,())):=by
    intro t x z ht;refine D5 (lt:=fun a b:Int=>decide (a<b)) t (by omega) x (k:=fun t=>some (Sum.inl (t,z,()))) (fun j y hd' hx' hlt hw'=> ?_) (fun j y hj hd' hde hx' hlt=> ?_) (fun hd' hde=> ?_)
    ·simp only[hd',hx',hw',Qk,Qa,hlt]
    ·have e1:=rB t j;have e2:=vG t j;simp only[hd',hx',hde,Qk,Ql,Qa,hlt,e1,e2,tZ (show j<=t.length by omega),ua (show j<=t.length by omega)]
     rw[gN (by omega) (by simp;omega),gN (by omega) (by simp;omega),gN (by omega) (by simp;omega)]
     by_cases hyx:y=x<;>simp[hyx]
    ·have e1:=rB t t.length;have e2:=vG t t.length;simp only[hd',Qk,Ql,Qa,e1,e2,tZ (QI t.length),ua (QI t.length)];rw[gN (by omega) (by simp;omega),gN (by omega) (by simp;omega),gN (by omega) (by simp;omega)]
     simp
   have hw1:aB .i64 (0:Int) 1=1:=rfl;have hw2:aB .i64 (1:Int) 1=2:=rfl;have hd0:decide ((0:Int)<2)=true:=rfl;have hd1:decide ((1:Int)<2)=true:=rfl;have hd2:decide ((2:Int)<2)=false:=rfl;have hx0:idx [e.bf,e.bM] 0=some e.bf:=rfl;have hx1:idx [e.bf,e.bM] 1=some e.bM:=rfl;have hl1:=qJ (lt:=fun a b:Int=>decide (a<b)) e.bf s
   unfold kG
   cases hv:aX e with
   |false=>simp
   |true=>
    by_cases hvv:e.aj.Value=v
    ·by_cases hlo:e.bf=0
     ·simp[hvv,hlo]
     ·simp only[Qo,Ql,hvv,decide_true,hlo,decide_false,Bool.and_self,Qp,Qa,Qt];refine(cm (s':=(dK (fun a b=>decide (a<b)) e.bf s,(1:Int),())) ?_).trans ((cm (s':=(dK (fun a b=>decide (a<b)) e.bM (dK (fun a b=>decide (a<b)) e.bf s),(2:Int),())) ?_).trans (cd ?_))
      ·simp only[hd0,hx0,hw1,Qk,Qa];exact inner s e.bf 1 (by omega)
      ·simp only[hd1,hx1,hw2,Qk,Qa];exact inner _ e.bM 2 (by omega)
      ·simp only[hd2,Ql,Qe]
    ·simp[hvv]
  ·simp only[hd,Ql]
 exact hF
theorem nh(v:ByteArray):gm l v=some (bG l v)/\(bG l v).Pairwise (·<·)/\(bG l v).length<=3000/\∀x,x∈bG l v↔x∈ends v l:=by
 have hflat:bG l v=(ends v l).foldl (fun l x=>dK (fun a b=>decide (a<b)) x l) []:=by
  rw[ends,List.foldl_flatMap];unfold bG;congr 1
  funext s e
  split<;>rfl
 refine⟨rD hl hlen v,?_⟩;rw[hflat];obtain⟨h5,h6⟩:=IL Rb (ends v l) [] .nil;refine⟨h5.imp fun h=>of_decide_eq_true h,?_,fun x=> ?_⟩
 ·have:=xN (lt:=fun a b:Int=>decide (a<b)) (ends v l) []
  have:=OB v l;simp only[QY]at*;omega
 rw[h6];simp
end
end
section
section
variable {α : Type}
variable {p : α -> Option Bool} {q : α -> Bool} (hp : ∀ x, p x = some (q x)) {z : α}
 include hp
end
end
section
theorem ZN{e:ak}(hv:aX e=true):e.az=1/\0<=e.bf/\e.bf<=e.bM\/e.az≠1/\1<=e.bf/\e.bf<=e.bM:=by
 unfold aX lY at hv;rw[Qm]at hv;have h:=hv.2
 by_cases k1:e.az=1
 ·rw[Qr k1]at h;simp only[gK,Qm,Qi]at h;omega
 ·rw[Qs k1]at h
  by_cases k2:e.az=2
  ·rw[Qr k2]at h;simp only[uI,uh,Qm,Qi]at h;omega
  ·rw[Qs k2]at h
   by_cases k3:e.az=3
   ·rw[Qr k3]at h;simp only[z6,uh,Qm,Qi]at h;omega
   ·rw[Qs k3]at h;cases h
end
section
def KQ:ao:=⟨0,gH⟩
theorem IY{α τ:Type}(l:List α)(hl:l.length<=1000000)(mk:Int->τ)(P:α->Bool)(z:α){step:τ->Option (τ⊕α)}
  (h1:∀(i:Nat) (x:α),decide ((i:Int)<((l.length:Nat):Int))=true->idx l (i:Int)=some x->aB .i64 (i:Int) 1=((i+1:Nat):Int)->step (mk (i:Int))=some (bif P x then .inr x else .inl (mk ((i+1:Nat):Int))))
  (h2:decide (((l.length:Nat):Int)<((l.length:Nat):Int))=false->step (mk ((l.length:Nat):Int))=some (.inr z)):aD step (mk 0)=some ((l.find? P).getD z):=by
 suffices key:∀(k i:Nat),i+k=l.length->aD step (mk (i:Int))=some (((l.drop i).find? P).getD z)from key l.length 0 (by omega)
 intro k
 induction k with
 |zero=>
  intro i hi;obtain rfl:i=l.length:=by omega
  rw[cd (h2 (Qh (Qq63 _))),Qq65];rfl
 |succ k ih=>
  intro i hi;have hlt:i<l.length:=by omega
  have hs:=h1 i l[i] (Qg (by omega)) (by rw[bA];exact Qv hlt) (bY (by omega) (by omega))
  rw[QM hlt,List.find?_cons]
  cases hP:P l[i]with
  |true=>rw[hP]at hs;rw[cd hs];rfl
  |false=>rw[hP]at hs;rw[cm hs];exact ih (i+1) (by omega)
def tV(b:ao):ao:=if 1000<=b.an then⟨1000000,b.Value⟩else b
theorem M3{e:ak}(h:de e.aa)(b:ao):ku e b=some (aX e&&gU e b):=by
 simp only[ku,ab.eta,ak.eta,iy h,Qa,cT,ft,pU]
 cases hv:aX e with
 |false=>simp
 |true=>
  cases hz:aP b with
  |true=>simp[gU,hz]
  |false=>
   by_cases k1:e.az=1
   ·simp[gU,hz,k1]
   ·by_cases k3:e.az=3
    ·simp[gU,hz,k3]
    ·by_cases k2:e.az=2
     ·have hp:aP e.aJ=true:=by
       unfold aX lY at hv;rw[Qm,Qs k1,Qr k2]at hv;simp only[uI,Qm]at hv;exact hv.2.1.1.2
      simp[gU,hz,k2,fj,kI,hp]
     ·unfold aX lY at hv;rw[Qs k1,Qs k2,Qs k3]at hv;simp at hv
end
section
theorem Ex{l:List ak}(hl:xi l)(hlen:l.length<=1000)(v:ByteArray):∀x∈bG l v,1<=x/\x<=1000:=by
 obtain⟨_,_,_,h⟩:=nh hl.aN hlen v;intro x hx;obtain⟨e,he,hb,hy⟩:=GM.1 ((h x).1 hx);simp only[kG,Qm,Bool.not_eq_true',Qj]at hb;have hv:=hb.1.1;have h0:=hb.2;unfold aX lY at hv;rw[Qm]at hv;have hv:=hv.2
 by_cases k1:e.az=1
 ·rw[Qr k1]at hv;simp only[gK,finite,Qm,Qi]at hv;omega
 ·rw[Qs k1]at hv
  by_cases k2:e.az=2
  ·rw[Qr k2]at hv;simp only[uI,uh,Qm,Qi]at hv;omega
  ·rw[Qs k2]at hv
   by_cases k3:e.az=3
   ·rw[Qr k3]at hv;simp only[z6,uh,Qm,Qi]at hv;omega
   ·rw[Qs k3]at hv;cases hv
def oz(p q:ao)(v:ByteArray)(n:Int):Bool:=eN p ⟨n,v⟩||eN q ⟨n,v⟩
 def G9(b:List Int)(ready:Int->Int->Bool)(low eU:Int):Int×Int:=
 match b.reverse.find? (fun n=>decide (eU<n)&&ready n n)with
 |none=>(dR (fun x=>ready x eU) b.reverse low,eU)
 |some n=>
  let bottom:=dR (fun x=>ready x n) b.reverse n
  (dR (fun x=>ready x n) b.reverse (if eU<bottom - 1\/bottom<low then bottom else low),n)
end
section
end
section
theorem kinds{e:ak}(hv:aX e=true):e.az=1\/e.az=2\/e.az=3:=by
 unfold aX lY at hv;rw[Qm]at hv;have h:=hv.2
 by_cases k1:e.az=1
 ·exact .inl k1
 ·by_cases k2:e.az=2
  ·exact .inr (.inl k2)
  ·by_cases k3:e.az=3
   ·exact .inr (.inr k3)
   ·rw[Qs k1,Qs k2,Qs k3]at h;cases h
theorem SK{e:ak}(h:de e.aa)(b:ao):lM e b=some (aX e&&yk e b):=by
 simp only[lM,ab.eta,ak.eta,iy h,Qa,cT,ft,xD]
 cases hv:aX e with
 |false=>simp
 |true=>
  cases hz:aP b with
  |true=>simp[yk,hz]
  |false=>by_cases k1:e.az=1<;>simp[yk,hz,k1]
theorem M4{e:ak}(h:de e.aa)(v:ByteArray)(lo hi:Int):kZ e v lo hi=some (aX e&&nM e v lo hi):=by
 simp only[kZ,ab.eta,ak.eta,iy h,Qa,tE,nM,Mr]
 cases hv:aX e with
 |false=>simp
 |true=>
  have hk:=kinds hv
  by_cases a1:lo<1<;>by_cases a2:hi<lo<;>by_cases a3:e.aj.Value=v<;>by_cases a4:lo<e.bf<;>by_cases k1:e.az=1<;>by_cases k3:e.az=3<;>simp_all<;>grind
theorem SL{e:ak}(h:de e.aa)(v:ByteArray)(lo hi:Int):mC e v lo hi=some (aX e&&AM e v lo hi):=by
 simp only[mC,ab.eta,ak.eta,iy h,Qa,tE,AM,Mr]
 cases hv:aX e with
 |false=>simp
 |true=>
  have hl:=ZN hv
  by_cases a1:lo<1<;>by_cases a2:hi<lo<;>by_cases a3:e.aj.Value=v<;>by_cases a4:lo<e.bf<;>by_cases k1:e.az=1<;>by_cases a5:e.bf=0<;>simp_all<;>grind
theorem sz(p:ak->Bool):∀l:List ak,iH (fun e=>aX e&&p e) l=iH p (dV l)
 |[]=>rfl
 |e::l=>by
  have ih:=sz p l;rw[iH,ih];cases hv:aX e<;>simp[dV,hv,iH]
theorem wg(l:List ak)(hlen:l.length<=1000)(p:ak->Bool)(hp:∀e∈l,p e=true->0<=e.aq/\e.aq<10):fb l (l.map p)=some ((iH p l:Nat):Int):=by
 unfold fb
 suffices key:∀(k i s:Nat),i+k=l.length->s<1024->aD _ ((s:Int),(i:Int),())=some ((s|||iH p (l.drop i):Nat):Int)by
  have:=key l.length 0 0 (by omega) (by omega)
  rw[Nat.zero_or,List.drop_zero]at this;exact this
 intro k
 induction k with
 |zero=>
  intro i s hi hs;obtain rfl:i=l.length:=by omega
  have hd:decide (((l.length:Nat):Int)<((l.length:Nat):Int))=false:=Qh (Qq63 _);rw[cd (r:=(s:Int)) (by simp only[hd,Ql,Qe]),Qq65,iH]
  simp
 |succ k ih=>
  intro i s hi hs;have hlt:i<l.length:=by omega
  have hd:decide ((i:Int)<((l.length:Nat):Int))=true:=Qg (by omega)
  have hd2:decide ((i:Int)<(((l.map p).length:Nat):Int))=true:=Qg (by rw[QC];omega)
  have hw:aB .i64 (i:Int) 1=((i+1:Nat):Int):=bY (by omega) (by omega)
  have hx:idx l (i:Int)=some l[i]:=by rw[bA];exact Qv hlt
  have hx2:idx (l.map p) (i:Int)=some (p l[i]):=by rw[bA,QT,Qv hlt];rfl
  rw[QM hlt,iH]
  cases hpe:p l[i]with
  |false=>
   rw[cm (s':=((s:Int),((i+1:Nat):Int),())) (by simp only[hd,hd2,hx,hx2,hw,hpe,Qk,Ql,bz,Qa]),ih (i+1) s (by omega) hs]
   simp
  |true=>
   obtain⟨h0,h1⟩:=hp _ (QZ hlt) hpe
   have hc:bI .u64 l[i].aq=l[i].aq:=by
    obtain⟨n,hn⟩:∃n:Nat,l[i].aq=n:=⟨l[i].aq.toNat,by omega⟩
    rw[hn];exact YP (by omega)
   have hn0:¬l[i].aq<0:=by omega
   have d1:decide ((0:Int)<=l[i].aq)=true:=Qg h0;have d2:decide (l[i].aq<=(9:Int))=true:=Qg (by omega)
   rw[cm (s':=(((s|||2 ^ l[i].aq.toNat:Nat):Int),((i+1:Nat):Int),())) (by
    simp only[hd,hd2,hx,hx2,hw,hpe,Qk,bz,Qa,d1,d2,hc,hn0,Qu]
    rw[yc hs h0 h1]),ih (i+1) _ (by omega) (E3 hs h1)]
   simp[Nat.or_assoc]
theorem MH{ρ:Type}(l:List ak)(hl:l.length<=1000)(p q:ak->Bool){step:Int×List Bool×List Bool×Unit->Option ((Int×List Bool×List Bool×Unit)⊕ρ)}{fin:List Bool->List Bool->Option ρ}
  (h1:∀(i:Nat) (e:ak) (vs as_:List Bool),e∈l->decide ((i:Int)<((l.length:Nat):Int))=true->idx l (i:Int)=some e->aB .i64 (i:Int) 1=((i+1:Nat):Int)->(∀x:Bool,aT 1 (vs.length+[x].length)=true)->(∀x:Bool,aT 1 (as_.length+[x].length)=true)->step ((i:Int),vs,as_,())=some (.inl (((i+1:Nat):Int),vs++[p e],as_++[q e],())))
  (h2:∀vs as_,decide (((l.length:Nat):Int)<((l.length:Nat):Int))=false->step (((l.length:Nat):Int),vs,as_,())=Option.map Sum.inr (fin vs as_)):aD step ((0:Int),[],[],())=fin (l.map p) (l.map q):=by
 suffices key:∀(k i:Nat),i+k=l.length->aD step ((i:Int),(l.take i).map p,(l.take i).map q,())=fin (l.map p) (l.map q)from key l.length 0 (by omega)
 intro k
 induction k with
 |zero=>
  intro i hi;obtain rfl:i=l.length:=by omega
  rw[jr,h2 _ _ (Qh (Qq63 _)),Q9];cases fin (l.map p) (l.map q)<;>rfl
 |succ k ih=>
  intro i hi;have hlt:i<l.length:=by omega
  rw[cm (h1 i l[i] _ _ (QZ hlt) (Qg (by omega)) (by rw[bA];exact Qv hlt) (bY (by omega) (by omega)) (fun x=>gN (by omega) (by simp;omega)) (fun x=>gN (by omega) (by simp;omega))),<-ih (i+1) (by omega),Q6 hlt,List.map_append,List.map_append]
  rfl
theorem BB{p:ak->Bool}{l:List ak}:∀e∈l,(aX e&&p e)=true->0<=e.aq/\e.aq<10:=fun e _ h=>by
 rw[Qm]at h;exact kE h.1
section
variable {l : List ak} (hl : ∀ e ∈ l, de e.aa) (hlen : l.length <= 1000)
 include hl hlen
theorem Ky(b:ao):ra l b=some (((iH (fun e=>yk e b||gU e b) (dV l):Nat):Int),((iH (gU · b) (dV l):Nat):Int),()):=by
 unfold ra;refine(MH l hlen (fun e=>aX e&&(yk e b||gU e b)) (fun e=>aX e&&gU e b) (fin:=fun vs as_=>Option.bind (fb l vs) fun r6=>Option.bind (fb l as_) fun r7=>some (r6,r7,())) (fun i e vs as_ he hd hx hw o1 o2=> ?_) (fun vs as_ hd=> ?_)).trans ?_
 ·simp only[hd,hx,hw,Qk,Qa,ab.eta,ak.eta,M3 (hl e he),SK (hl e he),tE,o1,o2];cases aX e<;>cases yk e b<;>cases gU e b<;>rfl
 ·simp only[hd,Ql]
 ·rw[wg l hlen _ BB,wg l hlen _ BB,Qa,Qa,sz,sz]
theorem Kx(v:ByteArray)(lo hi:Int):qX l v lo hi=some (((iH (fun e=>AM e v lo hi||nM e v lo hi) (dV l):Nat):Int),((iH (nM · v lo hi) (dV l):Nat):Int),()):=by
 unfold qX;refine(MH l hlen (fun e=>aX e&&(AM e v lo hi||nM e v lo hi)) (fun e=>aX e&&nM e v lo hi) (fin:=fun vs as_=>Option.bind (fb l vs) fun r6=>Option.bind (fb l as_) fun r7=>some (r6,r7,())) (fun i e vs as_ he hd hx hw o1 o2=> ?_) (fun vs as_ hd=> ?_)).trans ?_
 ·simp only[hd,hx,hw,Qk,Qa,ab.eta,ak.eta,M4 (hl e he),SL (hl e he),tE,o1,o2];cases aX e<;>cases AM e v lo hi<;>cases nM e v lo hi<;>rfl
 ·simp only[hd,Ql]
 ·rw[wg l hlen _ BB,wg l hlen _ BB,Qa,Qa,sz,sz]
end
theorem vH{c:bQ}(hc:EE c){v a b:Nat}(hv:v<10)(h1:a<1024)(h2:b<1024):k9 c v a b=some (xP c.bq v a b):=by
 unfold k9 xP;have h3:a|||b<1024:=Nat.or_lt_two_pow (n:=10) h1 h2
 rw[sE h1,sE h2,HP hc h2,JD a b (by omega) (by omega),yu hc h3]
 simp[yS (IU hc h3).lt,Ce,hv]
theorem ue{c:bQ}(hc:EE c){v b:Nat}(hv:v<10)(h2:b<1024):kb c v b=some ((gq c.bq b).testBit v):=by
 unfold kb;rw[yu hc h2];simp[yS (IU hc h2).lt,Ce,hv]
end
section
theorem UY(b:ao):j0 b=some (tV b):=by
 unfold j0 tV;simp only[bz,Kh,G5]
def E6(x:ao->Bool)(p q:ao)(v:ByteArray)(b:ao):Bool:=(decide (v=gH)||decide (b.Value=v))&& !fj (tV p) (tV q) b&&x b
def Ff(y:ao->Bool)(a b:ao):Bool:=bJ a b&&decide (b.an<=1000)&&y b
section
variable {aG : Int} {t : ab} {l : List ak} (hl : xi l) (hlen : l.length <= 1000) {c : bQ} {x y : ao -> Bool}
 include hl hlen
theorem WT(hx:∀b,nA aG t l b=some (x b))(p q:ao)(v:ByteArray):oE aG t l p q v=some (((fL l).find? (E6 x p q v)).getD KQ):=by
 obtain⟨h1,_,h3,_⟩:=sN hl.aN hlen;unfold oE;simp only[ab.eta,An hl.aN hlen,Qa];refine IY (fL l) (by omega) (fun i=>(i,ao.mk (0:Int) (ByteArray.mk #[]),())) (E6 x p q v) KQ (fun i b hd hx' hw=> ?_) (fun hd=> ?_)
 ·simp only[hd,hx',hw,Qk,bz,Qa,UY,pU,hx];unfold E6 gH;cases decide (v=ByteArray.mk #[])<;>cases decide (b.Value=v)<;>cases fj (tV p) (tV q) b<;>cases x b<;>simp
 ·simp only[hd,Ql,Qe];rfl
theorem WU(hy:∀b,mw aG t l b=some (y b))(a:ao):kY aG t l a=some (((fL l).find? (Ff y a)).getD KQ):=by
 obtain⟨h1,_,h3,_⟩:=sN hl.aN hlen;unfold kY;simp only[ab.eta,An hl.aN hlen,Qa];refine IY (fL l) (by omega) (fun i=>(i,ao.mk (0:Int) (ByteArray.mk #[]),())) (Ff y a) KQ (fun i b hd hx' hw=> ?_) (fun hd=> ?_)
 ·simp only[hd,hx',hw,Qk,Qa,iD,hy];unfold Ff;cases bJ a b<;>cases decide (b.an<=1000)<;>cases y b<;>simp
 ·simp only[hd,Ql,Qe];rfl
end
end
section
def ib{A ρ:Type}(g:A->Int->A⊕ρ)(fin:A->Option ρ):List Int->A->Option ρ
 |[],a=>fin a
 |x::l,a=>match g a x with
  | .inl a'=>ib g fin l a'
  | .inr r=>some r
theorem uj{A σ ρ:Type}(b:List Int)(hb:b.length<=1000000)(st:A->Int->σ)(g:A->Int->A⊕ρ)(fin:A->Option ρ){step:σ->Option (σ⊕ρ)}
  (h1:∀(i:Nat) (x:Int) (a:A),idx b (i:Int)=some x->decide ((0:Int)<=(i:Int))=true->ez .i64 (i:Int) 1=(i:Int) - 1->step (st a (i:Int))=some (match g a x with| .inl a'=> .inl (st a' ((i:Int) - 1))| .inr r=> .inr r))
  (h2:∀a,decide ((0:Int)<=(-1:Int))=false->step (st a (-1))=Option.map Sum.inr (fin a)):∀n:Nat,n<=b.length->∀a:A,aD step (st a ((n:Int) - 1))=ib g fin (b.take n).reverse a
 |0,_,a=>by
  rw[show((0:Nat):Int) - 1= -1 by omega,jr,h2 a rfl,List.take_zero,List.reverse_nil,ib]
  cases fin a<;>rfl
 |n+1,hn,a=>by
  have hlt:n<b.length:=by omega
  have hs:=h1 n b[n] a (by rw[bA];exact Qv hlt) (Qg (by omega)) (nS (by omega) (by omega))
  rw[show((n+1:Nat):Int) - 1=(n:Int)by omega,Q6 hlt,List.reverse_append,List.reverse_singleton,List.singleton_append,ib]
  cases hg:g a b[n]with
  |inl a'=>rw[hg]at hs;rw[cm hs,uj b hb st g fin h1 h2 n (by omega) a']
  |inr r=>rw[hg]at hs;rw[cd hs]
theorem EN(b:List Int)(hb:b.length<=1000000):ez .i64 ((b.length:Nat):Int) 1=((b.length:Nat):Int) - 1:=nS (by omega) (by omega)
theorem zF{ρ:Type}(q:Int->Bool)(f:Int->ρ):∀(l:List Int) (lo:Int),ib (fun lo x=>if lo<=x then .inl lo else if q x then .inl x else .inr (f lo)) (fun lo=>some (f lo)) l lo=some (f (dR q l lo))
 |[],lo=>rfl
 |x::l,lo=>by
  rw[ib,dR]
  by_cases h1:lo<=x
  ·rw[Qr h1,Qr h1];exact zF q f l lo
  ·rw[Qs h1,Qs h1]
   cases hq:q x with
   |true=>rw[Qr rfl,Qr rfl];exact zF q f l x
   |false=>rw[Qs (by simp),Qs (by simp)]
theorem KD{A ρ:Type}(s:A)(c p:Int->Bool)(f:Int->ρ)(d:ρ)(g:A->Int->A⊕ρ)(fin:A->Option ρ)(hg:∀z,g s z=if c z then(if p z then .inr (f z)else .inl s)else .inr d)(hfin:fin s=some d)(hc:∀a b,b<a->c b=true->c a=true):
  ∀r:List Int,r.Pairwise (fun a b=>b<a)->ib g fin r s=some (match r.find? (fun n=>c n&&p n)with|some n=>f n|none=>d)
 |[],_=>hfin
 |z::r,h=>by
  rw[ib,hg,List.find?_cons];rw[Q3]at h
  cases hz:c z with
  |false=>
   have:r.find? (fun n=>c n&&p n)=none:=by
    rw[List.find?_eq_none];intro n hn hcn;rw[Qm]at hcn;rw[hc z n (h.1 n hn) hcn.1]at hz;cases hz
   simp[this]
  |true=>
   cases hp:p z with
   |true=>simp
   |false=>
    simp only[Qt,Bool.true_and];exact KD s c p f d g fin hg hfin hc r h.2
theorem HG{ρ:Type}(q:Int->Bool)(f:Int->ρ):∀(r:List Int) (lo:Int),(∀z∈r,z<lo)->r.Pairwise (fun a b=>b<a)->ib (fun lo z=>if q z then .inl z else .inr (f lo)) (fun lo=>some (f lo)) r lo=some (f (dR q r lo))
 |[],lo,_,_=>rfl
 |z::r,lo,h,hs=>by
  rw[Q3]at hs;have hz:=h z (by simp)
  have h0:¬lo<=z:=by omega
  rw[ib,dR,Qs h0]
  cases hq:q z with
  |true=>rw[Qr rfl,Qr rfl];exact HG q f r z hs.1 hs.2
  |false=>rw[Qs (by simp),Qs (by simp)]
theorem IX{α B ρ:Type}(l:List α)(hl:l.length<=1000000)(f:B->α->B){step:Int×B×Unit->Option ((Int×B×Unit)⊕ρ)}{fin:B->Option ρ}
  (h1:∀(i:Nat) (x:α) (b:B),x∈l->decide ((i:Int)<((l.length:Nat):Int))=true->idx l (i:Int)=some x->aB .i64 (i:Int) 1=((i+1:Nat):Int)->step ((i:Int),b,())=some (.inl (((i+1:Nat):Int),f b x,())))
  (h2:∀b,decide (((l.length:Nat):Int)<((l.length:Nat):Int))=false->step (((l.length:Nat):Int),b,())=Option.map Sum.inr (fin b)) (b:B):aD step ((0:Int),b,())=fin (l.foldl f b):=by
 suffices key:∀(k i:Nat) (b:B),i+k=l.length->aD step ((i:Int),b,())=fin ((l.drop i).foldl f b)from key l.length 0 b (by omega)
 intro k
 induction k with
 |zero=>
  intro i b hi;obtain rfl:i=l.length:=by omega
  rw[jr,h2 b (Qh (Qq63 _)),Qq65,List.foldl_nil];cases fin b<;>rfl
 |succ k ih=>
  intro i b hi;have hlt:i<l.length:=by omega
  rw[cm (h1 i l[i] b (QZ hlt) (Qg (by omega)) (by rw[bA];exact Qv hlt) (bY (by omega) (by omega))),ih (i+1) _ (by omega),QM hlt,QU]
theorem Gt(q:Int->Bool):∀(l r:List Int) (lo:Int),(∀x∈l,lo<=x)->dR q (l++r) lo=dR q r lo
 |[],r,lo,_=>rfl
 |x::l,r,lo,h=>by
  rw[List.cons_append,dR,Qr (h x (by simp))]
  exact Gt q l r lo fun y hy=>h y (by simp[hy])
theorem Hd(q:Int->Bool):∀(r:List Int) (lo:Int),(∀x∈r,0<=x/\x<=1000000)->0<=lo/\lo<=1000000->0<=dR q r lo/\dR q r lo<=1000000
 |[],lo,_,h=>h
 |x::r,lo,hx,h=>by
  rw[dR];split
  ·exact Hd q r lo (fun y hy=>hx y (by simp[hy])) h
  ·split
   ·exact Hd q r x (fun y hy=>hx y (by simp[hy])) (hx x (by simp))
   ·exact h
 def gp(x:ByteArray->Int->Int->Bool)(p q:ao)(v:ByteArray)(s:Bool×ao)(n:Int):Bool×ao:=
 if bJ s.2 ⟨n,v⟩&& !oz p q v n&&x v n n then(true,⟨n,v⟩)else s
 def fY(x:ByteArray->Int->Int->Bool)(l:List ak)(p q:ao):Bool×ao:=
 (fI l).foldl (fun s v=>(bG l v).foldl (gp x p q v) s) (false,⟨0,gH⟩)
 def qM(x:ByteArray->Int->Int->Bool)(l:List ak)(p q:ao)(s:Bool×ao):ByteArray×Int×Int×Bool×Unit:=
 if s.1 then(s.2.Value,dR (fun n=> !oz p q s.2.Value n&&x s.2.Value n s.2.an) (bG l s.2.Value).reverse s.2.an,s.2.an,true,())else(gH,0,0,false,())
 def zD(x:ByteArray->Int->Int->Bool)(p q:ao)(v:ByteArray)(s:ao)(n:Int):ao:=if bJ s ⟨n,v⟩&& !oz p q v n&&x v n n then⟨n,v⟩else s
theorem OU{x:ByteArray->Int->Int->Bool}{p q:ao}(v:ByteArray):∀(b:List Int),(∀n∈b,1<=n)->∀s:Bool×ao,s.1= !aP s.2->
  (b.foldl (gp x p q v) s).2=b.foldl (zD x p q v) s.2/\(b.foldl (gp x p q v) s).1= !aP (b.foldl (gp x p q v) s).2
 |[],_,s,h=>⟨rfl,h⟩
 |n::b,hb,s,h=>by
  rw[QU,QU];have hn:=hb n (by simp)
  have h1:(gp x p q v s n).2=zD x p q v s.2 n:=by unfold gp zD;split<;>rfl
  have h2:(gp x p q v s n).1= !aP (gp x p q v s n).2:=by
   unfold gp;split
   ·have:decide (n=0)=false:=Qh (by omega)
    simp[aP,this]
   ·exact h
  rw[<-h1];exact OU v b (fun n hn=>hb n (by simp[hn])) _ h2
theorem OV{x:ByteArray->Int->Int->Bool}{p q:ao}{l:List ak}(hl:xi l)(hlen:l.length<=1000):∀(vs:List ByteArray) (s:Bool×ao),s.1= !aP s.2->
  (vs.foldl (fun s v=>(bG l v).foldl (gp x p q v) s) s).2=vs.foldl (fun s v=>(bG l v).foldl (zD x p q v) s) s.2/\(vs.foldl (fun s v=>(bG l v).foldl (gp x p q v) s) s).1= !aP (vs.foldl (fun s v=>(bG l v).foldl (gp x p q v) s) s).2
 |[],s,h=>⟨rfl,h⟩
 |v::vs,s,h=>by
  rw[QU,QU];obtain⟨h1,h2⟩:=OU (x:=x) (p:=p) (q:=q) v (bG l v) (fun n hn=>(Ex hl hlen v n hn).1) s h
  rw[<-h1];exact OV hl hlen vs _ h2
section
variable {aG : Int} {t : ab} {l : List ak} (hl : xi l) (hlen : l.length <= 1000) {x y : ByteArray -> Int -> Int -> Bool} (hx : ∀ v lo hi, iC aG t l v lo hi = some (x v lo hi)) (hy : ∀ v lo hi, jZ aG t l v lo hi = some (y v lo hi))
 include hl hlen
section
 include hx
theorem W5(v:ByteArray)(lo hi:Int):qZ aG t l v lo hi=some (dR (fun z=>x v z hi) (bG l v).reverse lo):=by
 obtain⟨_,_,h3,_⟩:=nh hl.aN hlen v;unfold qZ;simp only[ab.eta,rD hl.aN hlen,Qa,EN _ (by omega:(bG l v).length<=1000000),bz]
 refine(uj (bG l v) (by omega) (fun lo i=>(lo,i,())) (fun lo z=>if lo<=z then .inl lo else if x v z hi then .inl z else .inr lo) (fun lo=>some lo) (fun i z a hi' hd hs=> ?_) (fun a hd=> ?_) (bG l v).length (QI _) lo).trans ?_
 ·simp only[hi',hd,hs,Qk,Qa,hx]
  by_cases h1:a<=z
  ·simp[h1]
  ·cases x v z hi<;>simp[h1]
 ·simp only[hd,Ql]
 ·rw[Q9];exact zF (fun z=>x v z hi) (fun lo=>lo) _ _
theorem Xb(v:ByteArray)(low eU:Int):lV aG t l v low eU=some ((G9 (bG l v) (x v) low eU).1,(G9 (bG l v) (x v) low eU).2,()):=by
 obtain⟨_,h2,h3,_⟩:=nh hl.aN hlen v;have hin:=Ex hl hlen v;unfold lV;simp only[ab.eta,rD hl.aN hlen,W5 hl hlen hx,Qa,EN _ (by omega:(bG l v).length<=1000000),bz]
 refine(uj (bG l v) (by omega) (fun(s:Int×Int) i=>(s.1,s.2,i,()))
  (fun s z=>if s.2<z then(if x v z z then .inr (dR (fun w=>x v w z) (bG l v).reverse (if s.2<dR (fun w=>x v w z) (bG l v).reverse z - 1\/dR (fun w=>x v w z) (bG l v).reverse z<s.1 then dR (fun w=>x v w z) (bG l v).reverse z else s.1),z,())else .inl s)
   else .inr (dR (fun w=>x v w s.2) (bG l v).reverse s.1,s.2,()))
  (fun s=>some (dR (fun w=>x v w s.2) (bG l v).reverse s.1,s.2,())) (fun i z s hi' hd hs=> ?_) (fun s hd=> ?_) (bG l v).length (QI _) (low,eU)).trans ?_
 ·have hz:z∈bG l v:=by rw[bA]at hi';exact Q7 hi'
  have hb9:=Hd (fun w=>x v w z) (bG l v).reverse z (fun w hw=>by have:=hin w (by simpa using hw);omega) (by have:=hin z hz;omega)
  simp only[hi',hd,hs,Qk,Qa,hx]
  by_cases h1:s.2<z
  ·simp only[h1,decide_true,Qk,Qt]
   cases hxz:x v z z with
   |false=>simp
   |true=>
    generalize dR (fun w=>x v w z) (bG l v).reverse z=bt at*
    have e3:ez .i64 bt 1=bt - 1:=nS (by omega) (by omega)
    simp only[Qo,Ql,e3,Qt]
    by_cases h4:s.2<bt - 1
    ·simp[h4]
    ·by_cases h5:bt<s.1
     ·simp[h4,h5,eS]
     ·simp[h4,h5,eS]
  ·simp[h1]
 ·simp only[hd,Ql,Qa]
 ·rw[Q9]
  refine(KD (low,eU) (fun z=>decide (eU<z)) (fun z=>x v z z) (fun z=>(dR (fun w=>x v w z) (bG l v).reverse (if eU<dR (fun w=>x v w z) (bG l v).reverse z - 1\/dR (fun w=>x v w z) (bG l v).reverse z<low then dR (fun w=>x v w z) (bG l v).reverse z else low),z,()))
   (dR (fun w=>x v w eU) (bG l v).reverse low,eU,()) _ _ (fun z=> ?_) rfl (fun a b h h'=> ?_) _ (List.pairwise_reverse.2 h2)).trans ?_
  ·by_cases h4:eU<z<;>simp[h4]
  ·simp only[Qi]at h' ⊢;omega
  ·unfold G9;cases (bG l v).reverse.find? (fun n=>decide (eU<n)&&x v n n)<;>rfl
 omit hl hlen hx in
theorem RU(p q:ao)(n:Int)(v:ByteArray):qY p q n v=some (!oz p q v n):=by
  simp only[qY,xE,Qa,oz];cases eN p ⟨n,v⟩<;>cases eN q ⟨n,v⟩<;>rfl
theorem Zs(p q:ao):mQ aG t l p q=some (qM x l p q (fY x l p q)):=by
 obtain⟨_,_,h3,_⟩:=xF hl.aN hlen;obtain⟨e1,e2⟩:=OV (x:=x) (p:=p) (q:=q) hl hlen (fI l) (false,⟨0,gH⟩) rfl;unfold mQ;simp only[ab.eta,HN hl.aN hlen,Qa];refine(IX (fI l) (by omega) (fun s v=>(bG l v).foldl (zD x p q v) s) (fin:=fun s=>some (qM x l p q (!aP s,s))) (fun i v b hv hd hx' hw=> ?_) (fun b hd=> ?_) ⟨0,ByteArray.mk #[]⟩).trans ?_
 ·obtain⟨_,_,g3,_⟩:=nh hl.aN hlen v;simp only[hd,hx',hw,Qk,Qa,rD hl.aN hlen];refine(IX (bG l v) (by omega) (zD x p q v) (fin:=fun s=>some (Sum.inl (((i+1:Nat):Int),s,()))) (fun i' n b' hv' hd' hx'' hw'=> ?_) (fun b' hd'=> ?_) b)
  ·simp only[hd',hx'',hw',Qk,bz,Qa,iD,RU,hx,tE];unfold zD;cases bJ b' ⟨n,v⟩<;>cases oz p q v n<;>cases x v n n<;>simp
  ·simp only[hd',Ql]
 ·obtain⟨_,_,g3,_⟩:=nh hl.aN hlen b.Value;simp only[hd,Ql,cT,Qa];unfold qM
  cases aP b with
  |true=>rfl
  |false=>
   simp only[Qp,Qt,Ql,rD hl.aN hlen,Qa,bz,EN _ (by omega:(bG l b.Value).length<=1000000)]
   refine congrArg (Option.map Sum.inr) ((uj (bG l b.Value) (by omega) (fun lo i=>(lo,i,())) (fun lo z=>if lo<=z then .inl lo else if !oz p q b.Value z&&x b.Value z b.an then .inl z else .inr (b.Value,lo,b.an,true,())) (fun lo=>some (b.Value,lo,b.an,true,())) (fun i z a hi' hd hs=> ?_) (fun a hd=> ?_) (bG l b.Value).length (QI _) b.an).trans ?_)
   ·simp only[hi',hd,hs,Qk,Qa,hx,RU]
    by_cases h1:a<=z
    ·simp[h1]
    ·cases oz p q b.Value z<;>cases x b.Value z b.an<;>simp[h1]
   ·simp only[hd,Ql]
   ·rw[Q9];exact zF (fun z=> !oz p q b.Value z&&x b.Value z b.an) (fun lo=>(b.Value,lo,b.an,true,())) _ _
 ·unfold fY;rw[show(fI l).foldl (fun s v=>(bG l v).foldl (zD x p q v) s) ⟨0,ByteArray.mk #[]⟩=((fI l).foldl (fun s v=>(bG l v).foldl (gp x p q v) s) (false,⟨0,gH⟩)).2 from e1.symm,<-e2]
end
section
 include hy
theorem Zu(v:ByteArray):mR aG t l v=some (Ec (bG l v) (y v)):=by
 obtain⟨_,h2,h3,_⟩:=nh hl.aN hlen v;unfold mR;simp only[ab.eta,rD hl.aN hlen,Qa,EN _ (by omega:(bG l v).length<=1000000),bz]
 unfold Ec;generalize bG l v=b at*
 suffices key:∀n:Nat,n<=b.length->aD _ (((n:Nat):Int) - 1,())=some (match(b.take n).reverse.find? (fun e=>y v e e)with|some e=>(dR (fun z=>y v z e) b.reverse e,e,true,())|none=>(0,0,false,()))by
  have:=key b.length (QI _);rw[Q9]at this;exact this
 intro n
 induction n with
 |zero=>
  intro _;rw[show((0:Nat):Int) - 1= -1 by omega]
  have hd:decide ((0:Int)<= -1)=false:=rfl;exact cd (by simp only[hd,Ql,Qe,List.take_zero,List.reverse_nil,List.find?_nil])
 |succ n ih=>
  intro hn;have hlt:n<b.length:=by omega
  have hxn:idx b (n:Int)=some b[n]:=by rw[bA];exact Qv hlt
  have hd:decide ((0:Int)<=(n:Int))=true:=Qg (by omega)
  have hs:ez .i64 (n:Int) 1=(n:Int) - 1:=nS (by omega) (by omega)
  rw[show((n+1:Nat):Int) - 1=(n:Int)by omega,Q6 hlt,List.reverse_append,List.reverse_singleton,List.singleton_append,List.find?_cons]
  cases hyn:y v b[n] b[n]with
  |false=>
   rw[cm (s':=((n:Int) - 1,())) (by simp only[hd,hxn,hs,hy,hyn,Qk,Qa,Qp])]
   exact ih (by omega)
  |true=>
   have hb:b=b.take n++b[n]::b.drop (n+1):=by rw[<-QM hlt,List.take_append_drop]
   have hp:(b.take n++b[n]::b.drop (n+1)).Pairwise (·<·):=hb▸h2;rw[Qq68,Q3]at hp;obtain⟨p1,⟨p2,p3⟩,p4⟩:=hp;refine cd ?_;simp only[hd,hxn,hs,hy,hyn,Qk,Ql,Qa,Qo];refine(uj b (by omega) (fun lo i=>(lo,i,())) (fun lo z=>if y v z b[n]then .inl z else .inr (.inr (lo,b[n],true,()))) (fun lo=>some (.inr (lo,b[n],true,()))) (fun i z a hi' hd' hs'=> ?_) (fun a hd'=> ?_) n (by omega) b[n]).trans ?_
   ·simp only[hi',hd',hs',Qk,Qa];cases y v z b[n]<;>simp
   ·simp only[hd',Ql,Qe]
   ·rw[HG (fun z=>y v z b[n]) (fun lo=>Sum.inr (lo,b[n],true,())) _ _ (fun z hz=>p4 z (List.mem_reverse.1 hz) _ (Qx ..)) (List.pairwise_reverse.2 p1)]
    have:dR (fun z=>y v z b[n]) b.reverse b[n]=dR (fun z=>y v z b[n]) (b.take n).reverse b[n]:=by
     have hr:b.reverse=((b.drop (n+1)).reverse++[b[n]])++(b.take n).reverse:=by
      rw[<-List.reverse_cons,<-List.reverse_append,<-hb]
     rw[hr];refine Gt _ _ _ _ fun z hz=> ?_
     rw[Qz,List.mem_reverse,Q4]at hz;rcases hz with hz|rfl
     ·exact Int.le_of_lt (p2 z hz)
     ·exact Int.le_refl _
    rw[this]
end
end
end
section
section
variable {aG : Nat} (hn : aG < 10) {t : ab} (ht : de t) {l : List ak} (hl : xi l) (hlen : l.length <= 1000)
 include hn ht hl hlen
theorem aby(b:ao):nA aG t l b=some (nF aG t l b):=by
 have hin:=w6 l;have hsm:=qp (aG:=aG) ht hl;simp only[nA,ab.eta,Ky hl.aN hlen,vI hn hl,Qa,vH hsm hn (rq hin) (rq hin)];rfl
theorem Zv(b:ao):mw aG t l b=some (me aG t l b):=by
 have hin:=w6 l;have hsm:=qp (aG:=aG) ht hl;simp only[mw,ab.eta,Ky hl.aN hlen,vI hn hl,Qa,ue hsm hn (rq hin)];rfl
 def zK(aG:Nat)(t:ab)(l:List ak)(p q:ao)(v:ByteArray):ao:=((fL l).find? (E6 (nF aG t l) p q v)).getD KQ
 def zV(aG:Nat)(t:ab)(l:List ak)(a:ao):ao:=((fL l).find? (Ff (me aG t l) a)).getD KQ
theorem Zp(p q:ao)(v:ByteArray):oE aG t l p q v=some (zK aG t l p q v):=WT hl hlen (aby hn ht hl hlen) p q v
theorem Zq(a:ao):kY aG t l a=some (zV aG t l a):=WU hl hlen (Zv hn ht hl hlen) a
end
end
section
theorem HS{α ρ:Type}(l:List α)(hl:l.length<=1000000)(p:α->Bool){step:Int×Unit->Option ((Int×Unit)⊕ρ)}{fin:Option ρ}{f:Nat->α->Option ρ}
  (h1:∀(i:Nat) (x:α),i<l.length->l[i]?=some x->decide ((i:Int)<((l.length:Nat):Int))=true->idx l (i:Int)=some x->aB .i64 (i:Int) 1=((i+1:Nat):Int)->step ((i:Int),())=bif p x then Option.map Sum.inr (f i x)else some (.inl (((i+1:Nat):Int),())))
  (h2:(∀x∈l,p x=false)->decide (((l.length:Nat):Int)<((l.length:Nat):Int))=false->step (((l.length:Nat):Int),())=Option.map Sum.inr fin):
  aD step ((0:Int),())=match l.findIdx? p with|some i=>(l[i]?).bind (f i)|none=>fin:=by
 suffices key:∀(k i:Nat),i+k=l.length->(∀x∈l.take i,p x=false)->aD step ((i:Int),())=match(l.drop i).findIdx? p with|some j=>(l[i+j]?).bind (f (i+j))|none=>fin by
  have:=key l.length 0 (by omega) (by simp)
  rw[List.drop_zero]at this;simp only[Nat.zero_add]at this;exact this
 intro k
 induction k with
 |zero=>
  intro i hi hpre;obtain rfl:i=l.length:=by omega
  rw[Q9]at hpre;rw[jr,h2 hpre (Qh (Qq63 _)),Qq65];cases fin<;>rfl
 |succ k ih=>
  intro i hi hpre;have hlt:i<l.length:=by omega
  have hx:l[i]?=some l[i]:=Qv hlt;have hs:=h1 i l[i] hlt hx (Qg (by omega)) (by rw[bA];exact hx) (bY (by omega) (by omega))
  rw[QM hlt,List.findIdx?_cons]
  cases hp:p l[i]with
  |true=>
   rw[hp]at hs;rw[jr,hs];simp only[Qk,Qt,Nat.add_zero,hx,Qa];cases f i l[i]<;>rfl
  |false=>
   rw[hp]at hs
   rw[cm hs,ih (i+1) (by omega) (fun x hx=>by
    rw[Q6 hlt,Qz,Q4]at hx;rcases hx with hx|rfl
    ·exact hpre x hx
    ·exact hp)]
   simp only[Qq,Qu]
   cases (l.drop (i+1)).findIdx? p with
   |none=>rfl
   |some j=>
    simp only[Qe];rw[show i+1+j=i+(j+1)by omega]
def I9(l:List ak)(e:ak):Nat:=(l.findIdx? fun x=>decide (e.aq<x.aq)).getD l.length
 def vL(l:List ak)(e:ak):List ak×Bool×Unit:=
 if aX e then
  match l.findIdx? fun x=>decide (x.aq=e.aq)with
  |some i=>if e.aO<=((l[i]?).getD e).aO then(l,false,())else(l.set i e,true,())
  |none=>(l.take (I9 l e)++[e]++l.drop (I9 l e),true,())
 else(l,false,())
end
section
section
variable {l : List ak} (hlen : l.length <= 1000)
 include hlen
theorem Dz(e:ak){a b:Nat}(ha:a<=b)(hb:b<=l.length):dN (0:Int) (a:Int) l.length=true/\aT 176 (List.length ((l.take (Int.toNat (a:Int))).drop (Int.toNat (0:Int))))=true/\
  aT 176 (List.length ((l.take (Int.toNat (a:Int))).drop (Int.toNat (0:Int)))+List.length [e])=true/\dN (b:Int) (l.length:Int) l.length=true/\
  aT 176 (List.length (((l.take (Int.toNat (a:Int))).drop (Int.toNat (0:Int)))++[e])+List.length ((l.take (Int.toNat (l.length:Int))).drop (Int.toNat (b:Int))))=true/\
  (((l.take (Int.toNat (a:Int))).drop (Int.toNat (0:Int)))++[e])++((l.take (Int.toNat (l.length:Int))).drop (Int.toNat (b:Int)))=l.take a++[e]++l.drop b:=by
 refine⟨by simp[dN];omega,gN (by omega) (by simp;omega),gN (by omega) (by simp;omega),by simp[dN];omega,gN (by omega) (by simp;omega),?_⟩
 simp only[QV,Int.toNat_zero,List.drop_zero,Q9]
end
theorem CR{α:Type}{p q:α->Bool}:∀{l:List α},(∀x∈l,p x=q x)->l.findIdx? p=l.findIdx? q
 |[],_=>rfl
 |x::l,h=>by rw[List.findIdx?_cons,List.findIdx?_cons,h x (by simp),CR fun y hy=>h y (by simp[hy])]
theorem Zo{l:List ak}(hl:∀x∈l,de x.aa)(hlen:l.length<=1000){e:ak}(he:de e.aa):wU l e=some (vL l e):=by
 unfold wU;simp only[ab.eta,ak.eta,iy he,Qa,bz];unfold vL
 cases aX e with
 |false=>rfl
 |true=>
  simp only[Qo,Ql,Qt];refine(HS l (by omega) (fun x=>decide (x.aq=e.aq)) (f:=fun i x=>if e.aO<=x.aO then some (l,false,())else some (l.take i++[e]++l.drop (i+1),true,())) (fin:=some (l.take (I9 l e)++[e]++l.drop (I9 l e),true,())) (fun i x hi hx0 hd hx hw=> ?_) (fun hall hd=> ?_)).trans ?_
  ·simp only[hd,hx,hw,Qk,Qa]
   cases decide (x.aq=e.aq)with
   |false=>rfl
   |true=>
    simp only[Qk];obtain⟨f1,f2,f3,f4,f5,f6⟩:=Dz hlen e (show i<=i+1 by omega) (show i+1<=l.length by omega)
    simp only[f1,f2,f3,f4,f5,f6,Qk]
    by_cases hs:e.aO<=x.aO<;>simp[hs]
  ·simp only[hd,Ql];refine congrArg (Option.map Sum.inr) ?_
   have hcg:(l.findIdx? fun x=> !decide (x.aq<e.aq))=l.findIdx? fun x=>decide (e.aq<x.aq):=CR fun x hx=>by
    have:=hall x hx;have hne:x.aq≠e.aq:=of_decide_eq_false this
    by_cases h:x.aq<e.aq
    ·have h':¬e.aq<x.aq:=by omega
     simp[h,h']
    ·have h':e.aq<x.aq:=by omega
     simp[h,h']
   refine(HS l (by omega) (fun x=> !decide (x.aq<e.aq)) (f:=fun i x=>some (l.take i++[e]++l.drop i,true,())) (fin:=some (l.take l.length++[e]++l.drop l.length,true,())) (fun i x hi hx0 hd hx hw=> ?_) (fun _ hd=> ?_)).trans ?_
   ·simp only[hd,hx,hw,Qk,Qa]
    cases decide (x.aq<e.aq)with
    |true=>rfl
    |false=>
     simp only[Ql,Qp,Qk];obtain⟨f1,f2,f3,f4,f5,f6⟩:=Dz hlen e (QI i) (show i<=l.length by omega)
     simp only[f1,f2,f3,f4,f5,f6,Qk]
   ·simp only[hd,Ql];obtain⟨f1,f2,f3,f4,f5,f6⟩:=Dz hlen e (QI l.length) (QI _);simp only[f1,f2,f3,f4,f5,f6,Qk]
   ·rw[hcg];unfold I9
    cases h:l.findIdx? fun x=>decide (e.aq<x.aq)with
    |none=>rfl
    |some i=>
     have hi:=(List.findIdx?_eq_some_iff_getElem.1 h).1;simp only[Qv hi,Qa,Q2]
  ·cases h:l.findIdx? fun x=>decide (x.aq=e.aq)with
   |none=>rfl
   |some i=>
    have hi:=(List.findIdx?_eq_some_iff_getElem.1 h).1;simp only[Qv hi,Qa,Q2]
    by_cases hs:e.aO<=l[i].aO
    ·simp[hs]
    ·simp only[hs,Qu];rw[List.set_eq_take_append_cons_drop,Qr hi];simp
end
section
structure sS (m:ah):Prop where
 n0:0<=m.aq
 n1:m.aq<10
 aN:de m.aa
 len:m.aF.length<=100
 sm:∀e∈m.aF,de e.aa
 valid:∀e∈m.aF,aX e=true
theorem Cw{m:ah}{e:ak}(h:e∈cg m):e∈m.aF\/(aP m.aj=false/\e=gL m):=by
 unfold cg at h;split at h
 ·exact .inl h
 ·rename_i hz;rw[(D6 _ _).mem_iff,Qz,Q4]at h;rcases h with h|h
  ·exact .inl h
  ·exact .inr ⟨by simpa using hz,h⟩
theorem Ye(m:ah):(cg m).length<=m.aF.length+1:=by
 unfold cg;split
 ·omega
 ·rw[(D6 _ _).length_eq,QB,Q5];omega
theorem BV(m:ah):(gL m).aa=m.aa:=o3 m
theorem sS.sD{m:ah}(h:sS m):xi (cg m)/\(cg m).length<=1000:=by
 have h1:=Ye m;have h2:=h.len;refine⟨⟨by omega,fun e he=> ?_⟩,by omega⟩
 rcases Cw he with he|⟨_,rfl⟩
 ·exact h.sm e he
 ·rw[BV];exact h.aN
theorem sS.aG{m:ah}(h:sS m):((m.aq.toNat:Nat):Int)=m.aq/\m.aq.toNat<10:=by
 have:=h.n0;have:=h.n1;omega
def ij(b:ao):ao:=if 1000<b.an then⟨1000,b.Value⟩else b
theorem adT(b:ao):oD b=some (ij b):=XN b
def ff(p q b:ao):ao×ao:=
 if aP b=true then(p,q)else if aP p=true then(b,q)else if bJ p b=true then(if cS p b=true then(b,if cS q b=true then cq else q)else(b,p))
 else if(bJ b p&& !cS b p&&(aP q||bJ q b))=true then(p,b)else(p,q)
theorem ab1(p q b:ao):vk p q b=some ((ff p q b).1,(ff p q b).2,()):=by
 unfold vk ff;simp only[cT,iD,ft,Qa,bz];cases aP b<;>cases aP p<;>cases bJ p b<;>cases cS p b<;>cases cS q b<;>cases bJ b p<;>cases cS b p<;>cases aP q<;>cases bJ q b<;>rfl
def Hs(m:ah):ByteArray:=if m.ba=2 then m.aj.Value else gH
 def fo(m:ah):ao:=zK m.aq.toNat m.aa (cg m) m.av m.aJ (Hs m)
def sn(m:ah)(p q:ao):Int:=
 if m.ba=1/\m.bf≠0 then(if eZ m<oq m.aj.Value m.bf p q then 0 else oq m.aj.Value m.bf p q)else m.bf
 def dP(m:ah):ah:=
 if m.ba=3\/aP m.aj=true then m else
  {m with av:=(ff m.av m.aJ (ij (fo m))).1,aJ:=(ff m.av m.aJ (ij (fo m))).2,bf:=sn m (ff m.av m.aJ (ij (fo m))).1 (ff m.av m.aJ (ij (fo m))).2}
theorem abq{m:ah}(h:sS m)(p q:ao)(v:ByteArray):oE m.aq m.aa (cg m) p q v=some (zK m.aq.toNat m.aa (cg m) p q v):=by
 have:=Zp h.aG.2 h.aN h.sD.1 h.sD.2 p q v
 rwa [h.aG.1]at this
theorem abu{m:ah}(h:sS m)(a:ao):kY m.aq m.aa (cg m) a=some (zV m.aq.toNat m.aa (cg m) a):=by
 have:=Zq h.aG.2 h.aN h.sD.1 h.sD.2 a
 rwa [h.aG.1]at this
theorem SY{m:ah}(h:sS m):pa m=some (dP m):=by
 have hl:m.aF.length<=1000:=by have:=h.len;omega
 unfold pa dP;simp only[ah.eta,ab.eta,cT,Jd hl,abq h,adT,ab1,uH,Nx,Qa,bz]
 by_cases h3:m.ba=3
 ·rw[Qg h3,Qr (.inl h3)];rfl
 ·rw[Qh h3]
  cases hz:aP m.aj with
  |true=>rw[Qr (.inr rfl)];rfl
  |false=>
   rw[Qs (by simp[h3])]
   simp only[Ql,Qa]
   by_cases h2:m.ba=2
   ·have h1:¬m.ba=1:=by omega
    simp only[Qg h2,Qk,sn,Hs,fo,Qr h2,h1,false_and,Qu];rfl
   ·simp only[Qh h2,Ql];have hv:ByteArray.mk #[]=Hs m:=by simp only[Hs,Qs h2];rfl
    rw[hv];have hn:zK m.aq.toNat m.aa (cg m) m.av m.aJ (Hs m)=fo m:=rfl;simp only[hn]
    by_cases h1:m.ba=1
    ·have hh:∀p q:ao,(cR {m with av:=p,aJ:=q}).bM=eZ m:=fun p q=>by unfold cR;rw[Qr (show({m with av:=p,aJ:=q}:ah).ba=1 from h1)];rfl
     simp only[Qg h1,Qk,Qa]
     by_cases hL:m.bf=0
     ·rw[Qg hL];unfold sn;rw[Qs (fun h=>h.2 hL)]
      rfl
     ·rw[Qh hL];unfold sn;rw[Qr ⟨h1,hL⟩];simp only[Qp,Qk];rw[show(cR (ah.mk m.aq m.aE m.aO m.aa m.ba m.aj (ff m.av m.aJ (ij (fo m))).1 (ff m.av m.aJ (ij (fo m))).2 m.aC m.bf m.bM m.bU m.aF)).bM=eZ m from hh _ _]
      by_cases hlt:eZ m<oq m.aj.Value m.bf (ff m.av m.aJ (ij (fo m))).1 (ff m.av m.aJ (ij (fo m))).2
      ·rw[Qg hlt,Qr hlt];rfl
      ·rw[Qh hlt,Qs hlt];rfl
    ·rw[Qh h1];unfold sn;rw[Qs (fun h=>h1 h.1)]
     rfl
 def jI(m:ah):ao:=zV m.aq.toNat m.aa (cg m) m.aC
def yT(m:ah)(b:ao):ah:=
 if bJ m.aj b=true then{m with aC:=b,aj:=b,bf:=if cS m.aj b=true then m.bf else 0}else{m with aC:=b}
def oT(m:ah)(b:ao):ah:=
 if m.bf=0/\cS m.aj b=true/\oq b.Value m.aj.an m.av m.aJ<=b.an then{m with bf:=oq b.Value m.aj.an m.av m.aJ}else m
 def iz(m:ah):ah:=
 if m.ba≠1\/aP m.aj=true\/aP (jI m)=true then m else oT (yT m (jI m)) (jI m)
theorem Jk(m:ah)(b:ao){α:Type}(j:ah->Option α):
  ((bif decide (m.bf=(0:Int))then some (cS m.aj b)else some false).bind fun x=>bif x then(bif decide (oq b.Value m.aj.an m.av m.aJ<=b.an)then j {m with bf:=oq b.Value m.aj.an m.av m.aJ}else j m)else j m)=j (oT m b):=by
 unfold oT
 by_cases hL:m.bf=0
 ·rw[Qg hL]
  cases hc:cS m.aj b with
  |true=>
   by_cases hle:oq b.Value m.aj.an m.av m.aJ<=b.an
   ·rw[Qr ⟨hL,rfl,hle⟩,Qg hle];rfl
   ·rw[Qs (fun h=>hle h.2.2),Qh hle];rfl
  |false=>
   rw[Qs (fun h=>by cases h.2.1)];rfl
 ·rw[Qh hL,Qs (fun h=>hL h.1)];rfl
theorem PU{m:ah}(h:sS m):nZ m=some (iz m):=by
 have hl:m.aF.length<=1000:=by have:=h.len;omega
 unfold nZ iz;simp only[ah.eta,ab.eta,cT,Jd hl,abu h,Nx,Qa,bz,ft,iD];have hb:zV m.aq.toNat m.aa (cg m) m.aC=jI m:=rfl;simp only[hb]
 by_cases h1:m.ba=1
 ·rw[Qg h1]
  cases hz:aP m.aj with
  |true=>rw[Qr (.inr (.inl rfl))];rfl
  |false=>
   cases hzb:aP (jI m)with
   |true=>rw[Qr (.inr (.inr rfl))];rfl
   |false=>
    rw[Qs (by simp[h1])]
    simp only[Qo,Ql,Qa];unfold yT
    cases hlt:bJ m.aj (jI m)with
    |true=>
     cases hcp:cS m.aj (jI m)with
     |true=>simp only[Qk,Qo,Ql,Qt];exact Jk {m with aC:=jI m,aj:=jI m} (jI m) some
     |false=>simp only[Qk,Qp,Qt,Qq,Qu];exact Jk {m with aC:=jI m,aj:=jI m,bf:=0} (jI m) some
    |false=>simp only[Ql,Qq,Qu];exact Jk {m with aC:=jI m} (jI m) some
 ·rw[Qh h1,Qr (.inl h1)];rfl
section
variable {aG : Nat} (hn : aG < 10) {t : ab} (ht : de t) {l : List ak} (hl : xi l) (hlen : l.length <= 1000)
 include hn ht hl hlen
theorem Ro(v:ByteArray)(lo hi:Int):iC aG t l v lo hi=some (nb aG t l v lo hi):=by
 have hin:=w6 l;have hsm:=qp (aG:=aG) ht hl;simp only[iC,ab.eta,Kx hl.aN hlen,vI hn hl,Qa,vH hsm hn (rq hin) (rq hin)];rfl
theorem Xd(v:ByteArray)(lo hi:Int):jZ aG t l v lo hi=some (wa aG t l v lo hi):=by
 have hin:=w6 l;have hsm:=qp (aG:=aG) ht hl;simp only[jZ,ab.eta,Kx hl.aN hlen,vI hn hl,Qa,ue hsm hn (rq hin)];rfl
theorem Xa(p q:ao):mQ aG t l p q=some (qM (nb aG t l) l p q (fY (nb aG t l) l p q)):=Zs hl hlen (Ro hn ht hl hlen) p q
theorem abw(v:ByteArray)(low eU:Int):lV aG t l v low eU=some ((G9 (bG l v) (nb aG t l v) low eU).1,(G9 (bG l v) (nb aG t l v) low eU).2,()):=Xb hl hlen (Ro hn ht hl hlen) v low eU
theorem abv(v:ByteArray):mR aG t l v=some (Ec (bG l v) (wa aG t l v)):=Zu hl hlen (Xd hn ht hl hlen) v
end
 def fS(m:ah):ByteArray->Int->Int->Bool:=nb m.aq.toNat m.aa (cg m)
 def Hw(m:ah):ByteArray->Int->Int->Bool:=wa m.aq.toNat m.aa (cg m)
 def jU(m:ah):ByteArray×Int×Int×Bool×Unit:=qM (fS m) (cg m) m.av m.aJ (fY (fS m) (cg m) m.av m.aJ)
 def ec(m:ah):Int×Int:=G9 (bG (cg m) m.aj.Value) (fS m m.aj.Value) m.bf m.bM
 def mK(m:ah):Int×Int×Bool×Unit:=Ec (bG (cg m) m.aj.Value) (Hw m m.aj.Value)
theorem Zt{m:ah}(h:sS m):mQ m.aq m.aa (cg m) m.av m.aJ=some (jU m):=by
 have:=Xa h.aG.2 h.aN h.sD.1 h.sD.2 m.av m.aJ
 rwa [h.aG.1]at this
theorem adg{m:ah}(h:sS m):lV m.aq m.aa (cg m) m.aj.Value m.bf m.bM=some ((ec m).1,(ec m).2,()):=by
 have:=abw h.aG.2 h.aN h.sD.1 h.sD.2 m.aj.Value m.bf m.bM
 rwa [h.aG.1]at this
theorem adf{m:ah}(h:sS m):mR m.aq m.aa (cg m) m.aj.Value=some (mK m):=by
 have:=abv h.aG.2 h.aN h.sD.1 h.sD.2 m.aj.Value
 rwa [h.aG.1]at this
def Kb(m:ah)(v:ByteArray)(lo hi:Int):ah:=
 {m with aj:=if(!cS m.aj ⟨hi,v⟩||bJ m.aj ⟨hi,v⟩)=true then⟨bV m.aj.an hi,v⟩else m.aj,av:=if kI m.av ⟨hi,v⟩=true then m.av else⟨hi,v⟩,ba:=2,bf:=lo,bM:=hi,aC:=⟨hi,v⟩,aJ:=cq}
def xC(m:ah)(lo hi:Int):ah:=
 {m with aj:=⟨bV m.aj.an hi,m.aj.Value⟩,av:=⟨bV m.av.an hi,m.av.Value⟩,aC:=⟨bV m.aC.an hi,m.aj.Value⟩,bf:=lo,bM:=hi}
 def gG(m:ah):ah:=
 if m.ba=1 then(if(jU m).2.2.2.1=true then Kb m (jU m).1 (jU m).2.1 (jU m).2.2.1 else m)
 else if m.ba=2 then xC m (ec m).1 (ec m).2 else m
theorem PW{m:ah}(h:sS m):oa m=some (gG m):=by
 have hl:m.aF.length<=1000:=by have:=h.len;omega
 unfold oa gG;simp only[ah.eta,ab.eta,cT,Jd hl,Zt h,adg h,Qa,bz,ft,iD,xD]
 by_cases h1:m.ba=1
 ·rw[Qg h1,Qr h1]
  cases hk:(jU m).2.2.2.1 with
  |false=>simp only[Qk,Qp,Qq,Qu]
  |true=>
   simp only[Qk,Qo,Ql,Qt];unfold Kb;cases cS m.aj ⟨(jU m).2.2.1,(jU m).1⟩<;>cases bJ m.aj ⟨(jU m).2.2.1,(jU m).1⟩<;>cases kI m.av ⟨(jU m).2.2.1,(jU m).1⟩<;>rfl
 ·rw[Qh h1,Qs h1]
  by_cases h2:m.ba=2
  ·rw[Qg h2,Qr h2];rfl
  ·rw[Qh h2,Qs h2];rfl
def I1(m:ah)(lo hi:Int):ah:={m with ba:=3,bf:=lo,bM:=hi,aj:=⟨hi,m.aj.Value⟩,av:=cq,aJ:=cq,aC:=cq}
 def kj(m:ah):ah:=if m.ba=2/\(mK m).2.2.1=true then I1 m (mK m).1 (mK m).2.1 else m
theorem aaj{m:ah}(h:sS m):ta m=some (kj m):=by
 have hl:m.aF.length<=1000:=by have:=h.len;omega
 unfold ta kj;simp only[ah.eta,ab.eta,Jd hl,adf h,Qa]
 by_cases h2:m.ba=2
 ·rw[Qg h2]
  cases hk:(mK m).2.2.1 with
  |false=>rw[Qs (fun h=>by cases h.2)];rfl
  |true=>rw[Qr ⟨h2,rfl⟩];rfl
 ·rw[Qh h2,Qs (fun h=>h2 h.1)];rfl
end
section
theorem Et{α β ρ:Type}(l:List α)(hl:l.length<=1000)(f:α->β){step:Int×List β×Unit->Option ((Int×List β×Unit)⊕ρ)}{fin:List β->Option ρ}
  (h1:∀(i:Nat) (e:α) (s:List β),s.length<=1000->e∈l->decide ((i:Int)<((l.length:Nat):Int))=true->idx l (i:Int)=some e->aB .i64 (i:Int) 1=((i+1:Nat):Int)->step ((i:Int),s,())=some (.inl (((i+1:Nat):Int),s++[f e],())))
  (h2:∀s,decide (((l.length:Nat):Int)<((l.length:Nat):Int))=false->step (((l.length:Nat):Int),s,())=Option.map Sum.inr (fin s)):aD step ((0:Int),[],())=fin (l.map f):=by
 suffices key:∀(k i:Nat) (s:List β),i+k=l.length->s.length=i->aD step ((i:Int),s,())=fin (s++(l.drop i).map f)by
  have:=key l.length 0 [] (by omega) rfl
  simpa using this
 intro k
 induction k with
 |zero=>
  intro i s hi hs;obtain rfl:i=l.length:=by omega
  have hd:decide (((l.length:Nat):Int)<((l.length:Nat):Int))=false:=Qh (Qq63 _);have h:=h2 s hd;rw[Qq65,QO,List.append_nil]
  cases hf:fin s with
  |none=>rw[hf]at h;exact ur h
  |some r=>rw[hf]at h;exact cd h
 |succ k ih=>
  intro i s hi hs;have hlt:i<l.length:=by omega
  rw[cm (h1 i l[i] s (by omega) (QZ hlt) (Qg (by omega)) (by rw[bA];exact Qv hlt) (bY (by omega) (by omega))),ih (i+1) (s++[f l[i]]) (by omega) (by simp;omega),
   QM hlt,QD,QL]
  rfl
def IT(z:ao):List ao->ao
 |[]=>z
 |x::l=>l.foldl (fun a y=>if bJ a y=true then y else a) x
theorem Tq(l:List ao)(hl:l.length<=1000000)(z:ao){step:Int×ao×Unit->Option ((Int×ao×Unit)⊕ao)}
  (h1:∀(i:Nat) (x s:ao),decide ((i:Int)<((l.length:Nat):Int))=true->idx l (i:Int)=some x->aB .i64 (i:Int) 1=((i+1:Nat):Int)->step ((i:Int),s,())=some (.inl (((i+1:Nat):Int),(if i=0 then x else if bJ s x=true then x else s),())))
  (h2:∀s,decide (((l.length:Nat):Int)<((l.length:Nat):Int))=false->step (((l.length:Nat):Int),s,())=some (.inr s)):aD step ((0:Int),z,())=some (IT z l):=by
 have hd:decide (((l.length:Nat):Int)<((l.length:Nat):Int))=false:=Qh (Qq63 _)
 have key:∀(k i:Nat) (s:ao),i+k=l.length->1<=i->aD step ((i:Int),s,())=some ((l.drop i).foldl (fun a y=>if bJ a y=true then y else a) s):=by
  intro k
  induction k with
  |zero=>
   intro i s hi h1i;obtain rfl:i=l.length:=by omega
   rw[Qq65];exact cd (h2 s hd)
  |succ k ih=>
   intro i s hi h1i;have hlt:i<l.length:=by omega
   rw[cm (h1 i l[i] s (Qg (by omega)) (by rw[bA];exact Qv hlt) (bY (by omega) (by omega))),ih (i+1) _ (by omega) (by omega),QM hlt,QU,Qs (by omega:¬i=0)]
 cases l with
 |nil=>exact cd (h2 z hd)
 |cons x l=>
  have hx:=h1 0 x z (Qg (by simp)) (by rw[bA];rfl) (bY (by omega) (by omega))
  rw[Qr rfl]at hx;exact(cm hx).trans (key l.length 1 x (by simp;omega) (by omega))
theorem Z5(l:List ao)(hl:l.length<=1000000):my l=some (IT cq l):=by
 unfold my;refine Tq l hl cq (fun i x s hd hx hw=> ?_) (fun s hd=> ?_)
 ·simp only[hd,hx,hw,Qk,bz,Qa,iD]
  by_cases hi:i=0
  ·subst hi;rfl
  ·have:decide ((i:Int)=0)=false:=Qh (by omega)
   rw[this,Qs hi];cases bJ s x<;>rfl
 ·simp only[hd,Ql,Qe]
def dB(m:ah):ByteArray:=
 if aP m.aC=false then m.aC.Value else if m.ba≠1 then m.aj.Value else if m.bU≠gH then m.bU else(IT cq (m.aF.map (·.aj))).Value
theorem Jl{m:ah}(h:sS m):lu m=some (dB m):=by
 have hl:m.aF.length<=1000:=by have:=h.len;omega
 unfold lu dB;simp only[cT,Qa]
 cases hz:aP m.aC with
 |false=>rfl
 |true=>
  simp only[Qo,Ql,Bool.true_eq_false,Qu]
  by_cases h1:m.ba=1
  ·rw[Qg h1,Qs (fun h=>h h1)]
   simp only[Qo,Ql]
   by_cases hp:m.bU=gH
   ·have hp':decide (m.bU=ByteArray.mk #[])=true:=Qg hp;rw[hp',Qs (fun h=>h hp)]
    simp only[Qo,Ql]
    rw[Et m.aF hl (·.aj) (fin:=fun s=>Option.bind (my s) fun r=>some r.Value) (fun i e s hs he hd hx hw=>by
     simp only[hd,hx,hw,Qk,Qa]
     rw[br (by simp;omega),Qk]) (fun s hd=>by simp only[hd,Ql]),Z5 _ (by simp;omega)]
    rfl
   ·have hp':decide (m.bU=ByteArray.mk #[])=false:=Qh hp;rw[hp',Qr hp];rfl
  ·rw[Qh h1,Qr h1];rfl
theorem BQ{e:ak}(h:de e.aa)(hv:aX e=true):jz e=some (gQ e):=by
 simp only[jz,ab.eta,ak.eta,iy h,Qa,hv,gQ]
 by_cases h3:e.az=3
 ·rw[Qg h3,Qr h3];rfl
 ·rw[Qh h3,Qs h3];rfl
def ED(m:ah)(n:Int):Nat:=iH (fun e=>decide (n<gQ e)) m.aF
 def jv(m:ah)(n:Int):Bool:=Bp (ji m.aq.toNat m.aa (cg m)) m.aq.toNat (ED m n)
theorem sS.RM{m:ah}(h:sS m):Fw m.aF:=fun e he=>kE (h.valid e he)
theorem Wm{m:ah}(h:sS m)(n:Int):ED m n<1024:=rq h.RM
theorem Sa{m:ah}(h:sS m)(n:Int):pH m n=some (jv m n):=by
 have hl:m.aF.length<=1000:=by have:=h.len;omega
 unfold pH
 rw[Et m.aF hl (fun e=>decide (n<gQ e)) (fin:=fun s=>Option.bind (jm m) fun r4=>Option.bind (gX m.aq m.aa r4) fun r5=>Option.bind (fb m.aF s) fun r6=>Option.bind (lX r5 m.aq r6) fun r7=>some r7)
  (fun i e s hs he hd hx hw=>by
   simp only[hd,hx,hw,Qk,Qa,ab.eta,ak.eta,BQ (h.sm e he) (h.valid e he)]
   rw[br (by simp;omega),Qk])
  (fun s hd=>by simp only[hd,Ql,ah.eta,ab.eta])]
 have hv:=vI h.aG.2 (t:=m.aa) h.sD.1;have hb:=HP (qp (aG:=m.aq.toNat) h.aN h.sD.1) (v:=m.aq.toNat) (Wm h n);rw[h.aG.1]at hv hb;rw[Jd hl,Qa,hv,Qa,wg m.aF hl _ (fun e he _=>h.RM e he),Qa,show iH (fun e=>decide (n<gQ e)) m.aF=ED m n from rfl,hb]
 rfl
 def lS(m:ah)(Cq:Int)(e:ak):Int:=
 if m.aj.an<gQ e/\gQ e<Cq/\jv m (gQ e)=false then gQ e else Cq
 def gS(m:ah):Int:=m.aF.foldl (lS m) 1000000
 def qD(m:ah):ByteArray:=if m.ba=1 then dB m else m.aj.Value
 def fC(m:ah):ah:=
 if m.ba=3\/jv m m.aj.an=false then m
 else{m with bf:=if qD m=m.aj.Value then m.bf else 0,aj:=⟨bV m.aj.an (eS (gS m) 1000),qD m⟩}
open Classical in
theorem X6{m:ah}(h:sS m){ρ:Type}{step:Int×Int×Unit->Option ((Int×Int×Unit)⊕ρ)}{fin:Int->Option ρ}
  (h1:∀(i:Nat) (e:ak) (s:Int),e∈m.aF->decide ((i:Int)<((m.aF.length:Nat):Int))=true->idx m.aF (i:Int)=some e->aB .i64 (i:Int) 1=((i+1:Nat):Int)->step (s,(i:Int),())=some (.inl (lS m s e,((i+1:Nat):Int),())))
  (h2:∀s,decide (((m.aF.length:Nat):Int)<((m.aF.length:Nat):Int))=false->step (s,((m.aF.length:Nat):Int),())=Option.map Sum.inr (fin s)):aD step ((1000000:Int),(0:Int),())=fin (gS m):=by
 have hl:=h.len
 have key:=gf m.aF (by omega) (fun i s=>(s,i,())) (fun e s=>if e∈m.aF then some (.inl (lS m s e))else none) fin (step:=step) (fun i x s hd hx hw=>by
  have hm:x∈m.aF:=by rw[bA]at hx;exact Q7 hx
  rw[h1 i x s hm hd hx hw,Qr hm]) (fun s hd=>h2 s hd) 1000000
 refine key.trans ?_;unfold gS
 suffices h3:∀(l:List ak),(∀e∈l,e∈m.aF)->∀s,dQ (fun e s=>if e∈m.aF then some (Sum.inl (β:=ρ) (lS m s e))else none) fin l s=fin (l.foldl (lS m) s)from h3 _ (fun e he=>he) _
 intro l
 induction l with
 |nil=>intro _ s;rfl
 |cons x l ih=>
  intro hx s;rw[dQ,Qr (hx x Qx),QU];exact ih (fun e he=>hx e (Qy _ he)) _
theorem X5{m:ah}(h:sS m):rW m=some (fC m):=by
 unfold rW fC;simp only[ah.eta,ab.eta,Sa h,Jl h,Qa]
 by_cases h3:m.ba=3
 ·rw[Qg h3,Qr (.inl h3)];rfl
 ·rw[Qh h3]
  cases ha:jv m m.aj.an with
  |false=>rw[Qr (.inr rfl)];rfl
  |true=>
   rw[Qs (by simp[h3])]
   simp only[Ql,Qo];refine(X6 h (fin:=fun c=>some {m with bf:=if qD m=m.aj.Value then m.bf else 0,aj:=⟨bV m.aj.an (eS c 1000),qD m⟩}) (fun i e s he hd hx hw=> ?_) (fun s hd=> ?_)).trans rfl
   ·simp only[hd,hx,hw,Qk,bz,Qa,ab.eta,ak.eta,BQ (h.sm e he) (h.valid e he),Sa h];unfold lS
    by_cases c1:m.aj.an<gQ e
    ·by_cases c2:gQ e<s
     ·rw[Qg c1,Qg c2]
      cases c3:jv m (gQ e)with
      |true=>rw[Qs (by simp)];rfl
      |false=>rw[Qr ⟨c1,c2,rfl⟩];rfl
     ·rw[Qg c1,Qh c2,Qs (fun h=>c2 h.2.1)];rfl
    ·rw[Qh c1,Qs (fun h=>c1 h.1)];rfl
   ·simp only[hd,Ql,bz];unfold qD
    by_cases h1:m.ba=1
    ·rw[Qg h1,Qr h1]
     by_cases hv:dB m=m.aj.Value
     ·simp only[Qk,Qg hv,Qo,Ql,Qr hv]
     ·simp only[Qk,Qh hv,Qp,Qs hv]
    ·rw[Qh h1,Qs h1];simp only[Ql,decide_true,Qo,Qt]
end
section
def cU(b:ao):Prop:=1<=b.an/\b.an<=1000/\1<=b.Value.size/\b.Value.size<=200
theorem cU.valid{b:ao}(h:cU b):dJ b=true:=by
 obtain⟨h1,h2,h3,h4⟩:=h;simp only[dJ,Qm,Qn,Qi];exact⟨⟨.inl ⟨h1,h2⟩,h3⟩,h4⟩
theorem cU.finite{b:ao}(h:cU b):finite b=true:=by
 unfold Go.Proofs.YtnhgcpiljggmmaaGreatDoor.finite;rw[h.valid,Qg h.2.1];rfl
theorem RW{b:ao}(h:dJ b=true)(hc:b.an<=1000):cU b:=by
 simp only[dJ,Qm,Qn,Qi]at h;obtain⟨⟨h1,h2⟩,h3⟩:=h;exact⟨by omega,hc,h2,h3⟩
theorem cU.nz{b:ao}(h:cU b):aP b=false:=Ic h.1
theorem cU.ne{b:ao}(h:cU b):b.Value≠gH:=by
 intro e;have:=h.2.2.1;rw[e]at this;exact absurd this (by decide)
theorem zy{b:ao}:aP b=true↔b=cq:=by
 obtain⟨c,v⟩:=b;simp[aP,cq]
theorem cp:aP cq=true:=zy.2 rfl
structure P1 (m:ah):Prop where
 bn:m.ba=1
 bc:cU m.aj
 dt:m.av=cq\/cU m.av
 dO:m.aJ=cq\/(cU m.aJ/\cU m.av/\bJ m.aJ m.av=true/\cS m.aJ m.av=false)
 dU:m.aC=cq\/(cU m.aC/\fj m.av m.aJ m.aC=true)
 up:bJ m.aj m.aC=false
 eU:m.bM=0
 low:m.bf=0\/(1<=m.bf/\m.bf<=eZ m/\oz m.av m.aJ m.aj.Value m.bf=false)
structure P2 (m:ah):Prop where
 bn:m.ba=2
 bc:cU m.aj
 dt:cU m.av/\m.av.Value=m.aj.Value
 dO:m.aJ=cq
 dU:m.aC=cq\/(cU m.aC/\m.aC.Value=m.aj.Value)
 range:1<=m.bf/\m.bf<=m.bM/\m.bM<=m.av.an
structure P3 (m:ah):Prop where
 bn:m.ba=3
 bc:cU m.aj
 dt:m.av=cq
 dO:m.aJ=cq
 dU:m.aC=cq
 range:1<=m.bf/\m.bf<=m.bM/\m.bM<=1000
structure P0 (m:ah):Prop where
 bn:m.ba=1
 bc:m.aj=cq
 dt:m.av=cq
 dO:m.aJ=cq
 dU:m.aC=cq
 low:m.bf=0
 eU:m.bM=0
structure bK (m:ah):Prop where
 n0:0<=m.aq
 n1:m.aq<10
 bj:1<=m.aE/\m.aE<=1000000
 seq:0<=m.aO/\m.aO<=1000000
 aN:cG m.aa
 tt:m.bU.size<=200
 hv:∀e∈m.aF,aX e=true/\cG e.aa/\e.aE=m.aE/\e.aq≠m.aq
 gJ:m.aF.Pairwise (fun a b=>a.aq<b.aq)
 body:P0 m\/P1 m\/P2 m\/P3 m
theorem HB:∀(l:List ak) (k:Nat),k<=10->(∀e∈l,(k:Int)<=e.aq/\e.aq<10)->l.Pairwise (fun a b=>a.aq<b.aq)->l.length+k<=10
 |[],k,hk,_,_=>by simpa using hk
 |x::l,k,hk,h,hp=>by
  rw[Q3]at hp;have hx:=h x Qx;have:=HB l (k+1) (by omega) (fun e he=>⟨by have:=hp.1 e he;omega,(h e (Qy _ he)).2⟩) hp.2
  rw[QE];omega
theorem bK.len{m:ah}(h:bK m):m.aF.length<=10:=by
 have:=HB m.aF 0 (by omega) (fun e he=>by have:=kE (h.hv e he).1;omega) h.gJ
 omega
theorem bK.ev{m:ah}(h:bK m):sS m:=
 ⟨h.n0,h.n1,h.aN.sm,by have:=h.len;omega,fun e he=>(h.hv e he).2.1.sm,fun e he=>(h.hv e he).1⟩
theorem IN{m:ah}(h:P1 m):0<=eZ m/\eZ m<=m.aj.an/\(eZ m=0\/(cU m.aC/\m.aC.Value=m.aj.Value/\eZ m=m.aC.an)):=by
 unfold eZ;split
 ·rename_i hc;simp only[Qm,Bool.not_eq_true',cS,Qi]at hc;rcases h.dU with e|⟨hf,_⟩
  ·rw[e,cp]at hc;cases hc.1
  ·have hup:=h.up;unfold bJ at hup;split at hup
   ·rename_i e;exact⟨by have:=hf.1;omega,by omega,.inr ⟨hf,hc.2,rfl⟩⟩
   ·simp only[Qj]at hup;exact⟨by have:=hf.1;omega,by omega,.inr ⟨hf,hc.2,rfl⟩⟩
 ·exact⟨Int.le_refl _,by have:=h.bc.1;omega,.inl rfl⟩
theorem KO{m:ah}(h:bK m)(hz:aP m.aj=false):aX (gL m)=true:=by
 have hseq:1<=(gL m).aO/\(gL m).aO<=1000000:=by
  have h1:(gL m).aO=bV m.aO 1:=by show bV (cR m).aO 1=_;rw[OA]
  have:=h.seq;rw[h1];unfold bV;split<;>omega
 have hnode:(gL m).aq=m.aq:=Ei m;have hslot:(gL m).aE=m.aE:=Li m
 have hhead:Ea (gL m)=true:=by
  unfold Ea;rw[hnode,hslot];simp only[Qm,Qi];exact⟨⟨⟨⟨⟨h.n0,h.n1⟩,h.bj.1⟩,h.bj.2⟩,hseq.1⟩,hseq.2⟩
 unfold aX;rw[BV,wZ h.aN];unfold lY;rw[hhead];have hkind:(gL m).az=m.ba:=V0 m;rw[hkind];rcases h.body with h0|h1|h2|h3
 ·rw[h0.bc,cp]at hz;cases hz
 ·rw[Qr h1.bn];have hh:=IN h1;have e:gL m=⟨m.aq,m.aE,bV (cR m).aO 1,m.aa,m.ba,m.aj,m.av,m.aJ,m.bf,eZ m⟩:=by unfold gL cR;rw[Qr h1.bn]
  have hp:(aP m.av||dJ m.av)=true:=by
   rcases h1.dt with e|hf
   ·rw[e,cp];rfl
   ·rw[hf.valid,Bool.or_true]
  have hq:(aP m.aJ||dJ m.aJ)=true:=by
   rcases h1.dO with e|hf
   ·rw[e,cp];rfl
   ·rw[hf.1.valid,Bool.or_true]
  have hpo:E1 (gL m)=true:=by
   rw[e];unfold E1;rcases h1.dO with e|⟨_,hf,hl,hc⟩
   ·simp only[e,cp,Bool.true_or]
   ·simp only[hf.nz,hl,hc,Qp,Bool.and_self,Bool.or_true]
  have hhp:(decide (eZ m=0)||fj m.av m.aJ ⟨eZ m,m.aj.Value⟩)=true:=by
   rcases hh.2.2 with e|⟨hf,hv,e⟩
   ·rw[Qg e];rfl
   ·rw[e,<-hv];rcases h1.dU with e2|⟨_,hp⟩
    ·have:=hf.nz;rw[e2,cp]at this;cases this
    ·rw[hp,Bool.or_true]
  have hlow:0<=m.bf/\m.bf<=eZ m/\(decide (m.bf=0)||(!eN m.av ⟨m.bf,m.aj.Value⟩&& !eN m.aJ ⟨m.bf,m.aj.Value⟩))=true:=by
   rcases h1.low with e|⟨h5,h6,h7⟩
   ·rw[e];exact⟨Int.le_refl _,hh.1,rfl⟩
   ·refine⟨by omega,h6,?_⟩
    unfold oz at h7;rw[Qq73]at h7;rw[h7.1,h7.2];simp
  unfold gK;rw[hpo];rw[e];unfold at_
  simp only[h1.bc.finite,hp,hq,Qg hlow.1,Qg hlow.2.1,Qg hh.2.1,hhp,hlow.2.2,Bool.and_self,decide_true]
 ·rw[Qs (by rw[h2.bn];decide),Qr h2.bn]
  have e:gL m=⟨m.aq,m.aE,bV (cR m).aO 1,m.aa,m.ba,m.aj,m.av,cq,m.bf,m.bM⟩:=by unfold gL cR;rw[Qs (by rw[h2.bn];decide),Qr h2.bn]
  have hc:m.bM<=1000:=by have:=h2.range.2.2;have:=h2.dt.1.2.1;omega
  unfold uI uh;rw[e];simp only[h2.bc.finite,h2.dt.1.valid,cS,Qg h2.dt.2,cp,Qg h2.range.1,Qg h2.range.2.1,Qg h2.range.2.2,Qg hc,Bool.and_self,decide_true]
 ·rw[Qs (by rw[h3.bn];decide),Qs (by rw[h3.bn];decide),Qr h3.bn]
  have e:gL m=⟨m.aq,m.aE,bV (cR m).aO 1,m.aa,m.ba,m.aj,cq,cq,m.bf,m.bM⟩:=by unfold gL cR;rw[Qs (by rw[h3.bn];decide),Qs (by rw[h3.bn];decide)]
  unfold z6 uh;rw[e];simp only[h3.bc.valid,cp,Qg h3.range.1,Qg h3.range.2.1,Qg h3.range.2.2,Bool.and_self,decide_true]
theorem bK.Ad{m:ah}(h:bK m):∀e∈cg m,aX e=true:=by
 intro e he;rcases Cw he with he|⟨hz,rfl⟩
 ·exact(h.hv e he).1
 ·exact KO h hz
theorem bK.ZF{m:ah}(h:bK m){e:ak}(he:e∈cg m)(hn:e.aq.toNat=m.aq.toNat):aP m.aj=false/\e=gL m:=by
 rcases Cw he with he|⟨hz,rfl⟩
 ·have h1:=(h.hv e he).2.2.2;have h2:=kE (h.hv e he).1;have:=h.n0;omega
 ·exact⟨hz,rfl⟩
end
section
theorem tS(a b:ao):bJ a b=true↔a.an<b.an\/(a.an=b.an/\dW a.Value b.Value=true):=by
 unfold bJ;split
 ·rename_i e;rw[e];simp
 ·rename_i e;simp only[Qi];constructor
  ·exact .inl
  ·rintro(h|h)
   ·exact h
   ·exact absurd h.1 e
theorem kl{a b c:ao}(h:bJ a b=true)(h':bJ b c=true):bJ a c=true:=EO.trans _ _ _ h h'
theorem VJ(a:ao):bJ a a=false:=EO.irrefl a
theorem DR{a b:ao}(h:bJ a b=false)(h':a≠b):bJ b a=true:=by
 cases h1:bJ b a with
 |true=>rfl
 |false=>exact absurd (EO.total a b h h1) h'
theorem gE{a b:ao}(h:bJ a b=true):a.an<=b.an:=by
 rw[tS]at h;omega
theorem GK{a b:ao}(h:bJ a b=false):b.an<=a.an:=by
 rcases Int.lt_or_le a.an b.an with h1|h1
 ·rw[(tS a b).2 (.inl h1)]at h;cases h
 ·exact h1
theorem VH(v:ByteArray):dW v v=false:=rC.irrefl v
theorem Ij{a b:ao}(hv:a.Value=b.Value):bJ a b=decide (a.an<b.an):=by
 unfold bJ;split
 ·rename_i e;rw[hv,VH,e];simp
 ·rfl
theorem Er{p x:ao}(h:kI p x=true):bJ p x=false:=by
 obtain⟨_,h2,h3⟩:=(ju p x).1 h;rw[Ij h2,Qj];omega
theorem Lo{p x q:ao}(h:kI p x=true)(hq:bJ p q=true):bJ x q=true:=by
 by_cases e:x=p
 ·rw[e];exact hq
 ·exact kl (DR (Er h) (fun h=>e h.symm)) hq
theorem kp{a b:ao}:cS a b=true↔a.Value=b.Value:=decide_eq_true_iff
theorem iK{a b:ao}:cS a b=false↔a.Value≠b.Value:=Qj
theorem yy(p q x:ao):fj p q x=true↔kI p x=true\/kI q x=true\/(aP q=false/\bJ x q=true):=by
 unfold fj;simp only[Qn,Qm,Bool.not_eq_true'];exact⟨fun h=>by rcases h with(h|h)|h<;>simp[h],fun h=>by rcases h with h|h|h<;>simp[h]⟩
def pz(p q:ao):Prop:=(p=cq\/cU p)/\(q=cq\/(cU q/\cU p/\bJ q p=true/\cS q p=false))
theorem P1.gK{m:ah}(h:P1 m):pz m.av m.aJ:=⟨h.dt,h.dO⟩
theorem G8{b:ao}(h:cU b):b≠cq:=fun e=>by have:=h.nz;rw[e,cp]at this;cases this
inductive rR (p q b:ao):ao->ao->Prop where
 |same:rR p q b p q
 |first (hp:p=cq) (hq:q=cq):rR p q b b cq
 |up (hp:cU p) (hl:bJ p b=true) (hc:p.Value=b.Value):rR p q b b q
 |over (hp:cU p) (hl:bJ p b=true) (hc:p.Value≠b.Value):rR p q b b p
 |under (hp:cU p) (hl:bJ b p=true) (hc:b.Value≠p.Value) (hq:q=cq\/bJ q b=true):rR p q b p b
theorem ZY{p q b:ao}(h:pz p q)(hb:b=cq\/cU b):rR p q b (ff p q b).1 (ff p q b).2:=by
 unfold ff;rcases hb with rfl|hb
 ·rw[Qr cp];exact .same
 rw[Qs (by rw[hb.nz];decide)]
 rcases h.1 with rfl|hp
 ·have hq:q=cq:=by
   rcases h.2 with e|⟨_,e,_⟩
   ·exact e
   ·exact absurd rfl (G8 e)
  rw[Qr cp,hq];exact .first rfl rfl
 rw[Qs (by rw[hp.nz];decide)]
 by_cases hl:bJ p b=true
 ·rw[Qr hl]
  by_cases hc:cS p b=true
  ·rw[Qr hc]
   have hcq:cS q b=false:=by
    rw[kp]at hc;rw[iK];rcases h.2 with rfl|⟨_,_,_,e⟩
    ·exact fun e=>hb.ne e.symm
    ·rw[iK]at e;rw[<-hc];exact e
   rw[Qs (by rw[hcq];decide)]
   exact .up hp hl (kp.1 hc)
  ·rw[Qs hc];exact .over hp hl (iK.1 (by simpa using hc))
 ·rw[Qs hl];split
  ·rename_i hu;simp only[Qm,Qn,Bool.not_eq_true']at hu;refine .under hp hu.1.1 (iK.1 hu.1.2) ?_;rcases hu.2 with e|e
   ·exact .inl (zy.1 e)
   ·exact .inr e
  ·exact .same
theorem rR.ok{p q b p' q':ao}(h:pz p q)(hb:b=cq\/cU b)(hj:rR p q b p' q'):pz p' q':=by
 have hbf:∀{x:ao},bJ x b=true\/cU b\/(cU x/\bJ b x=true)->True:=fun _=>trivial
 cases hj with
 |same=>exact h
 |first hp hq=>exact⟨hb,.inl rfl⟩
 |up hp hl hc=>
  have hb':cU b:=by
   rcases hb with rfl|hb
   ·have h1:=gE hl;have h2:=hp.1;have:(cq:ao).an=0:=rfl;omega
   ·exact hb
  refine⟨.inr hb',?_⟩;rcases h.2 with e|⟨h1,h2,h3,h4⟩
  ·exact .inl e
  ·refine .inr ⟨h1,hb',kl h3 hl,?_⟩;rw[iK]at h4 ⊢;rw[<-hc];exact h4
 |over hp hl hc=>
  have hb':cU b:=by
   rcases hb with rfl|hb
   ·have h1:=gE hl;have h2:=hp.1;have:(cq:ao).an=0:=rfl;omega
   ·exact hb
  exact⟨.inr hb',.inr ⟨hp,hb',hl,iK.2 hc⟩⟩
 |under hp hl hc hq=>
  refine⟨.inr hp,?_⟩;rcases hb with e|hb
  ·exact .inl e
  ·exact .inr ⟨hb,hp,hl,iK.2 hc⟩
theorem rR.mono{p q b p' q':ao}(h:pz p q)(hj:rR p q b p' q'){x:ao}(hx:fj p q x=true):fj p' q' x=true:=by
 rw[yy]at hx ⊢
 have hqp:aP q=false->bJ q p=true:=fun hz=>by
  rcases h.2 with e|⟨_,_,e,_⟩
  ·rw[e,cp]at hz;cases hz
  ·exact e
 have hcq:kI q x=true->aP q=false:=fun hc=>((ju q x).1 hc).1
 cases hj with
 |same=>exact hx
 |first hp hq=>
  subst hp hq;rcases hx with hx|hx|hx
  ·have:=((ju _ _).1 hx).1;rw[cp]at this;cases this
  ·have:=((ju _ _).1 hx).1;rw[cp]at this;cases this
  ·rw[cp]at hx;cases hx.1
 |up hp hl hc=>
  rcases hx with hx|hx|hx
  ·obtain⟨h1,h2,h3⟩:=(ju _ _).1 hx;refine .inl ((ju _ _).2 ⟨?_,hc.symm.trans h2,Int.le_trans h3 (gE hl)⟩);have:=hp.1;have:=gE hl;exact Ic (by omega)
  ·exact .inr (.inl hx)
  ·exact .inr (.inr hx)
 |over hp hl hc=>
  rcases hx with hx|hx|hx
  ·exact .inr (.inl hx)
  ·exact .inr (.inr ⟨hp.nz,Lo hx (hqp (hcq hx))⟩)
  ·exact .inr (.inr ⟨hp.nz,kl hx.2 (hqp hx.1)⟩)
 |under hp hl hc hq=>
  have hbz:aP q=false->bJ q b=true:=fun hz=>by
   rcases hq with e|e
   ·rw[e,cp]at hz;cases hz
   ·exact e
  have hbn:aP q=false->aP b=false:=fun hz=>by
   have h1:=gE (hbz hz);rcases h.2 with e|⟨e,_⟩
   ·rw[e,cp]at hz;cases hz
   ·have:=e.1;exact Ic (by omega)
  rcases hx with hx|hx|hx
  ·exact .inl hx
  ·exact .inr (.inr ⟨hbn (hcq hx),Lo hx (hbz (hcq hx))⟩)
  ·exact .inr (.inr ⟨hbn hx.1,kl hx.2 (hbz hx.1)⟩)
theorem Wo{p:ao}{v:ByteArray}{n k:Int}(h:eN p ⟨n,v⟩=false)(hk:n<=k):eN p ⟨k,v⟩=false:=PY hk h
theorem MN{v:ByteArray}{n:Int}{x:ao}(hx:x=cq\/dJ x=true):n<=wv v n x/\eN x ⟨wv v n x,v⟩=false:=by
 unfold wv;split
 ·rename_i hc;rw[Qm]at hc;have ha:=hc.2;unfold eN at ha;rw[Qm,Qm]at ha;have hle:n<=x.an:=gE ha.2;split
  ·refine⟨by omega,?_⟩
   unfold eN;rw[Bool.and_eq_false_iff];right
   cases hl:bJ ⟨x.an+1,v⟩ x with
   |false=>rfl
   |true=>have:=gE hl;simp only at this;omega
  ·rename_i hn;exact⟨hle,by simpa using hn⟩
 ·rename_i hc;refine⟨Int.le_refl _,?_⟩;rcases hx with rfl|hv
  ·unfold eN;rw[cp];rfl
  ·rw[hv,Bool.true_and]at hc;simpa using hc
theorem RB{v:ByteArray}{n:Int}{p q:ao}(hp:p=cq\/dJ p=true)(hq:q=cq\/dJ q=true):n<=oq v n p q/\1<=oq v n p q/\oz p q v (oq v n p q)=false:=by
 unfold oq;obtain⟨h1,h2⟩:=MN (v:=v) (n:=bV n 1) hp;obtain⟨h3,h4⟩:=MN (v:=v) (n:=wv v (bV n 1) p) hq;have hm:n<=bV n 1/\1<=bV n 1:=by unfold bV;split<;>omega
 refine⟨by omega,by omega,?_⟩
 unfold oz;rw[h4,Bool.or_false];exact Wo h2 h3
theorem Hz{v:ByteArray}{n:Int}{x:ao}(h:eN x ⟨n,v⟩=false):wv v n x=n:=by
 unfold wv;rw[h,Bool.and_false];rfl
theorem VC{v:ByteArray}{n:Int}{p q:ao}(h1:1<=n)(h:oz p q v n=false):oq v n p q=n:=by
 unfold oz at h;rw[Qq73]at h;have hm:bV n 1=n:=by unfold bV;split<;>omega
 unfold oq;rw[hm,Hz h.1,Hz h.2]
theorem pz.valid{p q:ao}(h:pz p q):(p=cq\/dJ p=true)/\(q=cq\/dJ q=true):=
 ⟨h.1.imp id cU.valid,h.2.imp id fun h=>h.1.valid⟩
theorem Sy{e:ak}(hv:aX e=true){x:ao}(hx:x∈said e)(hz:aP x=false):dJ x=true:=by
 have hv':=hv;unfold aX lY at hv';unfold said at hx;rw[Qr hv]at hx;rw[Qm,Qm]at hv';have hb:=hv'.2
 by_cases h1:e.az=1
 ·rw[Qr h1]at hb hx;unfold gK at hb;simp only[Qm,Qn]at hb;obtain⟨⟨⟨⟨⟨⟨⟨⟨hf,hp⟩,hq⟩,_⟩,_⟩,_⟩,_⟩,_⟩,_⟩:=hb;simp only[QA,QR,or_false]at hx;rcases hx with rfl|rfl|rfl
  ·unfold finite at hf;rw[Qm]at hf;exact hf.1
  ·rcases hp with hp|hp
   ·rw[hp]at hz;cases hz
   ·exact hp
  ·rcases hq with hq|hq
   ·rw[hq]at hz;cases hz
   ·exact hq
 ·rw[Qs h1]at hb hx
  have hinf:∀{b:ao},dJ b=true->dJ ⟨1000000,b.Value⟩=true:=by
   intro b hb;simp only[dJ,Qm,Qn,Qi]at hb ⊢;exact⟨⟨.inr trivial,hb.1.2⟩,hb.2⟩
  by_cases h2:e.az=2
  ·rw[Qr h2]at hb hx;unfold uI at hb;simp only[Qm]at hb;obtain⟨⟨⟨⟨⟨hf,hp⟩,hc⟩,_⟩,_⟩,_⟩:=hb;simp only[QA,QR,or_false]at hx;rcases hx with rfl|rfl
   ·exact hp
   ·unfold finite at hf;rw[Qm]at hf;exact hinf hf.1
  ·rw[Qs h2]at hb hx;simp only[QA,QR,or_false]at hx;subst hx
   by_cases h3:e.az=3
   ·rw[Qr h3]at hb;unfold z6 at hb;simp only[Qm]at hb;exact hinf hb.1.1.1
   ·rw[Qs h3]at hb;cases hb
theorem FV{e:ak}(hv:aX e=true):1<=e.aj.Value.size/\e.aj.Value.size<=200:=by
 have hv':=hv;unfold aX lY at hv';rw[Qm,Qm]at hv';have hb:=hv'.2
 have go:∀{b:ao},dJ b=true->1<=b.Value.size/\b.Value.size<=200:=by
  intro b hb;simp only[dJ,Qm,Qn,Qi]at hb;exact⟨hb.1.2,hb.2⟩
 have gof:∀{b:ao},finite b=true->1<=b.Value.size/\b.Value.size<=200:=by
  intro b hb;unfold finite at hb;rw[Qm]at hb;exact go hb.1
 by_cases h1:e.az=1
 ·rw[Qr h1]at hb;unfold gK at hb;simp only[Qm]at hb;exact gof hb.1.1.1.1.1.1.1.1
 ·rw[Qs h1]at hb
  by_cases h2:e.az=2
  ·rw[Qr h2]at hb;unfold uI at hb;simp only[Qm]at hb;exact gof hb.1.1.1.1.1
  ·rw[Qs h2]at hb
   by_cases h3:e.az=3
   ·rw[Qr h3]at hb;unfold z6 at hb;simp only[Qm]at hb;exact go hb.1.1.1
   ·rw[Qs h3]at hb;cases hb
theorem aaG{b:ao}(h:dJ b=true):cU (ij b):=by
 simp only[dJ,Qm,Qn,Qi]at h;obtain⟨⟨h1,h2⟩,h3⟩:=h;unfold ij;split
 ·exact⟨(by decide:(1:Int)<=1000),(by decide:(1000:Int)<=1000),h2,h3⟩
 ·exact⟨by omega,by omega,h2,h3⟩
theorem Ow{α:Type}{l:List α}{p:α->Bool}{z:α}:(l.find? p).getD z=z\/((l.find? p).getD z∈l/\p ((l.find? p).getD z)=true):=by
 cases h:l.find? p with
 |none=>exact .inl rfl
 |some x=>exact .inr ⟨List.mem_of_find?_eq_some h,List.find?_some h⟩
theorem CU{m:ah}(h:bK m){x:ao}(hx:x∈fL (cg m)):dJ x=true:=by
 obtain⟨e,he,h1,h2⟩:=((sN h.ev.sD.1.aN h.ev.sD.2).2.2.2 x).1 hx;exact Sy (h.Ad e he) h1 h2
theorem KP{m:ah}(h:bK m):fo m=cq\/(dJ (fo m)=true/\(Hs m=gH\/(fo m).Value=Hs m)/\fj (tV m.av) (tV m.aJ) (fo m)=false/\nF m.aq.toNat m.aa (cg m) (fo m)=true):=by
 unfold fo zK;rcases Ow (l:=fL (cg m)) (p:=E6 (nF m.aq.toNat m.aa (cg m)) m.av m.aJ (Hs m)) (z:=KQ)with e|⟨h1,h2⟩
 ·exact .inl e
 ·right;unfold E6 at h2;simp only[Qm,Qn,Bool.not_eq_true',Qi]at h2;exact⟨CU h h1,h2.1.1,h2.1.2,h2.2⟩
theorem uJ{m:ah}(h:bK m):ij (fo m)=cq\/cU (ij (fo m)):=by
 rcases KP h with e|⟨h1,_⟩
 ·left;rw[e];decide
 ·exact .inr (aaG h1)
theorem E2{m:ah}(h:bK m)(h1:pz m.av m.aJ):rR m.av m.aJ (ij (fo m)) (ff m.av m.aJ (ij (fo m))).1 (ff m.av m.aJ (ij (fo m))).2:=ZY h1 (uJ h)
theorem P2.gK{m:ah}(h:P2 m):pz m.av m.aJ:=⟨.inr h.dt.1,.inl h.dO⟩
theorem ZD{m:ah}(h:bK m)(h1:P1 m):P1 (dP m):=by
 unfold dP;rw[Qs (by rw[h1.bn,h1.bc.nz];decide)]
 have hj:=E2 h h1.gK;generalize (ff m.av m.aJ (ij (fo m))).1=p at hj;generalize (ff m.av m.aJ (ij (fo m))).2=q at hj;have hok:=hj.ok h1.gK (uJ h);refine⟨h1.bn,h1.bc,hok.1,hok.2,?_,h1.up,h1.eU,?_⟩
 ·rcases h1.dU with e|⟨hf,hp⟩
  ·exact .inl e
  ·exact .inr ⟨hf,hj.mono h1.gK hp⟩
 ·show sn m p q=0\/(1<=sn m p q/\sn m p q<=eZ m/\oz p q m.aj.Value (sn m p q)=false);unfold sn
  by_cases hL:m.bf=0
  ·rw[Qs (fun h=>h.2 hL)];exact .inl hL
  ·rw[Qr ⟨h1.bn,hL⟩];split
   ·exact .inl rfl
   ·rename_i hlt;obtain⟨h2,h3,h4⟩:=RB (v:=m.aj.Value) (n:=m.bf) hok.valid.1 hok.valid.2;exact .inr ⟨h3,by omega,h4⟩
theorem Rs{m:ah}(h:bK m)(h2:P2 m):P2 (dP m)/\m.av.an<=(dP m).av.an/\(dP m).aJ=cq:=by
 unfold dP;rw[Qs (by rw[h2.bn,h2.bc.nz];decide)]
 have hv:ij (fo m)=cq\/(ij (fo m)).Value=m.aj.Value:=by
  rcases KP h with e|⟨h3,h4,_⟩
  ·left;rw[e];decide
  ·right;have hc:(ij (fo m)).Value=(fo m).Value:=by unfold ij;split<;>rfl
   have hvo:Hs m=m.aj.Value:=Qr h2.bn;rw[hvo]at h4;rw[hc];exact h4.resolve_left h2.bc.ne
 have hj:=E2 h h2.gK;have hlow:∀p q,sn m p q=m.bf:=fun p q=>Qs (fun h=>by have:=h.1;rw[h2.bn]at this;cases this)
 simp only[hlow];have hok:=hj.ok h2.gK (uJ h);generalize (ff m.av m.aJ (ij (fo m))).1=p at hj hok;generalize (ff m.av m.aJ (ij (fo m))).2=q at hj hok;generalize hb:ij (fo m)=b at hj hv
 have key:cU p/\p.Value=m.aj.Value/\m.av.an<=p.an/\q=cq:=by
  cases hj with
  |same=>exact⟨h2.dt.1,h2.dt.2,Int.le_refl _,h2.dO⟩
  |first hp hq=>exact absurd hp (G8 h2.dt.1)
  |up hp hl hc=>exact⟨hok.1.resolve_left (fun e=>by have:=gE hl;rw[e]at this;have h9:=h2.dt.1.1;have:(cq:ao).an=0:=rfl;omega),hc.symm.trans h2.dt.2,gE hl,h2.dO⟩
  |over hp hl hc=>
   exfalso;rcases hv with e|e
   ·have:=gE hl;rw[e]at this;have h9:=h2.dt.1.1;have:(cq:ao).an=0:=rfl;omega
   ·exact hc (h2.dt.2.trans e.symm)
  |under hp hl hc hq=>
   rcases hv with e|e
   ·exact⟨h2.dt.1,h2.dt.2,Int.le_refl _,e⟩
   ·exact absurd (e.trans h2.dt.2.symm) hc
 exact⟨⟨h2.bn,h2.bc,⟨key.1,key.2.1⟩,key.2.2.2,h2.dU,⟨h2.range.1,h2.range.2.1,Int.le_trans h2.range.2.2 key.2.2.1⟩⟩,key.2.2.1,key.2.2.2⟩
theorem Vg{m:ah}(h:bK m):bK (dP m):=by
 have hid:m.ba=3\/aP m.aj=true->dP m=m:=fun hc=>Qr hc
 have mk:(P0 (dP m)\/P1 (dP m)\/P2 (dP m)\/P3 (dP m))->bK (dP m):=by
  intro hb;unfold dP at hb ⊢;split at hb
  ·rename_i hc;rw[Qr hc];exact h
  ·rename_i hc;rw[Qs hc];exact⟨h.n0,h.n1,h.bj,h.seq,h.aN,h.tt,h.hv,h.gJ,hb⟩
 rcases h.body with h0|h1|h2|h3
 ·rw[hid (.inr (by rw[h0.bc];exact cp))];exact h
 ·exact mk (.inr (.inl (ZD h h1)))
 ·exact mk (.inr (.inr (.inl (Rs h h2).1)))
 ·rw[hid (.inl h3.bn)];exact h
end
section
end
section
theorem qO(q:Int->Bool):∀(r:List Int) (lo:Int),dR q r lo<=lo
 |[],lo=>Int.le_refl _
 |e::r,lo=>by
  rw[dR];split
  ·exact qO q r lo
  ·split
   ·exact Int.le_trans (qO q r e) (by omega)
   ·exact Int.le_refl _
theorem yW(q:Int->Bool):∀(r:List Int) (lo:Int),dR q r lo=lo\/q (dR q r lo)=true/\dR q r lo∈r
 |[],lo=> .inl rfl
 |e::r,lo=>by
  rw[dR];split
  ·exact(yW q r lo).imp id fun h=>⟨h.1,by simp[h.2]⟩
  ·split
   ·rename_i hq;rcases yW q r e with h|h
    ·exact .inr ⟨by rw[h];exact hq,by rw[h];simp⟩
    ·exact .inr ⟨h.1,by simp[h.2]⟩
   ·exact .inl rfl
theorem yX(q:Int->Bool)(r:List Int)(lo:Int)(h:∀x∈r,1<=x)(h1:1<=lo):1<=dR q r lo:=by
 rcases yW q r lo with e|⟨_,e⟩
 ·omega
 ·exact h _ e
section
variable {aG : Nat} {t : ab} {l : List ak} (p q : ao)
end
end
end Go.Proofs.YtnhgcpiljggmmaaGreatDoor
end
