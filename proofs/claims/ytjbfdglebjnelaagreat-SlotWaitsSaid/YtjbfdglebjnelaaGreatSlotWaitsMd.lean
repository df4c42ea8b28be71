/-
  Texts made small by a program (see NOTES). Conditions: those that each theorem names.
-/
import Derived.Test.YtjbfdglebjnelaaGreatSlotWaitsMc
set_option linter.unusedVariables false
set_option linter.unusedSimpArgs false
set_option linter.unusedSectionVars false
set_option maxHeartbeats 2000000
noncomputable section
namespace Go.Proofs.YtjbfdglebjnelaaGreat
open Go.TQ Tryz
def nY(a0:Int)(a1:eN)(a2:ByteArray)(a3:Int):Option Bool:=(ky a1 a2 a0 a3).bind fun r1=>some r1
def D8:=kf func347 [t0,.ref (t10),.ref (t3),.ref (t0)] q1 (u4 nY) [] .e [AF]
def ig(a0:(List Int))(a1:Int)(a2:eN)(a3:ByteArray)(a4:Int):Option Int:=bu (fun(v1:Int×Unit)=>some v1.1) fun j2=>(bE a0).bind fun r3=>kb (fun(m5:Nat) (e6:Int) (v4:Int×Unit)=>bif (decide (v4.1<=e6))then some (Sum.inl (v4.1,()))else(nY e6 a2 a3 a4).bind fun r7=>bif (!r7)then oR (j2 (v4.1,()))else some (Sum.inl (e6,()))) (fun(v8:Int×Unit)=>j2 (v8.1,())) (List.reverse r3.1) (a1,())
def yh:=kf func341 [t8,t0,.bj 347 [.ref (t10),.ref (t3),.ref (t0)]] q0 (fun a=>ig a.1 a.2.1 a.2.2.1.1 a.2.2.1.2.1 a.2.2.1.2.2.1) [] (.r (.j ⟨[.box 0 1 y0 []],[4]⟩ (p_ 3 2 (.k ⟨[.box 0 1 y0 []],[4,5,10]⟩ 371 1 none y0 .e)))) [eG,tV,D8]
def nH(a0:Int)(a1:an)(a2:(List ai))(a3:ByteArray):Option (Int×Int×Bool×Unit):=(dM a0 (aw a1) a2).bind fun r1=>(ez a2 a3).bind fun r2=>(bE r2).bind fun r3=>kb (fun(m5:Nat) (e6:Int) (v4:Int×Int×Bool×Unit)=>(ky r1 a3 e6 e6).bind fun r7=>bif r7 then(ig r2 e6 r1 a3 e6).bind fun r8=>oR (some (r8,e6,true,()))else some (Sum.inl (v4.1,v4.2.1,v4.2.2.1,()))) (fun(v9:Int×Int×Bool×Unit)=>some (0,0,false,())) (List.reverse r3.1) (0,0,false,())
def GF:=kf func299 [t0,t4,t14,t3] (.many [y0,y0,y1]) (u4 nH) [] (p_ 6 23 (.k ⟨[.box 2 1 y0 [],.box 3 1 y0 [],.box 4 1 y1 []],[7,8,9,10,11,12,23]⟩ 371 1 none y0 .e)) [lg,o9,eG,tV,AF,yh]
def jr(s:av):Option ((Unit)×av):=bif (!decide (s.aj.aJ=2))then some ((()),(av.mk (eT2 s.aj)))else(cu (av.mk (eT2 s.aj))).bind fun p1=>(nH s.aj.aq (aw s.aj.ao) p1.1 s.aj.aa.Value).bind fun r2=>bif (!r2.2.2.1)then some ((()),(av.mk (eT2 s.aj)))else some ((()),(av.mk (ab.mk s.aj.aq s.aj.bf s.aj.aN (aw s.aj.ao) 3 (af.mk r2.2.1 s.aj.aa.Value) zB zB zB r2.1 r2.2.1 s.aj.bh s.aj.aB)))
def xr:=kr func263 0 y6 [] (.many []) (fun s a=>jr s) [] .e [iH,GF]
noncomputable def gJ(a0:bc):Option Int:=bif (decide (a0.ax.bW=3))then some 1000000 else some a0.ax.aa.ae
def qh:=kf func182 [t15] q0 (u1 gJ) [] .e []
def gW(a0:ai):Option Int:=(dn (eT1 a0)).bind fun r1=>bif (!r1)then some 0 else(gJ (bc.mk (eT1 a0))).bind fun r2=>some r2
def tu:=kf func302 [t11] q0 (u1 gW) [] .e [fL,qh]
noncomputable def mG(a0:(List ai))(a1:(List Bool)):Option Int:=aD (fun(v1:Int×Int×Unit)=>bif (decide (v1.2.1<((a0.length:Nat):Int)))then bu (fun(v2:Int×Unit)=>some (Sum.inl (v2.1,(aA .i64 v1.2.1 1),()))) fun j3=>(idx a0 v1.2.1).bind fun x4=>(bif (decide (v1.2.1<((a1.length:Nat):Int)))then(idx a1 v1.2.1).bind fun x5=>some x5 else some false).bind fun b6=>(bif b6 then some (decide (0<=x4.aq))else some false).bind fun b7=>(bif b7 then some (decide (x4.aq<10))else some false).bind fun b8=>bif b8 then if x4.aq<0 then none else j3 ((n5 .i64 v1.1 (c7 .i64 1 x4.aq)),())else j3 (v1.1,())else oR (some v1.1)) (0,0,())
def Fw:=kf func348 [t14,.ty (Ty.sl Ty.bool)] q0 (u2 mG) [] (p_ 5 11 (.j ⟨[.val 5 y0,.val 10 y0],[1,8,9]⟩ (p_ 3 6 (.j ⟨[.val 5 y0],[1,8,9,10]⟩ .e)))) []
def jK(a0:av)(a1:Int):Option Int:=bif decide (((a0.aj.aB.length:Nat):Int)=((a0.aj.aB.length:Nat):Int))&&decide (0<=((a0.aj.aB.length:Nat):Int))&&bL 1 (Int.toNat ((a0.aj.aB.length:Nat):Int))then aD (fun(v1:Int×(List Bool)×Unit)=>bif (decide (v1.1<((a0.aj.aB.length:Nat):Int)))then(idx a0.aj.aB v1.1).bind fun x2=>(gW (eT1 x2)).bind fun r3=>(idx v1.2.1 v1.1).bind fun x4=>(v1.2.1[(Int.toNat v1.1)]?).bind fun x5=>some (Sum.inl ((aA .i64 v1.1 1),(v1.2.1.set (Int.toNat v1.1) (decide (a1<r3))),()))else oR ((mG a0.aj.aB v1.2.1).bind fun r6=>some r6)) (0,(List.replicate (Int.toNat ((a0.aj.aB.length:Nat):Int)) false),())else none
def yg:=kf func301 [.ref (.ty y6),t0] q0 (u2 jK) [] (p_ 5 11 (.j ⟨[.val 21 y0,.own 5 7 1 4 1 y1],[0,1,19,20]⟩ .e)) [tu,Fw]
def fV(a0:Int)(a1:aZ)(a2:av):Option Bool:=(jK (av.mk (eT2 a2.aj)) a0).bind fun r1=>(kQ a1 a2.aj.aq r1).bind fun r2=>some r2
def vW:=kf func300 [t0,.ref (t12),.ref (.ref (.ty y6))] q1 (u3 fV) [] .e [yg,vx]
def jq(s:av):Option ((Unit)×av):=bif (decide (s.aj.aJ=3))then some ((()),(av.mk (eT2 s.aj)))else(cu (av.mk (eT2 s.aj))).bind fun p1=>(nD s.aj.aq (aw s.aj.ao) p1.1).bind fun r2=>(fV s.aj.aa.ae r2 (av.mk (eT2 s.aj))).bind fun r3=>bif (!r3)then some ((()),(av.mk (eT2 s.aj)))else aD (fun(v4:Int×Int×Unit)=>bif (decide (v4.2.1<((s.aj.aB.length:Nat):Int)))then bu (fun(v5:Int×Unit)=>some (Sum.inl (v5.1,(aA .i64 v4.2.1 1),()))) fun j6=>(idx s.aj.aB v4.2.1).bind fun x7=>(gW (eT1 x7)).bind fun r8=>(bif (decide (s.aj.aa.ae<r8))then some (decide (r8<v4.1))else some false).bind fun b9=>(bif b9 then(fV r8 r2 (av.mk (eT2 s.aj))).bind fun r10=>some (!r10)else some false).bind fun b11=>bif b11 then j6 (r8,())else j6 (v4.1,())else oR (bu (fun(v12:af×Unit)=>(fZ (av.mk (eT2 s.aj)) v12.1).bind fun p14=>some ((()),(av.mk (eT2 p14.2.aj)))) fun j13=>(aW s.aj.aa).bind fun r15=>(bif r15 then some true else some (decide (s.aj.aJ=1))).bind fun b16=>bif b16 then(dI (av.mk (eT2 s.aj))).bind fun r17=>j13 ((af.mk (dp v4.1 1000) r17),())else j13 ((af.mk (dp v4.1 1000) s.aj.aa.Value),()))) (1000000,0,())
def xq:=kr func264 0 y6 [] (.many []) (fun s a=>jq s) [] (p_ 6 63 (.b (p_ 2 1 (.j ⟨[.val 4 y0,.val 44 y0],[1,3,42,43]⟩ (p_ 3 6 (.j ⟨[.val 4 y0],[1,3,42,43,44]⟩ .e)))) (.r (.j ⟨[.box 52 1 y2 []],[1,8]⟩ .e)))) [iH,yK,vW,tu,bx,mO,nk]
def ki(s:av):Option (Bool×av):=(er (av.mk (eT2 s.aj))).bind fun r1=>(iN (av.mk (eT2 s.aj))).bind fun p2=>(er (av.mk (eT2 p2.2.aj))).bind fun r3=>bif (xor true (decide (r3.aE=r1.aE)&&(decide (r3.low=r1.low)&&(decide (r3.bU=r1.bU)&&(decide (r3.aG.ae=r1.aG.ae)&&(decide (r3.aG.Value=r1.aG.Value)&&(decide (r3.dw.ae=r1.dw.ae)&&(decide (r3.dw.Value=r1.dw.Value)&&(decide (r3.bC.ae=r1.bC.ae)&&(decide (r3.bC.Value=r1.bC.Value)&&(decide (r3.c6.ae=r1.c6.ae)&&(decide (r3.c6.Value=r1.c6.Value)&&true))))))))))))then(cz (av.mk (eT2 p2.2.aj))).bind fun p4=>some (true,(av.mk (eT2 p4.2.aj)))else(kh (av.mk (eT2 p2.2.aj))).bind fun p5=>(er (av.mk (eT2 p5.2.aj))).bind fun r6=>bif (xor true (decide (r6.aE=r1.aE)&&(decide (r6.low=r1.low)&&(decide (r6.bU=r1.bU)&&(decide (r6.aG.ae=r1.aG.ae)&&(decide (r6.aG.Value=r1.aG.Value)&&(decide (r6.dw.ae=r1.dw.ae)&&(decide (r6.dw.Value=r1.dw.Value)&&(decide (r6.bC.ae=r1.bC.ae)&&(decide (r6.bC.Value=r1.bC.Value)&&(decide (r6.c6.ae=r1.c6.ae)&&(decide (r6.c6.Value=r1.c6.Value)&&true))))))))))))then(cz (av.mk (eT2 p5.2.aj))).bind fun p7=>some (true,(av.mk (eT2 p7.2.aj)))else(je (av.mk (eT2 p5.2.aj))).bind fun p8=>(er (av.mk (eT2 p8.2.aj))).bind fun r9=>bif (xor true (decide (r9.aE=r1.aE)&&(decide (r9.low=r1.low)&&(decide (r9.bU=r1.bU)&&(decide (r9.aG.ae=r1.aG.ae)&&(decide (r9.aG.Value=r1.aG.Value)&&(decide (r9.dw.ae=r1.dw.ae)&&(decide (r9.dw.Value=r1.dw.Value)&&(decide (r9.bC.ae=r1.bC.ae)&&(decide (r9.bC.Value=r1.bC.Value)&&(decide (r9.c6.ae=r1.c6.ae)&&(decide (r9.c6.Value=r1.c6.Value)&&true))))))))))))then(cz (av.mk (eT2 p8.2.aj))).bind fun p10=>some (true,(av.mk (eT2 p10.2.aj)))else(jr (av.mk (eT2 p8.2.aj))).bind fun p11=>(er (av.mk (eT2 p11.2.aj))).bind fun r12=>bif (xor true (decide (r12.aE=r1.aE)&&(decide (r12.low=r1.low)&&(decide (r12.bU=r1.bU)&&(decide (r12.aG.ae=r1.aG.ae)&&(decide (r12.aG.Value=r1.aG.Value)&&(decide (r12.dw.ae=r1.dw.ae)&&(decide (r12.dw.Value=r1.dw.Value)&&(decide (r12.bC.ae=r1.bC.ae)&&(decide (r12.bC.Value=r1.bC.Value)&&(decide (r12.c6.ae=r1.c6.ae)&&(decide (r12.c6.Value=r1.c6.Value)&&true))))))))))))then(cz (av.mk (eT2 p11.2.aj))).bind fun p13=>some (true,(av.mk (eT2 p13.2.aj)))else(jq (av.mk (eT2 p11.2.aj))).bind fun p14=>(er (av.mk (eT2 p14.2.aj))).bind fun r15=>bif (xor true (decide (r15.aE=r1.aE)&&(decide (r15.low=r1.low)&&(decide (r15.bU=r1.bU)&&(decide (r15.aG.ae=r1.aG.ae)&&(decide (r15.aG.Value=r1.aG.Value)&&(decide (r15.dw.ae=r1.dw.ae)&&(decide (r15.dw.Value=r1.dw.Value)&&(decide (r15.bC.ae=r1.bC.ae)&&(decide (r15.bC.Value=r1.bC.Value)&&(decide (r15.c6.ae=r1.c6.ae)&&(decide (r15.c6.Value=r1.c6.Value)&&true))))))))))))then(cz (av.mk (eT2 p14.2.aj))).bind fun p16=>some (true,(av.mk (eT2 p16.2.aj)))else some (false,(av.mk (eT2 p14.2.aj)))
def yN:=kr func226 0 y6 [] q1 (fun s a=>ki s) [18] (p_ 5 11 (.u 6 .e)) [z1,vV,qg,yM,wT,xr,xq]
def eY(s:av):Option ((Unit)×av):=(cz (av.mk (eT2 s.aj))).bind fun p1=>aD (fun(v2:av×Unit)=>(ki (av.mk (eT2 v2.1.aj))).bind fun p3=>bif p3.1 then some (Sum.inl ((av.mk (eT2 p3.2.aj)),()))else oR (some ((()),(av.mk (eT2 p3.2.aj))))) ((av.mk (eT2 p1.2.aj)),())
def o8:=kr func172 0 y6 [] (.many []) (fun s a=>eY s) [] (p_ 2 1 (.j ⟨[.box 0 0 y6 []],[0]⟩ .e)) [qg,yN]
def ln(a0:ai)(a1:ai):Option Bool:=(lB (aw a0.ao) (aw a1.ao)).bind fun r1=>(bif r1 then some (decide (a0.bW=a1.bW))else some false).bind fun b2=>(bif b2 then some (lN false a0.aa.ae a1.aa.ae a0.aa.Value a1.aa.Value)else some false).bind fun b3=>(bif b3 then some (lN false a0.ak.ae a1.ak.ae a0.ak.Value a1.ak.Value)else some false).bind fun b4=>(bif b4 then some (lN false a0.au.ae a1.au.ae a0.au.Value a1.au.Value)else some false).bind fun b5=>(bif b5 then some (decide (a0.aQ=a1.aQ))else some false).bind fun b6=>(bif b6 then some (decide (a0.bg=a1.bg))else some false).bind fun b7=>some b7
def yL:=kf func173 [t11,t11] q1 (u2 ln) [] .e [ri]
def nF(a0:ab)(a1:ByteArray):Option (ab×Int×Unit):=(gR (eT2 a0)).bind fun r1=>bif (!r1)then some ((ab.mk 0 0 0 (an.mk 0 ([]:List Int) ([]:List an)) 0 zB zB zB zB 0 0 (ByteArray.mk #[]) ([]:List ai)),13,())else(jD (eT2 a0)).bind fun r2=>(lL (av.mk (eT2 r2)) a1).bind fun p3=>bif (!decide (p3.1=0))then some ((ab.mk 0 0 0 (an.mk 0 ([]:List Int) ([]:List an)) 0 zB zB zB zB 0 0 (ByteArray.mk #[]) ([]:List ai)),p3.1,())else(eY (av.mk (eT2 p3.2.aj))).bind fun p4=>bu (fun(v5:av×Unit)=>some ((eT2 v5.1.aj),0,())) fun j6=>bu (fun(v7:Bool×Unit)=>bif v7.1 then j6 ((av.mk {p4.2.aj with aN:=(dp (aA .i64 p4.2.aj.aN 1) 1000000),ao:=(aw p4.2.aj.ao)}),())else j6 ((av.mk (eT2 p4.2.aj)),())) fun j8=>(aW a0.aa).bind fun r9=>bif (!r9)then(cY (eT2 a0)).bind fun r10=>(cY (eT2 p4.2.aj)).bind fun r11=>(ln (eT1 r10) (eT1 r11)).bind fun r12=>j8 ((!r12),())else j8 (false,())
def yO:=kf func115 [t9,.bj 171 [.ref (t3)]] (.many [y9,y0]) (fun a=>nF a.1 a.2.1.1) [] (p_ 5 31 (.j ⟨[.box 9 1 y6 []],[4,6]⟩ (.l (.j ⟨[.val 39 y1],[4,6]⟩ .e)))) [mi,rq,AS,o8,bx,jh,yL]
def kL(a0:ab)(a1:ByteArray):Option (ab×Int×Unit):=(nF (eT2 a0) a1).bind fun r1=>some ((eT2 r1.1),r1.2.1,())
def C1:=kf func114 [t9,t3] (.many [y9,y0]) (u2 kL) [3] .e [yO]
def oh(a0:bS):Option bS:=bu (fun(v1:bS×Unit)=>(kN (eT2 v1.1.aj)).bind fun r3=>some (bS.mk (eT0 v1.1.aF) (eT2 v1.1.aj) v1.1.Timer v1.1.Round v1.1.Next r3.2.1 r3.1)) fun j2=>(bif (decide (a0.aj.aJ=1))then(aW a0.aj.ar).bind fun r4=>some r4 else some false).bind fun b5=>(bif b5 then some (decide (0<((a0.aF.bA.length:Nat):Int)))else some false).bind fun b6=>bif b6 then(ib a0.aF.bA).bind fun r7=>(bif r7.2.1 then some (!decide (r7.1=a0.aj.bh))else some false).bind fun b8=>bif b8 then(kL (eT2 a0.aj) r7.1).bind fun r9=>bif (decide (r9.2.1=0))then j2 ({a0 with aF:=(eT0 a0.aF),aj:=(eT2 r9.1)},())else j2 ((eT3 a0),())else j2 ((eT3 a0),())else j2 ((eT3 a0),())
def vj:=kf func57 [.ty y13] (.one y13) (u1 oh) [] (.r (.j ⟨[.box 0 1 y13 []],[1,2]⟩ .e)) [bx,yf,C1,vw]
def tb(a0:Int)(a1:Int)(a2:an)(a3:ByteArray)(a4:Int):Option (bS×Int×Unit):=(qX a4).bind fun r1=>bif (!r1)then some ((bS.mk (aC.mk 0 0 0 0 (an.mk 0 ([]:List Int) ([]:List an)) (ByteArray.mk #[]) ([]:List ByteArray) ([]:List ByteArray) ([]:List ByteArray) ([]:List aK)) (ab.mk 0 0 0 (an.mk 0 ([]:List Int) ([]:List an)) 0 zB zB zB zB 0 0 (ByteArray.mk #[]) ([]:List ai)) (fU.mk 0 0) 0 0 false (ByteArray.mk #[])),1,())else(qZ a0 a1 (aw a2)).bind fun r2=>bif (!decide (r2.2.1=0))then some ((bS.mk (aC.mk 0 0 0 0 (an.mk 0 ([]:List Int) ([]:List an)) (ByteArray.mk #[]) ([]:List ByteArray) ([]:List ByteArray) ([]:List ByteArray) ([]:List aK)) (ab.mk 0 0 0 (an.mk 0 ([]:List Int) ([]:List an)) 0 zB zB zB zB 0 0 (ByteArray.mk #[]) ([]:List ai)) (fU.mk 0 0) 0 0 false (ByteArray.mk #[])),r2.2.1,())else(jU a0 a1 (aw a2) a3).bind fun r3=>bif (!decide (r3.2.1=0))then some ((bS.mk (aC.mk 0 0 0 0 (an.mk 0 ([]:List Int) ([]:List an)) (ByteArray.mk #[]) ([]:List ByteArray) ([]:List ByteArray) ([]:List ByteArray) ([]:List aK)) (ab.mk 0 0 0 (an.mk 0 ([]:List Int) ([]:List an)) 0 zB zB zB zB 0 0 (ByteArray.mk #[]) ([]:List ai)) (fU.mk 0 0) 0 0 false (ByteArray.mk #[])),r3.2.1,())else(og 1).bind fun r4=>(oh (bS.mk (eT0 r3.1) (eT2 r2.1) (fU.mk 0 (-1:Int)) 1 (aA .i64 a4 r4) false (ByteArray.mk #[]))).bind fun r5=>some ((eT3 r5),0,())
def Fp:=kf func22 [t0,t0,t4,t3,t0] (.many [y13,y0]) (u5 tb) [] .e [AE,H5,BC,vi,vj]
def tj:Option Bool:=(mT 1 1).bind fun r1=>(tb 0 1 (aw r1) (ByteArray.mk #[97]) 0).bind fun r2=>(bif (decide (r2.2.1=0))then(nB (eT3 r2.1)).bind fun r3=>some r3 else some false).bind fun b4=>(bif b4 then some r2.1.yx else some false).bind fun b5=>(bif b5 then some (decide (r2.1.Value=(ByteArray.mk #[97])))else some false).bind fun b6=>(bif b6 then(pZ (eT3 r2.1)).bind fun r7=>some (decide (((r7.length:Nat):Int)=1))else some false).bind fun b8=>some b8
def Jp:=kf func15 [] q1 (fun a=>tj) [] .e [Ds,Fp,wP,GA]
noncomputable def ra:SA U:=eX (iU prog 22 [] f118) (.r (.r (.l (.r (.l (.ps (.own 5 57 7 y16) (.j ⟨[.val 10 y0,.own 5 5 1 57 7 y16],[1,8,9]⟩ .e)))))))
def lO(a0:(List aK)):Option (List aK):=aD (fun(v1:Int×(List aK)×Unit)=>bif (decide (v1.1<((a0.length:Nat):Int)))then(idx a0 v1.1).bind fun x2=>(jw {x2 with ao:=(aw x2.ao)}).bind fun r3=>bif bL 120 (v1.2.1.length+List.length [{r3 with ao:=(aw r3.ao)}])then some (Sum.inl ((aA .i64 v1.1 1),(v1.2.1++[{r3 with ao:=(aw r3.ao)}]),()))else none else oR (some v1.2.1)) (0,([]:List aK),())
noncomputable def sx:KS U prog:=⟨.fw 118 [.ty y19,.bj 45 []] 57 7 y16 fun a=>lO a.1,OI (K:=K) ra 22 [.tmp 4] [tx] (fk f118 [] func118)⟩
def AK(a0:bS):Option bS:=(eZ (aw a0.aF.ao)).bind fun r1=>(bl a0.aF.de).bind fun r2=>(bl a0.aF.bB).bind fun r3=>(bl a0.aF.bA).bind fun r4=>(lO a0.aF.aB).bind fun r5=>(eZ (aw a0.aj.ao)).bind fun r6=>(eA a0.aj.aB).bind fun r7=>some {a0 with aF:={a0.aF with ao:=(aw r1),de:=r2,bB:=r3,bA:=r4,aB:=r5},aj:={a0.aj with ao:=(aw r6),aB:=r7}}
def H6:=kf func63 [.ty y13] (.one y13) (u1 AK) [] .e [lh,eU,sx,mj]
noncomputable def jB(a0:(List ByteArray))(a1:(List ByteArray)):Option Bool:=bif (!decide (((a0.length:Nat):Int)=((a1.length:Nat):Int)))then some false else aD (fun(v1:Int×Unit)=>bif (decide (v1.1<((a0.length:Nat):Int)))then(idx a0 v1.1).bind fun x2=>(idx a1 v1.1).bind fun x3=>bif (!decide (x2=x3))then oR (some false)else some (Sum.inl ((aA .i64 v1.1 1),()))else oR (some true)) (0,())
def tQ:=kf func164 [t7,t7] q1 (u2 jB) [] (p_ 5 11 (.j ⟨[.val 13 y0],[0,1,12]⟩ .e)) []
def tC(a0:aC)(a1:aC):Option aC:=(jc (eT0 a1)).bind fun r1=>bu (fun(v2:aC×Unit)=>(jS (eT0 v2.1)).bind fun r4=>some (eT0 r4)) fun j3=>(lB (aw a0.ao) (aw r1.ao)).bind fun r5=>(bif (!r5)then some true else(jB a0.de r1.de).bind fun r6=>some (!r6)).bind fun b7=>(bif b7 then some true else(jB a0.bB r1.bB).bind fun r8=>some (!r8)).bind fun b9=>bif b9 then j3 ({r1 with aN:=(aA .i64 r1.aN 1),ao:=(aw r1.ao)},())else j3 ((eT0 r1),())
def AP:=kf func109 [t5,t5] (.one y5) (u2 tC) [] (p_ 2 3 (.j ⟨[.box 1 1 y5 []],[3,4]⟩ .e)) [sP,ri,tQ,uL]
noncomputable def xQ(s:bS)(a0:aC)(a1:Int):Option (Int×bS):=bu (fun(v1:bS×Unit)=>some (a1,(eT3 v1.1))) fun j2=>bif (decide (a1=0))then j2 ({s with aF:=(eT0 a0),aj:=(eT2 s.aj)},())else j2 ((eT3 s),())
def Fo:=kr func51 0 y13 [t5,t0] q0 (fun s a=>xQ s a.1 a.2.1) [] (.r (.j ⟨[.box 0 0 y13 []],[2]⟩ .e)) []
noncomputable def AJ(s:bS)(a0:ab)(a1:Int):Option (Int×bS):=bu (fun(v1:bS×Unit)=>some (a1,(eT3 v1.1))) fun j2=>bif (decide (a1=0))then j2 ({s with aF:=(eT0 s.aF),aj:=(eT2 a0)},())else j2 ((eT3 s),())
def H4:=kr func62 0 y13 [t9,t0] q0 (fun s a=>AJ s a.1 a.2.1) [] (.r (.j ⟨[.box 0 0 y13 []],[2]⟩ .e)) []
def vG(a0:aC):Option (aC×Int×Unit):=(jT (eT0 a0)).bind fun r1=>bif (!r1)then some ((aC.mk 0 0 0 0 (an.mk 0 ([]:List Int) ([]:List an)) (ByteArray.mk #[]) ([]:List ByteArray) ([]:List ByteArray) ([]:List ByteArray) ([]:List aK)),1,())else bif (decide (a0.Round=1000))then some ((aC.mk 0 0 0 0 (an.mk 0 ([]:List Int) ([]:List an)) (ByteArray.mk #[]) ([]:List ByteArray) ([]:List ByteArray) ([]:List ByteArray) ([]:List aK)),3,())else(tC (eT0 a0) {a0 with Round:=(aA .i64 a0.Round 1),ao:=(aw a0.ao)}).bind fun r2=>some ((eT0 r2),0,())
def CZ:=kf func121 [t5] (.many [y5,y0]) (u1 vG) [] .e [uM,AP]
def Ca(s:bS)(a0:Int):Option ((Unit)×bS):=(bif (decide (0<((s.aF.bA.length:Nat):Int)))then some true else some (decide (a0<s.Next))).bind fun b1=>bif b1 then some ((()),(eT3 s))else(vG (eT0 s.aF)).bind fun r2=>(xQ (eT3 s) (eT0 r2.1) r2.2.1).bind fun p3=>(og (dp (aA .i64 p3.2.Round 1) 1000)).bind fun r4=>(oh (bS.mk (eT0 p3.2.aF) (eT2 p3.2.aj) p3.2.Timer (dp (aA .i64 p3.2.Round 1) 1000) (aA .i64 a0 r4) p3.2.yx p3.2.Value)).bind fun r5=>some ((()),(eT3 r5))
def Jl:=kr func64 0 y13 [t0] (.many []) (fun s a=>Ca s a.1) [] .e [CZ,Fo,vi,vj]
def tB(a0:bc)(a1:ai):Option Bool:=(gJ (bc.mk (eT1 a0.ax))).bind fun r1=>some (decide (a1.aa.ae<=r1))
def AN:=kf func181 [t15,.ref (t11)] q1 (u2 tB) [] .e [qh]
def qj(a0:eN)(a1:ai):Option Int:=aD (fun(v1:Int×Int×Unit)=>bif (decide (v1.2.1<((a0.aB.length:Nat):Int)))then bu (fun(v2:Int×Unit)=>some (Sum.inl (v2.1,(aA .i64 v1.2.1 1),()))) fun j3=>(idx a0.aB v1.2.1).bind fun x4=>(tB (bc.mk (eT1 x4.ax)) (eT1 a1)).bind fun r5=>bif r5 then if x4.ax.aq<0 then none else j3 ((n5 .i64 v1.1 (c7 .i64 1 x4.ax.aq)),())else j3 (v1.1,())else oR (some v1.1)) (0,0,())
def xp:=kf func180 [t10,.bj 181 [.ref (t11)]] q0 (fun a=>qj a.1 a.2.1.1) [] (p_ 5 11 (.j ⟨[.val 5 y0,.val 11 y0],[1,9,10]⟩ (p_ 3 6 (.j ⟨[.val 5 y0],[1,9,10,11]⟩ .e)))) [AN]
def vD(a0:ab):Option Bool:=(kM (eT2 a0)).bind fun r1=>(bif (!r1.2.1)then some true else some (decide (a0.aJ=3))).bind fun b2=>bif b2 then some false else(cW a0.aB).bind fun r3=>bif bL 176 (r3.length+List.length [(eT1 r1.1)])then(dM a0.aq (aw a0.ao) (r3++[(eT1 r1.1)])).bind fun r4=>(qj r4 (eT1 r1.1)).bind fun r5=>(gp r4.View r5).bind fun r6=>(gw r6 a0.aq).bind fun r7=>some r7 else none
def CS:=kf func122 [t9] q1 (u1 vD) [28] .e [vu,iZ,lg,xp,pb,kp]
def AI(a0:fU)(a1:ab)(a2:Int):Option (fU×Bool×Unit):=(pY a0).bind fun r1=>(bif (!r1)then some true else some (decide (a2<0))).bind fun b2=>(bif b2 then some true else some (decide (200<a2))).bind fun b3=>bif b3 then some ((fU.mk 0 (-1:Int)),false,())else(vD (eT2 a1)).bind fun r4=>bif (!r4)then some ((fU.mk a1.aa.ae (-1:Int)),false,())else(bif (decide (a0.Ce=(-1:Int)))then some true else some (!decide (a0.ae=a1.aa.ae))).bind fun b5=>bif b5 then(og a1.aa.ae).bind fun r6=>some ((fU.mk a1.aa.ae (aA .i64 a2 r6)),false,())else bif (decide (a0.Ce<=a2))then some ((fU.mk a1.aa.ae (-1:Int)),true,())else some (a0,false,())
def H3:=kf func65 [.ty (Ty.st .Timer),t9,t0] (.many [(Ty.st .Timer),y1]) (u3 AI) [] .e [yJ,CS,vi]
def tD(s:av):Option (Int×av):=(bif (decide (s.aj.aJ=3))then some true else(dI (av.mk (eT2 s.aj))).bind fun r1=>some (decide (r1=(ByteArray.mk #[])))).bind fun b2=>bif b2 then some (62,(av.mk (eT2 s.aj)))else bif (decide (1000<=s.aj.aa.ae))then some (3,(av.mk (eT2 s.aj)))else(dI (av.mk (eT2 s.aj))).bind fun r3=>(fZ (av.mk (eT2 s.aj)) (af.mk (aA .i64 s.aj.aa.ae 1) r3)).bind fun p4=>some (0,(av.mk (eT2 p4.2.aj)))
def AR:=kr func123 0 y6 [] q0 (fun s a=>tD s) [] .e [mO,nk]
def sn(a0:ab):Option (ab×Int×Unit):=(gR (eT2 a0)).bind fun r1=>bif (!r1)then some ((ab.mk 0 0 0 (an.mk 0 ([]:List Int) ([]:List an)) 0 zB zB zB zB 0 0 (ByteArray.mk #[]) ([]:List ai)),13,())else(jD (eT2 a0)).bind fun r2=>(tD (av.mk (eT2 r2))).bind fun p3=>bif (!decide (p3.1=0))then some ((ab.mk 0 0 0 (an.mk 0 ([]:List Int) ([]:List an)) 0 zB zB zB zB 0 0 (ByteArray.mk #[]) ([]:List ai)),p3.1,())else(eY (av.mk (eT2 p3.2.aj))).bind fun p4=>bu (fun(v5:av×Unit)=>some ((eT2 v5.1.aj),0,())) fun j6=>bu (fun(v7:Bool×Unit)=>bif v7.1 then j6 ((av.mk {p4.2.aj with aN:=(dp (aA .i64 p4.2.aj.aN 1) 1000000),ao:=(aw p4.2.aj.ao)}),())else j6 ((av.mk (eT2 p4.2.aj)),())) fun j8=>(aW a0.aa).bind fun r9=>bif (!r9)then(cY (eT2 a0)).bind fun r10=>(cY (eT2 p4.2.aj)).bind fun r11=>(ln (eT1 r10) (eT1 r11)).bind fun r12=>j8 ((!r12),())else j8 (false,())
def yP:=kf func115 [t9,.bj 123 []] (.many [y9,y0]) (fun a=>sn a.1) [] (p_ 5 31 (.j ⟨[.box 9 1 y6 []],[4,6]⟩ (.l (.j ⟨[.val 39 y1],[4,6]⟩ .e)))) [mi,rq,AR,o8,bx,jh,yL]
def vH(a0:ab):Option (ab×Int×Unit):=(sn (eT2 a0)).bind fun r1=>some ((eT2 r1.1),r1.2.1,())
def C0:=kf func66 [t9] (.many [y9,y0]) (u1 vH) [] .e [yP]
def DF(a0:bS)(a1:Int):Option (bS×Int×Unit):=(nB (eT3 a0)).bind fun r1=>bif (!r1)then some ((bS.mk (aC.mk 0 0 0 0 (an.mk 0 ([]:List Int) ([]:List an)) (ByteArray.mk #[]) ([]:List ByteArray) ([]:List ByteArray) ([]:List ByteArray) ([]:List aK)) (ab.mk 0 0 0 (an.mk 0 ([]:List Int) ([]:List an)) 0 zB zB zB zB 0 0 (ByteArray.mk #[]) ([]:List ai)) (fU.mk 0 0) 0 0 false (ByteArray.mk #[])),13,())else(qX a1).bind fun r2=>bif (!r2)then some ((bS.mk (aC.mk 0 0 0 0 (an.mk 0 ([]:List Int) ([]:List an)) (ByteArray.mk #[]) ([]:List ByteArray) ([]:List ByteArray) ([]:List ByteArray) ([]:List aK)) (ab.mk 0 0 0 (an.mk 0 ([]:List Int) ([]:List an)) 0 zB zB zB zB 0 0 (ByteArray.mk #[]) ([]:List ai)) (fU.mk 0 0) 0 0 false (ByteArray.mk #[])),1,())else(AK (eT3 a0)).bind fun r3=>(Ca (eT3 r3) a1).bind fun p4=>(AI p4.2.Timer (eT2 p4.2.aj) a1).bind fun r5=>bu (fun(v6:bS×Unit)=>some ((eT3 v6.1),0,())) fun j7=>bif r5.2.1 then(vH (eT2 p4.2.aj)).bind fun r8=>(AJ {p4.2 with aF:=(eT0 p4.2.aF),aj:=(eT2 p4.2.aj),Timer:=r5.1} (eT2 r8.1) r8.2.1).bind fun p9=>(oh (eT3 p9.2)).bind fun r10=>j7 ((eT3 r10),())else j7 ({p4.2 with aF:=(eT0 p4.2.aF),aj:=(eT2 p4.2.aj),Timer:=r5.1},())
def KY:=kf func27 [.ty y13,t0] (.many [y13,y0]) (u2 DF) [] (p_ 6 63 (.j ⟨[.box 0 1 y13 []],[2,4]⟩ .e)) [wP,AE,H6,Jl,H3,C0,H4,vj]
def qw(a0:(List Int))(a1:Int):Option Bool:=(wg a0).bind fun r1=>(mT 3 3).bind fun r2=>(nT r1).bind fun p3=>(tb 0 1 (aw r2) p3.1 (sC .i64 (cj .i64 a1) 50)).bind fun r4=>bu (fun(v5:Bool×Unit)=>bif v5.1 then some false else aD (fun(v7:Int×bS×Unit)=>bif (decide (v7.1<40))then(DF (eT3 v7.2.1) (aA .i64 (sC .i64 (cj .i64 a1) 50) v7.1)).bind fun r8=>bif (!decide (r8.2.1=0))then oR (some false)else bu (fun(v9:Unit)=>some (Sum.inl ((aA .i64 v7.1 1),(eT3 r8.1),()))) fun j10=>bif (decide (((v7.2.1.aF.bA.length:Nat):Int)=0))then bu (fun(v11:Bool×Unit)=>bif v11.1 then oR (some false)else j10 (())) fun j12=>bif (decide ((aA .i64 (sC .i64 (cj .i64 a1) 50) v7.1)<v7.2.1.Next))then bif (!decide (r8.1.Round=v7.2.1.Round))then j12 (true,())else bif (decide (v7.2.1.Next<=(aA .i64 (sC .i64 (cj .i64 a1) 50) v7.1)))then bif (!decide (r8.1.Round=(aA .i64 v7.2.1.Round 1)))then j12 (true,())else(nC r8.1.Round).bind fun r13=>j12 ((!decide (r8.1.Next=(aA .i64 (aA .i64 (sC .i64 (cj .i64 a1) 50) v7.1) r13))),())else j12 (false,())else bif (decide (v7.2.1.Next<=(aA .i64 (sC .i64 (cj .i64 a1) 50) v7.1)))then bif (!decide (r8.1.Round=(aA .i64 v7.2.1.Round 1)))then j12 (true,())else(nC r8.1.Round).bind fun r14=>j12 ((!decide (r8.1.Next=(aA .i64 (aA .i64 (sC .i64 (cj .i64 a1) 50) v7.1) r14))),())else j12 (false,())else j10 (())else oR ((tj).bind fun r15=>some r15)) (1,(eT3 r4.1),())) fun j6=>bif (!decide (r4.2.1=0))then j6 (true,())else(nC 1).bind fun r16=>j6 ((!decide (r4.1.Next=(aA .i64 (sC .i64 (cj .i64 a1) 50) r16))),())
def C3:=kf func6 [t8,.ty (Ty.i .u8)] q1 (u2 qw) [] (p_ 5 31 (.b (.j ⟨[.val 36 y1],[6,8]⟩ .e) (p_ 3 2 (.j ⟨[.val 10 y0,.box 19 1 y13 []],[6,8]⟩ (p_ 6 50 (.j ⟨[],[6,8,10,11]⟩ (p_ 3 2 (.j ⟨[.val 96 y1],[6,8,10,11]⟩ .e)))))))) [MI,Ds,D2,Fp,Jm,KY,Jp]
end Go.Proofs.YtjbfdglebjnelaaGreat
end
noncomputable section
end
noncomputable section
namespace Go.TQ
@[simp] theorem bq {σ ρ:Type} (j:σ->Option ρ) (f:(σ->Option ρ)->Option ρ):bu j f=f j:=rfl
@[simp] theorem py {α:Type} (b:Bool) (x y:α):(bif b then some x else some y)=some (bif b then x else y):=by cases b<;>rfl
@[simp] theorem XJ {α:Type} (b:Bool) (x:α):(bif b then x else x)=x:=by cases b<;>rfl
theorem GW{α:Type}(p:Prop)[Decidable p](x y:α):(bif decide p then x else y)=if p then x else y:=by
 by_cases h:p<;>simp[h]
theorem Ea{α:Type}(p:Prop)[Decidable p](x y:α):(if p then some x else some y)=some (if p then x else y):=by split<;>rfl
@[simp] theorem Uk {α:Type} (b:Bool) (x y:α):(bif !b then x else y)=bif b then y else x:=by cases b<;>rfl
@[simp] theorem HH (a b:Int) (s t:ByteArray):lN false a b s t=(decide (a=b)&&decide (s=t)):=by simp[lN]
@[simp] theorem Rf (a b:Int) (s t:ByteArray):lN true a b s t= !(decide (a=b)&&decide (s=t)):=by simp[lN]
def Yd{α:Type}(o:Option α)(p:α->Prop):Prop:=∃x,o=some x/\p x
theorem Yd.bind{α β:Type}{o:Option α}{p:α->Prop}{f:α->Option β}{q:β->Prop}(h:Yd o p)(k:∀x,p x->Yd (f x) q):Yd (o.bind f) q:=by
 obtain⟨x,rfl,hx⟩:=h;exact k x hx
theorem Yd.mono{α:Type}{o:Option α}{p q:α->Prop}(h:Yd o p)(k:∀x,p x->q x):Yd o q:=by
 obtain⟨x,h1,hx⟩:=h;exact⟨x,h1,k x hx⟩
theorem Yd.some{α:Type}{x:α}{p:α->Prop}(h:p x):Yd (Option.some x) p:=⟨x,rfl,h⟩
theorem Yd.of_eq{α:Type}{o:Option α}{x:α}{p:α->Prop}(h:o=Option.some x)(hp:p x):Yd o p:=⟨x,h,hp⟩
theorem Yd.cond{α:Type}{b:Bool}{x y:Option α}{p:α->Prop}(h1:b=true->Yd x p)(h2:b=false->Yd y p):Yd (bif b then x else y) p:=by
 cases b
 ·exact h2 rfl
 ·exact h1 rfl
theorem Yd.map{α β:Type}{o:Option α}{f:α->β}{p:β->Prop}(h:Yd o fun x=>p (f x)):Yd (o.map f) p:=by
 obtain⟨x,rfl,hx⟩:=h;exact⟨f x,rfl,hx⟩
theorem Yd.eq_true{o:Option Bool}(h:Yd o (·=true)):o=Option.some true:=by
 obtain⟨x,h1,rfl⟩:=h;exact h1
theorem wrap64{n:Int}(h1: -9223372036854775808<=n)(h2:n<=9223372036854775807):IntKind.i64.wrap n=n:=i64_in h1 h2
theorem cO{a b:Int}(h1: -9223372036854775808<=a+b)(h2:a+b<=9223372036854775807):aA .i64 a b=a+b:=wrap64 h1 h2
theorem zu{a b:Int}(h1: -9223372036854775808<=a - b)(h2:a - b<=9223372036854775807):gf .i64 a b=a - b:=wrap64 h1 h2
theorem bQ{α:Type}(l:List α)(i:Nat):idx l (i:Int)=l[i]?:=by simp[idx]
theorem Ju{α:Type}(l:List α){n:Int}(h:0<=n):idx l n=l[n.toNat]?:=by simp[idx,h]
@[simp] theorem Vk (n:Nat) (h:n<256):cj .i64 (n:Int)=n:=wrap64 (by omega) (by omega)
@[simp] theorem cd {bytes n:Nat} (h:n*bytes<=140737488355328/\n<=1000000):bL bytes n=true:=by
 simp only[bL,Qm,Qi];exact⟨h.1,QK h.2 (by simp[maxLen])⟩
theorem oY(a:Nat)(h:a<2 ^ 62):(BitVec.ofInt 64 (a:Int)).toNat=a:=by
 rw[BitVec.ofInt_natCast,BitVec.toNat_ofNat];exact Nat.mod_eq_of_lt (by omega)
theorem zo(n:Nat)(h:n<2 ^ 62):IntKind.i64.wrap (n:Int)=n:=wrap64 (by omega) (by omega)
theorem Ke(a b:Nat)(ha:a<2 ^ 62)(hb:b<2 ^ 62):EA .i64 (a:Int) (b:Int)=((a&&&b:Nat):Int):=by
 show IntKind.i64.wrap (((BitVec.ofInt 64 (a:Int)&&&BitVec.ofInt 64 (b:Int)).toNat:Nat):Int)=_;rw[BitVec.toNat_and,oY a ha,oY b hb];exact zo _ (Nat.lt_of_le_of_lt Nat.and_le_left ha)
theorem Gx(a b:Nat)(ha:a<2 ^ 62)(hb:b<2 ^ 62):n5 .i64 (a:Int) (b:Int)=((a|||b:Nat):Int):=by
 show IntKind.i64.wrap (((BitVec.ofInt 64 (a:Int)|||BitVec.ofInt 64 (b:Int)).toNat:Nat):Int)=_
 rw[BitVec.toNat_or,oY a ha,oY b hb];exact zo _ (Nat.or_lt_two_pow ha hb)
theorem Ul(s k:Nat):s&&&2 ^ k=if s.testBit k then 2 ^ k else 0:=by
 refine Nat.eq_of_testBit_eq fun i=> ?_
 rw[Nat.testBit_and,Nat.testBit_two_pow]
 by_cases h:k=i
 ·subst h;cases hs:s.testBit k<;>simp
 ·cases hs:s.testBit k<;>simp[h]
theorem wE(k:Nat)(h:k<=60):c7 .i64 1 (k:Int)=((2 ^ k:Nat):Int):=by
 show IntKind.i64.wrap (1*2 ^ min (k:Int).toNat 64)=_;rw[QV,show min k 64=k from Nat.min_eq_left (by omega),Int.one_mul]
 have:=zo (2 ^ k) (Nat.pow_lt_pow_right (by omega) (by omega))
 simpa using this
theorem bs{σ ρ:Type}{step:σ->Option (σ⊕ρ)}{s:σ}{r:ρ}(h:step s=some (.inr r)):aD step s=some r:=by rw[o0,h]
theorem bD{σ ρ:Type}{step:σ->Option (σ⊕ρ)}{s s':σ}(h:step s=some (.inl s')):aD step s=aD step s':=by rw[o0,h]
theorem Fl{σ ρ:Type}{step:σ->Option (σ⊕ρ)}{s:σ}(h:step s=none):aD step s=none:=by rw[o0,h]
theorem Yd.loop{σ ρ:Type}{step:σ->Option (σ⊕ρ)}{s:σ}{p:ρ->Prop}(h:Yd (step s) fun y=>match y with| .inl s'=>Yd (aD step s') p| .inr r=>p r):Yd (aD step s) p:=by
 obtain⟨y,h1,h2⟩:=h
 cases y with
 |inl s'=>rw[bD h1];exact h2
 |inr r=>exact⟨r,bs h1,h2⟩
theorem Yd.inr{σ ρ:Type}{o:Option ρ}{p:σ⊕ρ->Prop}(h:Yd o fun r=>p (.inr r)):Yd (Option.map Sum.inr o) p:=h.map
def fS{α σ ρ:Type}(g:α->σ->Option (σ⊕ρ))(fin:σ->Option ρ):List α->σ->Option ρ
 |[],s=>fin s
 |x::l,s=>match g x s with
  |none=>none
  |some (.inr r)=>some r
  |some (.inl s')=>fS g fin l s'
theorem MF{α σ τ ρ:Type}(l:List α)(mk:Int->σ->τ){step:τ->Option (τ⊕ρ)}(g:α->σ->Option (σ⊕ρ))(fin:σ->Option ρ)
  (h1:∀(i:Nat) (x:α) (s:σ),i<l.length->l[i]?=some x->step (mk i s)=match g x s with|none=>none|some (.inr r)=>some (.inr r)|some (.inl s')=>some (.inl (mk (i+1:Nat) s')))
  (h2:∀s,step (mk l.length s)=(fin s).map Sum.inr) (s:σ):aD step (mk 0 s)=fS g fin l s:=by
 suffices h:∀(k:Nat) (i:Nat) (s:σ),i+k=l.length->aD step (mk i s)=fS g fin (l.drop i) s by
  have:=h l.length 0 s (by omega)
  simpa using this
 intro k
 induction k with
 |zero=>
  intro i s hi;obtain rfl:i=l.length:=by omega
  rw[Qq65,fS,o0,h2];cases fin s<;>rfl
 |succ k ih=>
  intro i s hi;have hlt:i<l.length:=by omega
  rw[QM hlt,fS,o0,h1 i l[i] s hlt (Qv hlt)]
  cases hg:g l[i] s with
  |none=>rfl
  |some y=>
   cases y with
   |inr r=>rfl
   |inl s'=>exact ih (i+1) s' (by omega)
theorem jG{α σ τ ρ:Type}(l:List α)(hl:l.length<=9223372036854775807)(mk:Int->σ->τ){step:τ->Option (τ⊕ρ)}(g:α->σ->Option (σ⊕ρ))(fin:σ->Option ρ)
  (h1:∀(i:Nat) (x:α) (s:σ),decide ((i:Int)<((l.length:Nat):Int))=true->idx l (i:Int)=some x->aA .i64 (i:Int) 1=((i+1:Nat):Int)->step (mk i s)=match g x s with|none=>none|some (.inr r)=>some (.inr r)|some (.inl s')=>some (.inl (mk (i+1:Nat) s')))
  (h2:∀s,decide (((l.length:Nat):Int)<((l.length:Nat):Int))=false->step (mk l.length s)=(fin s).map Sum.inr) (s:σ):aD step (mk 0 s)=fS g fin l s:=
 MF l mk g fin (fun i x s hi hx=>h1 i x s (Qg (Int.ofNat_lt.2 hi)) (by rw[bQ];exact hx) (cO (by omega) (by omega))) (fun s=>h2 s (Qh (Qq63 _))) s
end Go.TQ
namespace Go.Proofs.YtjbfdglebjnelaaGreat
open Go.TQ
section
def il:ByteArray:=⟨#[]⟩
def aI(b:af):Bool:=decide (b.ae=0)&&decide (b.Value=il)
def lJ(a b:ByteArray):Bool:=if a.size=b.size then jn a b else decide (a.size<b.size)
def bd(a b:af):Bool:=if a.ae=b.ae then lJ a.Value b.Value else decide (a.ae<b.ae)
def bI(a b:af):Bool:=decide (a.Value=b.Value)
def js(p b:af):Bool:= !aI p&&bI p b&&decide (b.ae<=p.ae)
def dF(p q b:af):Bool:=js p b||js q b||(!aI q&&bd b q)
def eJ(p b:af):Bool:= !aI p&& !bI p b&&bd b p
def cF(b:af):Bool:=(decide (1<=b.ae)&&decide (b.ae<=1000)||decide (b.ae=1000000))&&decide (1<=b.Value.size)&&decide (b.Value.size<=200)
theorem HR:∀x:List UInt8,Op.bytesLess x x=false
 |[]=>rfl
 |a::l=>by simp[Op.bytesLess,HR l]
theorem J9:∀{x y:List UInt8},x≠y->Op.bytesLess x y=true\/Op.bytesLess y x=true
 |[],[],h=>absurd rfl h
 |[],_::_,_=> .inl rfl
 |_::_,[],_=> .inr rfl
 |a::l,b::m,h=>by
  simp only[Op.bytesLess]
  by_cases hab:a=b
  ·subst hab;have:l≠m:=fun e=>h (by rw[e])
   simpa using J9 this
  ·rcases Nat.lt_or_gt_of_ne (fun e=>hab (UInt8.toNat_inj.1 e))with h1|h1
   ·have h2:a<b:=h1;simp[h2]
   ·have h2:b<a:=h1;simp[h2]
theorem IK(a:ByteArray):jn a a=false:=HR _
@[simp] theorem bX (b:af):aW b=some (aI b):=by unfold aW aI;rw[HH];rfl
@[simp] theorem dZ (a b:af):bz a b=some (bI a b):=rfl
@[simp] theorem u0 (b:af):fg b=some (cF b):=by
 have h1:decide ((1:Int)<=(b.Value.size:Nat))=decide (1<=b.Value.size):=by rw[decide_eq_decide];omega
 have h2:decide (((b.Value.size:Nat):Int)<=200)=decide (b.Value.size<=200):=by rw[decide_eq_decide];omega
 simp only[fg,cF,h1,h2,py,Qa,Bool.cond_false_right,Bool.cond_true_left]
@[simp] theorem NB (a b:af):iD a b=some (js a b):=by simp[iD,js]
def vm(a b:Int):Int:=if a<b then -1 else if b<a then 1 else 0
def J5(a b:ByteArray):Int:=if jn a b then -1 else if jn a b||decide (a=b)then 0 else 1
def R6:List Int->Int
 |[]=>0
 |x::l=>if x=0 then R6 l else x
@[simp] theorem Ay (a b:Int):dW a b=some (vm a b):=by
 simp[dW,oL,vm,GW,Ea]
@[simp] theorem Kz (a b:ByteArray):jg a b=some (J5 a b):=by
 simp only[jg,mJ,J5];cases h1:jn a b<;>by_cases h2:a=b<;>simp[h2]
theorem Gf(l:List Int)(hl:l.length<=1000000):jX l=some (R6 l):=by
 unfold jX;rw[jG l (by omega) (fun i (_:Unit)=>(i,())) (fun x _=>some (if x=0 then .inl ()else .inr x)) (fun _=>some 0) (fun i x s hd hx hw=> ?_) (fun s hd=> ?_) ()]
 ·induction l with
  |nil=>rfl
  |cons x l ih=>
   rw[fS,R6]
   by_cases h:x=0
   ·simp only[h,Qt];exact ih (by simp at hl;omega)
   ·simp only[Qs h]
 ·by_cases h:x=0<;>simp only[hd,hx,hw,h,Qk,Qa]<;>simp
 ·simp only[hd,Ql]
@[simp] theorem RP (a b:Int):jX [a,b]=some (if a=0 then b else a):=by
 rw[Gf _ (by simp)]
 simp only[R6]
 by_cases h:a=0<;>by_cases h':b=0<;>simp[h,h']
def xb(a b:ByteArray):Int:=if vm a.size b.size=0 then J5 a b else vm a.size b.size
def J7(a b:af):Int:=if vm a.ae b.ae=0 then xb a.Value b.Value else vm a.ae b.ae
@[simp] theorem vo (a b:ByteArray):ft a b=some (xb a b):=by simp[ft,xb]
@[simp] theorem Nv (a b:af):kR a b=some (J7 a b):=by simp[kR,J7]
theorem xO(a b:Int):vm a b=0↔a=b:=by unfold vm;split<;>(try split)<;>omega
theorem Ev(a b:Int):vm a b<0↔a<b:=by unfold vm;split<;>(try split)<;>omega
theorem Rq(a b:ByteArray):J5 a b<0↔jn a b=true:=by
 unfold J5;split
 ·rename_i h;simp[h]
 ·rename_i h;split<;>simp[h]
theorem Al(a b:ByteArray):decide (xb a b<0)=lJ a b:=by
 unfold xb lJ
 by_cases h:a.size=b.size
 ·rw[Qr ((xO _ _).2 (by rw[h])),Qr h]
  rw[QW,Qi,Rq]
 ·rw[Qs (fun e=>h (by have:=(xO _ _).1 e;omega)),Qs h,decide_eq_decide,Ev]
  omega
theorem J6(a b:af):decide (J7 a b<0)=bd a b:=by
 unfold J7 bd
 by_cases h:a.ae=b.ae
 ·rw[Qr ((xO _ _).2 h),Qr h,Al]
 ·rw[Qs (fun e=>h ((xO _ _).1 e)),Qs h,decide_eq_decide,Ev]
@[simp] theorem gN (a b:af):dj a b=some (bd a b):=by simp[dj,J6]
@[simp] theorem nI (p q b:af):fq p q b=some (dF p q b):=by simp[fq,dF]
@[simp] theorem oC (p b:af):dm p b=some (eJ p b):=by simp[dm,eJ]
def finite(b:af):Bool:=cF b&&decide (b.ae<=1000)
@[simp] theorem zl (b:af):jV b=some (finite b):=by simp[jV,finite]
@[simp] theorem xt (b:af):jf b=some (aI b||cF b):=by simp[jf]
@[simp] theorem vJ (e:ai) (n:Int):lp e n=some ⟨n,e.aa.Value⟩:=rfl
end
section
theorem G5{rec:(an×Unit)->Option Int}{t:an}(hl:t.aM.length<=9223372036854775807):
  gP rec t=fS (fun u m=>(rec (u,())).map fun r=> .inl (bn m r)) (fun m=>some (aA .i64 m 1)) t.aM 0:=by
 unfold gP;rw[jG t.aM hl (fun i (m:Int)=>(m,i,())) (fun u m=>(rec (u,())).map fun r=> .inl (bn m r)) (fun m=>some (aA .i64 m 1)) (fun i x s hd hx hw=> ?_) (fun s hd=> ?_) 0]
 ·simp only[hd,hx,hw,Qk,Qa,etas];cases rec (x,())<;>rfl
 ·simp only[hd,Ql]
theorem Kw{rec:(an×Unit)->Option Int}{t:an}(hl:t.aM.length<=9223372036854775807):
  iE rec t=fS (fun u m=>(rec (u,())).map fun r=> .inl (aA .i64 m r)) (fun m=>some m) t.aM (aA .i64 t.a8.length t.aM.length):=by
 unfold iE;rw[jG t.aM hl (fun i (m:Int)=>(m,i,())) (fun u m=>(rec (u,())).map fun r=> .inl (aA .i64 m r)) (fun m=>some m) (fun i x s hd hx hw=> ?_) (fun s hd=> ?_) (aA .i64 t.a8.length t.aM.length)]
 ·simp only[hd,hx,hw,Qk,Qa,etas];cases rec (x,())<;>rfl
 ·simp only[hd,Ql]
def eV(x:Int):Bool:=decide (0<=x)&&decide (x<10)
def w4(s x:Int):Bool:=decide (0<=s)&&decide (s<1024)&&eV x&&s.toNat.testBit x.toNat
theorem GX(s:Int):ep s=some (decide (0<=s)&&decide (s<1024)):=by
 have:c7 .i64 1 10=1024:=wE 10 (by omega)
 simp[ep,td,this]
theorem Kd{s x:Int}(h1:0<=s)(h2:s<1024)(h3:0<=x)(h4:x<10):(EA .i64 s (c7 .i64 1 x)=0)=(s.toNat.testBit x.toNat=false):=by
 obtain⟨n,rfl⟩:=Int.eq_ofNat_of_zero_le h1;obtain⟨j,rfl⟩:=Int.eq_ofNat_of_zero_le h3;have hj:2 ^ j<=2 ^ 10:=Nat.pow_le_pow_right (by omega) (by omega)
 rw[wE j (by omega),Ke n (2 ^ j) (by omega) (by omega),Ul]
 simp only[QV];have hp:2 ^ j≠0:=Nat.pos_iff_ne_zero.1 (Nat.pow_pos (by omega))
 cases n.testBit j
 ·simp
 ·rw[Qr rfl];simp only[Bool.true_eq_false,eq_iff_iff,iff_false];omega
@[simp] theorem nV (s x:Int):gw s x=some (w4 s x):=by
 unfold gw w4 eV;rw[GX]
 by_cases h1:0<=s
 ·by_cases h2:s<1024
  ·by_cases h3:0<=x
   ·by_cases h4:x<10
    ·have h5:¬x<0:=by omega
     have:=Kd h1 h2 h3 h4;simp[h1,h2,h3,h4,h5,this]
    ·simp[h1,h2,h3,h4]
   ·simp[h1,h2,h3]
  ·simp[h1,h2]
 ·simp[h1]
theorem wj{s:Nat}{x:Int}(h1:s<1024)(h3:0<=x)(h4:x<10):n5 .i64 (s:Int) (c7 .i64 1 x)=((s|||2 ^ x.toNat:Nat):Int):=by
 obtain⟨j,rfl⟩:=Int.eq_ofNat_of_zero_le h3;have hj:2 ^ j<=2 ^ 9:=Nat.pow_le_pow_right (by omega) (by omega)
 rw[wE j (by omega)]
 exact Gx s (2 ^ j) (by omega) (by omega)
theorem Il{s:Nat}{x:Int}(h1:s<1024)(h4:x<10):s|||2 ^ x.toNat<1024:=by
 have hj:2 ^ x.toNat<=2 ^ 9:=Nat.pow_le_pow_right (by omega) (by omega)
 exact Nat.or_lt_two_pow (n:=10) h1 (by omega)
def sL(s:Nat):List Int->Int×Int×Unit
 |[]=>(s,0,())
 |x::l=>if eV x then(if s.testBit x.toNat then(0,6,())else sL (s|||2 ^ x.toNat) l)else(0,5,())
theorem Ln(g:Int->Int->Option (Int⊕(Int×Int×Unit)))
  (hg:∀x (s:Nat),s<1024->g x s=some (if eV x then(if s.testBit x.toNat then .inr (0,6,())else .inl ((s|||2 ^ x.toNat:Nat):Int))else .inr (0,5,()))):
  ∀(l:List Int) (s:Nat),s<1024->fS g (fun s=>some (s,0,())) l s=some (sL s l)
 |[],s,_=>rfl
 |x::l,s,hs=>by
  rw[fS,hg x s hs,sL]
  cases h1:eV x with
  |false=>simp
  |true=>
   cases h2:s.testBit x.toNat with
   |true=>simp
   |false=>
    simp only[Qt,Qq,Qu];have h3:x<10:=by simp[eV]at h1;omega
    exact Ln g hg l _ (Il hs h3)
theorem Ge(l:List Int)(hl:l.length<=9223372036854775807):te l=some (sL 0 l):=by
 unfold te;rw[jG l hl (fun i (s:Int)=>(s,i,())) (fun x s=>if eV x then(if w4 s x then some (.inr (0,6,()))else some (.inl (n5 .i64 s (c7 .i64 1 x))))else some (.inr (0,5,()))) (fun s=>some (s,0,())) (fun i x s hd hx hw=> ?_) (fun s hd=> ?_) 0]
 ·refine Ln _ (fun x s hs=> ?_) l 0 (by omega)
  cases h1:eV x with
  |false=>simp
  |true=>
   have h3:0<=x/\x<10:=by simp[eV]at h1;omega
   have h2:w4 s x=s.testBit x.toNat:=by simp[w4,h1];omega
   rw[h2,wj hs h3.1 h3.2];cases s.testBit x.toNat<;>simp
 ·simp only[hd,hx,hw,Qk,Qa,nV]
  by_cases h0:x<0
  ·have:¬0<=x:=by omega
   simp[h0,eV,this]
  ·have h0':0<=x:=by omega
   by_cases h10:10<=x
   ·have:¬x<10:=by omega
    simp[h0,h10,eV,this,h0']
   ·have h10':x<10:=by omega
    cases h:w4 s x<;>simp[h0,h10,eV,h0',h10']
 ·simp only[hd,Ql]
@[simp] theorem qO (x:Int):jt x=some (!eV x):=by simp[jt,rJ,eV]
theorem Dc(l:List Int)(hl:l.length<=9223372036854775807):eO l=some (l.any fun x=> !eV x):=by
 have key:∀(i:Nat) (k:Nat),i+k=l.length->Yd (aD (fun(v1:Int×Unit)=>bif (decide (v1.1<((List.length l:Nat):Int)))then Option.bind (idx l v1.1) fun x2=>Option.bind (jt x2) fun r3=>bif r3 then Option.map Sum.inr (some v1.1)else some (Sum.inl ((aA .i64 v1.1 (1:Int)),()))else Option.map Sum.inr (some (-1:Int))) ((i:Int),())) fun r=>decide (0<=r)=(l.drop i).any fun x=> !eV x:=by
  intro i k
  induction k generalizing i with
  |zero=>
   intro hi;refine⟨-1,bs ?_,?_⟩
   ·have:¬((i:Int)<(l.length:Int)):=by omega
    simp[this]
   ·rw[List.drop_eq_nil_of_le (by omega)];rfl
  |succ k ih=>
   intro hi;have hlt:i<l.length:=by omega
   have hd:decide ((i:Int)<((l.length:Nat):Int))=true:=Qg (Int.ofNat_lt.2 hlt);have hx:idx l (i:Int)=some l[i]:=by rw[bQ];exact Qv hlt
   have hw:aA .i64 (i:Int) 1=((i+1:Nat):Int):=cO (by omega) (by omega)
   rw[QM hlt,List.any_cons]
   cases h:eV l[i]with
   |true=>
    rw[bD (s':=(((i+1:Nat):Int),())) (by simp only[hd,hx,hw,Qk,Qa,qO,h];rfl)]
    exact(ih (i+1) (by omega)).mono fun r hr=>by simpa using hr
   |false=>
    refine⟨i,bs (by simp only[hd,hx,Qk,Qa,qO,h];rfl),?_⟩
    simp
 obtain⟨r,h1,h2⟩:=key 0 l.length (by omega)
 unfold eO iR;simp only[Int.natCast_zero]at h1;rw[h1];simpa using h2
def uH(rec:an->Option Int)(t:an):Option Int:=
 if t.aH<1\/aA .i64 t.a8.length t.aM.length<t.aH then some 4
 else if(t.a8.any fun x=> !eV x)then some 5
 else if(sL 0 t.a8).2.1=0 then fS (fun u (_:Unit)=>(rec u).map fun r=>if r=0 then .inl ()else .inr r) (fun _=>some 0) t.aM ()
 else some (sL 0 t.a8).2.1
theorem G4{rec:(an×Unit)->Option Int}{t:an}(hn:t.a8.length<=9223372036854775807)(hl:t.aM.length<=9223372036854775807):gO rec t=uH (fun u=>rec (u,())) t:=by
 unfold gO uH;rw[Dc _ hn,Ge _ hn];rw[jG t.aM hl (fun i (_:Unit)=>(i,())) (fun u (_:Unit)=>(rec (u,())).map fun r=>if r=0 then .inl ()else .inr r) (fun _=>some 0) (fun i x s hd hx hw=> ?_) (fun s hd=> ?_) ()]
 ·by_cases h1:t.aH<1
  ·simp[h1]
  ·by_cases h2:aA .i64 t.a8.length t.aM.length<t.aH
   ·simp[h1,h2]
   ·simp only[h1,h2,decide_false,Ql,Qa,or_self,Qu]
    cases (t.a8.any fun x=> !eV x)with
    |true=>simp
    |false=>
     by_cases h3:(sL 0 t.a8).2.1=0<;>simp[h3]
 ·simp only[hd,hx,hw,Qk,Qa,etas]
  cases rec (x,())with
  |none=>rfl
  |some r=>by_cases h:r=0<;>simp[h]
 ·simp only[hd,Ql]
structure ir (t:an):Prop where
 nodes:∀x∈t.a8,0<=x/\x<10
 nodup:t.a8.Nodup
 len:t.a8.length<=10
 inner:t.aM=[]\/∃x,0<=x/\x<10/\t.aM=[⟨1,[x],[]⟩]
 th:1<=t.aH/\t.aH<=t.a8.length+t.aM.length
theorem zN:∀(l:List Int) (s:Nat),(∀x∈l,0<=x/\x<10)->l.Nodup->(∀x∈l,s.testBit x.toNat=false)->(sL s l).2.1=0
 |[],s,_,_,_=>rfl
 |x::l,s,h1,h2,h3=>by
  rw[List.nodup_cons]at h2;have hx:=h1 x (by simp)
  have:eV x=true:=by simp[eV];omega
  rw[sL,this,h3 x (by simp)]
  simp only[Qt,Qq,Qu];refine zN l _ (fun y hy=>h1 y (by simp[hy])) h2.2 fun y hy=> ?_
  have hy1:=h1 y (by simp[hy])
  rw[Nat.testBit_or,h3 y (by simp[hy]),Nat.testBit_two_pow]
  have:x.toNat≠y.toNat:=fun e=>by
   have:x=y:=by omega
   subst this;exact h2.1 hy
  simp[this]
theorem Kc{l:List Int}(h:∀x∈l,0<=x/\x<10):(l.any fun x=> !eV x)=false:=by
 rw[List.any_eq_false];intro x hx;have:=h x hx;simp[eV];omega
theorem KX{rec:an->Option Int}{x:Int}(h0:0<=x)(h1:x<10):uH rec ⟨1,[x],[]⟩=some 0:=by
 have h2:aA .i64 (1:Nat) (0:Nat)=1:=rfl;have h3:(sL 0 [x]).2.1=0:=zN [x] 0 (by simp;omega) (by simp) (by simp)
 have h4:([x].any fun x=> !eV x)=false:=Kc (by simp;omega)
 simp only[uH,QE,QZ,Nat.zero_add,h2,h3,h4];simp[fS]
theorem MG{t:an}(h:ir t){rec:an->Option Int}(hr:∀x,0<=x->x<10->rec ⟨1,[x],[]⟩=some 0):uH rec t=some 0:=by
 have hil:t.aM.length<=1:=by rcases h.inner with e|⟨x,_,_,e⟩<;>rw[e]<;>simp
 have hlen:=h.len;have h2:aA .i64 t.a8.length t.aM.length=t.a8.length+t.aM.length:=cO (by omega) (by omega)
 have h3:(sL 0 t.a8).2.1=0:=zN _ 0 h.nodes h.nodup (by simp)
 have h4:=Kc h.nodes;have h5:=h.th;unfold uH;rw[h2,Qs (by omega),h4,h3]
 simp only[Qq,Qu,Qt];rcases h.inner with e|⟨x,hx0,hx1,e⟩
 ·rw[e];rfl
 ·rw[e,fS,hr x hx0 hx1];rfl
theorem IH(t:an):∃n,SizeOf.sizeOf t=n+1:=by
 have:1<=SizeOf.sizeOf t:=by
  cases t;simp only[an.mk.sizeOf_spec];omega
 exact⟨SizeOf.sizeOf t - 1,by omega⟩
theorem M0(n:Nat)(th:Int)(l:List Int):kG (n+1) (⟨th,l,[]⟩,())=some 1:=by
 show gP _ _=_;rw[G5 (by simp)]
 rfl
theorem size_leaf(n:Nat)(th:Int)(l:List Int):lz (n+1) (⟨th,l,[]⟩,())=some (aA .i64 l.length (0:Nat)):=by
 show iE _ _=_;rw[Kw (by simp)]
 rfl
theorem M1{t:an}(h:ir t):∃d,kI t=some d/\d<=2:=by
 obtain⟨n,hn⟩:=IH t;have hil:t.aM.length<=1:=by rcases h.inner with e|⟨x,_,_,e⟩<;>rw[e]<;>simp
 unfold kI;rw[hn];show∃d,gP (kG (n+1)) t=some d/\d<=2;rw[G5 (by omega)]
 rcases h.inner with e|⟨x,_,_,e⟩
 ·rw[e];exact⟨1,rfl,by omega⟩
 ·rw[e,fS,M0 n 1 [x]];exact⟨2,rfl,by omega⟩
theorem NS{t:an}(h:ir t):∃d,lA t=some d/\d<=200:=by
 obtain⟨n,hn⟩:=IH t;have hil:t.aM.length<=1:=by rcases h.inner with e|⟨x,_,_,e⟩<;>rw[e]<;>simp
 have hlen:=h.len;unfold lA;rw[hn];show∃d,iE (lz (n+1)) t=some d/\d<=200;rw[Kw (by omega),cO (by omega) (by omega)]
 rcases h.inner with e|⟨x,_,_,e⟩
 ·rw[e];exact⟨_,rfl,by simp;omega⟩
 ·rw[e,fS,size_leaf n 1 [x]];have h1:aA .i64 (([x]:List Int).length:Nat) (0:Nat)=1:=rfl;rw[h1];refine⟨_,rfl,?_⟩;simp only[QE,QZ];rw[cO (by omega) (by omega)]
  omega
theorem dH{t:an}(h:ir t):bP t=some 0:=by
 obtain⟨d,h1,h2⟩:=M1 h;obtain⟨z,h3,h4⟩:=NS h;obtain⟨n,hn⟩:=IH t;have hil:t.aM.length<=1:=by rcases h.inner with e|⟨x,_,_,e⟩<;>rw[e]<;>simp
 have hlen:=h.len
 have h5:kH t=some 0:=by
  unfold kH;rw[hn];show gO (ji (n+1)) t=some 0;rw[G4 (by omega) (by omega)]
  refine MG h fun x hx0 hx1=> ?_
  show gO (ji n) ⟨1,[x],[]⟩=some 0;rw[G4 (by simp) (by simp)]
  exact KX hx0 hx1
 have h6:¬4<d:=by omega
 have h7:¬200<z:=by omega
 simp[bP,h1,h3,h5,h6,h7]
end
section
structure Ko (s:nu):Prop where
 len:s.L.length<=800
 lo:0<=s.At
 hi:s.At<=800
theorem Vy(l:List Int):Yd (wg l) fun s=>Ko s:=by
 have h:dp (l.length:Int) 800=((min l.length 800:Nat):Int):=by unfold dp;split<;>omega
 have h2:dO 0 ((min l.length 800:Nat):Int) l.length=true:=by
  simp only[dO,Qm,Qi];omega
 unfold wg;rw[h,h2];refine Yd.some ⟨?_,by simp,by simp⟩
 simp only[QV,List.length_drop,List.length_take];omega
theorem SI(x n:Int)(hn:1<=n): -n<x.tmod n/\x.tmod n<n:=by
 have h2:=Int.emod_nonneg x (show n≠0 by omega)
 have h3:=Int.emod_lt_of_pos x (show 0<n by omega)
 rw[Int.tmod_eq_emod];split
 ·omega
 ·rw[Int.natAbs_of_nonneg (by omega)];omega
theorem XK{s:nu}(h:Ko s){n:Int}(hn:n<=1000000000):Yd (tc s n) fun p=>Ko p.2/\0<=p.1/\(1<=n->p.1<n)/\(n<1->p.1=0):=by
 unfold tc;simp only[bq];refine Yd.cond (fun h1=> ?_) (fun h1=> ?_)
 ·exact Yd.some ⟨h,by simp,fun _=>by simp;omega,fun _=>rfl⟩
 ·simp only[Qj,Int.not_le]at h1;refine Yd.cond (fun h2=> ?_) (fun h2=> ?_)
  ·simp only[Qi]at h2;exact Yd.some ⟨h,by simp,fun _=>by simp;omega,fun _=>rfl⟩
  ·simp only[Qj,Int.not_lt]at h2;obtain⟨hl,hlo,hhi⟩:=h;have e1:aA .i64 s.At 1=s.At+1:=cO (by omega) (by omega)
   have e2:gf .i64 (s.At+1) 1=s.At:=by rw[zu (by omega) (by omega)];omega
   rw[e1,e2];have hlt:s.At.toNat<s.L.length:=by omega
   rw[Ju _ hlo,Qv hlt,Qa,Qs (by omega),Qs (by omega)]
   have hb:=SI s.L[s.At.toNat] n h2;have e3:sC .i64 s.L[s.At.toNat] n=s.L[s.At.toNat].tmod n:=rfl;rw[e3];generalize s.L[s.At.toNat].tmod n=y at hb;have e4:aA .i64 y n=y+n:=cO (by omega) (by omega)
   rw[e4];have h5:sC .i64 (y+n) n=(y+n) % n:=Int.tmod_eq_emod_of_nonneg (by omega)
   rw[h5];exact Yd.some ⟨⟨hl,by simp;omega,by simp;omega⟩,Int.emod_nonneg _ (by omega),fun _=>Int.emod_lt_of_pos _ (by omega),fun _=>by omega⟩
theorem Uv{s:nu}(h:Ko s){l:List ByteArray}(h1:1<=l.length)(h2:l.length<=1000):Yd (oJ s l) fun p=>Ko p.2/\p.1∈l:=by
 unfold oJ;refine(XK h (by omega)).bind fun p ⟨h4,h5,h6,_⟩=> ?_
 have:=h6 (by omega)
 have hlt:p.1.toNat<l.length:=by omega
 rw[Ju _ h5,Qv hlt];exact Yd.some ⟨h4,Q0 hlt⟩
def HW(v:ByteArray):Prop:=v∈[(ByteArray.mk #[97]),(ByteArray.mk #[98]),(ByteArray.mk #[99]),(ByteArray.mk #[97,97])]
theorem HW.size{v:ByteArray}(h:HW v):1<=v.size/\v.size<=2:=by
 simp only[HW,QA,QR,or_false]at h;rcases h with rfl|rfl|rfl|rfl<;>exact⟨by decide,by decide⟩
theorem RF{s:nu}(h:Ko s):Yd (nT s) fun p=>Ko p.2/\HW p.1:=by
 unfold nT;exact(Uv h (by simp) (by simp)).bind fun p hp=>Yd.some hp
end
section
def at_(e:ai)(n:Int):af:=⟨n,e.aa.Value⟩
def Cr(e:ai):Bool:=aI e.au||(!aI e.ak&&bd e.au e.ak&& !bI e.au e.ak)
def gg(e:ai):Bool:=
 finite e.aa&&(aI e.ak||cF e.ak)&&(aI e.au||cF e.au)&&Cr e&&decide (0<=e.aQ)&&decide (e.aQ<=e.bg)&&decide (e.bg<=e.aa.ae)
  &&(decide (e.bg=0)||dF e.ak e.au (at_ e e.bg))&&(decide (e.aQ=0)||(!eJ e.ak (at_ e e.aQ)&& !eJ e.au (at_ e e.aQ)))
def wJ(e:ai):Bool:=decide (1<=e.aQ)&&decide (e.aQ<=e.bg)&&decide (e.bg<=1000)
def xa(e:ai):Bool:=finite e.aa&&cF e.ak&&bI e.ak e.aa&&aI e.au&&wJ e&&decide (e.bg<=e.ak.ae)
def CD(e:ai):Bool:=cF e.aa&&aI e.ak&&aI e.au&&wJ e
def BL(e:ai):Bool:=decide (0<=e.aq)&&decide (e.aq<10)&&decide (1<=e.bf)&&decide (e.bf<=1000000)&&decide (1<=e.aN)&&decide (e.aN<=1000000)
def ng(tv:Int)(e:ai):Bool:=
 BL e&&decide (tv=0)&&(if e.bW=1 then gg e else if e.bW=2 then xa e else if e.bW=3 then CD e else false)
theorem Xd(a b:Int):decide (a<b)= !decide (b<=a):=by by_cases h:a<b<;>simp[h]<;>omega
theorem Ie(e:ai):k7 e=some (gg e):=by
 unfold k7 gg Cr at_
 simp only[bX,gN,dZ,zl,xt,vJ,oC,nI,Qa,py,bq,Xd,Uk];cases finite e.aa<;>cases (aI e.ak||cF e.ak)<;>cases (aI e.au||cF e.au)<;>simp
 by_cases h:e.bg=0<;>simp[h,Bool.and_assoc]
theorem tk{e:ai}{tv:Int}(hT:bP e.ao=some tv):dn e=some (ng tv e):=by
 unfold dn ng BL;simp[Ie,hT,Xd,xa,CD,wJ]
 grind
def Iu(e:ai)(v:ByteArray)(lo hi:Int):Bool:=decide (1<=lo)&&decide (lo<=hi)&&decide (e.aa.Value=v)&&decide (e.aQ<=lo)
def wz(e:ai)(v:ByteArray)(lo hi:Int):Bool:=Iu e v lo hi&&(!decide (e.bW=1)||(!decide (e.aQ=0)&&decide (hi<=e.bg)))
def iv(e:ai)(v:ByteArray)(lo hi:Int):Bool:=Iu e v lo hi&&(decide (e.bW=3)||(decide (e.bW=2)&&decide (hi<=e.bg)))
def uC(e:ai)(b:af):Bool:= !aI b&&(if e.bW=1 then js e.aa b else bI e.aa b)
def dY(e:ai)(b:af):Bool:= !aI b&&(if e.bW=1 then dF e.ak e.au b else if e.bW=2 then js e.ak b else bI e.aa b)
def fo(e:ai):Int:=if e.bW=3 then 1000000 else e.aa.ae
@[simp] theorem yw (r:bc) (v:ByteArray) (lo hi:Int):gd r v lo hi=some (wz r.ax v lo hi):=by
 simp[gd,ic,wz,Iu]
@[simp] theorem pD (r:bc) (v:ByteArray) (lo hi:Int):fF r v lo hi=some (iv r.ax v lo hi):=by
 simp[fF,ic,iv,Iu]
@[simp] theorem xu (r:bc) (b:af):fW r b=some (uC r.ax b):=by
 simp only[fW,uC];cases hz:aI b<;>by_cases h:r.ax.bW=1<;>simp[h,hz]
@[simp] theorem oM (r:bc) (b:af):fC r b=some (dY r.ax b):=by
 simp only[fC,dY];cases hz:aI b<;>by_cases h:r.ax.bW=1<;>by_cases h2:r.ax.bW=2<;>simp[h,h2,hz]
@[simp] theorem RQ (r:bc):gJ r=some (fo r.ax):=by
 simp[gJ,fo,GW,Ea]
section
variable {e : ai} {tv : Int} (hT : bP e.ao = some tv)
 include hT
theorem Ku:gW e=some (if ng tv e then fo e else 0):=by
 simp only[gW,etas,ai.eta,tk hT,Qa];cases ng tv e<;>simp
end
def oE(n:Nat):List Int:=(List.range n).map fun i:Nat=>(i:Int)
theorem ID(n:Nat):oE (n+1)=oE n++[(n:Int)]:=by simp[oE,List.range_succ]
@[simp] theorem VK (n:Nat):(oE n).length=n:=by simp[oE]
theorem LW(n:Nat)(hn:n<=1000)(k:Int):mT n k=some ⟨k,oE n,[]⟩:=by
 unfold mT
 suffices key:∀(m i:Nat) (t:an),i+m=n->t.aH=k->t.aM=[]->aD (fun(v1:Int×an×(List Int)×Unit)=>
   bif (decide (v1.1<(n:Int)))then
   bif bL 8 (List.length v1.2.2.1+List.length [v1.1])then
   some (Sum.inl ((aA .i64 v1.1 (1:Int)),(an.mk v1.2.1.aH ([]:List Int) v1.2.1.aM),(v1.2.2.1++[v1.1]),()))
   else none
   else
   Option.map Sum.inr (some (an.mk v1.2.1.aH v1.2.2.1 v1.2.1.aM))) ((i:Int),t,oE i,())=some ⟨k,oE n,[]⟩from key n 0 _ (by omega) rfl rfl
 intro m
 induction m with
 |zero=>
  intro i t hi h1 h2;obtain rfl:i=n:=by omega
  refine bs ?_;have hd:decide ((i:Int)<(i:Int))=false:=Qh (Qq63 _);simp only[hd,Ql,h1,h2,Qe]
 |succ m ih=>
  intro i t hi h1 h2;have hd:decide ((i:Int)<(n:Int))=true:=Qg (by omega)
  have hw:aA .i64 (i:Int) 1=((i+1:Nat):Int):=cO (by omega) (by omega)
  rw[bD (s':=(((i+1:Nat):Int),⟨t.aH,[],t.aM⟩,oE (i+1),()))]
  ·exact ih (i+1) _ (by omega) h1 h2
  ·simp only[hd,hw,Qk];rw[cd (by simp;omega)]
   simp[ID]
theorem OL(n:Nat)(hn:n<=10)(k:Int)(h1:1<=k)(h2:k<=n):ir ⟨k,oE n,[]⟩:=by
 refine⟨fun x hx=> ?_,?_,by simpa using hn,.inl rfl,h1,by simpa using h2⟩
 ·simp only[oE,QP,List.mem_range]at hx;obtain⟨i,hi,rfl⟩:=hx;omega
 ·show(oE n).Nodup;exact List.Pairwise.map _ (fun a b h e=>h (by omega)) List.nodup_range
structure WD (az bJ n:Int) (e:ai):Prop where
 az:e.aq=az
 bJ:e.bf=bJ
 seq:1<=e.aN/\e.aN<=9
 bb:ir e.ao
 nodes:∀x∈e.ao.a8,x<n
 ne:e.ao.a8≠[]
 val:HW e.aa.Value
 valid:ng 0 e=true
theorem NI{b:af}(h1:1<=b.ae)(h2:b.ae<=1000)(h3:HW b.Value):cF b=true:=by
 have:=h3.size;have h4:b.Value.size<=200:=by omega
 simp[cF,h1,h2,h4,this.1]
end
section
inductive ea:an->Prop where
 |mk (t:an) (h1:t.a8.length<=1000000) (h2:t.aM.length<=1000000) (h3:∀u∈t.aM,ea u):ea t
theorem ea.nodes{t:an}:ea t->t.a8.length<=1000000| .mk _ h _ _=>h
theorem ea.len{t:an}:ea t->t.aM.length<=1000000| .mk _ _ h _=>h
theorem ea.inner{t:an}:ea t->∀u∈t.aM,ea u| .mk _ _ _ h=>h
theorem rC{t u:an}(h:u∈t.aM):SizeOf.sizeOf u<SizeOf.sizeOf t:=by
 have h1:=List.sizeOf_lt_of_mem h
 cases t with
 |mk th ns is=>
  simp only[an.mk.sizeOf_spec]at h1 ⊢;omega
theorem ir.sm{t:an}(h:ir t):ea t:=by
 have:=h.len;refine .mk t (by omega) ?_ fun u hu=> ?_
 ·rcases h.inner with e|⟨x,_,_,e⟩<;>rw[e]<;>simp
 ·rcases h.inner with e|⟨x,_,_,e⟩
  ·rw[e]at hu;cases hu
  ·rw[e]at hu;simp only[Q5]at hu;subst hu;exact .mk _ (by simp) (by simp) (by simp)
@[simp] theorem Rs (l:List Int) (h:l.length<=1000000):hZ l=some l:=by
 unfold hZ;rw[cd (by simp;omega)]
 cases l with
 |nil=>simp
 |cons x l=>simp
theorem RO{n:Nat}:∀{t:an},SizeOf.sizeOf t<n->ea t->pX n (t,())=some t:=by
 induction n with
 |zero=>intro t h;omega
 |succ n ih=>
  intro t hs hm;show qc (pX n) t=some t;unfold qc;have hl:=hm.len;rw[Rs _ hm.nodes,Qa]
  suffices key:∀(k i:Nat) (t':an),i+k=t.aM.length->t'.aH=t.aH->t'.a8=t.a8->aD (fun(v2:Int×an×(List an)×Unit)=>
    bif (decide (v2.1<((List.length t.aM:Nat):Int)))then
    Option.bind (idx t.aM v2.1) fun x3=>
    Option.bind (pX n ((an.mk x3.aH x3.a8 x3.aM),())) fun r4=>
    bif bL 56 (List.length v2.2.2.1+List.length [(an.mk r4.aH r4.a8 r4.aM)])then
    some (Sum.inl ((aA .i64 v2.1 (1:Int)),(an.mk v2.2.1.aH v2.2.1.a8 ([]:List an)),(v2.2.2.1++[(an.mk r4.aH r4.a8 r4.aM)]),()))
    else none
    else
    Option.map Sum.inr (some (an.mk v2.2.1.aH v2.2.1.a8 v2.2.2.1))) ((i:Int),t',t.aM.take i,())=some t by
   have:=key t.aM.length 0 ⟨t.aH,t.a8,[]⟩ (by omega) rfl rfl
   simpa using this
  intro k
  induction k with
  |zero=>
   intro i t' hi h1 h2;refine bs ?_;have hd:decide ((i:Int)<((t.aM.length:Nat):Int))=false:=Qh (by omega)
   simp only[hd,Ql,Qe,h1,h2];rw[List.take_of_length_le (by omega),an.eta]
  |succ k ihk=>
   intro i t' hi h1 h2;have hlt:i<t.aM.length:=by omega
   have hd:decide ((i:Int)<((t.aM.length:Nat):Int))=true:=Qg (by omega)
   have hx:idx t.aM (i:Int)=some t.aM[i]:=by rw[bQ];exact Qv hlt
   have hw:aA .i64 (i:Int) 1=((i+1:Nat):Int):=cO (by omega) (by omega)
   have hmem:t.aM[i]∈t.aM:=Q0 hlt;have hr:=ih (t:=t.aM[i]) (by have:=rC hmem;omega) (hm.inner _ hmem)
   rw[bD (s':=(((i+1:Nat):Int),⟨t'.aH,t'.a8,[]⟩,t.aM.take (i+1),()))]
   ·exact ihk (i+1) _ (by omega) h1 h2
   ·simp only[hd,Qk,hx,hw,Qa,etas,hr];rw[cd (by simp;omega),Q6 hlt]
    rfl
@[simp] theorem po {t:an} (h:ea t):eZ t=some t:=RO (by omega) h
theorem ux{α σ ρ:Type}{g:α->σ->Option (σ⊕ρ)}{fin:σ->Option ρ}(hf:∀s,∃r,fin s=some r):∀(l:List α),(∀x∈l,∀s,∃y,g x s=some y)->∀s,∃r,fS g fin l s=some r
 |[],_,s=>hf s
 |x::l,h,s=>by
  obtain⟨y,hy⟩:=h x (by simp) s
  rw[fS,hy]
  cases y with
  |inr r=>exact⟨r,rfl⟩
  |inl s'=>exact ux hf l (fun x hx=>h x (by simp[hx])) s'
theorem K0{n:Nat}:∀{t:an},SizeOf.sizeOf t<n->ea t->∃d,kG n (t,())=some d:=by
 induction n with
 |zero=>intro t h;omega
 |succ n ih=>
  intro t hs hm;show∃d,gP (kG n) t=some d;have hl:=hm.len;rw[G5 (by omega)]
  refine ux (fun s=>⟨_,rfl⟩) _ (fun u hu s=> ?_) _
  obtain⟨d,hd⟩:=ih (t:=u) (by have:=rC hu;omega) (hm.inner u hu)
  exact⟨_,by rw[hd];rfl⟩
theorem Md{n:Nat}:∀{t:an},SizeOf.sizeOf t<n->ea t->∃d,lz n (t,())=some d:=by
 induction n with
 |zero=>intro t h;omega
 |succ n ih=>
  intro t hs hm;show∃d,iE (lz n) t=some d;have hl:=hm.len;rw[Kw (by omega)]
  refine ux (fun s=>⟨_,rfl⟩) _ (fun u hu s=> ?_) _
  obtain⟨d,hd⟩:=ih (t:=u) (by have:=rC hu;omega) (hm.inner u hu)
  exact⟨_,by rw[hd];rfl⟩
theorem Jk{rec:an->Option Int}{t:an}(h:∀u∈t.aM,∃r,rec u=some r):∃r,uH rec t=some r:=by
 unfold uH;split
 ·exact⟨_,rfl⟩
 ·split
  ·exact⟨_,rfl⟩
  ·split
   ·refine ux (fun s=>⟨_,rfl⟩) _ (fun u hu s=> ?_) _
    obtain⟨r,hr⟩:=h u hu;exact⟨_,by rw[hr];rfl⟩
   ·exact⟨_,rfl⟩
theorem Tv{n:Nat}:∀{t:an},SizeOf.sizeOf t<n->ea t->∃d,ji n (t,())=some d:=by
 induction n with
 |zero=>intro t h;omega
 |succ n ih=>
  intro t hs hm;show∃d,gO (ji n) t=some d;have hl:=hm.len;have hn:=hm.nodes;rw[G4 (by omega) (by omega)]
  exact Jk (rec:=fun u=>ji n (u,())) (t:=t) fun u hu=>ih (t:=u) (by have:=rC hu;omega) (hm.inner u hu)
theorem SD{t:an}(h:ea t):∃v,bP t=some v:=by
 obtain⟨d,hd⟩:∃d,kI t=some d:=K0 (by omega) h
 obtain⟨z,hz⟩:∃z,lA t=some z:=Md (by omega) h
 obtain⟨l,hl1⟩:∃l,kH t=some l:=Tv (by omega) h
 simp[bP,hd,hz,hl1]
 def Gn(t:an):Int:=(bP t).getD 1
theorem K9{t:an}(h:ea t):bP t=some (Gn t):=by
 obtain⟨v,h1⟩:=SD h;rw[Gn,h1];rfl
theorem G8{t:an}(h:ir t):Gn t=0:=by rw[Gn,dH h];rfl
 def bm(e:ai):Bool:=ng (Gn e.ao) e
theorem rG{e:ai}(h:ea e.ao):dn e=some (bm e):=tk (K9 h)
def jx(s:Nat)(x:Int):Bool:=eV x&&s.testBit x.toNat
theorem wZ{s:Nat}(h:s<1024)(x:Int):w4 s x=jx s x:=by
 have h1:decide (0<=(s:Int))=true:=Qg (by omega)
 have h2:decide ((s:Int)<1024)=true:=Qg (by omega)
 simp only[w4,jx,h1,h2,Bool.true_and,QV]
mutual
def km(s:Nat):an->Bool
 |⟨th,ns,is⟩=>decide (th<=((ns.countP (jx s)+q9 s is:Nat):Int))
def q9(s:Nat):List an->Nat
 |[]=>0
 |t::l=>(if km s t then 1 else 0)+q9 s l
end
theorem Cl(s:Nat)(t:an):km s t=decide (t.aH<=((t.a8.countP (jx s)+q9 s t.aM:Nat):Int)):=by
 cases t;rw[km]
theorem Aj(s:Nat)(hs:s<1024)(fin:Int->Option Bool):∀(l:List Int) (n:Nat),n+l.length<=9000000->
  fS (fun x (m:Int)=>some (.inl (if w4 s x then aA .i64 m 1 else m))) fin l n=fin ((n+l.countP (jx s):Nat):Int)
 |[],n,_=>by simp[fS]
 |x::l,n,h=>by
  simp at h;rw[fS,wZ hs,List.countP_cons]
  cases hx:jx s x with
  |false=>
   simp only[Qq,Qu,Nat.add_zero];exact Aj s hs fin l n (by omega)
  |true=>
   simp only[Qt];rw[cO (by omega) (by omega)]
   rw[show(n:Int)+1=((n+1:Nat):Int)by omega,Aj s hs fin l (n+1) (by omega)]
   congr 2;omega
theorem DL(s:Nat)(rec:an->Option Bool)(fin:Int->Option Bool):∀(l:List an) (n:Nat),n+l.length<=9000000->(∀u∈l,rec u=some (km s u))->
  fS (fun u (m:Int)=>(rec u).map fun r=> .inl (if r then aA .i64 m 1 else m)) fin l n=fin ((n+q9 s l:Nat):Int)
 |[],n,_,_=>by simp[fS,q9]
 |u::l,n,h,hr=>by
  simp at h;rw[fS,hr u (by simp),q9]
  cases hx:km s u with
  |false=>
   simp only[Qe,Qq,Qu,Nat.zero_add];exact DL s rec fin l n (by omega) fun u hu=>hr u (by simp[hu])
  |true=>
   simp only[Qe,Qt];rw[cO (by omega) (by omega)]
   rw[show(n:Int)+1=((n+1:Nat):Int)by omega,DL s rec fin l (n+1) (by omega) fun u hu=>hr u (by simp[hu])]
   congr 2;omega
theorem WE{rec:(an×Int×Unit)->Option Bool}{t:an}{s:Nat}(hs:s<1024)(hm:ea t)(hr:∀u∈t.aM,rec (u,(s:Int),())=some (km s u)):iJ rec t s=some (km s t):=by
 unfold iJ;have hn:=hm.nodes;have hl:=hm.len;have hv:ep (s:Int)=some true:=by rw[GX];simp;omega
 rw[hv];simp only[Qa,Qo,Ql,bq];rw[jG t.a8 (by omega) (fun i (m:Int)=>(m,i,())) (fun x (m:Int)=>some (.inl (if w4 s x then aA .i64 m 1 else m))) (fun m=>fS (fun u (m:Int)=>(rec (u,(s:Int),())).map fun r=> .inl (if r then aA .i64 m 1 else m)) (fun m=>some (decide (t.aH<=m))) t.aM m) (fun i x m hd hx hw=> ?_) (fun m hd=> ?_) 0]
 ·rw[show(0:Int)=((0:Nat):Int)from rfl,Aj s hs _ t.a8 0 (by omega)]
  rw[DL s (fun u=>rec (u,(s:Int),())) _ t.aM _ (by have:=List.countP_le_length (p:=jx s) (l:=t.a8);omega) hr,Cl]
  simp
 ·simp only[hd,hx,hw,Qk,Qa,nV];cases w4 s x<;>rfl
 ·simp only[hd,Ql];rw[jG t.aM (by omega) (fun i (m:Int)=>(m,i,())) (fun u (m:Int)=>(rec (u,(s:Int),())).map fun r=> .inl (if r then aA .i64 m 1 else m)) (fun m=>some (decide (t.aH<=m))) (fun i x m hd hx hw=> ?_) (fun m hd=> ?_) m]
  ·simp only[hd,hx,hw,Qk,Qa,etas]
   cases rec (x,(s:Int),())with
   |none=>rfl
   |some r=>cases r<;>rfl
  ·simp only[hd,Ql]
theorem Wy{s:Nat}(hs:s<1024){n:Nat}:∀{t:an},SizeOf.sizeOf t<n->ea t->ny n (t,(s:Int),())=some (km s t):=by
 induction n with
 |zero=>intro t h;omega
 |succ n ih=>
  intro t hz hm;show iJ (ny n) t s=some (km s t);exact WE hs hm fun u hu=>ih (t:=u) (by have:=rC hu;omega) (hm.inner u hu)
theorem B8{s:Nat}(hs:s<1024){t:an}(hm:ea t):kg t s=some (km s t):=Wy hs (by omega) hm
theorem HB{s s':Nat}(h:∀k,s.testBit k=true->s'.testBit k=true)(x:Int)(hx:jx s x=true):jx s' x=true:=by
 simp only[jx,Qm]at hx ⊢;exact⟨hx.1,h _ hx.2⟩
mutual
theorem Hb{s s':Nat}(h:∀k,s.testBit k=true->s'.testBit k=true):∀(t:an),km s t=true->km s' t=true
 |⟨th,ns,is⟩,ht=>by
  rw[km,Qi]at ht ⊢;have h1:=Hc h is;have h2:ns.countP (jx s)<=ns.countP (jx s'):=List.countP_mono_left fun x _ hx=>HB h x hx
  omega
theorem Hc{s s':Nat}(h:∀k,s.testBit k=true->s'.testBit k=true):∀(l:List an),q9 s l<=q9 s' l
 |[]=>by simp[q9]
 |t::l=>by
  have h1:=Hc h l;have h2:=Hb h t;rw[q9,q9]
  cases hs:km s t with
  |false=>simp;omega
  |true=>rw[h2 hs];simp;omega
end
end
section
theorem vK{s:Nat}(h:s<1024):ep (s:Int)=some true:=by rw[GX];simp;omega
theorem DA(a b:Nat)(ha:a<2 ^ 62)(hb:b<2 ^ 62):∃c:Nat,uf .i64 (a:Int) (b:Int)=(c:Int)/\c<=a/\∀k,c.testBit k=(a.testBit k&& !b.testBit k):=by
 refine⟨((BitVec.ofInt 64 (a:Int)&&& ~~~ BitVec.ofInt 64 (b:Int)).toNat),?_,?_,fun k=> ?_⟩
 ·have hle:(BitVec.ofInt 64 (a:Int)&&& ~~~ BitVec.ofInt 64 (b:Int)).toNat<=a:=by
   rw[BitVec.toNat_and,oY a ha];exact Nat.and_le_left
  show IntKind.i64.wrap (((BitVec.ofInt 64 (a:Int)&&& ~~~ BitVec.ofInt 64 (b:Int)).toNat:Nat):Int)=_;exact zo _ (by omega)
 ·rw[BitVec.toNat_and,oY a ha];exact Nat.and_le_left
 ·have h1:∀i (x:Nat),x<2 ^ 62->(BitVec.ofInt 64 (x:Int)).getLsbD i=x.testBit i:=by
   intro i x hx;rw[<-BitVec.testBit_toNat,oY x hx]
  rw[BitVec.testBit_toNat,BitVec.getLsbD_and,BitVec.getLsbD_not,h1 k a ha,h1 k b hb]
  by_cases hk:k<64
  ·simp[hk]
  ·have:a.testBit k=false:=Nat.testBit_lt_two_pow (QJ ha (Nat.pow_le_pow_right (by omega) (by omega)))
   simp[this]
theorem yG{a b:Nat}(h:∀k,a.testBit k=b.testBit k):a=b:=Nat.eq_of_testBit_eq h
theorem FX{s k:Nat}(hs:s<1024)(hk:s.testBit k=true):k<10:=by
 rcases Nat.lt_or_ge k 10 with h|h
 ·exact h
 ·have:s.testBit k=false:=Nat.testBit_lt_two_pow (QJ hs (show 2 ^ 10<=2 ^ k from Nat.pow_le_pow_right (by omega) h))
  rw[this]at hk;cases hk
theorem yI{s:Nat}(h:∀k,s.testBit k=true->k<10):s<1024:=by
 rcases Nat.lt_or_ge s 1024 with h1|h1
 ·exact h1
 ·obtain⟨k,hk1,hk2⟩:=Nat.exists_ge_and_testBit_of_ge_two_pow (n:=10) h1;have:=h k hk2;omega
theorem w5(s k:Nat):jx s (k:Int)=(decide (k<10)&&s.testBit k):=by
 have h1:decide ((k:Int)<10)=decide (k<10):=by rw[decide_eq_decide];omega
 have h2:decide (0<=(k:Int))=true:=Qg (by omega)
 simp only[jx,eV,h1,h2,Bool.true_and,QV]
def Ag(i:Nat)(s:Nat):List aO->Nat
 |[]=>s
 |m::l=>Ag (i+1) (if m.dt&&decide (i<10)then s|||2 ^ i else s) l
def oH(l:List aO):Nat:=Ag 0 0 l
theorem HL:∀(l:List aO) (i s k:Nat),(Ag i s l).testBit k=(s.testBit k||(decide (i<=k)&&decide (k<10)&&((l[k - i]?).any (·.dt))))
 |[],i,s,k=>by simp[Ag]
 |m::l,i,s,k=>by
  rw[Ag,HL l (i+1)]
  by_cases hk:k=i
  ·subst hk;have h1:¬(k+1<=k):=by omega
   cases hm:m.dt<;>by_cases hi:k<10<;>simp[hm,hi,h1,Nat.testBit_or]
  ·have h2:i<=k↔i+1<=k:=by omega
   have h3:∀b:Bool,(if(b&&decide (i<10))=true then s|||2 ^ i else s).testBit k=s.testBit k:=by
    intro b;split
    ·rw[Nat.testBit_or,Nat.testBit_two_pow];have:¬i=k:=fun e=>hk e.symm
     simp[this]
    ·rfl
   rw[h3]
   by_cases hik:i+1<=k
   ·have h4:(m::l)[k - i]?=l[k - (i+1)]?:=by
     rw[show k - i=(k - (i+1))+1 by omega,List.getElem?_cons_succ]
    rw[h4];have:i<=k:=by omega
    simp[this,hik]
   ·have:¬i<=k:=by omega
    simp[this,hik]
theorem BT(l:List aO)(k:Nat):(oH l).testBit k=(decide (k<10)&&((l[k]?).any (·.dt))):=by
 rw[oH,HL];simp
theorem JR(l:List aO):oH l<1024:=yI fun k hk=>by
 rw[BT]at hk;simp at hk;exact hk.1
theorem OR(step:(Int×Int×Unit)->Option ((Int×Int×Unit)⊕Int))(l:List aO)
  (h1:∀(i:Nat) (m:aO) (s:Nat),l[i]?=some m->s<1024->step ((s:Int),(i:Int),())=some (.inl (((if m.dt&&decide (i<10)then s|||2 ^ i else s:Nat):Int),((i+1:Nat):Int),())))
  (h2:∀s:Int,step (s,(l.length:Int),())=some (.inr s)):aD step (0,0,())=some ((oH l:Nat):Int):=by
 suffices key:∀(k i s:Nat),i+k=l.length->s<1024->aD step ((s:Int),(i:Int),())=some ((Ag i s (l.drop i):Nat):Int)by
  have:=key l.length 0 0 (by omega) (by omega)
  simpa[oH]using this
 intro k
 induction k with
 |zero=>
  intro i s hi hs;obtain rfl:i=l.length:=by omega
  rw[bs (h2 s),Qq65];rfl
 |succ k ih=>
  intro i s hi hs;have hlt:i<l.length:=by omega
  rw[QM hlt,Ag,bD (h1 i l[i] s (Qv hlt) hs)];refine ih (i+1) _ (by omega) ?_
  split
  ·rename_i hc;simp only[Qm,Qi]at hc;have:=Il (x:=(i:Int)) hs (by omega)
   simpa using this
  ·exact hs
theorem DH{c:aZ}(h:c.bH.length<=1000000):gn c=some ((oH c.bH:Nat):Int):=by
 unfold gn;refine OR _ _ (fun i m s hm hs=> ?_) (fun s=> ?_)
 ·have hlt:i<c.bH.length:=(Qw.1 hm).1;have hd:decide ((i:Int)<((c.bH.length:Nat):Int))=true:=Qg (by omega)
  have hw:aA .i64 (i:Int) 1=((i+1:Nat):Int):=cO (by omega) (by omega)
  have hx:idx c.bH (i:Int)=some m:=by rw[bQ];exact hm
  have h0:¬(i:Int)<0:=by omega
  simp only[hd,hx,hw,Qk,Qa,bq,h0,Qu]
  cases m.dt with
  |false=>simp
  |true=>
   by_cases h10:i<10
   ·have:(i:Int)<10:=by omega
    have ho:=wj (x:=(i:Int)) hs (by omega) (by omega)
    simp only[QV]at ho;simp[this,h10,ho]
   ·have:¬(i:Int)<10:=by omega
    simp[this,h10]
 ·have hd:decide (((c.bH.length:Nat):Int)<((c.bH.length:Nat):Int))=false:=Qh (Qq63 _);simp only[hd,Ql,Qe]
structure DC (c:aZ):Prop where
 len:c.bH.length<=1000000
 bb:∀m∈c.bH,ea m.ao
def k9(l:List aO)(k:Nat):an:=((l[k]?).map (·.ao)).getD ⟨0,[],[]⟩
def nn(l:List aO)(k:Nat):Bool:=(oH l).testBit k
theorem Ab{l:List aO}{k:Nat}(h:nn l k=true):k<10/\∃m,l[k]?=some m/\m.dt=true:=by
 rw[nn,BT]at h;simp only[Qm,Qi,Option.any_eq_true]at h;obtain⟨h1,m,h2,h3⟩:=h;exact⟨h1,m,h2,h3⟩
theorem uk{l:List aO}{k:Nat}{m:aO}(h:l[k]?=some m):k9 l k=m.ao:=by rw[k9,h];rfl
def wh(s v:Nat):Nat:=(1023^^^s)|||2 ^ v
def ud(l:List aO)(v s:Nat):Bool:=nn l v&& !km (wh s v) (k9 l v)
theorem RY(k:Nat):(1023:Nat).testBit k=decide (k<10):=by
 rw[show(1023:Nat)=2 ^ 10 - 1 from rfl,Nat.testBit_two_pow_sub_one]
theorem zK{s:Nat}(hs:s<1024)(v k:Nat):(wh s v).testBit k=(decide (k<10)&& !s.testBit k||decide (v=k)):=by
 rw[wh,Nat.testBit_or,Nat.testBit_xor,RY,Nat.testBit_two_pow]
 by_cases hk:k<10
 ·simp[hk]
 ·have:s.testBit k=false:=by
   cases h:s.testBit k with
   |false=>rfl
   |true=>exact absurd (FX hs h) hk
  simp[hk,this]
theorem Ol{s v:Nat}(hs:s<1024)(hv:v<10):wh s v<1024:=yI fun k hk=>by
 rw[zK hs]at hk;simp at hk;omega
theorem KQ{s v:Nat}(hs:s<1024)(hv:v<10):n5 .i64 (uf .i64 1023 (s:Int)) (c7 .i64 1 (v:Int))=((wh s v:Nat):Int):=by
 obtain⟨c,h1,h2,h3⟩:=DA 1023 s (by omega) (by omega)
 have h1':uf .i64 1023 (s:Int)=(c:Int):=h1;rw[h1',wE v (by omega),Gx c (2 ^ v) (by omega) (Nat.pow_lt_pow_right (by omega) (by omega))]
 congr 1;refine yG fun k=> ?_
 rw[zK hs,Nat.testBit_or,h3,RY,Nat.testBit_two_pow]
theorem HX{c:aZ}(hc:DC c){v s:Nat}(hs:s<1024):kQ c v s=some (ud c.bH v s):=by
 unfold kQ ud;rw[vK hs,DH hc.len];simp only[Qa,Qo,Ql,nV,wZ (JR _),w5]
 cases hd:nn c.bH v with
 |false=>
  have:(decide (v<10)&&(oH c.bH).testBit v)=false:=by
   rw[show(oH c.bH).testBit v=nn c.bH v from rfl,hd];simp
  simp[this]
 |true=>
  obtain⟨h10,m,hm,hdm⟩:=Ab hd
  have:(decide (v<10)&&(oH c.bH).testBit v)=true:=by
   rw[show(oH c.bH).testBit v=nn c.bH v from rfl,hd];simp[h10]
  rw[bQ,hm,KQ hs h10];have h0:¬(v:Int)<0:=by omega
  have hmem:m∈c.bH:=Q7 hm;simp only[this,Qo,Ql,Qa,h0,Qu,etas,B8 (Ol hs h10) (hc.bb m hmem),uk hm,Bool.true_and]
end
section
def qD(s:Nat):List Int:=(oE 10).filter (jx s)
theorem Cw{n:Nat}{x:Int}:x∈oE n↔∃k:Nat,k<n/\x=k:=by
 simp only[oE,QP,List.mem_range];exact⟨fun⟨k,h1,h2⟩=>⟨k,h1,h2.symm⟩,fun⟨k,h1,h2⟩=>⟨k,h1,h2.symm⟩⟩
theorem zT{s:Nat}{x:Int}:x∈qD s↔∃k:Nat,k<10/\x=k/\s.testBit k=true:=by
 rw[qD,List.mem_filter,Cw];constructor
 ·rintro⟨⟨k,h1,rfl⟩,h2⟩;rw[w5]at h2;simp at h2;exact⟨k,h1,rfl,h2.2⟩
 ·rintro⟨k,h1,rfl,h2⟩;exact⟨⟨k,h1,rfl⟩,by rw[w5];simp[h1,h2]⟩
theorem Mz(step:(Int×List Int×Unit)->Option ((Int×List Int×Unit)⊕List Int))(s:Nat)
  (h1:∀(i:Nat) (acc:List Int),i<10->acc.length<=i->step ((i:Int),acc,())=some (.inl (((i+1:Nat):Int),(if jx s i then acc++[(i:Int)]else acc),())))
  (h2:∀acc,step (((10:Nat):Int),acc,())=some (.inr acc)):aD step (0,[],())=some (qD s):=by
 suffices key:∀(k i:Nat) (acc:List Int),i+k=10->acc=(oE i).filter (jx s)->aD step ((i:Int),acc,())=some (qD s)from key 10 0 [] rfl rfl
 intro k
 induction k with
 |zero=>
  intro i acc hi ha;obtain rfl:i=10:=by omega
  rw[bs (h2 acc),ha];rfl
 |succ k ih=>
  intro i acc hi ha;have hlen:acc.length<=i:=by rw[ha];exact QK (List.length_filter_le _ _) (by simp)
  rw[bD (h1 i acc (by omega) hlen)]
  refine ih (i+1) _ (by omega) ?_
  rw[ID,List.filter_append,<-ha];cases hh:jx s i<;>simp[hh]
theorem Kp{s:Nat}(hs:s<1024):mE (s:Int)=some (qD s):=by
 unfold mE;refine Mz _ s (fun i acc hi hl=> ?_) (fun acc=> ?_)
 ·have hd:decide ((i:Int)<10)=true:=Qg (by omega)
  have hw:aA .i64 (i:Int) 1=((i+1:Nat):Int):=cO (by omega) (by omega)
  simp only[hd,hw,Qk,bq,nV,wZ hs,Qa];rw[cd (by simp;omega)]
  cases jx s i<;>simp
 ·rfl
def zh(l:List aO)(s r:Nat):Prop:=∀k,r.testBit k=true->s.testBit k=true/\nn l k=true/\km r (k9 l k)=true
structure xj (l:List aO) (s q:Nat):Prop where
 inside:zh l s q
 max:∀r,zh l s r->∀k,r.testBit k=true->q.testBit k=true
theorem xj.unique{l:List aO}{s q q':Nat}(h:xj l s q)(h':xj l s q'):q=q':=by
 refine yG fun k=> ?_
 rw[QW];exact⟨h'.max q h.inside k,h.max q' h'.inside k⟩
theorem xj.lt{l:List aO}{s q:Nat}(h:xj l s q):q<1024:=yI fun k hk=>(Ab (h.inside k hk).2.1).1
def tF(l:List aO)(s:Nat):Option Int:=(qD s).find? fun x=> !km s (k9 l x.toNat)
theorem HY{l:List aO}{s:Nat}{x:Int}(h:tF l s=some x):∃k:Nat,x=k/\k<10/\s.testBit k=true/\km s (k9 l k)=false:=by
 have h1:=List.mem_of_find?_eq_some h;have h2:=List.find?_some h;obtain⟨k,hk,rfl,hb⟩:=zT.1 h1;simp at h2;exact⟨k,rfl,hk,hb,h2⟩
theorem HZ{l:List aO}{s:Nat}(hs:s<1024)(h:tF l s=none):∀k,s.testBit k=true->km s (k9 l k)=true:=by
 intro k hk;have:=List.find?_eq_none.1 h (k:Int) (zT.2 ⟨k,FX hs hk,rfl,hk⟩);simpa using this
theorem SL:∀s,s<1024->∀k,k<10->s.testBit k=true->s - 2 ^ k=s^^^2 ^ k:=by decide+kernel
theorem Gp{s k:Nat}(hs:s<1024)(hk:s.testBit k=true):2 ^ k<=s/\∀j,(s - 2 ^ k).testBit j=(s.testBit j&& !decide (k=j)):=by
 have hle:2 ^ k<=s:=Nat.ge_two_pow_of_testBit hk;refine⟨hle,?_⟩;have hx:s - 2 ^ k=s^^^2 ^ k:=SL s hs k (FX hs hk) hk;intro j;rw[hx,Nat.testBit_xor,Nat.testBit_two_pow]
 by_cases hj:k=j
 ·subst hj;simp[hk]
 ·simp[hj]
structure qb (l:List aO) (s0 s:Nat):Prop where
 lt:s<1024
 sub:∀k,s.testBit k=true->s0.testBit k=true/\nn l k=true
 max:∀r,zh l s0 r->∀k,r.testBit k=true->s.testBit k=true
theorem qb.first(l:List aO){s:Nat}(hs:s<1024):qb l s (s&&&oH l):=by
 refine⟨Nat.lt_of_le_of_lt Nat.and_le_left hs,fun k hk=> ?_,fun r hr k hk=> ?_⟩
 ·rw[Nat.testBit_and,Qm]at hk;exact hk
 ·rw[Nat.testBit_and,Qm];exact⟨(hr k hk).1,(hr k hk).2.1⟩
theorem qb.next{l:List aO}{s0 s k:Nat}(h:qb l s0 s)(hk:s.testBit k=true)(hu:km s (k9 l k)=false):qb l s0 (s - 2 ^ k):=by
 obtain⟨h1,h2⟩:=Gp h.lt hk;refine⟨Nat.lt_of_le_of_lt (Nat.sub_le _ _) h.lt,fun j hj=> ?_,fun r hr j hj=> ?_⟩
 ·rw[h2]at hj;simp at hj;exact h.sub j hj.1
 ·rw[h2,h.max r hr j hj]
  have:k≠j:=by
   intro e;subst e;have:=Hb (fun i hi=>h.max r hr i hi) _ (hr k hj).2.2
   rw[hu]at this;cases this
  simp[this]
theorem qb.done{l:List aO}{s0 s:Nat}(h:qb l s0 s)(hn:tF l s=none):xj l s0 s:=
 ⟨fun k hk=>⟨(h.sub k hk).1,(h.sub k hk).2,HZ h.lt hn k hk⟩,h.max⟩
theorem OM{l:List Int}{ρ:Type}{f:Int->Bool}{hit:Int->ρ}{fin:Unit->Option ρ}{g:Int->Unit->Option (Unit⊕ρ)}(hg:∀x∈l,∀s,g x s=some (if f x then .inr (hit x)else .inl ())):
  fS g fin l ()=match l.find? f with|some x=>some (hit x)|none=>fin ():=by
 induction l with
 |nil=>rfl
 |cons x l ih=>
  rw[fS,hg x (by simp),List.find?_cons]
  cases hx:f x with
  |true=>simp
  |false=>
   simp only[Qq,Qu];exact ih fun y hy=>hg y (by simp[hy])
theorem MA(s:Nat):(qD s).length<=10:=QK (List.length_filter_le _ _) (by simp)
theorem L6{c:aZ}(hc:DC c){s:Nat}(hs:s<1024)(hsub:∀k,s.testBit k=true->nn c.bH k=true):
  kO c s=some (match tF c.bH s with|some x=>(x,true,())|none=>(0,false,())):=by
 unfold kO;rw[Kp hs,Qa];have hlen:=MA s;rw[jG (qD s) (by omega) (fun i (_:Unit)=>(i,())) (fun x (_:Unit)=>(kP c x s).map fun r=>if r then .inl ()else .inr (x,true,())) (fun _=>some (0,false,())) (fun i x u hd hx hw=> ?_) (fun u hd=> ?_) ()]
 ·rw[OM (f:=fun x=> !km s (k9 c.bH x.toNat)) (hit:=fun x=>(x,true,()))]
  ·unfold tF;cases (qD s).find? _<;>rfl
  ·intro x hx u;obtain⟨k,hk,rfl,hb⟩:=zT.1 hx;obtain⟨_,m,hm,_⟩:=Ab (hsub k hb);unfold kP;rw[bQ,hm];simp only[Qa,etas,B8 hs (hc.bb m (Q7 hm)),Qe,QV,uk hm];cases km s m.ao<;>rfl
 ·simp only[hd,hx,hw,Qk,Qa]
  cases kP c x s with
  |none=>rfl
  |some r=>cases r<;>rfl
 ·simp only[hd,Ql]
theorem Nk{s k:Nat}(hs:s<1024)(hk:s.testBit k=true):uf .i64 (s:Int) (c7 .i64 1 (k:Int))=((s - 2 ^ k:Nat):Int):=by
 have h10:=FX hs hk;obtain⟨c,h1,_,h3⟩:=DA s (2 ^ k) (by omega) (Nat.pow_lt_pow_right (by omega) (by omega))
 rw[wE k (by omega),h1]
 congr 1;refine yG fun j=> ?_
 rw[h3,(Gp hs hk).2,Nat.testBit_two_pow]
theorem DD{c:aZ}(hc:DC c){s:Nat}(hs:s<1024):Yd (gp c s) fun q=>∃n:Nat,q=n/\xj c.bH s n:=by
 unfold gp oB;rw[vK hs,DH hc.len];simp only[Qa,Qo,Ql];have hdl:=JR c.bH;rw[Ke s (oH c.bH) (by omega) (by omega)]
 suffices key:∀(n t:Nat) (out:List Int),t<n->qb c.bH s t->out.length+t<=1024->Yd (aD (fun(v3:Int×(List Int)×Unit)=>
   Option.bind (kO c v3.1) fun r4=>
   bif (!r4.2.1)then
   Option.map Sum.inr (some (v3.1,v3.2.1,()))
   else
   bif bL 8 (List.length v3.2.1+List.length [r4.1])then
   if r4.1<0 then none else
   some (Sum.inl ((uf .i64 v3.1 (c7 .i64 (1:Int) r4.1)),(v3.2.1++[r4.1]),()))
   else none) ((t:Int),out,())) fun p=>∃n:Nat,p.1=n/\xj c.bH s n by
  have hfirst:=qb.first c.bH hs
  have hb:=hfirst.lt;refine(key 1024 (s&&&oH c.bH) [] hb hfirst (by simp;omega)).bind fun p hp=>Yd.some hp
 intro n
 induction n with
 |zero=>intro t out h;omega
 |succ n ih=>
  intro t out ht hinv hout;refine Yd.loop ?_;rw[L6 hc hinv.lt fun k hk=>(hinv.sub k hk).2]
  simp only[Qa]
  cases hu:tF c.bH t with
  |none=>exact Yd.some ⟨t,rfl,hinv.done hu⟩
  |some x=>
   obtain⟨k,rfl,hk10,hkb,hks⟩:=HY hu;have h0:¬(k:Int)<0:=by omega
   have hlb:=(Gp hinv.lt hkb).1;have hp:0<2 ^ k:=Nat.pow_pos (by omega)
   simp only[Qo,Ql];rw[cd (by simp;omega),Qs h0,Nk hinv.lt hkb]
   exact Yd.some (ih (t - 2 ^ k) _ (by omega) (hinv.next hkb hks) (by simp;omega))
theorem OG{c:aZ}(hc:DC c){s:Nat}(hs:s<1024):∃q,xj c.bH s q:=by
 obtain⟨_,_,n,_,h⟩:=DD hc hs;exact⟨n,h⟩
open Classical in
 def gq(l:List aO)(s:Nat):Nat:=if h:∃q,xj l s q then Classical.choose h else 0
theorem CB{c:aZ}(hc:DC c){s:Nat}(hs:s<1024):xj c.bH s (gq c.bH s):=by
 have h:=OG hc hs;rw[gq,dif_pos h];exact Classical.choose_spec h
theorem DE{c:aZ}(hc:DC c){s:Nat}(hs:s<1024):gp c s=some ((gq c.bH s:Nat):Int):=by
 obtain⟨q,h1,n,rfl,h2⟩:=DD hc hs;rw[h1,h2.unique (CB hc hs)]
end
section
structure ob (l:List ai):Prop where
 len:l.length<=100000
 bb:∀e∈l,ea e.ao
theorem jM{e:ai}(h:bm e=true):0<=e.aq/\e.aq<10:=by
 simp only[bm,ng,BL,Qm,Qi]at h;exact⟨h.1.1.1.1.1.1.1,h.1.1.1.1.1.1.2⟩
def gi:aO:=⟨false,⟨0,[],[]⟩⟩
 def dg(ms:List aO)(e:ai):List aO:=
 if bm e&& !((ms[e.aq.toNat]?).any (·.dt))then ms.set e.aq.toNat ⟨true,e.ao⟩else ms
 def fu(az:Nat)(t:an)(l:List ai):List aO:=l.foldl dg ((List.replicate 10 gi).set az ⟨true,t⟩)
theorem wB(ms:List aO)(e:ai):(dg ms e).length=ms.length:=by
 unfold dg;split
 ·rw[QY]
 ·rfl
theorem yy:∀(l:List ai) (ms:List aO),(l.foldl dg ms).length=ms.length
 |[],_=>rfl
 |e::l,ms=>by rw[QU,yy l,wB]
theorem AZ(az:Nat)(t:an)(l:List ai):(fu az t l).length=10:=by
 rw[fu,yy,QY,List.length_replicate]
theorem Sf{ms:List aO}(hl:ms.length=10){n:Int}(h0:0<=n)(h1:n<10):∃m,ms[n.toNat]?=some m/\idx ms n=some m:=by
 have:n.toNat<ms.length:=by omega
 exact⟨ms[n.toNat],Qv this,by rw[Ju _ h0];exact Qv this⟩
theorem LU{az:Nat}(hn:az<10){t:an}(ht:ea t){l:List ai}(hl:ob l):nD az t l=some ⟨fu az t l⟩:=by
 unfold nD
 have h1:(decide ((10:Int)=10)&&decide ((0:Int)<=10)&&bL 64 (Int.toNat 10))=true:=by
  rw[cd (by decide)];rfl
 have h2:¬(az:Int)<0:=by omega
 have h3:¬(10:Int)<=az:=by omega
 rw[h1];simp only[Qk,h2,h3,decide_false,Ql,Qa,etas,po ht,bq];obtain⟨m,hm1,hm2⟩:=Sf (ms:=List.replicate 10 gi) (by simp) (n:=(az:Int)) (by omega) (by omega)
 have e10:List.replicate (Int.toNat 10) (aO.mk false (an.mk 0 [] []))=List.replicate 10 gi:=rfl;rw[e10,hm2,hm1,Qa,Qa];have hlen:=hl.len
 suffices key:∀(k i:Nat) (ms:List aO) (c:aZ),i+k=l.length->ms.length=10->aD _ ((i:Int),c,ms,())=some (aZ.mk ((l.drop i).foldl dg ms))by
  have:=key l.length 0 ((List.replicate 10 gi).set az ⟨true,t⟩) ⟨[]⟩ (by omega) (by simp)
  simpa[fu]using this
 intro k
 induction k with
 |zero=>
  intro i ms c hi hms;obtain rfl:i=l.length:=by omega
  refine bs ?_;have hd:decide (((l.length:Nat):Int)<((l.length:Nat):Int))=false:=Qh (Qq63 _);simp only[hd,Ql,Qq65,List.foldl_nil]
 |succ k ih=>
  intro i ms c hi hms;have hlt:i<l.length:=by omega
  have hd:decide ((i:Int)<((l.length:Nat):Int))=true:=Qg (by omega)
  have hw:aA .i64 (i:Int) 1=((i+1:Nat):Int):=cO (by omega) (by omega)
  have hx:idx l (i:Int)=some l[i]:=by rw[bQ];exact Qv hlt
  have hsm:=hl.bb _ (Q0 hlt);rw[QM hlt,QU];refine Eq.trans (bD (s':=(((i+1:Nat):Int),⟨[]⟩,dg ms l[i],())) ?_) (ih (i+1) _ _ (by omega) (by rw[wB];exact hms))
  simp only[hd,hx,hw,Qk,Qa,rG hsm];unfold dg
  cases hv:bm l[i]with
  |false=>simp
  |true=>
   obtain⟨h4,h5⟩:=jM hv;obtain⟨m,hm1,hm2⟩:=Sf hms h4 h5;simp only[Qk,hm1,hm2,Qa,po hsm,Option.any_some,Bool.true_and];cases m.dt<;>simp
theorem q7{az:Nat}{t:an}(ht:ea t){l:List ai}(hl:ob l):DC ⟨fu az t l⟩:=by
 refine⟨by rw[AZ];omega,?_⟩
 have key:∀(l:List ai) (ms:List aO),(∀e∈l,ea e.ao)->(∀m∈ms,ea m.ao)->∀m∈l.foldl dg ms,ea m.ao:=by
  intro l
  induction l with
  |nil=>intro ms _ h;exact h
  |cons e l ih=>
   intro ms he h;rw[QU];refine ih _ (fun e' h'=>he e' (by simp[h'])) fun m hm=> ?_
   unfold dg at hm;split at hm
   ·rcases List.mem_or_eq_of_mem_set hm with hm|rfl
    ·exact h m hm
    ·exact he e (by simp)
   ·exact h m hm
 refine key l _ hl.bb fun m hm=> ?_
 rcases List.mem_or_eq_of_mem_set hm with hm|rfl
 ·rw[List.eq_of_mem_replicate hm];exact .mk _ (by simp[gi]) (by simp[gi]) (by simp[gi])
 ·exact ht
 def bM(l:List ai):List ai:=l.filter bm
theorem Po{l:List ai}(hl:ob l):mH l=some ((bM l).map bc.mk):=by
 unfold mH;have hlen:=hl.len;simp only[bq]
 suffices key:∀(k i:Nat) (acc:List bc),i+k=l.length->acc=(bM (l.take i)).map bc.mk->aD _ ((i:Int),acc,())=some ((bM l).map bc.mk)from key l.length 0 [] (by omega) rfl
 intro k
 induction k with
 |zero=>
  intro i acc hi ha;obtain rfl:i=l.length:=by omega
  refine bs ?_;have hd:decide (((l.length:Nat):Int)<((l.length:Nat):Int))=false:=Qh (Qq63 _);simp only[hd,Ql,Qe,ha,Q9]
 |succ k ih=>
  intro i acc hi ha;have hlt:i<l.length:=by omega
  have hd:decide ((i:Int)<((l.length:Nat):Int))=true:=Qg (by omega)
  have hw:aA .i64 (i:Int) 1=((i+1:Nat):Int):=cO (by omega) (by omega)
  have hx:idx l (i:Int)=some l[i]:=by rw[bQ];exact Qv hlt
  have hsm:=hl.bb _ (Q0 hlt)
  have hal:acc.length<=i:=by
   rw[ha,QC];exact QK (List.length_filter_le _ _) (by rw[List.length_take];omega)
  refine Eq.trans (bD (s':=(((i+1:Nat):Int),(if bm l[i]then acc++[bc.mk l[i]]else acc),())) ?_) (ih (i+1) _ (by omega) ?_)
  ·simp only[hd,hx,hw,Qk,Qa,etas,ai.eta,rG hsm];rw[cd (by simp;omega)]
   cases bm l[i]<;>simp
  ·rw[Q6 hlt,bM,List.filter_append,ha];cases hv:bm l[i]<;>simp[bM,hv]
def dQ(p:ai->Bool):List ai->Nat
 |[]=>0
 |e::l=>(if p e then 2 ^ e.aq.toNat else 0)|||dQ p l
theorem q5(p:ai->Bool)(k:Nat):∀(l:List ai),(dQ p l).testBit k=l.any fun e=>p e&&decide (e.aq.toNat=k)
 |[]=>by simp[dQ]
 |e::l=>by
  rw[dQ,Nat.testBit_or,q5 p k l,List.any_cons];cases p e<;>simp[Nat.testBit_two_pow]
def sk(l:List ai):Prop:=∀e∈l,0<=e.aq/\e.aq<10
theorem oP(l:List ai):sk (bM l):=fun _ he=>jM (List.mem_filter.1 he).2
theorem vN(l:List ai):(bM l).length<=l.length:=List.length_filter_le _ _
theorem rQ{p:ai->Bool}{l:List ai}(h:sk l):dQ p l<1024:=yI fun k hk=>by
 rw[q5,List.any_eq_true]at hk;obtain⟨e,he,h1⟩:=hk;simp only[Qm,Qi]at h1;have:=h e he;omega
theorem zp(p:ai->Bool)(l:List ai)(hin:sk l)(step:(Int×Int×Unit)->Option ((Int×Int×Unit)⊕Int))
  (h1:∀(i:Nat) (e:ai) (s:Int),l[i]?=some e->step (s,(i:Int),())=if p e then(if e.aq<0 then none else some (.inl (n5 .i64 s (c7 .i64 1 e.aq),((i+1:Nat):Int),())))else some (.inl (s,((i+1:Nat):Int),())))
  (h2:∀s:Int,step (s,(l.length:Int),())=some (.inr s)):aD step (0,0,())=some ((dQ p l:Nat):Int):=by
 suffices key:∀(k i s:Nat),i+k=l.length->s<1024->aD step ((s:Int),(i:Int),())=some ((s|||dQ p (l.drop i):Nat):Int)by
  have:=key l.length 0 0 (by omega) (by omega)
  simpa using this
 intro k
 induction k with
 |zero=>
  intro i s hi hs;obtain rfl:i=l.length:=by omega
  rw[bs (h2 s),Qq65,dQ];simp
 |succ k ih=>
  intro i s hi hs;have hlt:i<l.length:=by omega
  have hm:=hin l[i] (Q0 hlt);rw[QM hlt,dQ];have hst:=h1 i l[i] s (Qv hlt)
  cases hp:p l[i]with
  |false=>
   rw[hp]at hst;rw[bD hst,ih (i+1) s (by omega) hs]
   simp
  |true=>
   rw[hp,Qr rfl,Qs (by omega),wj hs hm.1 hm.2]at hst
   rw[bD hst,ih (i+1) _ (by omega) (Il hs hm.2)]
   simp[Nat.or_assoc]
theorem DB{v:aZ}{az:Int}{l:List ai}(hl:l.length<=1000000)(hin:sk l)(b:af):gI ⟨az,v,l.map bc.mk⟩ b=some ((dQ (dY · b) l:Nat):Int):=by
 unfold gI;refine zp (dY · b) l hin _ (fun i e s he=> ?_) (fun s=> ?_)
 ·have hlt:i<l.length:=(Qw.1 he).1;have hd:decide ((i:Int)<(((l.map bc.mk).length:Nat):Int))=true:=Qg (by rw[QC];omega)
  have hw:aA .i64 (i:Int) 1=((i+1:Nat):Int):=cO (by omega) (by omega)
  have hx:idx (l.map bc.mk) (i:Int)=some ⟨e⟩:=by rw[bQ,QT,he];rfl
  simp only[hd,hx,hw,Qk,Qa,etas,ai.eta,ju,oM,bq];cases dY e b<;>simp
 ·have hd:decide (((l.length:Nat):Int)<(((l.map bc.mk).length:Nat):Int))=false:=Qh (by rw[QC];exact Qq63 _)
  simp only[hd,Ql,Qe]
theorem Nq{v:aZ}{az:Int}{l:List ai}(hl:l.length<=1000000)(hin:sk l)(b:af):ff ⟨az,v,l.map bc.mk⟩ b b=some ((dQ (fun e=>uC e b||dY e b) l:Nat):Int):=by
 unfold ff;refine zp (fun e=>uC e b||dY e b) l hin _ (fun i e s he=> ?_) (fun s=> ?_)
 ·have hlt:i<l.length:=(Qw.1 he).1;have hd:decide ((i:Int)<(((l.map bc.mk).length:Nat):Int))=true:=Qg (by rw[QC];omega)
  have hw:aA .i64 (i:Int) 1=((i+1:Nat):Int):=cO (by omega) (by omega)
  have hx:idx (l.map bc.mk) (i:Int)=some ⟨e⟩:=by rw[bQ,QT,he];rfl
  simp only[hd,hx,hw,Qk,Qa,etas,ai.eta,gM,ju,mS,oM,xu,bq,py,Bool.cond_true_left];cases (uC e b||dY e b)<;>simp
 ·have hd:decide (((l.length:Nat):Int)<(((l.map bc.mk).length:Nat):Int))=false:=Qh (by rw[QC];exact Qq63 _)
  simp only[hd,Ql,Qe]
 def mn(ms:List aO)(v oD accepts:Nat):Bool:=ud ms v accepts||(gq ms (oD|||accepts)).testBit v
theorem vk{c:aZ}(hc:DC c){v oD accepts:Nat}(hv:v<10)(h1:oD<1024)(h2:accepts<1024):eL c v oD accepts=some (mn c.bH v oD accepts):=by
 unfold eL mn;have h3:oD|||accepts<1024:=Nat.or_lt_two_pow (n:=10) h1 h2
 rw[vK h1,vK h2,HX hc h2,Gx oD accepts (by omega) (by omega),DE hc h3]
 simp[wZ (CB hc h3).lt,w5,hv]
theorem tW{c:aZ}(hc:DC c){v accepts:Nat}(hv:v<10)(h2:accepts<1024):et c v accepts=some ((gq c.bH accepts).testBit v):=by
 unfold et;rw[DE hc h2];simp[wZ (CB hc h2).lt,w5,hv]
 def jE(az:Nat)(t:an)(l:List ai)(b:af):Bool:=
 mn (fu az t l) az (dQ (fun e=>uC e b||dY e b) (bM l)) (dQ (dY · b) (bM l))
 def iW(az:Nat)(t:an)(l:List ai)(b:af):Bool:=
 (gq (fu az t l) (dQ (dY · b) (bM l))).testBit az
theorem G1{az:Nat}(hn:az<10){t:an}(ht:ea t){l:List ai}(hl:ob l):dM az t l=some ⟨az,⟨fu az t l⟩,(bM l).map bc.mk⟩:=by
 unfold dM;simp only[etas,LU hn ht hl,Po hl,Qa]
end
section
theorem RD{α:Type}{l l':List α}(h:l.Perm l')(p:α->Bool):l.any p=l'.any p:=by
 rw[QW,List.any_eq_true,List.any_eq_true];exact⟨fun⟨x,h1,h2⟩=>⟨x,h.mem_iff.1 h1,h2⟩,fun⟨x,h1,h2⟩=>⟨x,h.mem_iff.2 h1,h2⟩⟩
theorem NC{l l':List ai}(h:l.Perm l')(p:ai->Bool):dQ p l=dQ p l':=yG fun k=>by rw[q5,q5,RD h]
theorem KH{l l':List ai}(h:l.Perm l'):(bM l).Perm (bM l'):=h.filter _
def uB(l:List ai):Prop:=∀a∈l,∀b∈l,a.aq=b.aq->a=b
theorem uB.perm{l l':List ai}(h:uB l)(hp:l.Perm l'):uB l':=fun a ha b hb=>h a (hp.mem_iff.2 ha) b (hp.mem_iff.2 hb)
 def lu(l:List ai)(k:Nat):Option ai:=l.find? fun e=>bm e&&decide (e.aq.toNat=k)
theorem ya{l:List ai}{k:Nat}{e:ai}(h:lu l k=some e):e∈l/\bm e=true/\e.aq=k:=by
 unfold lu at h;have h1:=List.mem_of_find?_eq_some h;have h2:=List.find?_some h;simp only[Qm,Qi]at h2;have:=jM h2.1;exact⟨h1,h2.1,by omega⟩
theorem Ff{l:List ai}(ha:uB l){k:Nat}{e:ai}(h1:e∈l)(h2:bm e=true)(h3:e.aq=k):lu l k=some e:=by
 cases h:lu l k with
 |none=>
  unfold lu at h;rw[List.find?_eq_none]at h;have:=h e h1;simp[h2,h3]at this
 |some e'=>
  obtain⟨g1,g2,g3⟩:=ya h;rw[ha e' g1 e h1 (by omega)]
theorem KR{l l':List ai}(ha:uB l)(h:l.Perm l')(k:Nat):lu l k=lu l' k:=by
 cases h1:lu l k with
 |some e=>
  obtain⟨g1,g2,g3⟩:=ya h1;exact(Ff (ha.perm h) (h.mem_iff.1 g1) g2 g3).symm
 |none=>
  cases h2:lu l' k with
  |none=>rfl
  |some e=>
   obtain⟨g1,g2,g3⟩:=ya h2;rw[Ff ha (h.mem_iff.2 g1) g2 g3]at h1;cases h1
theorem G7:∀(l:List ai) (ms:List aO),ms.length=10->(∀m∈ms,m.dt=false->m=gi)->∀k,k<10->(l.foldl dg ms)[k]?=some (match ms[k]? with
  |some m=>if m.dt then m else(match lu l k with
   |some e=>⟨true,e.ao⟩
   |none=>gi)
  |none=>gi)
 |[],ms,hl,hn,k,hk=>by
  have hk':k<ms.length:=by omega
  rw[List.foldl_nil,Qv hk']
  cases hd:ms[k].dt with
  |true=>simp[hd]
  |false=>
   have:=hn _ (Q0 hk') hd;simp[hd,lu,this]
 |e::l,ms,hl,hn,k,hk=>by
  have hk':k<ms.length:=by omega
  rw[QU];have hlen:(dg ms e).length=10:=by rw[wB];exact hl
  have hn':∀m∈dg ms e,m.dt=false->m=gi:=by
   unfold dg;split
   ·intro m hm hd;rcases List.mem_or_eq_of_mem_set hm with hm|rfl
    ·exact hn m hm hd
    ·cases hd
   ·exact hn
  rw[G7 l (dg ms e) hlen hn' k hk];congr 1
  have hof:lu (e::l) k=if(bm e&&decide (e.aq.toNat=k))=true then some e else lu l k:=by
   unfold lu;rw[List.find?_cons];cases bm e&&decide (e.aq.toNat=k)<;>rfl
  rw[hof];unfold dg
  by_cases hv:bm e=true
  ·have hnode:=jM hv;have hi:e.aq.toNat<ms.length:=by omega
   rw[hv,Bool.true_and,Bool.true_and]
   by_cases hke:e.aq.toNat=k
   ·subst hke;rw[Qv hi]
    cases hd:ms[e.aq.toNat].dt with
    |true=>simp[hd,Qv hi]
    |false=>simp[hd,hi]
   ·have hne:decide (e.aq.toNat=k)=false:=Qh hke
    have hset:∀c:Bool,(if c=true then ms.set e.aq.toNat ⟨true,e.ao⟩else ms)[k]?=ms[k]?:=fun c=>by
     cases c
     ·rfl
     ·rw[Qr rfl,List.getElem?_set_ne hke]
    rw[hne,hset];simp
  ·have hv':bm e=false:=by simpa using hv
   simp[hv']
theorem AY{az:Nat}(hn:az<10)(t:an)(l:List ai){k:Nat}(hk:k<10):(fu az t l)[k]?=some (if k=az then⟨true,t⟩else match lu l k with
  |some e=>⟨true,e.ao⟩
  |none=>gi):=by
 rw[fu,G7 l _ (by simp) (fun m hm hd=> ?_) k hk]
 ·by_cases h:k=az
  ·subst h;simp[hn]
  ·rw[List.getElem?_set_ne (fun e=>h e.symm),List.getElem?_replicate,Qr hk]
   simp[h,gi]
 ·rcases List.mem_or_eq_of_mem_set hm with hm|rfl
  ·exact(List.mem_replicate.1 hm).2
  ·cases hd
theorem L0{az:Nat}(hn:az<10)(t:an){l l':List ai}(ha:uB l)(h:l.Perm l'):fu az t l=fu az t l':=by
 refine List.ext_getElem? fun k=> ?_
 by_cases hk:k<10
 ·rw[AY hn t l hk,AY hn t l' hk,KR ha h]
 ·rw[Qq71 (by rw[AZ];omega),Qq71 (by rw[AZ];omega)]
end
section
theorem Pe{τ ρ:Type}(n:Nat)(mk:Int->τ){step:τ->Option (τ⊕ρ)}{fin:Option ρ}(h1:∀i:Nat,i<n->step (mk (i:Int))=some (.inl (mk ((i+1:Nat):Int))))(h2:step (mk (n:Int))=Option.map Sum.inr fin):aD step (mk 0)=fin:=by
 suffices key:∀(k i:Nat),i+k=n->aD step (mk (i:Int))=fin from key n 0 (by omega)
 intro k
 induction k with
 |zero=>
  intro i hi;obtain rfl:i=n:=by omega
  rw[o0,h2];cases fin<;>rfl
 |succ k ih=>exact fun i hi=>(bD (h1 i (by omega))).trans (ih (i+1) (by omega))
theorem NW{ρ:Type}(n:Nat)(hn:n<=1000000){fin:Option ρ}{step:Int×Unit->Option ((Int×Unit)⊕ρ)}
  (h1:∀i:Nat,i<n->decide ((i:Int)<((n:Nat):Int))=true->aA .i64 (i:Int) 1=((i+1:Nat):Int)->step ((i:Int),())=some (.inl (((i+1:Nat):Int),())))
  (h2:decide (((n:Nat):Int)<((n:Nat):Int))=false->step ((n:Int),())=Option.map Sum.inr fin):aD step (0,())=fin:=
 Pe n (fun i=>(i,())) (fun i hi=>h1 i hi (Qg (by omega)) (cO (by omega) (by omega))) (h2 (Qh (Qq63 _)))
end
section
def Ae:List UInt8->Nat
 |[]=>0
 |a::l=>a.toNat*256 ^ l.length+Ae l
theorem CE:∀l:List UInt8,Ae l<256 ^ l.length
 |[]=>by simp[Ae]
 |a::l=>by
  have h1:=CE l;have h2:a.toNat<256:=a.toNat_lt;rw[Ae,QE,Nat.pow_succ];have h3:(a.toNat+1)*256 ^ l.length<=256*256 ^ l.length:=Qq62 _ h2;rw[Qq72,Nat.one_mul,Nat.mul_comm 256]at h3;omega
theorem O9:∀{x y:List UInt8},x.length=y.length->Op.bytesLess x y=true->Ae x<Ae y
 |[],[],_,h=>by simp[Op.bytesLess]at h
 |[],_::_,hl,_=>by simp at hl
 |_::_,[],hl,_=>by simp at hl
 |a::x,b::y,hl,h=>by
  simp only[QE,Nat.add_right_cancel_iff]at hl;simp only[Op.bytesLess,Qn,Qi,Qm,beq_iff_eq]at h;rw[Ae,Ae,hl];rcases h with h|⟨rfl,h⟩
  ·have h1:=CE x;rw[hl]at h1;have h2:a.toNat<b.toNat:=UInt8.lt_iff_toNat_lt.1 h;have h3:(a.toNat+1)*256 ^ y.length<=b.toNat*256 ^ y.length:=Qq62 _ h2;rw[Qq72,Nat.one_mul]at h3;omega
  ·have:=O9 hl h;omega
def WV:Nat:=256 ^ 201
def GR(v:ByteArray):Nat:=v.size*256 ^ 200+Ae v.toList
theorem toList_len(v:ByteArray):v.toList.length=v.size:=by
 rw[Lib.toList_data];cases v;simp[ByteArray.size]
theorem N2{a b:Nat}(h:a<=b):(256:Nat) ^ a<=256 ^ b:=Nat.pow_le_pow_right (by omega) h
theorem LC{v:ByteArray}(h:v.size<=200):GR v<WV:=by
 have h1:=CE v.toList;rw[toList_len]at h1;have h2:=N2 h;have h3:v.size*256 ^ 200<=200*256 ^ 200:=Qq62 _ h;have h4:WV=256*256 ^ 200:=by rw[WV,Nat.pow_succ,Nat.mul_comm]
 unfold GR;rw[h4];generalize (256:Nat) ^ 200=Z at*;omega
theorem Oz{a b:ByteArray}(hb:b.size<=200)(h:lJ a b=true):GR a<GR b:=by
 unfold lJ at h;unfold GR
 by_cases hs:a.size=b.size
 ·rw[Qr hs]at h;have:=O9 (x:=a.toList) (y:=b.toList) (by rw[toList_len,toList_len,hs]) h
  rw[hs];omega
 ·rw[Qs hs,Qi]at h;have h1:=CE a.toList;rw[toList_len]at h1;have h2:=N2 (show a.size<=200 by omega)
  have h3:(a.size+1)*256 ^ 200<=b.size*256 ^ 200:=Qq62 _ h;rw[Qq72,Nat.one_mul]at h3;generalize (256:Nat) ^ 200=Z at*;omega
def Sm(b:af):Prop:=0<=b.ae/\b.ae<=1000/\b.Value.size<=200
def kV(b:af):Nat:=b.ae.toNat*WV+GR b.Value
def WB:Nat:=1001*WV
theorem lV{b:af}(h:Sm b):kV b<WB:=by
 obtain⟨h1,h2,h3⟩:=h;have h4:=LC h3;unfold kV WB;have h5:b.ae.toNat*WV<=1000*WV:=Qq62 _ (by omega)
 generalize WV=Z at*;omega
theorem o4{a b:af}(ha:Sm a)(hb:Sm b)(h:bd a b=true):kV a<kV b:=by
 unfold bd at h;unfold kV
 by_cases hc:a.ae=b.ae
 ·rw[Qr hc]at h;have:=Oz hb.2.2 h;rw[hc];omega
 ·rw[Qs hc,Qi]at h;have h1:=LC ha.2.2;have h2:=ha.1;have h3:(a.ae.toNat+1)*WV<=b.ae.toNat*WV:=Qq62 _ (by omega)
  rw[Qq72,Nat.one_mul]at h3;generalize WV=Z at*;omega
theorem Yd.down{σ ρ:Type}{step:σ->Option (σ⊕ρ)}{p:ρ->Prop}(inv:σ->Prop)(μ:σ->Nat)(h:∀s,inv s->Yd (step s) fun y=>match y with| .inl s'=>inv s'/\μ s'<μ s| .inr r=>p r){s:σ}(hs:inv s):Yd (aD step s) p:=by
 suffices key:∀(n:Nat) (s:σ),μ s<n->inv s->Yd (aD step s) p from key _ s (Nat.lt_succ_self _) hs
 intro n
 induction n with
 |zero=>intro s h0;omega
 |succ n ih=>
  intro s hn hi;refine Yd.loop ((h s hi).mono fun y hy=> ?_)
  cases y with
  |inl s'=>exact ih s' (by have:=hy.2;omega) hy.1
  |inr r=>exact hy
end
section
def bK:af:=⟨0,il⟩
def eH(m:ab):Int:=if(!aI m.ar&&bI m.ar m.aa)=true then m.ar.ae else 0
def fO(m:ab):ai:=
 if m.aJ=1 then⟨m.aq,m.bf,m.aN,m.ao,m.aJ,m.aa,m.ak,m.au,m.aQ,eH m⟩
 else if m.aJ=2 then⟨m.aq,m.bf,m.aN,m.ao,m.aJ,m.aa,m.ak,bK,m.aQ,m.bg⟩
 else⟨m.aq,m.bf,m.aN,m.ao,m.aJ,m.aa,bK,bK,m.aQ,m.bg⟩
theorem sf(m:ab):(fO m).aq=m.aq:=by unfold fO;split<;>(try split)<;>rfl
theorem xN(m:ab):(fO m).bf=m.bf:=by unfold fO;split<;>(try split)<;>rfl
theorem JL(m:ab):(fO m).aN=m.aN:=by unfold fO;split<;>(try split)<;>rfl
theorem vZ(m:ab):(fO m).ao=m.ao:=by unfold fO;split<;>(try split)<;>rfl
theorem OQ(m:ab):(fO m).bW=m.aJ:=by unfold fO;split<;>(try split)<;>rfl
def gX(m:ab):ai:={fO m with aN:=bn (fO m).aN 1}
def BK(e:ai):List ai->List ai
 |[]=>[e]
 |x::l=>if e.aq<x.aq then e::x::l else x::BK e l
theorem xL(e:ai):∀l,(BK e l).Perm (l++[e])
 |[]=> .refl _
 |x::l=>by
  unfold BK;split
  ·exact(List.perm_append_singleton e (x::l)).symm
  ·exact(xL e l).cons x
def aS(m:ab):List ai:=if aI m.aa=true then m.aB else BK (gX m) m.aB
def Cm(a b:af):Bool:=decide (a.ae=b.ae)&&decide (a.Value=b.Value)
theorem Hd{a b:af}:Cm a b=true↔a=b:=by
 cases a;cases b;simp[Cm]
def xy(a b:ab):Bool:=decide (a.aJ=b.aJ)&&Cm a.aa b.aa&&Cm a.ak b.ak&&Cm a.au b.au&&Cm a.ar b.ar&&decide (a.aQ=b.aQ)&&decide (a.bg=b.bg)
end
section
def uo(v:ByteArray)(n:Int)(x:af):Int:=
 if(cF x&&eJ x ⟨n,v⟩)=true then(if eJ x ⟨x.ae,v⟩=true then x.ae+1 else x.ae)else n
def kS(v:ByteArray)(n:Int)(p q:af):Int:=uo v (uo v (bn n 1) p) q
end
section
theorem MH{lo k:Int}{v:ByteArray}{p:af}(h:lo<=k)(hl:bd ⟨k,v⟩ p=true):bd ⟨lo,v⟩ p=true:=by
 unfold bd at hl ⊢;simp only at hl ⊢
 by_cases h1:lo=k
 ·rw[h1];exact hl
 ·have h2:lo<p.ae:=by
   split at hl
   ·omega
   ·simp only[Qi]at hl;omega
  rw[Qs (by omega)]
  simpa using h2
theorem K5{lo k:Int}{v:ByteArray}{p:af}(h:lo<=k)(ha:eJ p ⟨lo,v⟩=false):eJ p ⟨k,v⟩=false:=by
 cases hk:eJ p ⟨k,v⟩with
 |false=>rfl
 |true=>
  simp only[eJ,Qm,bI]at hk;simp only[eJ,bI,hk.1.1,hk.1.2,MH h hk.2]at ha;cases ha
theorem ja(p b:af):js p b=true↔aI p=false/\p.Value=b.Value/\b.ae<=p.ae:=by
 simp[js,bI,and_assoc]
theorem Fk{b:af}(h:1<=b.ae):aI b=false:=by
 have:¬b.ae=0:=by omega
 simp[aI,this]
end
section
def vE(b p:af)(j:Nat)(t:an):ai:=⟨j,1,1,t,1,b,p,⟨0,ByteArray.mk #[]⟩,0,0⟩
structure Kq (b:af):Prop where
 lo:1<=b.ae
 hi:b.ae<=6
 val:HW b.Value
theorem Kq.valid{b:af}(h:Kq b):cF b=true:=NI h.lo (by have:=h.hi;omega) h.val
theorem Kq.nz{b:af}(h:Kq b):aI b=false:=Fk h.lo
theorem EW{l:List ai}(h:∀e∈l,bm e=true):bM l=l:=List.filter_eq_self.2 h
end
section
theorem wA:∀(l:List ai) (ms:List aO) (k:Nat) (m:aO),ms[k]?=some m->
  (l.foldl dg ms)[k]?=some (if m.dt then m else match(bM l).find? (fun e=>decide (e.aq.toNat=k))with|some e=>⟨true,e.ao⟩|none=>m)
 |[],ms,k,m,h=>by simp[bM,h]
 |e::l,ms,k,m,h=>by
  rw[QU]
  by_cases hv:bm e=true
  ·have hr:bM (e::l)=e::bM l:=by simp[bM,hv]
   rw[hr,List.find?_cons]
   by_cases hk:e.aq.toNat=k
   ·have hstep:(dg ms e)[k]?=some (if m.dt then m else⟨true,e.ao⟩):=by
     unfold dg;rw[hv,hk,h]
     cases hm:m.dt with
     |true=>simp[hm,h]
     |false=>
      have hlt:k<ms.length:=(Qw.1 h).1;simp[hm,hlt]
    rw[wA l _ k _ hstep]
    cases hm:m.dt with
    |true=>simp[hm]
    |false=>simp[hk]
   ·have hstep:(dg ms e)[k]?=some m:=by
     unfold dg;split
     ·rw[List.getElem?_set_ne hk];exact h
     ·exact h
    rw[wA l _ k m hstep];simp[hk]
  ·have hv':bm e=false:=by simpa using hv
   have hr:bM (e::l)=bM l:=by simp[bM,hv']
   have hstep:dg ms e=ms:=by simp[dg,hv']
   rw[hr,hstep];exact wA l ms k m h
theorem NH{az:Nat}{t:an}{l:List ai}{k:Nat}(hk:k<10)(hn:az<10):
  (fu az t l)[k]?=some (if k=az then⟨true,t⟩else match(bM l).find? (fun e=>decide (e.aq.toNat=k))with|some e=>⟨true,e.ao⟩|none=>gi):=by
 unfold fu
 by_cases h:k=az
 ·subst h;rw[wA l _ k ⟨true,t⟩ (by simp[hk])]
  simp
 ·rw[wA l _ k gi (by
   rw[List.getElem?_set_ne (fun e=>h e.symm),List.getElem?_replicate,Qr hk])]
  simp[h,gi]
theorem Hy{l:List aO}{k:Nat}{m:aO}(hk:k<10)(h:l[k]?=some m)(hd:m.dt=true):nn l k=true:=by
 rw[nn,BT,h];simp[hk,hd]
theorem NG{az:Nat}(hn:az<10){t:an}{l:List ai}(T:Nat->an)(ht:T az=t)(hT:∀e∈bM l,e.ao=T e.aq.toNat){k:Nat}(hk:k<10)(hs:k=az\/∃e∈bM l,e.aq.toNat=k):
  nn (fu az t l) k=true/\k9 (fu az t l) k=T k:=by
 have hg:=NH (t:=t) (l:=l) hk hn
 by_cases h:k=az
 ·rw[Qr h]at hg;exact⟨Hy hk hg rfl,by rw[uk hg,h,ht]⟩
 ·rw[Qs h]at hg;obtain⟨e,he,hek⟩:=hs.resolve_left h
  cases hf:(bM l).find? (fun e=>decide (e.aq.toNat=k))with
  |none=>
   have:=List.find?_eq_none.1 hf e he;simp[hek]at this
  |some e'=>
   rw[hf]at hg;have h1:=List.mem_of_find?_eq_some hf;have h2:=List.find?_some hf;simp only[Qi]at h2;exact⟨Hy hk hg rfl,by rw[uk hg,<-h2];exact hT e' h1⟩
def zn(b p:af)(ts:List an)(q n:Nat)(l:List ai):Prop:=
 l.length<=n/\(∀e∈l,∃i t,i<n/\q.testBit i=true/\ts[i]?=some t/\e=vE b p i t)/\∀i t,i<n->q.testBit i=true->ts[i]?=some t->vE b p i t∈l
theorem zn.nil(b p:af)(ts:List an)(q:Nat):zn b p ts q 0 []:=⟨by simp,by simp,fun i t h=>by omega⟩
theorem zn.take{b p:af}{ts:List an}{q n:Nat}{l:List ai}(h:zn b p ts q n l)(hq:q.testBit n=true){t:an}(ht:ts[n]?=some t):zn b p ts q (n+1) (l++[vE b p n t]):=by
 obtain⟨h1,h2,h3⟩:=h;refine⟨by simp;omega,fun e he=> ?_,fun i t' hi hb ht'=> ?_⟩
 ·rcases Qz.1 he with he|he
  ·obtain⟨i,t,a,b,c⟩:=h2 e he;exact⟨i,t,by omega,b,c⟩
  ·simp only[Q5]at he;exact⟨n,t,by omega,hq,ht,he⟩
 ·rcases Nat.lt_or_ge i n with h|h
  ·exact Qz.2 (.inl (h3 i t' h hb ht'))
  ·obtain rfl:i=n:=by omega
   rw[ht]at ht';injection ht' with ht'
   subst ht';exact Qz.2 (.inr (by simp))
section
variable {b p : af} (hb : Kq b) (hp : aI p = true \/ cF p = true) {ts : List an} (hts : ∀ t ∈ ts, ir t) {q : Nat} {l : List ai} (hlen : ts.length <= 5) (hc : zn b p ts q ts.length l)
 include hb hp hts hlen hc
end
end
section
section
variable {α : Type}
structure SWO (lt:α->α->Bool):Prop where
 asymm:∀x y,lt x y=true->lt y x=false
 trans:∀x y z,lt y x=false->lt z y=false->lt z x=false
end
end
section
section
variable {α : Type}
 def JZ(eq ne:α->α->Bool)(z:α)(K:Int)(n:Nat)(v6:Int×Int×(List α)×Unit):Option ((Int×Int×(List α)×Unit)⊕((Int×(List α)×Unit)⊕List α)):=
 bif (decide (v6.2.1<((List.length ((v6.2.2.1.drop (Int.toNat K)).take (Int.toNat (n:Int) - Int.toNat K)):Nat):Int)))then
 bu (fun(v7:Int×(List α)×Unit)=>
 some (Sum.inl (v7.1,(aA .i64 v6.2.1 (1:Int)),v7.2.1,()))) fun j8=>
 Option.bind (idx ((v6.2.2.1.drop (Int.toNat K)).take (Int.toNat (n:Int) - Int.toNat K)) v6.2.1) fun x9=>
 Option.bind (v6.2.2.1[((Int.toNat K)+Int.toNat v6.2.1)]?) fun x10=>
 Option.bind (idx ((v6.2.2.1.drop (Int.toNat K)).take (Int.toNat (n:Int) - Int.toNat K)) (gf .i64 v6.2.1 (1:Int))) fun x11=>
 Option.bind (v6.2.2.1[((Int.toNat K)+Int.toNat (gf .i64 v6.2.1 (1:Int)))]?) fun x12=>
 bif (ne x10 x12)then
 Option.bind (idx ((v6.2.2.1.drop (Int.toNat K)).take (Int.toNat (n:Int) - Int.toNat K)) v6.2.1) fun x13=>
 Option.bind (v6.2.2.1[((Int.toNat K)+Int.toNat v6.2.1)]?) fun x14=>
 Option.bind (idx v6.2.2.1 v6.1) fun x15=>
 Option.bind (v6.2.2.1[(Int.toNat v6.1)]?) fun x16=>
 j8 ((aA .i64 v6.1 (1:Int)),(v6.2.2.1.set (Int.toNat v6.1) x14),())
 else
 j8 (v6.1,v6.2.2.1,())
 else
 Option.map Sum.inr (bif dO v6.1 ((List.length v6.2.2.1):Int) (List.length v6.2.2.1)then
 bif dO (0:Int) v6.1 (List.length (v6.2.2.1.take (Int.toNat v6.1)++List.replicate (Int.toNat ((List.length v6.2.2.1):Int) - Int.toNat v6.1) z++v6.2.2.1.drop ((Int.toNat v6.1)+(Int.toNat ((List.length v6.2.2.1):Int) - Int.toNat v6.1))))then
 Option.map Sum.inr (some ((v6.2.2.1.take (Int.toNat v6.1)++List.replicate (Int.toNat ((List.length v6.2.2.1):Int) - Int.toNat v6.1) z++v6.2.2.1.drop ((Int.toNat v6.1)+(Int.toNat ((List.length v6.2.2.1):Int) - Int.toNat v6.1))).take (Int.toNat v6.1 - Int.toNat (0:Int))))
 else none
 else none)
 def FQ(eq ne:α->α->Bool)(z:α)(v1:Int×(List α)×Unit):Option ((Int×(List α)×Unit)⊕List α):=
 bif (decide (v1.1<((List.length v1.2.1:Nat):Int)))then
 Option.bind (idx v1.2.1 v1.1) fun x2=>
 Option.bind (v1.2.1[(Int.toNat v1.1)]?) fun x3=>
 Option.bind (idx v1.2.1 (gf .i64 v1.1 (1:Int))) fun x4=>
 Option.bind (v1.2.1[(Int.toNat (gf .i64 v1.1 (1:Int)))]?) fun x5=>
 bif (eq x3 x5)then
 bif dO v1.1 ((List.length v1.2.1):Int) (List.length v1.2.1)then
 aD (JZ eq ne z v1.1 (List.length v1.2.1)) (v1.1,(1:Int),v1.2.1,())
 else none
 else
 some (Sum.inl ((aA .i64 v1.1 (1:Int)),v1.2.1,()))
 else
 Option.map Sum.inr (some v1.2.1)
 def Eg(eq ne:α->α->Bool)(z:α)(s:List α):Option (List α):=
 bif (decide (((List.length s:Nat):Int)<(2:Int)))then
 some s
 else
 aD (FQ eq ne z) ((1:Int),s,())
theorem IC(d:List α){K n m:Nat}(hm:m<n - K):idx ((d.drop K).take (n - K)) (m:Int)=d[K+m]?:=by
 rw[bQ,Qq67,Qr hm,List.getElem?_drop]
variable [DecidableEq α]
def nr(acc:List α)(x:α):List α:=if acc.getLast?=some x then acc else acc++[x]
def dd(l:List α):List α:=l.foldl nr []
theorem LJ(l:List α)(x:α):dd (l++[x])=nr (dd l) x:=by simp[dd,List.foldl_append]
theorem T9(l:List α):(dd l).getLast?=l.getLast?:=by
 suffices h:∀r:List α,(dd r.reverse).getLast?=r.reverse.getLast? by
  have:=h l.reverse
  rwa [List.reverse_reverse]at this
 intro r
 induction r with
 |nil=>rfl
 |cons x r ih=>
  rw[List.reverse_cons,LJ,nr];split
  ·rename_i h;rw[h];simp
  ·simp
theorem LI{s:List α}{k:Nat}{x:α}(h:s[k]?=some x):dd (s.take (k+1))=nr (dd (s.take k)) x:=by
 obtain⟨hl,hx⟩:=Qw.1 h;rw[Q6 hl,hx,LJ]
theorem Hw{s:List α}{k:Nat}{x:α}(h:s[k]?=some x):(dd (s.take (k+1))).getLast?=some x:=by
 obtain⟨hl,hx⟩:=Qw.1 h;rw[T9,Q6 hl,hx];simp
variable {eq ne : α -> α -> Bool} {z : α}
theorem Et(hne:∀x y,ne x y= !decide (x=y)){s:List α}{K:Nat}(hn:s.length<1000000000):∀(r i k2:Nat) (d:List α),k2+r=s.length - K->1<=k2->i<=K+k2 - 1->d.length=s.length->d.take i=dd (s.take (K+k2))->(∀j,K+k2 - 1<=j->d[j]?=s[j]?)->
  aD (JZ eq ne z (K:Int) s.length) ((i:Int),(k2:Int),d,())=some (.inr (dd s))
 |0,i,k2,d,hr,h1,hi,hd,ht,hs=>by
  have hKn:K+k2=s.length:=by omega
  refine bs ?_;have e1:(((d.drop K).take (s.length - K)).length)=s.length - K:=by simp;omega
  have e2:decide ((k2:Int)<((s.length - K:Nat):Int))=false:=Qh (by omega)
  have e3:∀n,dO (i:Int) (d.length:Int) n=decide (d.length<=n):=by
   intro n;have:i<=d.length:=by omega
   simp only[dO];have h1:decide ((0:Int)<=(i:Int))=true:=Qg (by omega)
   have h2:decide ((i:Int)<=(d.length:Int))=true:=Qg (by omega)
   rw[h1,h2,Bool.and_self,Bool.true_and,decide_eq_decide];omega
  have e4:(d.take i++List.replicate (d.length - i) z++d.drop (i+(d.length - i))).length=d.length:=by simp;omega
  have e5:dO (0:Int) (i:Int) d.length=true:=by
   simp only[dO,Qm,Qi];omega
  have e6:(d.take i++List.replicate (d.length - i) z++d.drop (i+(d.length - i))).take (i - 0)=dd s:=by
   rw[Nat.sub_zero,QL,List.take_append_of_le_length (by simp;omega),List.take_take,Nat.min_self,ht,hKn,Q9]
  simp only[JZ,QV,e1,e2,Ql,e3,QI,decide_true,Qk,e4,e5,Int.toNat_zero,e6,Qe]
 |r+1,i,k2,d,hr,h1,hi,hd,ht,hs=>by
  have hKn:K+k2<s.length:=by omega
  obtain⟨x,hx⟩:∃x,s[K+k2]?=some x:=⟨_,Qv hKn⟩;obtain⟨y,hy⟩:∃y,s[K+(k2 - 1)]?=some y:=⟨_,Qv (by omega)⟩
  have e1:(((d.drop K).take (s.length - K)).length)=s.length - K:=by simp;omega
  have e2:decide ((k2:Int)<((s.length - K:Nat):Int))=true:=Qg (by omega)
  have e3:gf .i64 (k2:Int) 1=((k2 - 1:Nat):Int):=by rw[zu (by omega) (by omega)];omega
  have e4:aA .i64 (k2:Int) 1=((k2+1:Nat):Int):=cO (by omega) (by omega)
  have e5:aA .i64 (i:Int) 1=((i+1:Nat):Int):=cO (by omega) (by omega)
  have hdx:d[K+k2]?=some x:=by rw[hs _ (by omega),hx]
  have hdy:d[K+(k2 - 1)]?=some y:=by rw[hs _ (by omega),hy]
  have hv1:=IC d (K:=K) (n:=s.length) (m:=k2) (by omega)
  have hv2:=IC d (K:=K) (n:=s.length) (m:=k2 - 1) (by omega)
  obtain⟨w,hw⟩:∃w,d[i]?=some w:=⟨_,Qv (by omega)⟩
  have hstep:=LI hx
  have hlast:(dd (s.take (K+k2))).getLast?=some y:=by
   have:=Hw hy
   rwa [show K+(k2 - 1)+1=K+k2 by omega]at this
  rw[nr,hlast]at hstep;have hil:i<d.length:=by omega
  by_cases hxy:x=y
  ·refine Eq.trans (bD (s':=((i:Int),((k2+1:Nat):Int),d,())) ?_) (Et hne hn r i (k2+1) d (by omega) (by omega) (by omega) hd ?_ fun j hj=>hs j (by omega))
   ·simp only[JZ,QV,e1,e2,Qk,bq,hv1,hdx,Qa,e3,hv2,hdy,hne,hxy,decide_true,Qo,Ql,e4]
   ·rw[show K+(k2+1)=K+k2+1 by omega,hstep,Qr (by rw[hxy]),ht]
  ·refine Eq.trans (bD (s':=(((i+1:Nat):Int),((k2+1:Nat):Int),d.set i x,())) ?_) (Et hne hn r (i+1) (k2+1) (d.set i x) (by omega) (by omega) (by omega) (by rw[QY];exact hd) ?_ fun j hj=> ?_)
   ·simp only[JZ,QV,e1,e2,Qk,bq,hv1,hdx,Qa,e3,hv2,hdy,hne,hxy,decide_false,Qp,e4,e5,bQ,hw]
   ·rw[show K+(k2+1)=K+k2+1 by omega,hstep,Qs (fun e=>hxy (by injection e with e;exact e.symm)),<-ht,Q6 (by rw[QY];exact hil)]
    congr 1
    ·rw[List.take_set_of_le (QI _)]
    ·simp
   ·rw[List.getElem?_set,Qs (by omega)]
    exact hs j (by omega)
theorem JY(heq:∀x y,eq x y=decide (x=y))(hne:∀x y,ne x y= !decide (x=y)){s:List α}(hn:s.length<1000000000):∀(r k:Nat),k+r=s.length->1<=k->dd (s.take k)=s.take k->aD (FQ eq ne z) ((k:Int),s,())=some (dd s)
 |0,k,hr,h1,h=>by
  refine bs ?_;have hk:k=s.length:=by omega
  have e2:decide ((k:Int)<((s.length:Nat):Int))=false:=Qh (by omega)
  rw[hk,Q9]at h;simp only[FQ,e2,Ql,Qe,h]
 |r+1,k,hr,h1,h=>by
  have hk:k<s.length:=by omega
  obtain⟨x,hx⟩:∃x,s[k]?=some x:=⟨_,Qv hk⟩;obtain⟨y,hy⟩:∃y,s[k - 1]?=some y:=⟨_,Qv (by omega)⟩
  have e2:decide ((k:Int)<((s.length:Nat):Int))=true:=Qg (by omega)
  have e3:gf .i64 (k:Int) 1=((k - 1:Nat):Int):=by rw[zu (by omega) (by omega)];omega
  have e4:aA .i64 (k:Int) 1=((k+1:Nat):Int):=cO (by omega) (by omega)
  have hstep:=LI hx
  have hlast:(dd (s.take k)).getLast?=some y:=by
   have:=Hw hy
   rwa [show k - 1+1=k by omega]at this
  rw[nr,hlast]at hstep
  by_cases hxy:x=y
  ·rw[Qr (by rw[hxy])]at hstep
   have e5:dO (k:Int) (s.length:Int) s.length=true:=by
    simp only[dO,Qm,Qi];omega
   have hin:=Et (eq:=eq) (z:=z) (K:=k) hne hn (s.length - k - 1) k 1 s (by omega) (by omega) (by omega) rfl (by rw[hstep,h]) (fun _ _=>rfl)
   refine bs ?_;simp only[FQ,e2,Qk,bQ,QV,hx,hy,e3,Qa,heq,hxy,decide_true,e5];exact hin
  ·rw[Qs (fun e=>hxy (by injection e with e;exact e.symm))]at hstep
   refine Eq.trans (bD (s':=(((k+1:Nat):Int),s,())) ?_) (JY heq hne hn r (k+1) (by omega) (by omega) ?_)
   ·simp only[FQ,e2,Qk,bQ,QV,hx,hy,e3,Qa,heq,hxy,decide_false,Ql,e4]
   ·obtain⟨hl,hx'⟩:=Qw.1 hx;rw[hstep,h,Q6 hl,hx']
theorem wb(heq:∀x y,eq x y=decide (x=y))(hne:∀x y,ne x y= !decide (x=y))(s:List α)(hn:s.length<1000000000):Eg eq ne z s=some (dd s):=by
 unfold Eg
 by_cases h:s.length<2
 ·have e:decide (((s.length:Nat):Int)<2)=true:=Qg (by omega)
  rw[e,Qk]
  match s,h with
  |[],_=>rfl
  |[x],_=>rfl
 ·have e:decide (((s.length:Nat):Int)<2)=false:=Qh (by omega)
  rw[e,Ql];refine JY heq hne hn (s.length - 1) 1 (by omega) (by omega) ?_
  cases s with
  |nil=>rfl
  |cons x l=>rfl
theorem M3(acc:List α)(x:α):∀y,y∈nr acc x↔y∈acc\/y=x:=by
 intro y;unfold nr;split
 ·rename_i h;have:=List.mem_of_getLast? h;exact⟨.inl,fun h'=>h'.elim id fun e=>e▸this⟩
 ·simp
theorem Bu:∀(l acc:List α) (y:α),y∈l.foldl nr acc↔y∈acc\/y∈l
 |[],acc,y=>by simp
 |x::l,acc,y=>by
  rw[QU,Bu l,M3];simp[or_assoc]
theorem U0(l:List α)(y:α):y∈dd l↔y∈l:=by rw[dd,Bu];simp
theorem JW(l:List α):(dd l).length<=l.length:=by
 suffices h:∀(l acc:List α),(l.foldl nr acc).length<=acc.length+l.length by simpa[dd]using h l []
 intro l
 induction l with
 |nil=>intro acc;simp
 |cons x l ih=>
  intro acc;rw[QU];refine QK (ih _) ?_;unfold nr;split<;>simp<;>omega
theorem OT{lt:α->α->Bool}(ho:SWO lt)(hto:∀x y,lt x y=false->lt y x=false->x=y){l:List α}(hl:l.Pairwise (fun a b=>lt b a=false)):(dd l).Pairwise (fun a b=>lt a b=true):=by
 suffices h:∀(l acc:List α),(acc++l).Pairwise (fun a b=>lt b a=false)->acc.Pairwise (fun a b=>lt a b=true)->(l.foldl nr acc).Pairwise (fun a b=>lt a b=true)from h l [] (by simpa using hl) .nil
 intro l
 induction l with
 |nil=>intro acc _ h;exact h
 |cons x l ih=>
  intro acc h1 h2;rw[QU];unfold nr;split
  ·rename_i hlast;refine ih acc ?_ h2;rw[Qq68]at h1 ⊢;exact⟨h1.1,(Q4.1 h1.2.1).2,fun a ha b hb=>h1.2.2 a ha b (by simp[hb])⟩
  ·rename_i hlast;refine ih _ (by simpa using h1) ?_
   rw[Qq68]at h1 ⊢;refine⟨h2,by simp,fun a ha b hb=> ?_⟩
   rw[Q5.1 hb];have hax:lt x a=false:=h1.2.2 a ha x (by simp)
   cases hc:lt a x with
   |true=>rfl
   |false=>
    exfalso;have e:=hto a x hc hax;subst e
    obtain⟨y,hy⟩:∃y,acc.getLast?=some y:=by
     cases hg:acc.getLast? with
     |none=>rw[List.getLast?_eq_none_iff.1 hg]at ha;cases ha
     |some y=>exact⟨y,rfl⟩
    obtain⟨pre,rfl⟩:∃pre,acc=pre++[y]:=by
     have:=List.getLast?_eq_some_iff.1 hy;exact this
    rcases Qz.1 ha with ha|ha
    ·rw[Qq68]at h2;have h3:=h2.2.2 a ha y (by simp)
     have h4:=h1.2.2 y (by simp) a (by simp)
     rw[h3]at h4;cases h4
    ·rw[Q5.1 ha]at hlast;exact hlast hy
end
end
section
theorem Rp(s:List Int):lC s=Eg (fun x y=>decide (x=y)) (fun x y=> !decide (x=y)) 0 s:=rfl
 def jN(v:ByteArray)(e:ai):Bool:=bm e&&decide (e.aa.Value=v)&& !decide (e.aQ=0)
 def ends(v:ByteArray)(l:List ai):List Int:=l.flatMap fun e=>if jN v e then[e.aQ,e.bg]else[]
theorem tM{v:ByteArray}{l:List ai}{x:Int}:x∈ends v l↔∃e∈l,jN v e=true/\(x=e.aQ\/x=e.bg):=by
 simp only[ends,QQ];constructor
 ·rintro⟨e,he,hx⟩;split at hx
  ·rename_i h;exact⟨e,he,h,by simpa using hx⟩
  ·cases hx
 ·rintro⟨e,he,h,hx⟩;exact⟨e,he,by rw[Qr h];simpa using hx⟩
end
section
theorem B6{v:aZ}{az:Int}{l:List ai}(hl:l.length<=1000000)(hin:sk l)(val:ByteArray)(lo hi:Int):gH ⟨az,v,l.map bc.mk⟩ val lo hi=some ((dQ (iv · val lo hi) l:Nat):Int):=by
 unfold gH;refine zp (iv · val lo hi) l hin _ (fun i e s he=> ?_) (fun s=> ?_)
 ·have hlt:i<l.length:=(Qw.1 he).1;have hd:decide ((i:Int)<(((l.map bc.mk).length:Nat):Int))=true:=Qg (by rw[QC];omega)
  have hw:aA .i64 (i:Int) 1=((i+1:Nat):Int):=cO (by omega) (by omega)
  have hx:idx (l.map bc.mk) (i:Int)=some ⟨e⟩:=by rw[bQ,QT,he];rfl
  simp only[hd,hx,hw,Qk,Qa,etas,ai.eta,jW,pD,bq];cases iv e val lo hi<;>simp
 ·have hd:decide (((l.length:Nat):Int)<(((l.map bc.mk).length:Nat):Int))=false:=Qh (by rw[QC];exact Qq63 _)
  simp only[hd,Ql,Qe]
theorem K6{v:aZ}{az:Int}{l:List ai}(hl:l.length<=1000000)(hin:sk l)(val:ByteArray)(lo hi:Int):fe ⟨az,v,l.map bc.mk⟩ val lo hi val lo hi=some ((dQ (fun e=>wz e val lo hi||iv e val lo hi) l:Nat):Int):=by
 unfold fe;refine zp (fun e=>wz e val lo hi||iv e val lo hi) l hin _ (fun i e s he=> ?_) (fun s=> ?_)
 ·have hlt:i<l.length:=(Qw.1 he).1;have hd:decide ((i:Int)<(((l.map bc.mk).length:Nat):Int))=true:=Qg (by rw[QC];omega)
  have hw:aA .i64 (i:Int) 1=((i+1:Nat):Int):=cO (by omega) (by omega)
  have hx:idx (l.map bc.mk) (i:Int)=some ⟨e⟩:=by rw[bQ,QT,he];rfl
  simp only[hd,hx,hw,Qk,Qa,etas,ai.eta,gL,jW,rN,pD,yw,bq,py,Bool.cond_true_left];cases (wz e val lo hi||iv e val lo hi)<;>simp
 ·have hd:decide (((l.length:Nat):Int)<(((l.map bc.mk).length:Nat):Int))=false:=Qh (by rw[QC];exact Qq63 _)
  simp only[hd,Ql,Qe]
 def Bd(az:Nat)(t:an)(l:List ai):eN:=⟨az,⟨fu az t l⟩,(bM l).map bc.mk⟩
 def pr(az:Nat)(t:an)(l:List ai)(val:ByteArray)(lo hi:Int):Bool:=
 mn (fu az t l) az (dQ (fun e=>wz e val lo hi||iv e val lo hi) (bM l)) (dQ (iv · val lo hi) (bM l))
 def rE(az:Nat)(t:an)(l:List ai)(val:ByteArray)(lo hi:Int):Bool:=
 (gq (fu az t l) (dQ (iv · val lo hi) (bM l))).testBit az
section
variable {az : Nat} (hn : az < 10) {t : an} (ht : ea t) {l : List ai} (hl : ob l)
 include hn ht hl
theorem IV(val:ByteArray)(lo hi:Int):fG (Bd az t l) val lo hi=some (pr az t l val lo hi):=by
 have hlen:=hl.len;have hrl:=vN l;have hin:=oP l
 simp only[Bd,fG,lG,iy,Qa,K6 (by omega:(bM l).length<=1000000) hin,B6 (by omega:(bM l).length<=1000000) hin,
  vk (q7 ht hl) hn (rQ hin) (rQ hin),pr]
theorem SK(val:ByteArray)(lo hi:Int):ky (Bd az t l) val lo hi=some (rE az t l val lo hi):=by
 have hlen:=hl.len;have hrl:=vN l;have hin:=oP l;simp only[Bd,ky,lG,jC,Qa,B6 (by omega:(bM l).length<=1000000) hin,tW (q7 ht hl) hn (rQ hin),rE]
theorem look_eq:dM az t l=some (Bd az t l):=G1 hn ht hl
end
def dX(q:Int->Bool):List Int->Int->Int
 |[],lo=>lo
 |e::l,lo=>if lo<=e then dX q l lo else if q e then dX q l e else lo
theorem wx{p:Int->Option Bool}{q:Int->Bool}(h:∀e,p e=some (q e)):∀(l:List Int) (lo:Int),kb (fun(m5:Nat) (e6:Int) (v4:Int×Unit)=>
  bif (decide (v4.1<=e6))then some (Sum.inl (v4.1,()))else
  Option.bind (p e6) fun r7=>bif (!r7)then Option.map Sum.inr (some v4.1)else some (Sum.inl (e6,()))) (fun v8=>some v8.1) l (lo,())=some (dX q l lo)
 |[],lo=>rfl
 |e::l,lo=>by
  rw[kb,dX]
  by_cases hle:lo<=e
  ·rw[Qr hle];simp only[hle,decide_true,Qk];exact wx h l lo
  ·rw[Qs hle];simp only[hle,decide_false,Ql,h,Qa]
   cases hq:q e with
   |true=>
    simp only[Qo,Ql,Qt];have:=wx h l e;simp only[h,Qa]at this;exact this
   |false=>rfl
def flat(n:Nat)(k:Int):an:=⟨k,oE n,[]⟩
theorem DM(s n:Nat)(k:Int):km s (flat n k)=decide (k<=(((oE n).countP (jx s):Nat):Int)):=by
 rw[Cl];simp[flat,q9]
theorem M5{s s':Nat}(h:∀k,s.testBit k=true->s'.testBit k=true)(l:List Int):l.countP (jx s)<=l.countP (jx s'):=List.countP_mono_left fun x _ hx=>HB h x hx
structure Ax (n:Nat) (k:Int) (l:List ai):Prop where
 n10:n<=10
 k1:1<=k
 kn:k<=n
 valid:∀e∈l,bm e=true
 bb:∀e∈l,e.ao=flat n k
 XZ:l.length<=1000
 all:∀i,i<n->∃e∈l,e.aq.toNat=i
theorem Ax.fh{n:Nat}{k:Int}{l:List ai}(h:Ax n k l):ir (flat n k):=OL n h.n10 k h.k1 h.kn
theorem Ax.sm{n:Nat}{k:Int}{l:List ai}(h:Ax n k l):ob l:=⟨by have:=h.XZ;omega,fun e he=>by rw[h.bb e he];exact h.fh.sm⟩
theorem Ax.bM{n:Nat}{k:Int}{l:List ai}(h:Ax n k l):Go.Proofs.YtjbfdglebjnelaaGreat.bM l=l:=EW h.valid
def cE(n:Nat)(k:Int)(c:Int)(v:ByteArray)(lo hi:Nat->Int)(i:Nat):ai:=⟨i,1,1,flat n k,2,⟨c,v⟩,⟨c,v⟩,⟨0,ByteArray.mk #[]⟩,lo i,hi i⟩
end
section
def w6(b:List Int)(sure:Int->Int->Bool):Int×Int×Bool×Unit:=
 match b.reverse.find? (fun e=>sure e e)with
 |some e=>(dX (fun x=>sure x e) b.reverse e,e,true,())
 |none=>(0,0,false,())
theorem LA{p:Int->Option Bool}{q:Int->Bool}{d:Int->Option Int}{f:Int->Int}(hp:∀e,p e=some (q e))(hd:∀e,d e=some (f e)):∀r:List Int,kb (fun(m5:Nat) (e6:Int) (v4:Int×Int×Bool×Unit)=>
  Option.bind (p e6) fun r7=>bif r7 then Option.bind (d e6) fun r8=>Option.map Sum.inr (some (r8,e6,true,()))else some (Sum.inl (v4.1,v4.2.1,v4.2.2.1,()))) (fun(v9:Int×Int×Bool×Unit)=>some ((0:Int),(0:Int),false,())) r ((0:Int),(0:Int),false,())=
  some (match r.find? q with|some e=>(f e,e,true,())|none=>(0,0,false,()))
 |[]=>rfl
 |e::r=>by
  have ih:=LA hp hd r;rw[kb,List.find?_cons];simp only[hp,hd,Qa,Qe]at ih ⊢
  cases q e with
  |true=>rfl
  |false=>simp only[Ql];exact ih
section
variable {az : Nat} (hn : az < 10) {t : an} (ht : ea t) {l : List ai} (hl : ob l)
 include hn ht hl
end
section
variable {n : Nat} {k c : Int} {v : ByteArray} {lo hi : Nat -> Int} (h : Ax n k ((List.range n).map (cE n k c v lo hi))) {i : Nat} (hi' : i < n)
 include h hi'
end
end
section
section
variable {α : Type}
structure qN (lt:α->α->Bool):Prop where
 irrefl:∀x,lt x x=false
 trans:∀x y z,lt x y=true->lt y z=true->lt x z=true
 total:∀x y,lt x y=false->lt y x=false->x=y
variable {lt : α -> α -> Bool}
theorem qN.asymm(h:qN lt){x y:α}(hxy:lt x y=true):lt y x=false:=by
 cases hc:lt y x with
 |false=>rfl
 |true=>have:=h.trans x y x hxy hc;rw[h.irrefl]at this;cases this
theorem qN.ntrans(h:qN lt){x y z:α}(h1:lt x y=false)(h2:lt y z=false):lt x z=false:=by
 cases hc:lt x z with
 |false=>rfl
 |true=>
  cases hyx:lt y x with
  |false=>rw[h.total x y h1 hyx,h2]at hc;cases hc
  |true=>have:=h.trans y x z hyx hc;rw[h2]at this;cases this
theorem qN.XX(h:qN lt):Go.Sort.SWO lt:=⟨h.irrefl,h.trans,fun _ _ _=>h.ntrans⟩
theorem qN.own(h:qN lt):SWO lt:=⟨fun _ _=>h.asymm,fun _ _ _ h1 h2=>h.ntrans h2 h1⟩
theorem qN.flip(h:qN lt):qN fun a b=>lt b a:=⟨h.irrefl,fun x y z h1 h2=>h.trans z y x h2 h1,fun x y h1 h2=>h.total x y h2 h1⟩
theorem qN.unique(h:qN lt):∀{a b:List α},a.Pairwise (fun x y=>lt x y=true)->b.Pairwise (fun x y=>lt x y=true)->(∀x,x∈a↔x∈b)->a=b
 |[],[],_,_,_=>rfl
 |[],y::b,_,_,h'=>by have:=(h' y).2 (by simp);cases this
 |x::a,[],_,_,h'=>by have:=(h' x).1 (by simp);cases this
 |x::a,y::b,ha,hb,h'=>by
  rw[Q4]at ha hb
  have hxy:x=y:=by
   have h1:=(h' x).1 (by simp)
   have h2:=(h' y).2 (by simp)
   rcases QA.1 h1 with h1|h1
   ·exact h1
   ·rcases QA.1 h2 with h2|h2
    ·exact h2.symm
    ·have q1:=ha.1 y h2;have q2:=hb.1 x h1;rw[h.asymm q1]at q2;cases q2
  subst hxy;congr 1;refine h.unique ha.2 hb.2 fun z=>⟨fun hz=> ?_,fun hz=> ?_⟩
  ·rcases QA.1 ((h' z).1 (by simp[hz]))with e|e
   ·subst e;have:=ha.1 z hz;rw[h.irrefl]at this;cases this
   ·exact e
  ·rcases QA.1 ((h' z).2 (by simp[hz]))with e|e
   ·subst e;have:=hb.1 z hz;rw[h.irrefl]at this;cases this
   ·exact e
theorem qN.L9[DecidableEq α](h:qN lt){cmp:α->α->Option Int}{c:α->α->Int}(hc:∀x y,cmp x y=some (c x y))(hlt:∀x y,decide (c x y<0)=lt x y)(s:List α)(hs:s.length<1000000000):
  ∃t,vb cmp s=some ((),t)/\t.length=s.length/\(dd t).Pairwise (fun x y=>lt x y=true)/\∀x,x∈dd t↔x∈s:=by
 have hcf:BZ cmp=c:=funext fun x=>funext fun y=>by unfold BZ;rw[hc];rfl
 have hl:Go.Proofs.ltOf (BZ cmp)=lt:=by
  rw[hcf];exact funext fun x=>funext fun y=>hlt x y
 have hok:Sv cmp:=⟨fun x y=>by rw[hcf];exact hc x y,by rw[hl];exact h.XX,fun x y h1 h2=>by rw[hl]at h1 h2;exact h.total x y h1 h2⟩
 refine⟨s.mergeSort fun x y=> !lt y x,?_,List.length_mergeSort s,OT h.own h.total ?_,fun x=>by rw[U0,List.mem_mergeSort]⟩
 ·unfold vb;rw[Qr ⟨hok,by omega⟩,hl]
 ·refine(List.pairwise_mergeSort (le:=fun x y=> !lt y x) (fun a b c h1 h2=> ?_) (fun a b=> ?_) s).imp fun{a b} hab=>by simpa using hab
  ·simp only[Bool.not_eq_true']at h1 h2 ⊢;exact h.ntrans h2 h1
  ·cases hab:lt a b with
   |false=>simp
   |true=>rw[h.asymm hab];rfl
end
theorem Cj:qN fun a b:Int=>decide (a<b):=
 ⟨fun x=>Qh (Qq63 x),fun x y z h1 h2=>by simp only[Qi]at*;omega,fun x y h1 h2=>by simp only[Qj]at*;omega⟩
theorem J8:∀{x y z:List UInt8},Op.bytesLess x y=true->Op.bytesLess y z=true->Op.bytesLess x z=true
 |[],[],_,h,_=>by simp[Op.bytesLess]at h
 |_::_,[],_,h,_=>by simp[Op.bytesLess]at h
 |[],_::_,[],_,h=>by simp[Op.bytesLess]at h
 |[],_::_,_::_,_,_=>rfl
 |_::_,_::_,[],_,h=>by simp[Op.bytesLess]at h
 |a::x,b::y,c::z,h,h'=>by
  simp only[Op.bytesLess,Qn,Qi,Qm,beq_iff_eq]at h h' ⊢;rcases h with h|⟨rfl,h⟩
  ·rcases h' with h'|⟨rfl,h'⟩
   ·exact .inl (UInt8.lt_trans h h')
   ·exact .inl h
  ·rcases h' with h'|⟨rfl,h'⟩
   ·exact .inl h'
   ·exact .inr ⟨rfl,J8 h h'⟩
theorem KC{a b c:ByteArray}(h:jn a b=true)(h':jn b c=true):jn a c=true:=J8 h h'
theorem KD{a b:ByteArray}(h:a≠b):jn a b=true\/jn b a=true:=
 J9 fun e=>h (by
  rw[Lib.toList_data,Lib.toList_data]at e;cases a;cases b;rename_i x y;cases x;cases y
  simp_all)
theorem um:qN lJ:=by
 refine⟨fun x=>by rw[lJ,Qr rfl,IK],fun x y z h1 h2=> ?_,fun x y h1 h2=> ?_⟩
 ·unfold lJ at*
  by_cases e1:x.size=y.size
  ·rw[Qr e1]at h1
   by_cases e2:y.size=z.size
   ·rw[Qr e2]at h2;rw[Qr (e1.trans e2)];exact KC h1 h2
   ·rw[Qs e2]at h2;rw[Qs (by omega),e1]
    exact h2
  ·rw[Qs e1,Qi]at h1
   by_cases e2:y.size=z.size
   ·rw[Qs (by omega),<-e2]
    exact Qg h1
   ·rw[Qs e2,Qi]at h2;rw[Qs (by omega)]
    exact Qg (by omega)
 ·unfold lJ at*
  by_cases e1:x.size=y.size
  ·rw[Qr e1]at h1;rw[Qr e1.symm]at h2;refine Classical.byContradiction fun hne=> ?_
   rcases KD hne with h|h
   ·rw[h]at h1;cases h1
   ·rw[h]at h2;cases h2
  ·rw[Qs e1,Qj]at h1;rw[Qs (fun e=>e1 e.symm),Qj]at h2
   omega
theorem xv:qN bd:=by
 refine⟨fun x=>by rw[bd,Qr rfl,um.irrefl],fun x y z h1 h2=> ?_,fun x y h1 h2=> ?_⟩
 ·unfold bd at*
  by_cases e1:x.ae=y.ae
  ·rw[Qr e1]at h1
   by_cases e2:y.ae=z.ae
   ·rw[Qr e2]at h2;rw[Qr (e1.trans e2)];exact um.trans _ _ _ h1 h2
   ·rw[Qs e2]at h2;rw[Qs (by omega),e1]
    exact h2
  ·rw[Qs e1,Qi]at h1
   by_cases e2:y.ae=z.ae
   ·rw[Qs (by omega),<-e2]
    exact Qg h1
   ·rw[Qs e2,Qi]at h2;rw[Qs (by omega)]
    exact Qg (by omega)
 ·unfold bd at*
  by_cases e1:x.ae=y.ae
  ·rw[Qr e1]at h1;rw[Qr e1.symm]at h2;have:=um.total _ _ h1 h2;cases x;cases y
   simp_all
  ·rw[Qs e1,Qj]at h1;rw[Qs (fun e=>e1 e.symm),Qj]at h2
   omega
end
section
structure Gg (n:Nat) (l:List ai):Prop where
 of:∀e∈l,∃i:Nat,i<n/\WD i 1 n e
 Xh:l.Pairwise fun a b=>a.aq<b.aq
 len:l.length<=n
theorem Gg.valid{n:Nat}{l:List ai}(h:Gg n l):∀e∈l,bm e=true:=fun e he=>by
 obtain⟨i,_,hi⟩:=h.of e he;rw[bm,G8 hi.bb];exact hi.valid
theorem Gg.sm{n:Nat}{l:List ai}(h:Gg n l)(hn:n<=1000):ob l:=⟨by have:=h.len;omega,fun e he=>by
 obtain⟨i,_,hi⟩:=h.of e he
 exact hi.bb.sm⟩
theorem zh.mono{l:List aO}{s s' r:Nat}(h:∀k,s.testBit k=true->s'.testBit k=true)(hi:zh l s r):zh l s' r:=fun k hk=>⟨h k (hi k hk).1,(hi k hk).2⟩
section
variable {az : Nat} {t : an} (ht : ea t) {l : List ai} (hl : ob l) {v : ByteArray} {lo hi k : Int} (h1 : lo <= k) (h2 : k <= hi)
 include ht hl h1 h2
end
end
section
section
variable {α : Type}
 def om(p:α->Option Bool)(a0:List α)(v1:Int×Unit):Option ((Int×Unit)⊕Int):=
 bif (decide (v1.1<((List.length a0:Nat):Int)))then
  Option.bind (idx a0 v1.1) fun x2=>Option.bind (p x2) fun r3=>bif r3 then Option.map Sum.inr (some v1.1)else some (Sum.inl ((aA .i64 v1.1 (1:Int)),()))
 else Option.map Sum.inr (some (-1:Int))
 def OH(p:α->Option Bool)(a0:List α):Option Int:=aD (om p a0) ((0:Int),())
 def yW(p:α->Option Bool)(z:α)(v2:Int×Int×(List α)×Unit):Option ((Int×Int×(List α)×Unit)⊕List α):=
 bif (decide (v2.2.1<((List.length v2.2.2.1:Nat):Int)))then
  bu (fun(v3:Int×(List α)×Unit)=>some (Sum.inl (v3.1,(aA .i64 v2.2.1 (1:Int)),v3.2.1,()))) fun j4=>
  Option.bind (idx v2.2.2.1 v2.2.1) fun x5=>Option.bind (v2.2.2.1[(Int.toNat v2.2.1)]?) fun x6=>Option.bind (p x6) fun r7=>
  bif (!r7)then
   Option.bind (idx v2.2.2.1 v2.1) fun x8=>Option.bind (v2.2.2.1[(Int.toNat v2.1)]?) fun x9=>j4 ((aA .i64 v2.1 (1:Int)),(v2.2.2.1.set (Int.toNat v2.1) x6),())
  else j4 (v2.1,v2.2.2.1,())
 else
  Option.map Sum.inr (bif dO v2.1 ((List.length v2.2.2.1):Int) (List.length v2.2.2.1)then
   bif dO (0:Int) v2.1 (List.length (v2.2.2.1.take (Int.toNat v2.1)++List.replicate (Int.toNat ((List.length v2.2.2.1):Int) - Int.toNat v2.1) z++v2.2.2.1.drop ((Int.toNat v2.1)+(Int.toNat ((List.length v2.2.2.1):Int) - Int.toNat v2.1))))then
    some ((v2.2.2.1.take (Int.toNat v2.1)++List.replicate (Int.toNat ((List.length v2.2.2.1):Int) - Int.toNat v2.1) z++v2.2.2.1.drop ((Int.toNat v2.1)+(Int.toNat ((List.length v2.2.2.1):Int) - Int.toNat v2.1))).take (Int.toNat v2.1 - Int.toNat (0:Int)))
   else none
  else none)
 def Ly(p:α->Option Bool)(z:α)(s:List α):Option (List α):=
 Option.bind (OH p s) fun r1=>bif (decide (r1=(-1:Int)))then some s else aD (yW p z) (r1,(aA .i64 r1 (1:Int)),s,())
theorem yn{q:α->Bool}{s:List α}{j:Nat}{x:α}(h:s[j]?=some x):(s.take (j+1)).filter q=(s.take j).filter q++if q x then[x]else[]:=by
 obtain⟨hl,hx⟩:=Qw.1 h;rw[Q6 hl,List.filter_append,hx];congr 1;cases hq:q x<;>simp[hq]
variable {p : α -> Option Bool} {q : α -> Bool} (hp : ∀ x, p x = some (q x)) {z : α}
 include hp
theorem Jv{s:List α}(hs:s.length<1000000000):∀(k i:Nat),i+k=s.length->(s.take i).filter (fun x=> !q x)=s.take i->
  (∃m:Nat,∃x,aD (om p s) ((i:Int),())=some (m:Int)/\(s.take m).filter (fun x=> !q x)=s.take m/\s[m]?=some x/\q x=true)\/(aD (om p s) ((i:Int),())=some (-1)/\s.filter (fun x=> !q x)=s)
 |0,i,hi,hf=>by
  have hd:decide ((i:Int)<((s.length:Nat):Int))=false:=Qh (by omega)
  refine .inr ⟨bs ?_,?_⟩
  ·simp only[om,hd,Ql,Qe]
  ·rwa [show i=s.length by omega,Q9]at hf
 |k+1,i,hi,hf=>by
  have hd:decide ((i:Int)<((s.length:Nat):Int))=true:=Qg (by omega)
  have hw:aA .i64 (i:Int) 1=((i+1:Nat):Int):=cO (by omega) (by omega)
  obtain⟨x,hx⟩:∃x,s[i]?=some x:=⟨_,Qv (by omega)⟩
  cases hq:q x with
  |true=>
   refine .inl ⟨i,x,bs ?_,hf,hx,hq⟩;simp only[om,hd,Qk,bQ,hx,Qa,hp,hq,Qe]
  |false=>
   have hstep:aD (om p s) ((i:Int),())=aD (om p s) (((i+1:Nat):Int),()):=bD (by simp only[om,hd,Qk,bQ,hx,Qa,hp,hq,Ql,hw])
   rw[hstep];refine Jv hs k (i+1) (by omega) ?_
   rw[yn hx,hf,hq];obtain⟨hl,hx'⟩:=Qw.1 hx;rw[Q6 hl,hx'];rfl
theorem El{s:List α}(hs:s.length<1000000000):∀(r i j:Nat) (d:List α),j+r=s.length->i<j->d.length=s.length->d.take i=(s.take j).filter (fun x=> !q x)->(∀m,j<=m->d[m]?=s[m]?)->
  aD (yW p z) ((i:Int),(j:Int),d,())=some (s.filter fun x=> !q x)
 |0,i,j,d,hr,hij,hd,ht,hm=>by
  have e2:decide ((j:Int)<((d.length:Nat):Int))=false:=Qh (by omega)
  refine bs ?_
  have e3:∀n,dO (i:Int) (d.length:Int) n=decide (d.length<=n):=by
   intro n;simp only[dO];have h1:decide ((0:Int)<=(i:Int))=true:=Qg (by omega)
   have h2:decide ((i:Int)<=(d.length:Int))=true:=Qg (by omega)
   rw[h1,h2,Bool.and_self,Bool.true_and,decide_eq_decide];omega
  have e4:(d.take i++List.replicate (d.length - i) z++d.drop (i+(d.length - i))).length=d.length:=by simp;omega
  have e5:dO (0:Int) (i:Int) d.length=true:=by
   simp only[dO,Qm,Qi];omega
  have e6:(d.take i++List.replicate (d.length - i) z++d.drop (i+(d.length - i))).take (i - 0)=s.filter fun x=> !q x:=by
   rw[Nat.sub_zero,QL,List.take_append_of_le_length (by simp;omega),List.take_take,Nat.min_self,ht,show j=s.length by omega,Q9]
  simp only[yW,e2,Ql,QV,e3,QI,decide_true,Qk,e4,e5,Int.toNat_zero,e6,Qe]
 |r+1,i,j,d,hr,hij,hd,ht,hm=>by
  have e2:decide ((j:Int)<((d.length:Nat):Int))=true:=Qg (by omega)
  have ej:aA .i64 (j:Int) 1=((j+1:Nat):Int):=cO (by omega) (by omega)
  have ei:aA .i64 (i:Int) 1=((i+1:Nat):Int):=cO (by omega) (by omega)
  obtain⟨x,hx⟩:∃x,s[j]?=some x:=⟨_,Qv (by omega)⟩
  obtain⟨y,hy⟩:∃y,d[i]?=some y:=⟨_,Qv (by omega)⟩
  have hdx:d[j]?=some x:=by rw[hm j (QI _),hx]
  have hstep:=yn (q:=fun x=> !q x) hx
  cases hq:q x with
  |true=>
   rw[hq]at hstep;refine(bD (s':=((i:Int),((j+1:Nat):Int),d,())) ?_).trans (El hs r i (j+1) d (by omega) (by omega) hd (by rw[hstep,ht];simp) fun m h=>hm m (by omega))
   simp only[yW,e2,Qk,bq,bQ,QV,hdx,Qa,hp,hq,Qo,Ql,ej]
  |false=>
   rw[hq]at hstep;refine(bD (s':=(((i+1:Nat):Int),((j+1:Nat):Int),d.set i x,())) ?_).trans (El hs r (i+1) (j+1) (d.set i x) (by omega) (by omega) (by rw[QY];exact hd) ?_ fun m h=> ?_)
   ·simp only[yW,e2,Qk,bq,bQ,QV,hdx,hy,Qa,hp,hq,Qp,ej,ei]
   ·rw[hstep,<-ht,Q6 (by rw[QY];omega),List.take_set_of_le (QI _)]
    simp
   ·rw[List.getElem?_set,Qs (by omega)]
    exact hm m (by omega)
theorem MN(s:List α)(hs:s.length<1000000000):Ly p z s=some (s.filter fun x=> !q x):=by
 rw[Ly,OH];rcases Jv hp hs s.length 0 (by omega) (by simp)with⟨m,x,h1,h2,h3,h4⟩|⟨h1,h2⟩
 ·have hm:m<s.length:=(Qw.1 h3).1;have h1':aD (om p s) ((0:Int),())=some (m:Int):=h1;have e:decide ((m:Int)= -1)=false:=Qh (by omega)
  rw[h1',Qa,e,Ql,show aA .i64 (m:Int) 1=((m+1:Nat):Int)from cO (by omega) (by omega)]
  refine El hp hs (s.length - (m+1)) m (m+1) s (by omega) (by omega) rfl ?_ fun _ _=>rfl
  rw[yn h3,h2,h4];simp
 ·have h1':aD (om p s) ((0:Int),())=some (-1):=h1;rw[h1',Qa,h2];rfl
end
theorem Ak{α β ρ:Type}(l:List α)(hl:l.length<=1000000)(f:α->List β)(hf:∀x∈l,(f x).length<=3){step:Int×List β×Unit->Option ((Int×List β×Unit)⊕ρ)}{fin:List β->Option ρ}
  (h1:∀(i:Nat) (x:α) (acc:List β),x∈l->decide ((i:Int)<((l.length:Nat):Int))=true->idx l (i:Int)=some x->aA .i64 (i:Int) 1=((i+1:Nat):Int)->(∀bytes n:Nat,bytes<=40->n<=3->acc.length<=3000000->bL bytes (acc.length+n)=true)->acc.length<=3000000->step ((i:Int),acc,())=some (.inl (((i+1:Nat):Int),acc++f x,())))
  (h2:∀acc,decide (((l.length:Nat):Int)<((l.length:Nat):Int))=false->step (((l.length:Nat):Int),acc,())=Option.map Sum.inr (fin acc)):aD step ((0:Int),([]:List β),())=fin (l.flatMap f):=by
 suffices key:∀(k i:Nat) (acc:List β),i+k=l.length->acc=(l.take i).flatMap f->acc.length<=3*i->aD step ((i:Int),acc,())=fin (l.flatMap f)from key l.length 0 [] (by omega) (by simp) (by simp)
 intro k
 induction k with
 |zero=>
  intro i acc hi ha hal;obtain rfl:i=l.length:=by omega
  rw[Q9]at ha;rw[o0,h2 acc (Qh (Qq63 _)),ha];cases fin (l.flatMap f)<;>rfl
 |succ k ih=>
  intro i acc hi ha hal;have hlt:i<l.length:=by omega
  have hx:l[i]?=some l[i]:=Qv hlt;have:=hf _ (Q0 hlt);refine(bD (h1 i l[i] acc (Q0 hlt) (Qg (by omega)) (by rw[bQ];exact hx) (cO (by omega) (by omega)) (fun bytes n hb hn ha=> ?_) (by omega))).trans (ih (i+1) _ (by omega) ?_ (by rw[QB];omega))
  ·simp only[bL,Qm,Qi];exact⟨QK (Nat.mul_le_mul (show acc.length+n<=3000003 by omega) hb) (show 3000003*40<=140737488355328 by decide),QK (show acc.length+n<=3000003 by omega) (by simp[maxLen])⟩
  ·rw[Q6 hlt,List.flatMap_append,ha];simp
instance:Inhabited af:=⟨⟨0,ByteArray.mk #[]⟩⟩
instance:DecidableEq af:=fun a b=>decidable_of_iff (a.ae=b.ae/\a.Value=b.Value) (by cases a;cases b;simp)
theorem SH(s:List af)(hs:s.length<1000000000):∃b,dC s=some b/\b.Pairwise (fun x y=>bd y x=true)/\b.length<=s.length/\∀x,x∈b↔x∈s:=by
 obtain⟨t,h1,h2,h3,h4⟩:=xv.flip.L9 (cmp:=kj) (c:=fun x y=>J7 y x) (fun x y=>by simp[kj]) (fun x y=>J6 y x) s hs
 have hc:=wb (eq:=fun x y:af=>lN false x.ae y.ae x.Value y.Value) (ne:=fun x y=>lN true x.ae y.ae x.Value y.Value) (z:=af.mk 0 (ByteArray.mk #[])) (fun x y=>by
  rw[HH,QW];cases x;cases y;simp) (fun x y=>by
  rw[Rf];congr 1;rw[QW];cases x;cases y
  simp) t (by omega)
 refine⟨dd t,?_,h3,by have:=JW t;omega,h4⟩
 have h1':eB s=some ((),t):=h1;have hc':fP t=some (dd t):=hc;simp only[dC,h1',hc',Qa]
theorem SE(s:List ByteArray)(hs:s.length<1000000000):∃b,eu s=some b/\b.Pairwise (fun x y=>lJ x y=true)/\b.length<=s.length/\∀x,x∈b↔x∈s:=by
 obtain⟨t,h1,h2,h3,h4⟩:=um.L9 (cmp:=ft) (c:=xb) (fun x y=>vo x y) Al s hs
 have hc:=wb (eq:=fun x y:ByteArray=>decide (x=y)) (ne:=fun x y=> !decide (x=y)) (z:=ByteArray.mk #[]) (fun _ _=>rfl) (fun _ _=>rfl) t (by omega)
 refine⟨dd t,?_,h3,by have:=JW t;omega,h4⟩
 have h1':gk s=some ((),t):=h1;have hc':eo t=some (dd t):=hc;simp only[eu,h1',hc',Qa]
theorem Rr(a b:Int):decide (vm a b<0)=decide (a<b):=by rw[decide_eq_decide];exact Ev a b
theorem SF(s:List Int)(hs:s.length<1000000000):∃b,fp s=some b/\b.Pairwise (·<·)/\b.length<=s.length/\∀x,x∈b↔x∈s:=by
 obtain⟨t,h1,h2,h3,h4⟩:=Cj.L9 (cmp:=dW) (c:=vm) (fun x y=>Ay x y) Rr s hs
 have hc:=wb (eq:=fun x y:Int=>decide (x=y)) (ne:=fun x y=> !decide (x=y)) (z:=0) (fun _ _=>rfl) (fun _ _=>rfl) t (by omega)
 refine⟨dd t,?_,h3.imp fun h=>of_decide_eq_true h,by have:=JW t;omega,h4⟩
 have h1':jb s=some ((),t):=h1;simp only[fp,h1',Qa,Rp,hc]
 def said(e:ai):List af:=if bm e then(if e.bW=1 then[e.aa,e.ak,e.au]else if e.bW=2 then[e.ak,at_ e 1000000]else[at_ e 1000000])else[]
theorem zz(e:ai):(said e).length<=3:=by
 unfold said;split
 ·split
  ·simp
  ·split<;>simp
 ·simp
theorem pf{α β:Type}(f:α->List β)(hf:∀x,(f x).length<=3):∀l:List α,(l.flatMap f).length<=3*l.length
 |[]=>by simp
 |x::l=>by
  have:=pf f hf l;have:=hf x;rw[List.flatMap_cons,QB,QE];omega
section
variable {l : List ai} (hl : ∀ e ∈ l, ea e.ao) (hlen : l.length <= 1000)
 include hl hlen
theorem NA:∃b,fQ l=some b/\b.Pairwise (fun x y=>bd y x=true)/\b.length<=3000/\∀x,x∈b↔∃e∈l,x∈said e/\aI x=false:=by
 have hd:=MN (p:=aW) (q:=aI) bX (z:=af.mk 0 (ByteArray.mk #[])) (l.flatMap said) (by have:=pf said zz l;omega)
 obtain⟨b,h1,h2,hbl,h3⟩:=SH ((l.flatMap said).filter fun x=> !aI x) (by have:=pf said zz l;have:=List.length_filter_le (fun x=> !aI x) (l.flatMap said);omega)
 refine⟨b,?_,h2,by have:=pf said zz l;have:=List.length_filter_le (fun x=> !aI x) (l.flatMap said);omega,fun x=> ?_⟩
 ·unfold fQ;refine(Ak l (by omega) said (fun e _=>zz e) (fin:=fun acc=>Option.bind (df acc) fun r8=>Option.bind (dC r8) fun r9=>some r9) (fun i e acc he hd hx hw hok hal=> ?_) (fun acc hd=> ?_)).trans ?_
  ·have o1:=hok 24 3 (by omega) (by omega) hal
   have o2:=hok 24 2 (by omega) (by omega) hal
   have o3:=hok 24 1 (by omega) (by omega) hal
   simp only[hd,hx,hw,Qk,bq,Qa,etas,ai.eta,rG (hl e he),vJ,QE,QZ,o1,o2,o3,Nat.zero_add,Nat.reduceAdd];unfold said at_
   cases bm e<;>by_cases k1:e.bW=1<;>by_cases k2:e.bW=2<;>simp[k1,k2]
  ·simp only[hd,Ql]
  ·have hd':df (l.flatMap said)=_:=hd;simp only[hd',h1,Qa]
 ·rw[h3,List.mem_filter,QQ];constructor
  ·rintro⟨⟨e,he,hx⟩,hz⟩;exact⟨e,he,hx,by simpa using hz⟩
  ·rintro⟨e,he,hx,hz⟩;exact⟨⟨e,he,hx⟩,by simpa using hz⟩
theorem Pl:∃b,iI l=some b/\b.Pairwise (fun x y=>lJ x y=true)/\b.length<=3000/\∀x,x∈b↔∃e∈l,bm e=true/\x=e.aa.Value:=by
 have hf:∀e:ai,(if bm e then[e.aa.Value]else[]).length<=3:=fun e=>by split<;>simp
 obtain⟨b,h1,h2,hbl,h3⟩:=SE (l.flatMap fun e=>if bm e then[e.aa.Value]else[]) (by have:=pf _ hf l;omega)
 refine⟨b,?_,h2,by have:=pf _ hf l;omega,fun x=> ?_⟩
 ·unfold iI;refine(Ak l (by omega) (fun e=>if bm e then[e.aa.Value]else[]) (fun e _=>hf e) (fin:=fun acc=>Option.bind (eu acc) fun r6=>some r6) (fun i e acc he hd hx hw hok hal=> ?_) (fun acc hd=> ?_)).trans ?_
  ·have o3:=hok 16 1 (by omega) (by omega) hal
   simp only[hd,hx,hw,Qk,bq,Qa,etas,ai.eta,rG (hl e he),QE,QZ,o3,Nat.zero_add];cases bm e<;>simp
  ·simp only[hd,Ql]
  ·simp only[h1,Qa]
 ·rw[h3,QQ];constructor
  ·rintro⟨e,he,hx⟩;split at hx
   ·rename_i hv;exact⟨e,he,hv,by simpa using hx⟩
   ·cases hx
  ·rintro⟨e,he,hv,hx⟩;exact⟨e,he,by rw[Qr hv];simpa using hx⟩
theorem Nz(v:ByteArray):∃b,ez l v=some b/\b.Pairwise (·<·)/\b.length<=3000/\∀x,x∈b↔x∈ends v l:=by
 have hf:∀e:ai,(if jN v e then[e.aQ,e.bg]else[]).length<=3:=fun e=>by split<;>simp
 obtain⟨b,h1,h2,hbl,h3⟩:=SF (ends v l) (by have:=pf _ hf l;unfold ends;omega)
 refine⟨b,?_,h2,by have:=pf _ hf l;unfold ends at hbl;omega,h3⟩
 unfold ez;refine(Ak l (by omega) (fun e=>if jN v e then[e.aQ,e.bg]else[]) (fun e _=>hf e) (fin:=fun acc=>Option.bind (fp acc) fun r6=>some r6) (fun i e acc he hd hx hw hok hal=> ?_) (fun acc hd=> ?_)).trans ?_
 ·have o3:=hok 8 2 (by omega) (by omega) hal
  simp only[hd,hx,hw,Qk,bq,Qa,etas,ai.eta,rG (hl e he),QE,QZ,o3,Nat.zero_add,Nat.reduceAdd];unfold jN;cases bm e<;>cases decide (e.aa.Value=v)<;>cases decide (e.aQ=0)<;>simp
 ·simp only[hd,Ql]
 ·exact(congrArg (fun o=>Option.bind o fun r6=>some r6) h1)
end
end
section
end
section
def xF:af:=⟨0,il⟩
theorem FM{α τ:Type}(l:List α)(hl:l.length<=1000000)(mk:Int->τ)(P:α->Bool)(z:α){step:τ->Option (τ⊕α)}
  (h1:∀(i:Nat) (x:α),decide ((i:Int)<((l.length:Nat):Int))=true->idx l (i:Int)=some x->aA .i64 (i:Int) 1=((i+1:Nat):Int)->step (mk (i:Int))=some (bif P x then .inr x else .inl (mk ((i+1:Nat):Int))))
  (h2:decide (((l.length:Nat):Int)<((l.length:Nat):Int))=false->step (mk ((l.length:Nat):Int))=some (.inr z)):aD step (mk 0)=some ((l.find? P).getD z):=by
 suffices key:∀(k i:Nat),i+k=l.length->aD step (mk (i:Int))=some (((l.drop i).find? P).getD z)from key l.length 0 (by omega)
 intro k
 induction k with
 |zero=>
  intro i hi;obtain rfl:i=l.length:=by omega
  rw[bs (h2 (Qh (Qq63 _))),Qq65];rfl
 |succ k ih=>
  intro i hi;have hlt:i<l.length:=by omega
  have hs:=h1 i l[i] (Qg (by omega)) (by rw[bQ];exact Qv hlt) (cO (by omega) (by omega))
  rw[QM hlt,List.find?_cons]
  cases hP:P l[i]with
  |true=>rw[hP]at hs;rw[bs hs];rfl
  |false=>rw[hP]at hs;rw[bD hs];exact ih (i+1) (by omega)
 def eW(l:List ai):List af:=(fQ l).getD []
section
variable {l : List ai} (hl : ∀ e ∈ l, ea e.ao) (hlen : l.length <= 1000)
 include hl hlen
theorem oq:fQ l=some (eW l)/\(eW l).Pairwise (fun x y=>bd y x=true)/\(eW l).length<=3000/\∀x,x∈eW l↔∃e∈l,x∈said e/\aI x=false:=by
 obtain⟨b,h1,h2,h3,h4⟩:=NA hl hlen;have:eW l=b:=by rw[eW,h1];rfl
 rw[this];exact⟨h1,h2,h3,h4⟩
end
def si(b:af):af:=if 1000<=b.ae then⟨1000000,b.Value⟩else b
theorem MW(b:af):gK b=some (si b):=by
 unfold gK si;simp only[bq,GW,Ea]
section
variable {az : Nat} (hn : az < 10) {t : an} (ht : ea t) {l : List ai} (hl : ob l)
 include hn ht hl
end
end
section
 def gy(l:List ai):List ByteArray:=(iI l).getD []
 def cm(l:List ai)(v:ByteArray):List Int:=(ez l v).getD []
section
variable {l : List ai} (hl : ∀ e ∈ l, ea e.ao) (hlen : l.length <= 1000)
 include hl hlen
theorem sy:iI l=some (gy l)/\(gy l).Pairwise (fun x y=>lJ x y=true)/\(gy l).length<=3000/\∀x,x∈gy l↔∃e∈l,bm e=true/\x=e.aa.Value:=by
 obtain⟨b,h1,h2,h3,h4⟩:=Pl hl hlen;have:gy l=b:=by rw[gy,h1];rfl
 rw[this];exact⟨h1,h2,h3,h4⟩
theorem mq(v:ByteArray):ez l v=some (cm l v)/\(cm l v).Pairwise (·<·)/\(cm l v).length<=3000/\∀x,x∈cm l v↔x∈ends v l:=by
 obtain⟨b,h1,h2,h3,h4⟩:=Nz hl hlen v;have:cm l v=b:=by rw[cm,h1];rfl
 rw[this];exact⟨h1,h2,h3,h4⟩
end
theorem HQ{l:List ai}(hl:ob l)(hlen:l.length<=1000)(v:ByteArray):∀x∈cm l v,1<=x/\x<=1000:=by
 obtain⟨_,_,_,h⟩:=mq hl.bb hlen v;intro x hx;obtain⟨e,he,hb,hy⟩:=tM.1 ((h x).1 hx);simp only[jN,Qm,Bool.not_eq_true',Qj]at hb;have hv:=hb.1.1;have h0:=hb.2;unfold bm ng at hv;rw[Qm]at hv;have hv:=hv.2
 by_cases k1:e.bW=1
 ·rw[Qr k1]at hv;simp only[gg,finite,Qm,Qi]at hv;omega
 ·rw[Qs k1]at hv
  by_cases k2:e.bW=2
  ·rw[Qr k2]at hv;simp only[xa,wJ,Qm,Qi]at hv;omega
  ·rw[Qs k2]at hv
   by_cases k3:e.bW=3
   ·rw[Qr k3]at hv;simp only[CD,wJ,Qm,Qi]at hv;omega
   ·rw[Qs k3]at hv;cases hv
theorem FL{α A B ρ:Type}(l:List α)(hl:l.length<=1000000)(f:A×B->α->A×B){step:A×Int×B×Unit->Option ((A×Int×B×Unit)⊕ρ)}{fin:A×B->Option ρ}
  (h1:∀(i:Nat) (x:α) (a:A) (b:B),x∈l->decide ((i:Int)<((l.length:Nat):Int))=true->idx l (i:Int)=some x->aA .i64 (i:Int) 1=((i+1:Nat):Int)->step (a,(i:Int),b,())=some (.inl ((f (a,b) x).1,((i+1:Nat):Int),(f (a,b) x).2,())))
  (h2:∀a b,decide (((l.length:Nat):Int)<((l.length:Nat):Int))=false->step (a,((l.length:Nat):Int),b,())=Option.map Sum.inr (fin (a,b))) (a:A) (b:B):aD step (a,(0:Int),b,())=fin (l.foldl f (a,b)):=by
 suffices key:∀(k i:Nat) (a:A) (b:B),i+k=l.length->aD step (a,(i:Int),b,())=fin ((l.drop i).foldl f (a,b))from key l.length 0 a b (by omega)
 intro k
 induction k with
 |zero=>
  intro i a b hi;obtain rfl:i=l.length:=by omega
  rw[o0,h2 a b (Qh (Qq63 _)),Qq65,List.foldl_nil];cases fin (a,b)<;>rfl
 |succ k ih=>
  intro i a b hi;have hlt:i<l.length:=by omega
  rw[bD (h1 i l[i] a b (Q0 hlt) (Qg (by omega)) (by rw[bQ];exact Qv hlt) (cO (by omega) (by omega))),ih (i+1) _ _ (by omega),QM hlt,QU]
def mU(p q:af)(v:ByteArray)(n:Int):Bool:=eJ p ⟨n,v⟩||eJ q ⟨n,v⟩
theorem Gb(v:ByteArray)(n:Int)(p q:af):lH v n p q=some (mU p q v n):=by
 simp only[lH,oC,Qa,py,Bool.cond_true_left,mU]
 def JK(b:List Int)(ready:Int->Int->Bool)(low bU:Int):Int×Int:=
 match b.reverse.find? (fun n=>decide (bU<n)&&ready n n)with
 |none=>(dX (fun x=>ready x bU) b.reverse low,bU)
 |some n=>
  let bottom:=dX (fun x=>ready x n) b.reverse n
  (dX (fun x=>ready x n) b.reverse (if bU<bottom - 1\/bottom<low then bottom else low),n)
 def wv(S:eN)(b:List Int)(v:ByteArray)(m8:Nat)(e9:Int)(v7:Int×Int×Unit):Option ((Int×Int×Unit)⊕(Int×Int×Unit)):=
 Option.bind (bif (decide (e9<=v7.2.1))then some true else Option.bind (fG S v e9 e9) fun r10=>some (!r10)) fun b11=>
 bif b11 then some (Sum.inl (v7.1,v7.2.1,()))else
 Option.bind (ij b e9 S v e9) fun r12=>
 bu (fun(v13:Int×Unit)=>Option.map Sum.inr (Option.bind (fH b v13.1 S v e9) fun r5=>some (r5,e9,()))) fun j14=>
 Option.bind (bif (decide (v7.2.1<(gf .i64 r12 (1:Int))))then some true else some (decide (r12<v7.1))) fun b15=>
 bif b15 then j14 (r12,())else j14 (v7.1,())
 def OO(S:eN)(b:List Int)(v:ByteArray)(v16:Int×Int×Unit):Option (Int×Int×Unit):=Option.bind (fH b v16.1 S v v16.2.1) fun r5=>some (r5,v16.2.1,())
section
variable {az : Nat} (hn : az < 10) {t : an} (ht : ea t) {l : List ai} (hl : ob l)
 include hn ht hl
end
end
section
section
variable {α : Type} [DecidableEq α] {lt : α -> α -> Bool}
def pc(lt:α->α->Bool)(x:α):List α->List α
 |[]=>[x]
 |y::l=>if lt y x then y::pc lt x l else if y=x then y::l else x::y::l
theorem DX(x:α):∀(l:List α) (z:α),z∈pc lt x l↔z=x\/z∈l
 |[],z=>by simp[pc]
 |y::l,z=>by
  rw[pc];split
  ·rw[QA,DX x l z,QA];constructor
   ·rintro(h|h|h)
    ·exact .inr (.inl h)
    ·exact .inl h
    ·exact .inr (.inr h)
   ·rintro(h|h|h)
    ·exact .inr (.inl h)
    ·exact .inl h
    ·exact .inr (.inr h)
  ·split
   ·rename_i h;rw[QA];constructor
    ·exact .inr
    ·rintro(h1|h1)
     ·exact .inl (h1.trans h.symm)
     ·exact h1
   ·rw[QA]
theorem qN.pc(h:qN lt)(x:α):∀{l:List α},l.Pairwise (fun a b=>lt a b=true)->(Go.Proofs.YtjbfdglebjnelaaGreat.pc lt x l).Pairwise (fun a b=>lt a b=true)
 |[],_=>by rw[Go.Proofs.YtjbfdglebjnelaaGreat.pc];exact List.pairwise_singleton _ _
 |y::l,hp=>by
  rw[Q4]at hp;rw[Go.Proofs.YtjbfdglebjnelaaGreat.pc];split
  ·rename_i hy;rw[Q4];refine⟨fun z hz=> ?_,h.pc x hp.2⟩
   rcases(DX x l z).1 hz with rfl|hz
   ·exact hy
   ·exact hp.1 z hz
  ·rename_i hy;split
   ·exact Q4.2 hp
   ·rename_i hne
    have hxy:lt x y=true:=by
     cases hc:lt x y with
     |true=>rfl
     |false=>exact absurd (h.total y x (by simpa using hy) hc) hne
    rw[Q4,Q4];refine⟨fun z hz=> ?_,hp⟩
    rcases QA.1 hz with rfl|hz
    ·exact hxy
    ·exact h.trans _ _ _ hxy (hp.1 z hz)
theorem Fz(h:qN lt):∀(xs l:List α),l.Pairwise (fun a b=>lt a b=true)->(xs.foldl (fun l x=>pc lt x l) l).Pairwise (fun a b=>lt a b=true)/\∀z,z∈xs.foldl (fun l x=>pc lt x l) l↔z∈xs\/z∈l
 |[],l,hp=>⟨hp,by simp⟩
 |x::xs,l,hp=>by
  obtain⟨h1,h2⟩:=Fz h xs _ (h.pc x hp);rw[QU];refine⟨h1,fun z=> ?_⟩
  rw[h2,DX,QA];constructor
  ·rintro(a|a|a)
   ·exact .inl (.inr a)
   ·exact .inl (.inl a)
   ·exact .inr a
  ·rintro((a|a)|a)
   ·exact .inr (.inl a)
   ·exact .inl a
   ·exact .inr (.inr a)
end
section
variable {l : List ai} (hl : ∀ e ∈ l, ea e.ao) (hlen : l.length <= 1000)
 include hl hlen
end
section
variable {l : List ai} (hl : ∀ e ∈ l, ea e.ao) (hlen : l.length <= 1000)
 include hl hlen
end
end
section
section
variable {l : List ai} (hl : ∀ e ∈ l, ea e.ao) (hlen : l.length <= 1000)
 include hl hlen
end
end
section
theorem EN{c:aZ}{az:Int}{l:List ai}(hlen:l.length<=100000)(b:af):fB ⟨az,c,(bM l).map bc.mk⟩ b=eL c az ((dQ (fun e=>uC e b||dY e b) (bM l):Nat):Int) ((dQ (dY · b) (bM l):Nat):Int):=by
 have hrl:=vN l;have hin:=oP l;simp only[fB,kJ,iz,Qa,Option.bind_fun_some,Nq (by omega:(bM l).length<=1000000) hin,DB (by omega:(bM l).length<=1000000) hin]
theorem DK{c:aZ}{az:Int}{l:List ai}(hlen:l.length<=100000)(b:af):dL ⟨az,c,(bM l).map bc.mk⟩ b=et c az ((dQ (dY · b) (bM l):Nat):Int):=by
 have hrl:=vN l;have hin:=oP l;simp only[dL,Qa,Option.bind_fun_some,DB (by omega:(bM l).length<=1000000) hin]
def vR(x:af->Bool)(p q:af)(v:ByteArray)(b:af):Bool:=(decide (v=il)||decide (b.Value=v))&& !dF (si p) (si q) b&&x b
def vX(y:af->Bool)(a b:af):Bool:=bd a b&&decide (b.ae<=1000)&&y b
section
variable {az : Int} {t : an} {l : List ai} (hl : ob l) (hlen : l.length <= 1000) {c : aZ} {x y : af -> Bool}
 include hl hlen
theorem Tt(hL:dM az t l=some ⟨az,c,(bM l).map bc.mk⟩)(hx:∀b,fB ⟨az,c,(bM l).map bc.mk⟩ b=some (x b))(p q:af)(v:ByteArray):ll az t l p q v=some (((eW l).find? (vR x p q v)).getD xF):=by
 obtain⟨h1,_,h3,_⟩:=oq hl.bb hlen;unfold ll;simp only[etas,hL,h1,Qa];refine FM (eW l) (by omega) (fun i=>(i,af.mk (0:Int) (ByteArray.mk #[]),())) (vR x p q v) xF (fun i b hd hx' hw=> ?_) (fun hd=> ?_)
 ·simp only[hd,hx',hw,Qk,bq,Qa,MW,nI,hx];unfold vR il;cases decide (v=ByteArray.mk #[])<;>cases decide (b.Value=v)<;>cases dF (si p) (si q) b<;>cases x b<;>simp
 ·simp only[hd,Ql,Qe];rfl
theorem TF(hL:dM az t l=some ⟨az,c,(bM l).map bc.mk⟩)(hy:∀b,dL ⟨az,c,(bM l).map bc.mk⟩ b=some (y b))(a:af):jj az t l a=some (((eW l).find? (vX y a)).getD xF):=by
 obtain⟨h1,_,h3,_⟩:=oq hl.bb hlen;unfold jj;simp only[etas,hL,h1,Qa];refine FM (eW l) (by omega) (fun i=>(i,af.mk (0:Int) (ByteArray.mk #[]),())) (vX y a) xF (fun i b hd hx' hw=> ?_) (fun hd=> ?_)
 ·simp only[hd,hx',hw,Qk,bq,Qa,gN,kJ,hy];unfold vX;cases bd a b<;>cases decide (b.ae<=1000)<;>cases y b<;>simp
 ·simp only[hd,Ql,Qe];rfl
end
end
section
theorem Ek(q:Int->Bool):∀(r:List Int) (lo:Int),(∀x∈r,0<=x/\x<=1000000)->0<=lo/\lo<=1000000->0<=dX q r lo/\dX q r lo<=1000000
 |[],lo,_,h=>h
 |x::r,lo,hx,h=>by
  rw[dX];split
  ·exact Ek q r lo (fun y hy=>hx y (by simp[hy])) h
  ·split
   ·exact Ek q r x (fun y hy=>hx y (by simp[hy])) (hx x (by simp))
   ·exact h
 def pz(x:ByteArray->Int->Int->Bool)(p q:af)(v:ByteArray)(s:Bool×af)(n:Int):Bool×af:=
 if bd s.2 ⟨n,v⟩&& !mU p q v n&&x v n n then(true,⟨n,v⟩)else s
 def fT(x:ByteArray->Int->Int->Bool)(l:List ai)(p q:af):Bool×af:=
 (gy l).foldl (fun s v=>(cm l v).foldl (pz x p q v) s) (false,⟨0,il⟩)
 def ph(x:ByteArray->Int->Int->Bool)(l:List ai)(p q:af)(s:Bool×af):ByteArray×Int×Int×Bool×Unit:=
 if s.1 then(s.2.Value,dX (fun n=> !mU p q s.2.Value n&&x s.2.Value n s.2.ae) (cm l s.2.Value).reverse s.2.ae,s.2.ae,true,())else(il,0,0,false,())
section
variable {S : eN} {x y : ByteArray -> Int -> Int -> Bool} (hx : ∀ v lo hi, fG S v lo hi = some (x v lo hi)) (hy : ∀ v lo hi, ky S v lo hi = some (y v lo hi))
section
 include hx
theorem Ri(b:List Int)(lo:Int)(p q z:af):gS b lo p q z S=some (dX (fun n=> !mU p q z.Value n&&x z.Value n z.ae) b.reverse lo):=by
 have:=wx (p:=fun e=>kl e p q z S) (q:=fun n=> !mU p q z.Value n&&x z.Value n z.ae) (fun e=>by
  simp only[kl,Gb,hx,Qa,py]
  cases mU p q z.Value e<;>simp) b.reverse lo
 simp only[gS,bE,bq,Qa];exact this
theorem Rh(b:List Int)(lo:Int)(v:ByteArray)(hi:Int):ij b lo S v hi=some (dX (fun z=>x v z hi) b.reverse lo):=by
 have:=wx (p:=fun e=>nf e S v hi) (q:=fun z=>x v z hi) (fun e=>by simp only[nf,hx,Qa]) b.reverse lo
 simp only[ij,bE,bq,Qa];exact this
theorem JP(b:List Int)(lo:Int)(v:ByteArray)(hi:Int):fH b lo S v hi=some (dX (fun z=>x v z hi) b.reverse lo):=by
 have:=wx (p:=fun e=>nc e S v hi) (q:=fun z=>x v z hi) (fun e=>by simp only[nc,hx,Qa]) b.reverse lo
 simp only[fH,bE,bq,Qa];exact this
theorem HG(b:List Int)(v:ByteArray)(low bU:Int)(hb:∀x∈b,0<=x/\x<=1000000):∀r:List Int,(∀x∈r,x∈b)->kb (wv S b v) (OO S b v) r (low,bU,())=
  some (match r.find? (fun n=>decide (bU<n)&&x v n n)with
   |none=>(dX (fun z=>x v z bU) b.reverse low,bU,())
   |some n=>(dX (fun z=>x v z n) b.reverse (if bU<dX (fun z=>x v z n) b.reverse n - 1\/dX (fun z=>x v z n) b.reverse n<low then dX (fun z=>x v z n) b.reverse n else low),n,()))
 |[],_=>by simp only[kb,OO,JP hx,Qa,List.find?_nil]
 |e::r,hr=>by
  have ih:=HG b v low bU hb r (fun x hx=>hr x (by simp[hx]))
  rw[List.find?_cons,kb]
  by_cases hle:e<=bU
  ·have h2:decide (bU<e)=false:=Qh (by omega)
   have h1:decide (e<=bU)=true:=Qg hle;have hst:wv S b v r.length e (low,bU,())=some (.inl (low,bU,())):=by simp only[wv,h1,Qk,Qa]
   rw[hst,h2,Bool.false_and];exact ih
  ·have h2:decide (bU<e)=true:=Qg (by omega)
   have h1:decide (e<=bU)=false:=Qh hle;rw[h2,Bool.true_and]
   cases hr':x v e e with
   |false=>
    have hst:wv S b v r.length e (low,bU,())=some (.inl (low,bU,())):=by simp only[wv,h1,Ql,hx,hr',Qp,Qa,Qk]
    rw[hst];exact ih
   |true=>
    have hb9:=Ek (fun z=>x v z e) b.reverse e (fun z hz=>hb z (by simpa using hz)) (hb e (hr e (by simp)))
    simp only[wv,h1,Ql,hx,hr',Qo,Rh hx,JP hx,Qa,bq,py,Bool.cond_true_left,Qe];generalize dX (fun z=>x v z e) b.reverse e=bt at*
    have e3:gf .i64 bt 1=bt - 1:=zu (by omega) (by omega)
    rw[e3]
    by_cases hc:bU<bt - 1\/bt<low
    ·have:(decide (bU<bt - 1)||decide (bt<low))=true:=by rw[Qn];simpa using hc
     rw[this,Qr hc];rfl
    ·have:(decide (bU<bt - 1)||decide (bt<low))=false:=by
      rw[<-QX,Qn];simpa using hc
     rw[this,Qs hc];rfl
end
section
 include hy
theorem T1(b:List Int)(lo:Int)(v:ByteArray)(hi:Int):ig b lo S v hi=some (dX (fun z=>y v z hi) b.reverse lo):=by
 have:=wx (p:=fun e=>nY e S v hi) (q:=fun z=>y v z hi) (fun e=>by simp only[nY,hy,Qa]) b.reverse lo
 simp only[ig,bE,bq,Qa];exact this
end
variable {az : Int} {t : an} {l : List ai} (hl : ob l) (hlen : l.length <= 1000) (hL : dM az t l = some S)
 include hl hlen hL
section
 include hx
theorem VC(p q:af):nG az t l p q=some (ph x l p q (fT x l p q)):=by
 obtain⟨h1,_,h3,_⟩:=sy hl.bb hlen;unfold nG;simp only[etas,hL,h1,Qa];refine(FL (gy l) (by omega) (fun s v=>(cm l v).foldl (pz x p q v) s) (fin:=fun s=>some (ph x l p q s)) (fun i v a b hv hd hx' hw=> ?_) (fun a b hd=> ?_) false ⟨0,ByteArray.mk #[]⟩)
 ·obtain⟨g1,_,g3,_⟩:=mq hl.bb hlen v;simp only[hd,hx',hw,Qk,Qa,g1];refine(FL (cm l v) (by omega) (pz x p q v) (fin:=fun s=>some (Sum.inl (s.1,((i+1:Nat):Int),s.2,()))) (fun i' n a' b' hv' hd' hx'' hw'=> ?_) (fun a' b' hd'=> ?_) a b)
  ·simp only[hd',hx'',hw',Qk,bq,Qa,gN,Gb,hx,py];unfold pz;cases bd b' ⟨n,v⟩<;>cases mU p q v n<;>cases x v n n<;>simp
  ·simp only[hd',Ql]
 ·simp only[hd,Ql];obtain⟨g1,_,g3,_⟩:=mq hl.bb hlen b.Value;unfold ph;cases a
  ·rfl
  ·simp only[Qo,Ql,g1,Qa,Ri hx,Qt]
theorem Uy(v:ByteArray)(low bU:Int):mI az t l v low bU=some ((JK (cm l v) (x v) low bU).1,(JK (cm l v) (x v) low bU).2,()):=by
 obtain⟨h1,_,_,_⟩:=mq hl.bb hlen v;have hin:=HQ hl hlen v;unfold mI;simp only[etas,hL,h1,Qa,bE];refine(HG hx (cm l v) v low bU (fun x hx=>by have:=hin x hx;omega) (cm l v).reverse (by simp)).trans ?_
 unfold JK;cases (cm l v).reverse.find? (fun n=>decide (bU<n)&&x v n n)<;>rfl
end
section
 include hy
theorem VD(v:ByteArray):nH az t l v=some (w6 (cm l v) (y v)):=by
 obtain⟨h1,_,_,_⟩:=mq hl.bb hlen v
 have:=LA (p:=fun e=>ky S v e e) (q:=fun e=>y v e e) (d:=fun e=>ig (cm l v) e S v e) (f:=fun e=>dX (fun z=>y v z e) (cm l v).reverse e)
  (fun e=>hy v e e) (fun e=>T1 hy (cm l v) e v e) (cm l v).reverse
 simp only[nH,etas,hL,h1,bE,Qa,w6];exact this
end
end
section
variable {az : Int} {t : an} {l : List ai} (hl : ob l) (hlen : l.length <= 1000) {x y : ByteArray -> Int -> Int -> Bool} (hx : ∀ v lo hi, Gc az t l v lo hi = some (x v lo hi)) (hy : ∀ v lo hi, EC az t l v lo hi = some (y v lo hi))
 include hl hlen
section
 include hx
end
section
 include hy
end
end
end
section
section
variable {az : Nat} (hn : az < 10) {t : an} (ht : ea t) {l : List ai} (hl : ob l) (hlen : l.length <= 1000)
 include hn ht hl hlen
theorem US(b:af):fB ⟨az,⟨fu az t l⟩,(bM l).map bc.mk⟩ b=some (jE az t l b):=by
 have hin:=oP l;have hsm:=q7 (az:=az) ht hl;rw[EN hl.len,vk hsm hn (rQ hin) (rQ hin)];rfl
theorem Tk(b:af):dL ⟨az,⟨fu az t l⟩,(bM l).map bc.mk⟩ b=some (iW az t l b):=by
 have hin:=oP l;have hsm:=q7 (az:=az) ht hl;rw[DK hl.len,tW hsm hn (rQ hin)];rfl
 def iK(az:Nat)(t:an)(l:List ai)(p q:af)(v:ByteArray):af:=((eW l).find? (vR (jE az t l) p q v)).getD xF
 def vY(az:Nat)(t:an)(l:List ai)(a:af):af:=((eW l).find? (vX (iW az t l) a)).getD xF
theorem Te(p q:af)(v:ByteArray):ll az t l p q v=some (iK az t l p q v):=Tt hl hlen (G1 hn ht hl) (US hn ht hl hlen) p q v
theorem Th(a:af):jj az t l a=some (vY az t l a):=TF hl hlen (G1 hn ht hl) (Tk hn ht hl hlen) a
end
end
section
theorem Tw{bytes n:Nat}(h:bytes<=200)(hn:n<=1000000):bL bytes n=true:=
 cd ⟨QK (Nat.mul_le_mul hn h) (by decide),hn⟩
def LP(l:List ai)(e:ai):Nat:=(l.findIdx? fun x=>decide (e.aq<x.aq)).getD l.length
 def Bm(l:List ai)(e:ai):List ai×Bool×Unit:=
 if bm e then
  match l.findIdx? fun x=>decide (x.aq=e.aq)with
  |some i=>if e.aN<=((l[i]?).getD e).aN then(l,false,())else(l.set i e,true,())
  |none=>(l.take (LP l e)++[e]++l.drop (LP l e),true,())
 else(l,false,())
section
variable {l : List ai} (hl : ∀ x ∈ l, ea x.ao) (hlen : l.length <= 1000)
 include hlen
 include hl
theorem VG:eA l=some l:=by
 unfold eA
 suffices key:∀(k i:Nat),i+k=l.length->aD _ ((i:Int),l.take i,())=some l from key l.length 0 (by omega)
 intro k
 induction k with
 |zero=>
  intro i hi;obtain rfl:i=l.length:=by omega
  have hd:decide (((l.length:Nat):Int)<((l.length:Nat):Int))=false:=Qh (Qq63 _);exact bs (by simp only[hd,Ql,Qe,Q9])
 |succ k ih=>
  intro i hi;have hlt:i<l.length:=by omega
  have hd:decide ((i:Int)<((l.length:Nat):Int))=true:=Qg (by omega)
  have hw:aA .i64 (i:Int) 1=((i+1:Nat):Int):=cO (by omega) (by omega)
  have hx:idx l (i:Int)=some l[i]:=by rw[bQ];exact Qv hlt
  have hc:na l[i]=some l[i]:=by simp only[na,etas,po (hl _ (Q0 hlt)),Qa]
  refine(bD ?_).trans (ih (i+1) (by omega))
  simp only[hd,hx,hw,Qk,Qa,etas,ai.eta,hc];rw[Tw (by omega) (by simp;omega),Q6 hlt]
  rfl
end
end
section
section
variable {l : List ai} (hlen : l.length <= 1000)
 include hlen
end
end
section
structure Cd (m:ab):Prop where
 n0:0<=m.aq
 n1:m.aq<10
 bb:ea m.ao
 len:m.aB.length<=100
 sm:∀e∈m.aB,ea e.ao
 valid:∀e∈m.aB,bm e=true
theorem ug{m:ab}{e:ai}(h:e∈aS m):e∈m.aB\/(aI m.aa=false/\e=gX m):=by
 unfold aS at h;split at h
 ·exact .inl h
 ·rename_i hz;rw[(xL _ _).mem_iff,Qz,Q5]at h;rcases h with h|h
  ·exact .inl h
  ·exact .inr ⟨by simpa using hz,h⟩
theorem RE(m:ab):(aS m).length<=m.aB.length+1:=by
 unfold aS;split
 ·omega
 ·rw[(xL _ _).length_eq,QB,List.length_singleton];omega
theorem zJ(m:ab):(gX m).ao=m.ao:=vZ m
theorem Cd.n3{m:ab}(h:Cd m):ob (aS m)/\(aS m).length<=1000:=by
 have h1:=RE m;have h2:=h.len;refine⟨⟨by omega,fun e he=> ?_⟩,by omega⟩
 rcases ug he with he|⟨_,rfl⟩
 ·exact h.sm e he
 ·rw[zJ];exact h.bb
theorem Cd.az{m:ab}(h:Cd m):((m.aq.toNat:Nat):Int)=m.aq/\m.aq.toNat<10:=by
 have:=h.n0;have:=h.n1;omega
def dh(b:af):af:=if 1000<b.ae then⟨1000,b.Value⟩else b
def cJ(p q b:af):af×af:=
 if aI b=true then(p,q)else if aI p=true then(b,q)else if bd p b=true then(if bI p b=true then(b,if bI q b=true then bK else q)else(b,p))
 else if(bd b p&& !bI b p&&(aI q||bd q b))=true then(p,b)else(p,q)
theorem Dx(a b:af):bI a b=bI b a:=decide_eq_decide.2 ⟨Eq.symm,Eq.symm⟩
theorem SZ(p q b:af):p6 p q b=some ((cJ p q b).1,(cJ p q b).2,()):=by
 unfold p6 cJ;simp only[bX,gN,dZ,Qa,bq,Dx b p,Dx b q];cases aI b<;>cases aI p<;>cases bd p b<;>cases bI p b<;>cases bI q b<;>cases bd b p<;>cases aI q<;>cases bd q b<;>rfl
def Dg(m:ab):ByteArray:=if m.aJ=2 then m.aa.Value else il
 def dU(m:ab):af:=iK m.aq.toNat m.ao (aS m) m.ak m.au (Dg m)
def qm(m:ab)(p q:af):Int:=
 if m.aJ=1/\m.aQ≠0 then(if eH m<kS m.aa.Value m.aQ p q then 0 else kS m.aa.Value m.aQ p q)else m.aQ
 def cy(m:ab):ab:=
 if m.aJ=3\/aI m.aa=true then m else
  {m with ak:=(cJ m.ak m.au (dh (dU m))).1,au:=(cJ m.ak m.au (dh (dU m))).2,aQ:=qm m (cJ m.ak m.au (dh (dU m))).1 (cJ m.ak m.au (dh (dU m))).2}
 def iQ(m:ab):af:=vY m.aq.toNat m.ao (aS m) m.ar
def vB(m:ab)(b:af):ab:=
 if bd m.aa b=true then{m with ar:=b,aa:=b,aQ:=if bI m.aa b=true then m.aQ else 0}else{m with ar:=b}
def mW(m:ab)(b:af):ab:=
 if m.aQ=0/\bI m.aa b=true/\kS b.Value m.aa.ae m.ak m.au<=b.ae then{m with aQ:=kS b.Value m.aa.ae m.ak m.au}else m
 def ga(m:ab):ab:=
 if m.aJ≠1\/aI m.aa=true\/aI (iQ m)=true then m else mW (vB m (iQ m)) (iQ m)
section
variable {az : Nat} (hn : az < 10) {t : an} (ht : ea t) {l : List ai} (hl : ob l) (hlen : l.length <= 1000)
 include hn ht hl hlen
end
 def eR(m:ab):ByteArray->Int->Int->Bool:=pr m.aq.toNat m.ao (aS m)
 def zt(m:ab):ByteArray->Int->Int->Bool:=rE m.aq.toNat m.ao (aS m)
 def fA(m:ab):ByteArray×Int×Int×Bool×Unit:=ph (eR m) (aS m) m.ak m.au (fT (eR m) (aS m) m.ak m.au)
 def dy(m:ab):Int×Int:=JK (cm (aS m) m.aa.Value) (eR m m.aa.Value) m.aQ m.bg
 def kU(m:ab):Int×Int×Bool×Unit:=w6 (cm (aS m) m.aa.Value) (zt m m.aa.Value)
def Eu(m:ab)(v:ByteArray)(lo hi:Int):ab:=
 {m with aa:=if(!bI m.aa ⟨hi,v⟩||bd m.aa ⟨hi,v⟩)=true then⟨bn m.aa.ae hi,v⟩else m.aa,ak:=if js m.ak ⟨hi,v⟩=true then m.ak else⟨hi,v⟩,aJ:=2,aQ:=lo,bg:=hi,ar:=⟨hi,v⟩,au:=bK}
def tz(m:ab)(lo hi:Int):ab:=
 {m with aa:=⟨bn m.aa.ae hi,m.aa.Value⟩,ak:=⟨bn m.ak.ae hi,m.ak.Value⟩,ar:=⟨bn m.ar.ae hi,m.aa.Value⟩,aQ:=lo,bg:=hi}
 def fE(m:ab):ab:=
 if m.aJ=1 then(if(fA m).2.2.2.1=true then Eu m (fA m).1 (fA m).2.1 (fA m).2.2.1 else m)
 else if m.aJ=2 then tz m (dy m).1 (dy m).2 else m
def CF(m:ab)(lo hi:Int):ab:={m with aJ:=3,aQ:=lo,bg:=hi,aa:=⟨hi,m.aa.Value⟩,ak:=bK,au:=bK,ar:=bK}
 def iX(m:ab):ab:=if m.aJ=2/\(kU m).2.2.1=true then CF m (kU m).1 (kU m).2.1 else m
end
section
theorem O0{α β ρ:Type}(l:List α)(hl:l.length<=1000)(f:α->β){step:Int×List β×Unit->Option ((Int×List β×Unit)⊕ρ)}{fin:List β->Option ρ}
  (h1:∀(i:Nat) (e:α) (s:List β),s.length<=1000->e∈l->decide ((i:Int)<((l.length:Nat):Int))=true->idx l (i:Int)=some e->aA .i64 (i:Int) 1=((i+1:Nat):Int)->step ((i:Int),s,())=some (.inl (((i+1:Nat):Int),s++[f e],())))
  (h2:∀s,decide (((l.length:Nat):Int)<((l.length:Nat):Int))=false->step (((l.length:Nat):Int),s,())=Option.map Sum.inr (fin s)):aD step ((0:Int),[],())=fin (l.map f):=by
 suffices key:∀(k i:Nat) (s:List β),i+k=l.length->s.length=i->aD step ((i:Int),s,())=fin (s++(l.drop i).map f)by
  have:=key l.length 0 [] (by omega) rfl
  simpa using this
 intro k
 induction k with
 |zero=>
  intro i s hi hs;obtain rfl:i=l.length:=by omega
  have hd:decide (((l.length:Nat):Int)<((l.length:Nat):Int))=false:=Qh (Qq63 _);have h:=h2 s hd;rw[Qq65,QO,List.append_nil]
  cases hf:fin s with
  |none=>rw[hf]at h;exact Fl h
  |some r=>rw[hf]at h;exact bs h
 |succ k ih=>
  intro i s hi hs;have hlt:i<l.length:=by omega
  rw[bD (h1 i l[i] s (by omega) (Q0 hlt) (Qg (by omega)) (by rw[bQ];exact Qv hlt) (cO (by omega) (by omega))),ih (i+1) (s++[f l[i]]) (by omega) (by simp;omega),
   QM hlt,QD,QL]
  rfl
theorem ON{α β ρ:Type}(l:List α)(hl:l.length<=1000)(f:α->β){step:Int×List β×Unit->Option ((Int×List β×Unit)⊕ρ)}{fin:List β->Option ρ}
  (h1:∀(i:Nat) (e:α) (s:List β),s.length=l.length->e∈l->i<l.length->decide ((i:Int)<((l.length:Nat):Int))=true->idx l (i:Int)=some e->aA .i64 (i:Int) 1=((i+1:Nat):Int)->step ((i:Int),s,())=some (.inl (((i+1:Nat):Int),s.set i (f e),())))
  (h2:∀s,decide (((l.length:Nat):Int)<((l.length:Nat):Int))=false->step (((l.length:Nat):Int),s,())=Option.map Sum.inr (fin s)) {s0:List β} (hs0:s0.length=l.length):aD step ((0:Int),s0,())=fin (l.map f):=by
 suffices key:∀(k i:Nat) (s:List β),i+k=l.length->s.length=l.length->aD step ((i:Int),s,())=fin (s.take i++(l.drop i).map f)by
  have:=key l.length 0 s0 (by omega) hs0
  simpa using this
 intro k
 induction k with
 |zero=>
  intro i s hi hs;obtain rfl:i=l.length:=by omega
  have hd:decide (((l.length:Nat):Int)<((l.length:Nat):Int))=false:=Qh (Qq63 _);have h:=h2 s hd;rw[Qq65,QO,List.append_nil,<-hs,Q9];rw[<-hs]at h
  cases hf:fin s with
  |none=>rw[hf]at h;exact Fl h
  |some r=>rw[hf]at h;exact bs h
 |succ k ih=>
  intro i s hi hs;have hlt:i<l.length:=by omega
  rw[bD (h1 i l[i] s hs (Q0 hlt) hlt (Qg (by omega)) (by rw[bQ];exact Qv hlt) (cO (by omega) (by omega))),ih (i+1) (s.set i (f l[i])) (by omega) (by simpa using hs),
   QM hlt,QD]
  congr 1;rw[List.take_add_one,List.take_set_of_le (QI i),List.getElem?_set_self (by omega)]
  simp
def FI(z:af):List af->af
 |[]=>z
 |x::l=>l.foldl (fun a y=>if bd a y=true then y else a) x
theorem MK(l:List af)(hl:l.length<=1000000)(z:af){step:Int×af×Unit->Option ((Int×af×Unit)⊕af)}
  (h1:∀(i:Nat) (x s:af),decide ((i:Int)<((l.length:Nat):Int))=true->idx l (i:Int)=some x->aA .i64 (i:Int) 1=((i+1:Nat):Int)->step ((i:Int),s,())=some (.inl (((i+1:Nat):Int),(if i=0 then x else if bd s x=true then x else s),())))
  (h2:∀s,decide (((l.length:Nat):Int)<((l.length:Nat):Int))=false->step (((l.length:Nat):Int),s,())=some (.inr s)):aD step ((0:Int),z,())=some (FI z l):=by
 have hd:decide (((l.length:Nat):Int)<((l.length:Nat):Int))=false:=Qh (Qq63 _)
 have key:∀(k i:Nat) (s:af),i+k=l.length->1<=i->aD step ((i:Int),s,())=some ((l.drop i).foldl (fun a y=>if bd a y=true then y else a) s):=by
  intro k
  induction k with
  |zero=>
   intro i s hi h1i;obtain rfl:i=l.length:=by omega
   rw[Qq65];exact bs (h2 s hd)
  |succ k ih=>
   intro i s hi h1i;have hlt:i<l.length:=by omega
   rw[bD (h1 i l[i] s (Qg (by omega)) (by rw[bQ];exact Qv hlt) (cO (by omega) (by omega))),ih (i+1) _ (by omega) (by omega),QM hlt,QU,Qs (by omega:¬i=0)]
 cases l with
 |nil=>exact bs (h2 z hd)
 |cons x l=>
  have hx:=h1 0 x z (Qg (by simp)) (by rw[bQ];rfl) (cO (by omega) (by omega))
  rw[Qr rfl]at hx;exact(bD hx).trans (key l.length 1 x (by simp;omega) (by omega))
theorem PN(l:List af)(hl:l.length<=1000000):jY l=some (FI bK l):=by
 unfold jY;refine MK l hl bK (fun i x s hd hx hw=> ?_) (fun s hd=> ?_)
 ·simp only[hd,hx,hw,Qk,bq,Qa,gN]
  by_cases hi:i=0
  ·subst hi;rfl
  ·have:decide ((i:Int)=0)=false:=Qh (by omega)
   rw[this,Qs hi];cases bd s x<;>rfl
 ·simp only[hd,Ql,Qe]
def dJ(m:ab):ByteArray:=
 if aI m.ar=false then m.ar.Value else if m.aJ≠1 then m.aa.Value else if m.bh≠il then m.bh else(FI bK (m.aB.map (·.aa))).Value
theorem I6{e:ai}(h:ea e.ao)(hv:bm e=true):gW e=some (fo e):=by
 rw[Ku (K9 h)];have:ng (Gn e.ao) e=true:=hv;rw[this,Qr rfl]
def ze(m:ab)(n:Int):Nat:=dQ (fun e=>decide (n<fo e)) m.aB
 def hU(m:ab)(n:Int):Bool:=ud (fu m.aq.toNat m.ao (aS m)) m.aq.toNat (ze m n)
theorem Cd.Lu{m:ab}(h:Cd m):sk m.aB:=fun e he=>jM (h.valid e he)
theorem Pg{m:ab}(h:Cd m)(n:Int):ze m n<1024:=rQ h.Lu
 def ka(m:ab)(B3:Int)(e:ai):Int:=
 if m.aa.ae<fo e/\fo e<B3/\hU m (fo e)=false then fo e else B3
 def fj(m:ab):Int:=m.aB.foldl (ka m) 1000000
 def lR(m:ab):ByteArray:=if m.aJ=1 then dJ m else m.aa.Value
 def eE(m:ab):ab:=
 if m.aJ=3\/hU m m.aa.ae=false then m
 else{m with aQ:=if lR m=m.aa.Value then m.aQ else 0,aa:=⟨bn m.aa.ae (dp (fj m) 1000),lR m⟩}
open Classical in
theorem Ru{m:ab}(h:Cd m){ρ:Type}{step:Int×Int×Unit->Option ((Int×Int×Unit)⊕ρ)}{fin:Int->Option ρ}
  (h1:∀(i:Nat) (e:ai) (s:Int),e∈m.aB->decide ((i:Int)<((m.aB.length:Nat):Int))=true->idx m.aB (i:Int)=some e->aA .i64 (i:Int) 1=((i+1:Nat):Int)->step (s,(i:Int),())=some (.inl (ka m s e,((i+1:Nat):Int),())))
  (h2:∀s,decide (((m.aB.length:Nat):Int)<((m.aB.length:Nat):Int))=false->step (s,((m.aB.length:Nat):Int),())=Option.map Sum.inr (fin s)):aD step ((1000000:Int),(0:Int),())=fin (fj m):=by
 have hl:=h.len
 have key:=jG m.aB (by omega) (fun i s=>(s,i,())) (fun e s=>if e∈m.aB then some (.inl (ka m s e))else none) fin (step:=step) (fun i x s hd hx hw=>by
  have hm:x∈m.aB:=by rw[bQ]at hx;exact Q7 hx
  rw[h1 i x s hm hd hx hw,Qr hm]) (fun s hd=>h2 s hd) 1000000
 refine key.trans ?_;unfold fj
 suffices h3:∀(l:List ai),(∀e∈l,e∈m.aB)->∀s,fS (fun e s=>if e∈m.aB then some (Sum.inl (β:=ρ) (ka m s e))else none) fin l s=fin (l.foldl (ka m) s)from h3 _ (fun e he=>he) _
 intro l
 induction l with
 |nil=>intro _ s;rfl
 |cons x l ih=>
  intro hx s;rw[fS,Qr (hx x Qx),QU];exact ih (fun e he=>hx e (Qy _ he)) _
end
section
def cn(b:af):Prop:=1<=b.ae/\b.ae<=1000/\1<=b.Value.size/\b.Value.size<=200
theorem cn.valid{b:af}(h:cn b):cF b=true:=by
 obtain⟨h1,h2,h3,h4⟩:=h;simp only[cF,Qm,Qn,Qi];exact⟨⟨.inl ⟨h1,h2⟩,h3⟩,h4⟩
theorem cn.finite{b:af}(h:cn b):finite b=true:=by
 unfold Go.Proofs.YtjbfdglebjnelaaGreat.finite;rw[h.valid,Qg h.2.1];rfl
theorem LB{b:af}(h:cF b=true)(hc:b.ae<=1000):cn b:=by
 simp only[cF,Qm,Qn,Qi]at h;obtain⟨⟨h1,h2⟩,h3⟩:=h;exact⟨by omega,hc,h2,h3⟩
theorem cn.nz{b:af}(h:cn b):aI b=false:=Fk h.1
theorem cn.ne{b:af}(h:cn b):b.Value≠il:=by
 intro e;have:=h.2.2.1;rw[e]at this;exact absurd this (by decide)
theorem rP{b:af}:aI b=true↔b=bK:=by
 obtain⟨c,v⟩:=b;simp[aI,bK]
theorem bO:aI bK=true:=rP.2 rfl
structure P1 (m:ab):Prop where
 aE:m.aJ=1
 aG:cn m.aa
 cP:m.ak=bK\/cn m.ak
 bC:m.au=bK\/(cn m.au/\cn m.ak/\bd m.au m.ak=true/\bI m.au m.ak=false)
 dq:m.ar=bK\/(cn m.ar/\dF m.ak m.au m.ar=true)
 up:bd m.aa m.ar=false
 bU:m.bg=0
 low:m.aQ=0\/(1<=m.aQ/\m.aQ<=eH m/\mU m.ak m.au m.aa.Value m.aQ=false)
structure P2 (m:ab):Prop where
 aE:m.aJ=2
 aG:cn m.aa
 cP:cn m.ak/\m.ak.Value=m.aa.Value
 bC:m.au=bK
 dq:m.ar=bK\/(cn m.ar/\m.ar.Value=m.aa.Value)
 range:1<=m.aQ/\m.aQ<=m.bg/\m.bg<=m.ak.ae
structure P3 (m:ab):Prop where
 aE:m.aJ=3
 aG:cn m.aa
 cP:m.ak=bK
 bC:m.au=bK
 dq:m.ar=bK
 range:1<=m.aQ/\m.aQ<=m.bg/\m.bg<=1000
structure P0 (m:ab):Prop where
 aE:m.aJ=1
 aG:m.aa=bK
 cP:m.ak=bK
 bC:m.au=bK
 dq:m.ar=bK
 low:m.aQ=0
 bU:m.bg=0
structure aY (m:ab):Prop where
 n0:0<=m.aq
 n1:m.aq<10
 bJ:1<=m.bf/\m.bf<=1000000
 seq:0<=m.aN/\m.aN<=1000000
 bb:ir m.ao
 sJ:m.bh.size<=200
 hv:∀e∈m.aB,bm e=true/\ir e.ao/\e.bf=m.bf/\e.aq≠m.aq
 kC:m.aB.Pairwise (fun a b=>a.aq<b.aq)
 body:P0 m\/P1 m\/P2 m\/P3 m
theorem EM:∀(l:List ai) (k:Nat),k<=10->(∀e∈l,(k:Int)<=e.aq/\e.aq<10)->l.Pairwise (fun a b=>a.aq<b.aq)->l.length+k<=10
 |[],k,hk,_,_=>by simpa using hk
 |x::l,k,hk,h,hp=>by
  rw[Q4]at hp;have hx:=h x Qx;have:=EM l (k+1) (by omega) (fun e he=>⟨by have:=hp.1 e he;omega,(h e (Qy _ he)).2⟩) hp.2
  rw[QE];omega
theorem aY.len{m:ab}(h:aY m):m.aB.length<=10:=by
 have:=EM m.aB 0 (by omega) (fun e he=>by have:=jM (h.hv e he).1;omega) h.kC
 omega
theorem aY.ev{m:ab}(h:aY m):Cd m:=
 ⟨h.n0,h.n1,h.bb.sm,by have:=h.len;omega,fun e he=>(h.hv e he).2.1.sm,fun e he=>(h.hv e he).1⟩
theorem FC{m:ab}(h:P1 m):0<=eH m/\eH m<=m.aa.ae/\(eH m=0\/(cn m.ar/\m.ar.Value=m.aa.Value/\eH m=m.ar.ae)):=by
 unfold eH;split
 ·rename_i hc;simp only[Qm,Bool.not_eq_true',bI,Qi]at hc;rcases h.dq with e|⟨hf,_⟩
  ·rw[e,bO]at hc;cases hc.1
  ·have hup:=h.up;unfold bd at hup;split at hup
   ·rename_i e;exact⟨by have:=hf.1;omega,by omega,.inr ⟨hf,hc.2,rfl⟩⟩
   ·simp only[Qj]at hup;exact⟨by have:=hf.1;omega,by omega,.inr ⟨hf,hc.2,rfl⟩⟩
 ·exact⟨Int.le_refl _,by have:=h.aG.1;omega,.inl rfl⟩
theorem Hs{m:ab}(h:aY m)(hz:aI m.aa=false):bm (gX m)=true:=by
 have hseq:1<=(gX m).aN/\(gX m).aN<=1000000:=by
  have h1:(gX m).aN=bn m.aN 1:=by show bn (fO m).aN 1=_;rw[JL]
  have:=h.seq;rw[h1];unfold bn;split<;>omega
 have hnode:(gX m).aq=m.aq:=sf m;have hslot:(gX m).bf=m.bf:=xN m
 have hhead:BL (gX m)=true:=by
  unfold BL;rw[hnode,hslot];simp only[Qm,Qi];exact⟨⟨⟨⟨⟨h.n0,h.n1⟩,h.bJ.1⟩,h.bJ.2⟩,hseq.1⟩,hseq.2⟩
 unfold bm;rw[zJ,G8 h.bb];unfold ng;rw[hhead];have hkind:(gX m).bW=m.aJ:=OQ m;rw[hkind];rcases h.body with h0|h1|h2|h3
 ·rw[h0.aG,bO]at hz;cases hz
 ·rw[Qr h1.aE];have hh:=FC h1;have e:gX m=⟨m.aq,m.bf,bn (fO m).aN 1,m.ao,m.aJ,m.aa,m.ak,m.au,m.aQ,eH m⟩:=by unfold gX fO;rw[Qr h1.aE]
  have hp:(aI m.ak||cF m.ak)=true:=by
   rcases h1.cP with e|hf
   ·rw[e,bO];rfl
   ·rw[hf.valid,Bool.or_true]
  have hq:(aI m.au||cF m.au)=true:=by
   rcases h1.bC with e|hf
   ·rw[e,bO];rfl
   ·rw[hf.1.valid,Bool.or_true]
  have hpo:Cr (gX m)=true:=by
   rw[e];unfold Cr;rcases h1.bC with e|⟨_,hf,hl,hc⟩
   ·simp only[e,bO,Bool.true_or]
   ·simp only[hf.nz,hl,hc,Qp,Bool.and_self,Bool.or_true]
  have hhp:(decide (eH m=0)||dF m.ak m.au ⟨eH m,m.aa.Value⟩)=true:=by
   rcases hh.2.2 with e|⟨hf,hv,e⟩
   ·rw[Qg e];rfl
   ·rw[e,<-hv];rcases h1.dq with e2|⟨_,hp⟩
    ·have:=hf.nz;rw[e2,bO]at this;cases this
    ·rw[hp,Bool.or_true]
  have hlow:0<=m.aQ/\m.aQ<=eH m/\(decide (m.aQ=0)||(!eJ m.ak ⟨m.aQ,m.aa.Value⟩&& !eJ m.au ⟨m.aQ,m.aa.Value⟩))=true:=by
   rcases h1.low with e|⟨h5,h6,h7⟩
   ·rw[e];exact⟨Int.le_refl _,hh.1,rfl⟩
   ·refine⟨by omega,h6,?_⟩
    unfold mU at h7;rw[Qq73]at h7;rw[h7.1,h7.2];simp
  unfold gg;rw[hpo];rw[e];unfold at_
  simp only[h1.aG.finite,hp,hq,Qg hlow.1,Qg hlow.2.1,Qg hh.2.1,hhp,hlow.2.2,Bool.and_self,decide_true]
 ·rw[Qs (by rw[h2.aE];decide),Qr h2.aE]
  have e:gX m=⟨m.aq,m.bf,bn (fO m).aN 1,m.ao,m.aJ,m.aa,m.ak,bK,m.aQ,m.bg⟩:=by unfold gX fO;rw[Qs (by rw[h2.aE];decide),Qr h2.aE]
  have hc:m.bg<=1000:=by have:=h2.range.2.2;have:=h2.cP.1.2.1;omega
  unfold xa wJ;rw[e];simp only[h2.aG.finite,h2.cP.1.valid,bI,Qg h2.cP.2,bO,Qg h2.range.1,Qg h2.range.2.1,Qg h2.range.2.2,Qg hc,Bool.and_self,decide_true]
 ·rw[Qs (by rw[h3.aE];decide),Qs (by rw[h3.aE];decide),Qr h3.aE]
  have e:gX m=⟨m.aq,m.bf,bn (fO m).aN 1,m.ao,m.aJ,m.aa,bK,bK,m.aQ,m.bg⟩:=by unfold gX fO;rw[Qs (by rw[h3.aE];decide),Qs (by rw[h3.aE];decide)]
  unfold CD wJ;rw[e];simp only[h3.aG.valid,bO,Qg h3.range.1,Qg h3.range.2.1,Qg h3.range.2.2,Bool.and_self,decide_true]
theorem aY.jl{m:ab}(h:aY m):∀e∈aS m,bm e=true:=by
 intro e he;rcases ug he with he|⟨hz,rfl⟩
 ·exact(h.hv e he).1
 ·exact Hs h hz
theorem aY.Tl{m:ab}(h:aY m){e:ai}(he:e∈aS m)(hn:e.aq.toNat=m.aq.toNat):aI m.aa=false/\e=gX m:=by
 rcases ug he with he|⟨hz,rfl⟩
 ·have h1:=(h.hv e he).2.2.2;have h2:=jM (h.hv e he).1;have:=h.n0;omega
 ·exact⟨hz,rfl⟩
end
section
theorem sb(a b:af):bd a b=true↔a.ae<b.ae\/(a.ae=b.ae/\lJ a.Value b.Value=true):=by
 unfold bd;split
 ·rename_i e;rw[e];simp
 ·rename_i e;simp only[Qi];constructor
  ·exact .inl
  ·rintro(h|h)
   ·exact h
   ·exact absurd h.1 e
theorem jH{a b c:af}(h:bd a b=true)(h':bd b c=true):bd a c=true:=xv.trans _ _ _ h h'
theorem OA(a:af):bd a a=false:=xv.irrefl a
theorem Bz{a b:af}(h:bd a b=false)(h':a≠b):bd b a=true:=by
 cases h1:bd b a with
 |true=>rfl
 |false=>exact absurd (xv.total a b h h1) h'
theorem fY{a b:af}(h:bd a b=true):a.ae<=b.ae:=by
 rw[sb]at h;omega
theorem DV{a b:af}(h:bd a b=false):b.ae<=a.ae:=by
 rcases Int.lt_or_le a.ae b.ae with h1|h1
 ·rw[(sb a b).2 (.inl h1)]at h;cases h
 ·exact h1
theorem Oy(v:ByteArray):lJ v v=false:=um.irrefl v
theorem zV{a b:af}(hv:a.Value=b.Value):bd a b=decide (a.ae<b.ae):=by
 unfold bd;split
 ·rename_i e;rw[hv,Oy,e];simp
 ·rfl
theorem BW{p x:af}(h:js p x=true):bd p x=false:=by
 obtain⟨_,h2,h3⟩:=(ja p x).1 h;rw[zV h2,Qj];omega
theorem HN{p x q:af}(h:js p x=true)(hq:bd p q=true):bd x q=true:=by
 by_cases e:x=p
 ·rw[e];exact hq
 ·exact jH (Bz (BW h) (fun h=>e h.symm)) hq
theorem iq{a b:af}:bI a b=true↔a.Value=b.Value:=decide_eq_true_iff
theorem gr{a b:af}:bI a b=false↔a.Value≠b.Value:=Qj
theorem wK(p q x:af):dF p q x=true↔js p x=true\/js q x=true\/(aI q=false/\bd x q=true):=by
 unfold dF;simp only[Qn,Qm,Bool.not_eq_true'];exact⟨fun h=>by rcases h with(h|h)|h<;>simp[h],fun h=>by rcases h with h|h|h<;>simp[h]⟩
def oe(p q:af):Prop:=(p=bK\/cn p)/\(q=bK\/(cn q/\cn p/\bd q p=true/\bI q p=false))
theorem P1.gg{m:ab}(h:P1 m):oe m.ak m.au:=⟨h.cP,h.bC⟩
theorem Eh{b:af}(h:cn b):b≠bK:=fun e=>by have:=h.nz;rw[e,bO]at this;cases this
inductive pV (p q b:af):af->af->Prop where
 |same:pV p q b p q
 |first (hp:p=bK) (hq:q=bK):pV p q b b bK
 |up (hp:cn p) (hl:bd p b=true) (hc:p.Value=b.Value):pV p q b b q
 |xY (hp:cn p) (hl:bd p b=true) (hc:p.Value≠b.Value):pV p q b b p
 |under (hp:cn p) (hl:bd b p=true) (hc:b.Value≠p.Value) (hq:q=bK\/bd q b=true):pV p q b p b
theorem TA{p q b:af}(h:oe p q)(hb:b=bK\/cn b):pV p q b (cJ p q b).1 (cJ p q b).2:=by
 unfold cJ;rcases hb with rfl|hb
 ·rw[Qr bO];exact .same
 rw[Qs (by rw[hb.nz];decide)]
 rcases h.1 with rfl|hp
 ·have hq:q=bK:=by
   rcases h.2 with e|⟨_,e,_⟩
   ·exact e
   ·exact absurd rfl (Eh e)
  rw[Qr bO,hq];exact .first rfl rfl
 rw[Qs (by rw[hp.nz];decide)]
 by_cases hl:bd p b=true
 ·rw[Qr hl]
  by_cases hc:bI p b=true
  ·rw[Qr hc]
   have hcq:bI q b=false:=by
    rw[iq]at hc;rw[gr];rcases h.2 with rfl|⟨_,_,_,e⟩
    ·exact fun e=>hb.ne e.symm
    ·rw[gr]at e;rw[<-hc];exact e
   rw[Qs (by rw[hcq];decide)]
   exact .up hp hl (iq.1 hc)
  ·rw[Qs hc];exact .xY hp hl (gr.1 (by simpa using hc))
 ·rw[Qs hl];split
  ·rename_i hu;simp only[Qm,Qn,Bool.not_eq_true']at hu;refine .under hp hu.1.1 (gr.1 hu.1.2) ?_;rcases hu.2 with e|e
   ·exact .inl (rP.1 e)
   ·exact .inr e
  ·exact .same
theorem pV.ok{p q b p' q':af}(h:oe p q)(hb:b=bK\/cn b)(hj:pV p q b p' q'):oe p' q':=by
 have hbf:∀{x:af},bd x b=true\/cn b\/(cn x/\bd b x=true)->True:=fun _=>trivial
 cases hj with
 |same=>exact h
 |first hp hq=>exact⟨hb,.inl rfl⟩
 |up hp hl hc=>
  have hb':cn b:=by
   rcases hb with rfl|hb
   ·have h1:=fY hl;have h2:=hp.1;have:(bK:af).ae=0:=rfl;omega
   ·exact hb
  refine⟨.inr hb',?_⟩;rcases h.2 with e|⟨h1,h2,h3,h4⟩
  ·exact .inl e
  ·refine .inr ⟨h1,hb',jH h3 hl,?_⟩;rw[gr]at h4 ⊢;rw[<-hc];exact h4
 |xY hp hl hc=>
  have hb':cn b:=by
   rcases hb with rfl|hb
   ·have h1:=fY hl;have h2:=hp.1;have:(bK:af).ae=0:=rfl;omega
   ·exact hb
  exact⟨.inr hb',.inr ⟨hp,hb',hl,gr.2 hc⟩⟩
 |under hp hl hc hq=>
  refine⟨.inr hp,?_⟩;rcases hb with e|hb
  ·exact .inl e
  ·exact .inr ⟨hb,hp,hl,gr.2 hc⟩
theorem pV.mono{p q b p' q':af}(h:oe p q)(hj:pV p q b p' q'){x:af}(hx:dF p q x=true):dF p' q' x=true:=by
 rw[wK]at hx ⊢
 have hqp:aI q=false->bd q p=true:=fun hz=>by
  rcases h.2 with e|⟨_,_,e,_⟩
  ·rw[e,bO]at hz;cases hz
  ·exact e
 have hcq:js q x=true->aI q=false:=fun hc=>((ja q x).1 hc).1
 cases hj with
 |same=>exact hx
 |first hp hq=>
  subst hp hq;rcases hx with hx|hx|hx
  ·have:=((ja _ _).1 hx).1;rw[bO]at this;cases this
  ·have:=((ja _ _).1 hx).1;rw[bO]at this;cases this
  ·rw[bO]at hx;cases hx.1
 |up hp hl hc=>
  rcases hx with hx|hx|hx
  ·obtain⟨h1,h2,h3⟩:=(ja _ _).1 hx;refine .inl ((ja _ _).2 ⟨?_,hc.symm.trans h2,Int.le_trans h3 (fY hl)⟩);have:=hp.1;have:=fY hl;exact Fk (by omega)
  ·exact .inr (.inl hx)
  ·exact .inr (.inr hx)
 |xY hp hl hc=>
  rcases hx with hx|hx|hx
  ·exact .inr (.inl hx)
  ·exact .inr (.inr ⟨hp.nz,HN hx (hqp (hcq hx))⟩)
  ·exact .inr (.inr ⟨hp.nz,jH hx.2 (hqp hx.1)⟩)
 |under hp hl hc hq=>
  have hbz:aI q=false->bd q b=true:=fun hz=>by
   rcases hq with e|e
   ·rw[e,bO]at hz;cases hz
   ·exact e
  have hbn:aI q=false->aI b=false:=fun hz=>by
   have h1:=fY (hbz hz);rcases h.2 with e|⟨e,_⟩
   ·rw[e,bO]at hz;cases hz
   ·have:=e.1;exact Fk (by omega)
  rcases hx with hx|hx|hx
  ·exact .inl hx
  ·exact .inr (.inr ⟨hbn (hcq hx),HN hx (hbz (hcq hx))⟩)
  ·exact .inr (.inr ⟨hbn hx.1,jH hx.2 (hbz hx.1)⟩)
theorem Pk{p:af}{v:ByteArray}{n k:Int}(h:eJ p ⟨n,v⟩=false)(hk:n<=k):eJ p ⟨k,v⟩=false:=K5 hk h
theorem IJ{v:ByteArray}{n:Int}{x:af}(hx:x=bK\/cF x=true):n<=uo v n x/\eJ x ⟨uo v n x,v⟩=false:=by
 unfold uo;split
 ·rename_i hc;rw[Qm]at hc;have ha:=hc.2;unfold eJ at ha;rw[Qm,Qm]at ha;have hle:n<=x.ae:=fY ha.2;split
  ·refine⟨by omega,?_⟩
   unfold eJ;rw[Bool.and_eq_false_iff];right
   cases hl:bd ⟨x.ae+1,v⟩ x with
   |false=>rfl
   |true=>have:=fY hl;simp only at this;omega
  ·rename_i hn;exact⟨hle,by simpa using hn⟩
 ·rename_i hc;refine⟨Int.le_refl _,?_⟩;rcases hx with rfl|hv
  ·unfold eJ;rw[bO];rfl
  ·rw[hv,Bool.true_and]at hc;simpa using hc
theorem Lr{v:ByteArray}{n:Int}{p q:af}(hp:p=bK\/cF p=true)(hq:q=bK\/cF q=true):n<=kS v n p q/\1<=kS v n p q/\mU p q v (kS v n p q)=false:=by
 unfold kS;obtain⟨h1,h2⟩:=IJ (v:=v) (n:=bn n 1) hp;obtain⟨h3,h4⟩:=IJ (v:=v) (n:=uo v (bn n 1) p) hq;have hm:n<=bn n 1/\1<=bn n 1:=by unfold bn;split<;>omega
 refine⟨by omega,by omega,?_⟩
 unfold mU;rw[h4,Bool.or_false];exact Pk h2 h3
theorem EJ{v:ByteArray}{n:Int}{x:af}(h:eJ x ⟨n,v⟩=false):uo v n x=n:=by
 unfold uo;rw[h,Bool.and_false];rfl
theorem Ow{v:ByteArray}{n:Int}{p q:af}(h1:1<=n)(h:mU p q v n=false):kS v n p q=n:=by
 unfold mU at h;rw[Qq73]at h;have hm:bn n 1=n:=by unfold bn;split<;>omega
 unfold kS;rw[hm,EJ h.1,EJ h.2]
theorem oe.valid{p q:af}(h:oe p q):(p=bK\/cF p=true)/\(q=bK\/cF q=true):=
 ⟨h.1.imp id cn.valid,h.2.imp id fun h=>h.1.valid⟩
theorem Mf{e:ai}(hv:bm e=true){x:af}(hx:x∈said e)(hz:aI x=false):cF x=true:=by
 have hv':=hv;unfold bm ng at hv';unfold said at hx;rw[Qr hv]at hx;rw[Qm,Qm]at hv';have hb:=hv'.2
 by_cases h1:e.bW=1
 ·rw[Qr h1]at hb hx;unfold gg at hb;simp only[Qm,Qn]at hb;obtain⟨⟨⟨⟨⟨⟨⟨⟨hf,hp⟩,hq⟩,_⟩,_⟩,_⟩,_⟩,_⟩,_⟩:=hb;simp only[QA,QR,or_false]at hx;rcases hx with rfl|rfl|rfl
  ·unfold finite at hf;rw[Qm]at hf;exact hf.1
  ·rcases hp with hp|hp
   ·rw[hp]at hz;cases hz
   ·exact hp
  ·rcases hq with hq|hq
   ·rw[hq]at hz;cases hz
   ·exact hq
 ·rw[Qs h1]at hb hx
  have hinf:∀{b:af},cF b=true->cF ⟨1000000,b.Value⟩=true:=by
   intro b hb;simp only[cF,Qm,Qn,Qi]at hb ⊢;exact⟨⟨.inr trivial,hb.1.2⟩,hb.2⟩
  by_cases h2:e.bW=2
  ·rw[Qr h2]at hb hx;unfold xa at hb;simp only[Qm]at hb;obtain⟨⟨⟨⟨⟨hf,hp⟩,hc⟩,_⟩,_⟩,_⟩:=hb;simp only[QA,QR,or_false]at hx;rcases hx with rfl|rfl
   ·exact hp
   ·unfold finite at hf;rw[Qm]at hf;exact hinf hf.1
  ·rw[Qs h2]at hb hx;simp only[QA,QR,or_false]at hx;subst hx
   by_cases h3:e.bW=3
   ·rw[Qr h3]at hb;unfold CD at hb;simp only[Qm]at hb;exact hinf hb.1.1.1
   ·rw[Qs h3]at hb;cases hb
theorem De{e:ai}(hv:bm e=true):1<=e.aa.Value.size/\e.aa.Value.size<=200:=by
 have hv':=hv;unfold bm ng at hv';rw[Qm,Qm]at hv';have hb:=hv'.2
 have go:∀{b:af},cF b=true->1<=b.Value.size/\b.Value.size<=200:=by
  intro b hb;simp only[cF,Qm,Qn,Qi]at hb;exact⟨hb.1.2,hb.2⟩
 have gof:∀{b:af},finite b=true->1<=b.Value.size/\b.Value.size<=200:=by
  intro b hb;unfold finite at hb;rw[Qm]at hb;exact go hb.1
 by_cases h1:e.bW=1
 ·rw[Qr h1]at hb;unfold gg at hb;simp only[Qm]at hb;exact gof hb.1.1.1.1.1.1.1.1
 ·rw[Qs h1]at hb
  by_cases h2:e.bW=2
  ·rw[Qr h2]at hb;unfold xa at hb;simp only[Qm]at hb;exact gof hb.1.1.1.1.1
  ·rw[Qs h2]at hb
   by_cases h3:e.bW=3
   ·rw[Qr h3]at hb;unfold CD at hb;simp only[Qm]at hb;exact go hb.1.1.1
   ·rw[Qs h3]at hb;cases hb
theorem Uh{b:af}(h:cF b=true):cn (dh b):=by
 simp only[cF,Qm,Qn,Qi]at h;obtain⟨⟨h1,h2⟩,h3⟩:=h;unfold dh;split
 ·exact⟨(by decide:(1:Int)<=1000),(by decide:(1000:Int)<=1000),h2,h3⟩
 ·exact⟨by omega,by omega,h2,h3⟩
theorem JH{α:Type}{l:List α}{p:α->Bool}{z:α}:(l.find? p).getD z=z\/((l.find? p).getD z∈l/\p ((l.find? p).getD z)=true):=by
 cases h:l.find? p with
 |none=>exact .inl rfl
 |some x=>exact .inr ⟨List.mem_of_find?_eq_some h,List.find?_some h⟩
theorem AH{m:ab}(h:aY m){x:af}(hx:x∈eW (aS m)):cF x=true:=by
 obtain⟨e,he,h1,h2⟩:=((oq h.ev.n3.1.bb h.ev.n3.2).2.2.2 x).1 hx;exact Mf (h.jl e he) h1 h2
theorem Ht{m:ab}(h:aY m):dU m=bK\/(cF (dU m)=true/\(Dg m=il\/(dU m).Value=Dg m)/\dF (si m.ak) (si m.au) (dU m)=false/\jE m.aq.toNat m.ao (aS m) (dU m)=true):=by
 unfold dU iK;rcases JH (l:=eW (aS m)) (p:=vR (jE m.aq.toNat m.ao (aS m)) m.ak m.au (Dg m)) (z:=xF)with e|⟨h1,h2⟩
 ·exact .inl e
 ·right;unfold vR at h2;simp only[Qm,Qn,Bool.not_eq_true',Qi]at h2;exact⟨AH h h1,h2.1.1,h2.1.2,h2.2⟩
theorem s6{m:ab}(h:aY m):dh (dU m)=bK\/cn (dh (dU m)):=by
 rcases Ht h with e|⟨h1,_⟩
 ·left;rw[e];decide
 ·exact .inr (Uh h1)
theorem Cu{m:ab}(h:aY m)(h1:oe m.ak m.au):pV m.ak m.au (dh (dU m)) (cJ m.ak m.au (dh (dU m))).1 (cJ m.ak m.au (dh (dU m))).2:=TA h1 (s6 h)
theorem P2.gg{m:ab}(h:P2 m):oe m.ak m.au:=⟨.inr h.cP.1,.inl h.bC⟩
theorem S7{m:ab}(h:aY m)(h1:P1 m):P1 (cy m):=by
 unfold cy;rw[Qs (by rw[h1.aE,h1.aG.nz];decide)]
 have hj:=Cu h h1.gg;generalize (cJ m.ak m.au (dh (dU m))).1=p at hj;generalize (cJ m.ak m.au (dh (dU m))).2=q at hj;have hok:=hj.ok h1.gg (s6 h);refine⟨h1.aE,h1.aG,hok.1,hok.2,?_,h1.up,h1.bU,?_⟩
 ·rcases h1.dq with e|⟨hf,hp⟩
  ·exact .inl e
  ·exact .inr ⟨hf,hj.mono h1.gg hp⟩
 ·show qm m p q=0\/(1<=qm m p q/\qm m p q<=eH m/\mU p q m.aa.Value (qm m p q)=false);unfold qm
  by_cases hL:m.aQ=0
  ·rw[Qs (fun h=>h.2 hL)];exact .inl hL
  ·rw[Qr ⟨h1.aE,hL⟩];split
   ·exact .inl rfl
   ·rename_i hlt;obtain⟨h2,h3,h4⟩:=Lr (v:=m.aa.Value) (n:=m.aQ) hok.valid.1 hok.valid.2;exact .inr ⟨h3,by omega,h4⟩
theorem Lg{m:ab}(h:aY m)(h2:P2 m):P2 (cy m)/\m.ak.ae<=(cy m).ak.ae/\(cy m).au=bK:=by
 unfold cy;rw[Qs (by rw[h2.aE,h2.aG.nz];decide)]
 have hv:dh (dU m)=bK\/(dh (dU m)).Value=m.aa.Value:=by
  rcases Ht h with e|⟨h3,h4,_⟩
  ·left;rw[e];decide
  ·right;have hc:(dh (dU m)).Value=(dU m).Value:=by unfold dh;split<;>rfl
   have hvo:Dg m=m.aa.Value:=Qr h2.aE;rw[hvo]at h4;rw[hc];exact h4.resolve_left h2.aG.ne
 have hj:=Cu h h2.gg;have hlow:∀p q,qm m p q=m.aQ:=fun p q=>Qs (fun h=>by have:=h.1;rw[h2.aE]at this;cases this)
 simp only[hlow];have hok:=hj.ok h2.gg (s6 h);generalize (cJ m.ak m.au (dh (dU m))).1=p at hj hok;generalize (cJ m.ak m.au (dh (dU m))).2=q at hj hok;generalize hb:dh (dU m)=b at hj hv
 have key:cn p/\p.Value=m.aa.Value/\m.ak.ae<=p.ae/\q=bK:=by
  cases hj with
  |same=>exact⟨h2.cP.1,h2.cP.2,Int.le_refl _,h2.bC⟩
  |first hp hq=>exact absurd hp (Eh h2.cP.1)
  |up hp hl hc=>exact⟨hok.1.resolve_left (fun e=>by have:=fY hl;rw[e]at this;have h9:=h2.cP.1.1;have:(bK:af).ae=0:=rfl;omega),hc.symm.trans h2.cP.2,fY hl,h2.bC⟩
  |xY hp hl hc=>
   exfalso;rcases hv with e|e
   ·have:=fY hl;rw[e]at this;have h9:=h2.cP.1.1;have:(bK:af).ae=0:=rfl;omega
   ·exact hc (h2.cP.2.trans e.symm)
  |under hp hl hc hq=>
   rcases hv with e|e
   ·exact⟨h2.cP.1,h2.cP.2,Int.le_refl _,e⟩
   ·exact absurd (e.trans h2.cP.2.symm) hc
 exact⟨⟨h2.aE,h2.aG,⟨key.1,key.2.1⟩,key.2.2.2,h2.dq,⟨h2.range.1,h2.range.2.1,Int.le_trans h2.range.2.2 key.2.2.1⟩⟩,key.2.2.1,key.2.2.2⟩
theorem Hn{m:ab}(h:aY m):aY (cy m):=by
 have hid:m.aJ=3\/aI m.aa=true->cy m=m:=fun hc=>Qr hc
 have mk:(P0 (cy m)\/P1 (cy m)\/P2 (cy m)\/P3 (cy m))->aY (cy m):=by
  intro hb;unfold cy at hb ⊢;split at hb
  ·rename_i hc;rw[Qr hc];exact h
  ·rename_i hc;rw[Qs hc];exact⟨h.n0,h.n1,h.bJ,h.seq,h.bb,h.sJ,h.hv,h.kC,hb⟩
 rcases h.body with h0|h1|h2|h3
 ·rw[hid (.inr (by rw[h0.aG];exact bO))];exact h
 ·exact mk (.inr (.inl (S7 h h1)))
 ·exact mk (.inr (.inr (.inl (Lg h h2).1)))
 ·rw[hid (.inl h3.aE)];exact h
end
section
end
section
theorem pn(q:Int->Bool):∀(r:List Int) (lo:Int),dX q r lo<=lo
 |[],lo=>Int.le_refl _
 |e::r,lo=>by
  rw[dX];split
  ·exact pn q r lo
  ·split
   ·exact Int.le_trans (pn q r e) (by omega)
   ·exact Int.le_refl _
theorem w8(q:Int->Bool):∀(r:List Int) (lo:Int),dX q r lo=lo\/q (dX q r lo)=true/\dX q r lo∈r
 |[],lo=> .inl rfl
 |e::r,lo=>by
  rw[dX];split
  ·exact(w8 q r lo).imp id fun h=>⟨h.1,by simp[h.2]⟩
  ·split
   ·rename_i hq;rcases w8 q r e with h|h
    ·exact .inr ⟨by rw[h];exact hq,by rw[h];simp⟩
    ·exact .inr ⟨h.1,by simp[h.2]⟩
   ·exact .inl rfl
theorem w9(q:Int->Bool)(r:List Int)(lo:Int)(h:∀x∈r,1<=x)(h1:1<=lo):1<=dX q r lo:=by
 rcases w8 q r lo with e|⟨_,e⟩
 ·omega
 ·exact h _ e
section
variable {az : Nat} {t : an} {l : List ai} (p q : af)
end
end
section
theorem Sx{m:ab}(h:aY m){p:ai->Bool}(hb:(dQ p (bM (aS m))).testBit m.aq.toNat=true):aI m.aa=false/\p (gX m)=true:=by
 rw[q5,List.any_eq_true]at hb;obtain⟨e,he,hp⟩:=hb;rw[Qm,Qi]at hp;obtain⟨h1,h2⟩:=h.Tl ((List.mem_filter.1 he).1) hp.2;rw[<-h2];exact⟨h1,hp.1⟩
theorem J3{m:ab}(h:aY m){b:af}(hc:iW m.aq.toNat m.ao (aS m) b=true):aI m.aa=false/\dY (gX m) b=true:=by
 have hsm:=q7 (az:=m.aq.toNat) h.bb.sm h.ev.n3.1;have hg:=CB hsm (rQ (p:=(dY · b)) (oP (aS m)));exact Sx h (hg.inside _ hc).1
theorem KP{m:ab}(h1:m.aJ=1){b:af}(ha:dY (gX m) b=true):aI b=false/\dF m.ak m.au b=true:=by
 have e:gX m=⟨m.aq,m.bf,bn (fO m).aN 1,m.ao,m.aJ,m.aa,m.ak,m.au,m.aQ,eH m⟩:=by unfold gX fO;rw[Qr h1]
 rw[e]at ha;unfold dY at ha;rw[Qm,Qr h1]at ha;simpa using ha
theorem OE{m:ab}(h:aY m)(h1:P1 m):iQ m=bK\/(cn (iQ m)/\bd m.ar (iQ m)=true/\dF m.ak m.au (iQ m)=true):=by
 unfold iQ vY;rcases JH (l:=eW (aS m)) (p:=vX (iW m.aq.toNat m.ao (aS m)) m.ar) (z:=xF)with e|⟨h2,h3⟩
 ·exact .inl e
 ·right;unfold vX at h3;simp only[Qm,Qi]at h3;exact⟨LB (AH h h2) h3.1.2,h3.1.1,(KP h1.aE (J3 h h3.2).2).2⟩
theorem Tz{p q b:af}{v:ByteArray}{n:Int}(hok:oe p q)(hb:dF p q b=true)(hv:b.Value≠v)(ha:mU p q v n=false):b.ae<=n:=by
 unfold mU at ha;rw[Qq73]at ha
 have key:∀x:af,aI x=false->x.Value≠v->eJ x ⟨n,v⟩=false->x.ae<=n:=by
  intro x hz hx h;unfold eJ at h;rw[hz,(gr (a:=x) (b:=⟨n,v⟩)).2 hx,Qp,Bool.and_self,Bool.true_and]at h;exact DV h
 have hqp:aI q=false->cn q/\cn p/\bd q p=true/\q.Value≠p.Value:=fun hz=>by
  rcases hok.2 with e|⟨e1,e2,e3,e4⟩
  ·rw[e,bO]at hz;cases hz
  ·exact⟨e1,e2,e3,gr.1 e4⟩
 rw[wK]at hb;rcases hb with hb|hb|⟨hz,hl⟩
 ·obtain⟨h1,h2,h3⟩:=(ja _ _).1 hb;have:=key p h1 (by rw[h2];exact hv) ha.1
  omega
 ·obtain⟨h1,h2,h3⟩:=(ja _ _).1 hb;have:=key q h1 (by rw[h2];exact hv) ha.2
  omega
 ·obtain⟨e1,e2,e3,e4⟩:=hqp hz;have h5:=fY hl
  by_cases hqv:q.Value=v
  ·have:=key p e2.nz (by rw[<-hqv];exact fun e=>e4 e.symm) ha.1
   have:=fY e3;omega
  ·have:=key q hz hqv ha.2;omega
theorem Wa{m:ab}(h1:P1 m){b:af}(hb:cn b)(hl:bd m.ar b=true)(hp:dF m.ak m.au b=true):P1 (vB m b)/\(vB m b).ak=m.ak/\(vB m b).au=m.au/\(vB m b).ar=b/\m.aa.ae<=(vB m b).aa.ae:=by
 unfold vB;have hh:=FC h1;split
 ·rename_i hlt
  have hhigh:∀L:Int,eH {m with ar:=b,aa:=b,aQ:=L}=b.ae:=by
   intro L;unfold eH;rw[Qr];rw[hb.nz,iq.2 rfl];rfl
  refine⟨⟨h1.aE,hb,h1.cP,h1.bC,.inr ⟨hb,hp⟩,OA b,h1.bU,?_⟩,rfl,rfl,rfl,fY hlt⟩;show(if bI m.aa b=true then m.aQ else 0)=0\/(1<=(if bI m.aa b=true then m.aQ else 0)/\(if bI m.aa b=true then m.aQ else 0)<=eH {m with ar:=b,aa:=b,aQ:=if bI m.aa b=true then m.aQ else 0}/\mU m.ak m.au b.Value (if bI m.aa b=true then m.aQ else 0)=false)
  rw[hhigh];split
  ·rename_i hc;rw[iq]at hc;rcases h1.low with e|⟨h2,h3,h4⟩
   ·exact .inl e
   ·refine .inr ⟨h2,?_,by rw[<-hc];exact h4⟩
    have:=fY hlt;omega
  ·exact .inl rfl
 ·rename_i hlt;have hlt:bd m.aa b=false:=by simpa using hlt
  refine⟨⟨h1.aE,h1.aG,h1.cP,h1.bC,.inr ⟨hb,hp⟩,hlt,h1.bU,?_⟩,rfl,rfl,rfl,Int.le_refl _⟩;rcases h1.low with e|⟨h2,h3,h4⟩
  ·exact .inl e
  ·refine .inr ⟨h2,?_,h4⟩;show m.aQ<=eH {m with ar:=b}
   have hv:b.Value=m.aa.Value:=by
    refine Classical.byContradiction fun hv=> ?_
    have h5:=Tz h1.gg hp hv h4;have h6:=fY hl;rcases hh.2.2 with e|⟨e1,e2,e3⟩
    ·omega
    ·
     have e4:bd b m.ar=false:=xv.asymm hl;have e5:=hl;rw[sb]at e5;have hbc:b.ae=m.ar.ae:=by omega
     have hlow:m.aQ=m.ar.ae:=by omega
     have e6:bd ⟨m.aQ,m.aa.Value⟩ b=true:=by
      have:(⟨m.aQ,m.aa.Value⟩:af)=m.ar:=by rw[hlow,<-e2]
      rw[this];exact hl
     unfold mU at h4;rw[Qq73]at h4
     have key:∀x:af,aI x=false->x.Value≠m.aa.Value->eJ x ⟨m.aQ,m.aa.Value⟩=false->bd ⟨m.aQ,m.aa.Value⟩ x=false:=by
      intro x hz hx h;unfold eJ at h;rw[hz,(gr (a:=x) (b:=⟨m.aQ,m.aa.Value⟩)).2 hx,Qp,Bool.and_self,Bool.true_and]at h;exact h
     rw[wK]at hp;rcases hp with hp|hp|⟨hz,hq⟩
     ·obtain⟨g1,g2,g3⟩:=(ja _ _).1 hp;have g4:=key _ g1 (by rw[g2];exact hv) h4.1
      have g5:bd ⟨m.aQ,m.aa.Value⟩ m.ak=true:=by
       by_cases e:b=m.ak
       ·rw[<-e];exact e6
       ·exact jH e6 (Bz (BW hp) (fun e'=>e e'.symm))
      rw[g5]at g4;cases g4
     ·obtain⟨g1,g2,g3⟩:=(ja _ _).1 hp;have g4:=key _ g1 (by rw[g2];exact hv) h4.2
      have g5:bd ⟨m.aQ,m.aa.Value⟩ m.au=true:=by
       by_cases e:b=m.au
       ·rw[<-e];exact e6
       ·exact jH e6 (Bz (BW hp) (fun e'=>e e'.symm))
      rw[g5]at g4;cases g4
     ·rcases h1.bC with e|⟨f1,f2,f3,f4⟩
      ·rw[e,bO]at hz;cases hz
      ·by_cases hqv:m.au.Value=m.aa.Value
       ·have g4:=key _ f2.nz (by rw[<-hqv];exact fun e=>(gr.1 f4) e.symm) h4.1
        rw[jH e6 (jH hq f3)]at g4;cases g4
       ·have g4:=key _ hz hqv h4.2;rw[jH e6 hq]at g4;cases g4
   have hhigh:eH {m with ar:=b}=b.ae:=by
    unfold eH;rw[Qr];show(!aI b&&bI b m.aa)=true;rw[hb.nz,iq.2 hv];rfl
   rw[hhigh];rcases hh.2.2 with e|⟨e1,e2,e3⟩
   ·omega
   ·have:=fY hl;omega
theorem Sz{m:ab}(h1:P1 m){b:af}(hb:cn b)(hc:m.ar=b):P1 (mW m b):=by
 unfold mW;split
 ·rename_i hv;obtain⟨hL,hcp,hle⟩:=hv;rw[iq]at hcp;refine⟨h1.aE,h1.aG,h1.cP,h1.bC,h1.dq,h1.up,h1.bU,?_⟩;obtain⟨h2,h3,h4⟩:=Lr (v:=b.Value) (n:=m.aa.ae) h1.gg.valid.1 h1.gg.valid.2;refine .inr ⟨h3,?_,by show mU m.ak m.au m.aa.Value _=false;rw[hcp];exact h4⟩
  show kS b.Value m.aa.ae m.ak m.au<=eH {m with aQ:=kS b.Value m.aa.ae m.ak m.au}
  have hhigh:eH {m with aQ:=kS b.Value m.aa.ae m.ak m.au}=b.ae:=by
   unfold eH;rw[Qr]
   ·show m.ar.ae=_;rw[hc]
   ·show(!aI m.ar&&bI m.ar m.aa)=true;rw[hc,hb.nz,iq.2 hcp.symm];rfl
  rw[hhigh];exact hle
 ·exact h1
theorem LZ(m:ab)(b:af):(mW m b).ak=m.ak/\(mW m b).au=m.au/\(mW m b).ar=m.ar/\(mW m b).aa=m.aa:=by
 unfold mW;split<;>exact⟨rfl,rfl,rfl,rfl⟩
theorem oU{m:ab}(h:m.aJ≠1\/aI m.aa=true\/aI (iQ m)=true):ga m=m:=Qr h
theorem xJ{m m':ab}(h:aY m)(he:m'.aq=m.aq/\m'.bf=m.bf/\m'.aN=m.aN/\m'.ao=m.ao/\m'.bh=m.bh/\m'.aB=m.aB)(hb:P0 m'\/P1 m'\/P2 m'\/P3 m'):aY m':=by
 obtain⟨e1,e2,e3,e4,e5,e6⟩:=he;exact⟨by rw[e1];exact h.n0,by rw[e1];exact h.n1,by rw[e2];exact h.bJ,by rw[e3];exact h.seq,by rw[e4];exact h.bb,by rw[e5];exact h.sJ,by rw[e6,e1,e2];exact h.hv,by rw[e6];exact h.kC,hb⟩
structure gF (m m':ab):Prop where
 az:m'.aq=m.aq
 bJ:m'.bf=m.bf
 seq:m'.aN=m.aN
 bb:m'.ao=m.ao
 sJ:m'.bh=m.bh
 heard:m'.aB=m.aB
theorem gF.refl(m:ab):gF m m:=⟨rfl,rfl,rfl,rfl,rfl,rfl⟩
theorem gF.all{m m':ab}(h:gF m m'):m'.aq=m.aq/\m'.bf=m.bf/\m'.aN=m.aN/\m'.ao=m.ao/\m'.bh=m.bh/\m'.aB=m.aB:=⟨h.az,h.bJ,h.seq,h.bb,h.sJ,h.heard⟩
theorem uE(m:ab):gF m (cy m):=by unfold cy;split<;>exact⟨rfl,rfl,rfl,rfl,rfl,rfl⟩
theorem TJ(m:ab)(b:af):gF m (vB m b):=by unfold vB;split<;>exact⟨rfl,rfl,rfl,rfl,rfl,rfl⟩
theorem NF(m:ab)(b:af):gF m (mW m b):=by unfold mW;split<;>exact⟨rfl,rfl,rfl,rfl,rfl,rfl⟩
theorem rX(m:ab):gF m (ga m):=by
 unfold ga;split
 ·exact .refl m
 ·have h1:=NF (vB m (iQ m)) (iQ m);have h2:=TJ m (iQ m);exact⟨h1.az.trans h2.az,h1.bJ.trans h2.bJ,h1.seq.trans h2.seq,h1.bb.trans h2.bb,h1.sJ.trans h2.sJ,h1.heard.trans h2.heard⟩
theorem rZ(m:ab):gF m (fE m):=by
 unfold fE Eu tz;split
 ·split<;>exact⟨rfl,rfl,rfl,rfl,rfl,rfl⟩
 ·split<;>exact⟨rfl,rfl,rfl,rfl,rfl,rfl⟩
theorem rY(m:ab):gF m (iX m):=by unfold iX CF;split<;>exact⟨rfl,rfl,rfl,rfl,rfl,rfl⟩
theorem xC(m:ab):gF m (eE m):=by unfold eE;split<;>exact⟨rfl,rfl,rfl,rfl,rfl,rfl⟩
theorem Gv{m:ab}(h:aY m)(h1:P1 m):P1 (ga m)/\(ga m=m\/((ga m).ak=m.ak/\(ga m).au=m.au/\bd m.ar (ga m).ar=true/\m.aa.ae<=(ga m).aa.ae)):=by
 unfold ga;split
 ·exact⟨h1,.inl rfl⟩
 ·rename_i hc;rcases OE h h1 with e|⟨hf,hl,hp⟩
  ·exact absurd (.inr (.inr (by rw[e];exact bO))) hc
  ·obtain⟨g1,g2,g3,g4,g5⟩:=Wa h1 hf hl hp;obtain⟨v1,v2,v3,v4⟩:=LZ (vB m (iQ m)) (iQ m);exact⟨Sz g1 hf g4,.inr ⟨v1.trans g2,v2.trans g3,by rw[v3,g4];exact hl,by rw[v4];exact g5⟩⟩
theorem Hm{m:ab}(h:aY m):aY (ga m):=by
 rcases h.body with h0|h1|h2|h3
 ·rw[oU (.inr (.inl (by rw[h0.aG];exact bO)))];exact h
 ·exact xJ h (rX m).all (.inr (.inl (Gv h h1).1))
 ·rw[oU (.inl (by rw[h2.aE];decide))];exact h
 ·rw[oU (.inl (by rw[h3.aE];decide))];exact h
theorem uc{m:ab}(h:aY m)(v:ByteArray):∀x∈cm (aS m) v,1<=x/\x<=1000:=HQ h.ev.n3.1 h.ev.n3.2 v
theorem Pv{m:ab}(h:aY m):∀v∈gy (aS m),1<=v.size/\v.size<=200:=by
 intro v hv;obtain⟨e,he,h1,h2⟩:=((sy h.ev.n3.1.bb h.ev.n3.2).2.2.2 v).1 hv;rw[h2];exact De h1
theorem Nd{m:ab}(h:aY m){x:ByteArray->Int->Int->Bool}{p q:af}:(fT x (aS m) p q).1=false\/(cn (fT x (aS m) p q).2/\(fT x (aS m) p q).2.Value∈gy (aS m)/\(fT x (aS m) p q).2.ae∈cm (aS m) (fT x (aS m) p q).2.Value/\
  mU p q (fT x (aS m) p q).2.Value (fT x (aS m) p q).2.ae=false/\x (fT x (aS m) p q).2.Value (fT x (aS m) p q).2.ae (fT x (aS m) p q).2.ae=true):=by
 let G:Bool×af->Prop:=fun s=>s.1=false\/(cn s.2/\s.2.Value∈gy (aS m)/\s.2.ae∈cm (aS m) s.2.Value/\mU p q s.2.Value s.2.ae=false/\x s.2.Value s.2.ae s.2.ae=true)
 have inner:∀(v:ByteArray),v∈gy (aS m)->∀(b:List Int),(∀n∈b,n∈cm (aS m) v)->∀s,G s->G (b.foldl (pz x p q v) s):=by
  intro v hv b
  induction b with
  |nil=>intro _ s hs;exact hs
  |cons n b ih=>
   intro hb s hs;rw[QU];refine ih (fun k hk=>hb k (Qy _ hk)) _ ?_
   unfold pz;split
   ·rename_i hc;simp only[Qm,Bool.not_eq_true']at hc;have hn:=hb n Qx;have h1:=uc h v n hn;have h2:=Pv h v hv;exact .inr ⟨⟨h1.1,h1.2,h2.1,h2.2⟩,hv,hn,hc.1.2,hc.2⟩
   ·exact hs
 have outer:∀(vs:List ByteArray),(∀v∈vs,v∈gy (aS m))->∀s,G s->G (vs.foldl (fun s v=>(cm (aS m) v).foldl (pz x p q v) s) s):=by
  intro vs
  induction vs with
  |nil=>intro _ s hs;exact hs
  |cons v vs ih=>
   intro hv s hs;rw[QU];exact ih (fun u hu=>hv u (Qy _ hu)) _ (inner v (hv v Qx) _ (fun n hn=>hn) s hs)
 exact outer _ (fun v hv=>hv) (false,⟨0,il⟩) (.inl rfl)
structure WA (m:ab) (v:ByteArray) (lo hi:Int):Prop where
 fin:cn ⟨hi,v⟩
 U1:1<=lo
 le:lo<=hi
 val:v∈gy (aS m)
 top:eR m v hi hi=true
 all:eR m v lo hi=true
theorem FJ{m:ab}(h:aY m)(hk:(fA m).2.2.2.1=true):WA m (fA m).1 (fA m).2.1 (fA m).2.2.1:=by
 rcases Nd (x:=eR m) (p:=m.ak) (q:=m.au) h with e|⟨h1,h2,h3,h4,h5⟩
 ·unfold fA ph at hk;rw[e]at hk;cases hk
 ·have hb:(fT (eR m) (aS m) m.ak m.au).1=true:=by
   unfold fA ph at hk;split at hk
   ·assumption
   ·cases hk
  have e:fA m=((fT (eR m) (aS m) m.ak m.au).2.Value,dX (fun n=> !mU m.ak m.au (fT (eR m) (aS m) m.ak m.au).2.Value n&&eR m (fT (eR m) (aS m) m.ak m.au).2.Value n (fT (eR m) (aS m) m.ak m.au).2.ae) (cm (aS m) (fT (eR m) (aS m) m.ak m.au).2.Value).reverse (fT (eR m) (aS m) m.ak m.au).2.ae,(fT (eR m) (aS m) m.ak m.au).2.ae,true,()):=by
   unfold fA ph;rw[Qr hb]
  rw[e];refine⟨h1,w9 _ _ _ (fun x hx=>(uc h _ x (List.mem_reverse.1 hx)).1) h1.1,pn _ _ _,h2,h5,?_⟩
  simp only;rcases w8 (fun n=> !mU m.ak m.au (fT (eR m) (aS m) m.ak m.au).2.Value n&&eR m (fT (eR m) (aS m) m.ak m.au).2.Value n (fT (eR m) (aS m) m.ak m.au).2.ae) (cm (aS m) (fT (eR m) (aS m) m.ak m.au).2.Value).reverse (fT (eR m) (aS m) m.ak m.au).2.ae with e|⟨e,_⟩
  ·rw[e];exact h5
  ·rw[Qm]at e;exact e.2
theorem J4{m:ab}(hb0:m.aa=bK\/cn m.aa)(hp0:m.ak=bK\/cn m.ak){v:ByteArray}{lo hi:Int}(hf:cn ⟨hi,v⟩)(hlo:1<=lo)(hle:lo<=hi):P2 (Eu m v lo hi):=by
 unfold Eu
 have hmax:cn ⟨bn m.aa.ae hi,v⟩:=by
  rcases hb0 with e|h2
  ·have:bn m.aa.ae hi=hi:=by
    have h3:=hf.1;simp only at h3;have h4:m.aa.ae=0:=by rw[e];rfl
    unfold bn;split<;>omega
   rw[this];exact hf
  ·have:bn m.aa.ae hi=m.aa.ae\/bn m.aa.ae hi=hi:=by unfold bn;split<;>simp
   rcases this with e|e<;>rw[e]
   ·exact⟨h2.1,h2.2.1,hf.2.2⟩
   ·exact hf
 have hbv:∀b:af,b=(if(!bI m.aa ⟨hi,v⟩||bd m.aa ⟨hi,v⟩)=true then⟨bn m.aa.ae hi,v⟩else m.aa)->cn b/\b.Value=v:=by
  intro b hb;split at hb
  ·rw[hb];exact⟨hmax,rfl⟩
  ·rename_i hc;rw[hb];simp only[Qn,Bool.not_eq_true',not_or,Bool.not_eq_false]at hc;refine⟨hb0.resolve_left (fun e=> ?_),iq.1 hc.1⟩
   have:=iq.1 hc.1;rw[e]at this;exact hf.ne this.symm
 obtain⟨b1,b2⟩:=hbv _ rfl
 have hpv:∀p:af,p=(if js m.ak ⟨hi,v⟩=true then m.ak else⟨hi,v⟩)->cn p/\p.Value=v/\hi<=p.ae:=by
  intro p hp;split at hp
  ·rename_i hc;rw[hp];obtain⟨g1,g2,g3⟩:=(ja _ _).1 hc;refine⟨?_,g2,g3⟩;rcases hp0 with e|e
   ·rw[e,bO]at g1;cases g1
   ·exact e
  ·rw[hp];exact⟨hf,rfl,Int.le_refl _⟩
 obtain⟨p1,p2,p3⟩:=hpv _ rfl;exact⟨rfl,b1,⟨p1,p2.trans b2.symm⟩,rfl,.inr ⟨hf,b2.symm⟩,⟨hlo,hle,p3⟩⟩
theorem JJ{m:ab}(h:aY m)(h2:P2 m):1<=(dy m).1/\(dy m).1<=(dy m).2/\(dy m).2<=1000/\(((dy m).2=m.bg/\(dy m).1<=m.aQ)\/m.bg<(dy m).2):=by
 have hr:=h2.range;have hH:m.bg<=1000:=by have:=h2.cP.1.2.1;omega
 have hb:∀x∈(cm (aS m) m.aa.Value).reverse,1<=x:=fun x hx=>(uc h _ x (List.mem_reverse.1 hx)).1
 unfold dy JK;split
 ·refine⟨w9 _ _ _ hb hr.1,?_,hH,.inl ⟨rfl,pn _ _ _⟩⟩;exact Int.le_trans (pn _ _ _) hr.2.1
 ·rename_i n hn;have hnb:=uc h _ n (List.mem_reverse.1 (List.mem_of_find?_eq_some hn));have hnp:=List.find?_some hn;simp only[Qm,Qi]at hnp;have h5:1<=dX (fun x=>eR m m.aa.Value x n) (cm (aS m) m.aa.Value).reverse n:=w9 _ _ _ hb hnb.1
  have h6:=pn (fun x=>eR m m.aa.Value x n) (cm (aS m) m.aa.Value).reverse n
  simp only;refine⟨w9 _ _ _ hb ?_,?_,hnb.2,.inr hnp.1⟩
  ·split
   ·exact h5
   ·exact hr.1
  ·refine Int.le_trans (pn _ _ _) ?_;split
   ·exact h6
   ·omega
theorem MU{m:ab}(h2:P2 m){lo hi:Int}(hlo:1<=lo)(hle:lo<=hi)(hhi:hi<=1000):P2 (tz m lo hi):=by
 unfold tz;have hb:=h2.aG;have hp:=h2.cP;have e1:∀c:Int,bn c hi=c\/bn c hi=hi:=fun c=>by unfold bn;split<;>simp
 have e2:∀c:Int,hi<=bn c hi:=fun c=>by unfold bn;split<;>omega
 have mx:∀c:Int,c<=1000->cn ⟨bn c hi,m.aa.Value⟩:=by
  intro c hc;refine⟨by have:=e2 c;simp only;omega,?_,hb.2.2.1,hb.2.2.2⟩
  rcases e1 c with e|e<;>simp only[e]<;>omega
 refine⟨h2.aE,mx _ hb.2.1,⟨?_,?_⟩,h2.bC,.inr ⟨mx _ ?_,rfl⟩,⟨hlo,hle,e2 _⟩⟩
 ·show cn ⟨bn m.ak.ae hi,m.ak.Value⟩;rw[hp.2];exact mx _ hp.1.2.1
 ·exact hp.2
 ·rcases h2.dq with e|e
  ·rw[e];decide
  ·exact e.1.2.1
theorem Hq{m:ab}(h:aY m):aY (fE m):=by
 refine xJ h (rZ m).all ?_;unfold fE;rcases h.body with h0|h1|h2|h3
 ·rw[Qr h0.aE];split
  ·rename_i hk;have hf:=FJ h hk;exact .inr (.inr (.inl (J4 (.inl h0.aG) (.inl h0.cP) hf.fin hf.U1 hf.le)))
  ·exact .inl h0
 ·rw[Qr h1.aE];split
  ·rename_i hk;have hf:=FJ h hk;exact .inr (.inr (.inl (J4 (.inr h1.aG) h1.cP hf.fin hf.U1 hf.le)))
  ·exact .inr (.inl h1)
 ·rw[Qs (by rw[h2.aE];decide),Qr h2.aE]
  have:=JJ h h2;exact .inr (.inr (.inl (MU h2 this.1 this.2.1 this.2.2.1)))
 ·rw[Qs (by rw[h3.aE];decide),Qs (by rw[h3.aE];decide)]
  exact .inr (.inr (.inr h3))
theorem Vg{m:ab}(h:aY m)(hk:(kU m).2.2.1=true):1<=(kU m).1/\(kU m).1<=(kU m).2.1/\(kU m).2.1<=1000/\zt m m.aa.Value (kU m).1 (kU m).2.1=true:=by
 unfold kU w6 at hk ⊢;split at hk
 ·rename_i n hn;have hnb:=uc h _ n (List.mem_reverse.1 (List.mem_of_find?_eq_some hn));have hs:=List.find?_some hn;simp only;refine⟨w9 _ _ _ (fun x hx=>(uc h _ x (List.mem_reverse.1 hx)).1) hnb.1,pn _ _ _,hnb.2,?_⟩
  rcases w8 (fun x=>zt m m.aa.Value x n) (cm (aS m) m.aa.Value).reverse n with e|⟨e,_⟩
  ·rw[e];exact hs
  ·exact e
 ·cases hk
theorem Li{m:ab}(h:aY m)(h2:P2 m)(hk:(kU m).2.2.1=true):P3 (CF m (kU m).1 (kU m).2.1):=by
 obtain⟨g1,g2,g3,_⟩:=Vg h hk;unfold CF;exact⟨rfl,⟨by simp only;omega,g3,h2.aG.2.2.1,h2.aG.2.2.2⟩,rfl,rfl,rfl,⟨g1,g2,g3⟩⟩
theorem Hp{m:ab}(h:aY m):aY (iX m):=by
 refine xJ h (rY m).all ?_;unfold iX;split
 ·rename_i hc;rcases h.body with h0|h1|h2|h3
  ·have:=h0.aE;have:=hc.1;omega
  ·have:=h1.aE;have:=hc.1;omega
  ·exact .inr (.inr (.inr (Li h h2 hc.2)))
  ·have:=h3.aE;have:=hc.1;omega
 ·exact h.body
theorem ML{z:af}:∀{l:List af},l≠[]->FI z l∈l
 |[],h=>absurd rfl h
 |x::l,_=>by
  show l.foldl (fun a y=>if bd a y=true then y else a) x∈x::l
  suffices key:∀(l:List af) (a:af),l.foldl (fun a y=>if bd a y=true then y else a) a=a\/l.foldl (fun a y=>if bd a y=true then y else a) a∈l by
   rcases key l x with e|e
   ·rw[e];exact Qx
   ·exact Qy _ e
  intro l
  induction l with
  |nil=>intro a;exact .inl rfl
  |cons y l ih=>
   intro a;rw[QU];rcases ih (if bd a y=true then y else a)with e|e
   ·rw[e];split
    ·exact .inr Qx
    ·exact .inl rfl
   ·exact .inr (Qy _ e)
theorem SP{t:an}(h:ir t){s:Nat}(hs:∀k,k<10->s.testBit k=true):km s t=true:=by
 have hn:∀x:Int,0<=x->x<10->jx s x=true:=by
  intro x h0 h1;unfold jx eV;rw[Qg h0,Qg h1,hs _ (by omega)]
  rfl
 have hc:t.a8.countP (jx s)=t.a8.length:=List.countP_eq_length.2 fun x hx=>hn x (h.nodes x hx).1 (h.nodes x hx).2
 have hi:q9 s t.aM=t.aM.length:=by
  rcases h.inner with e|⟨x,h0,h1,e⟩
  ·rw[e];rfl
  ·rw[e]
   have:km s ⟨1,[x],[]⟩=true:=by
    rw[Cl];simp[List.countP_cons,hn x h0 h1,q9]
   simp[q9,this]
 rw[Cl,hc,hi,Qi];have:=h.th.2;omega
theorem No{m:ab}(h:aY m){n:Int}(ha:hU m n=true):∃e∈m.aB,n<fo e:=by
 refine Classical.byContradiction fun hno=> ?_
 have hz:ze m n=0:=by
  refine yG fun k=> ?_
  unfold ze;rw[q5,Nat.zero_testBit,List.any_eq_false];intro e he;have:¬n<fo e:=fun hlt=>hno ⟨e,he,hlt⟩
  simp[this]
 unfold hU ud at ha;rw[hz,Qm]at ha
 have hown:k9 (fu m.aq.toNat m.ao (aS m)) m.aq.toNat=m.ao:=by
  unfold k9;rw[AY h.ev.az.2 m.ao (aS m) h.ev.az.2,Qr rfl];rfl
 rw[hown,SP h.bb (fun k hk=>by rw[zK (by omega)];simp[hk])]at ha
 cases ha.2
theorem K8{m:ab}(h:aY m)(h1:m.aJ=1)(hc:m.ar=bK\/cn m.ar)(hh:m.aB≠[]\/m.bh≠il\/m.ar≠bK):1<=(dJ m).size/\(dJ m).size<=200:=by
 unfold dJ;split
 ·rename_i hz;rcases hc with e|e
  ·rw[e,bO]at hz;cases hz
  ·exact e.2.2
 ·rename_i hz;have hz:aI m.ar=true:=by simpa using hz
  rw[Qs (fun h=>h h1)]
  split
  ·rename_i hp;refine⟨?_,h.sJ⟩;rcases Nat.eq_zero_or_pos m.bh.size with e|e
   ·exfalso;apply hp;have:m.bh.data=#[]:=Array.eq_empty_of_size_eq_zero e
    cases hm:m.bh with
    |mk d=>rw[hm]at this;simp only at this;rw[this];rfl
   ·exact e
  ·rename_i hp
   have hne:m.aB≠[]:=by
    rcases hh with e|e|e
    ·exact e
    ·exact absurd e hp
    ·exact absurd (rP.1 hz) e
   have hm:=ML (z:=bK) (l:=m.aB.map (·.aa)) (by simpa using hne)
   obtain⟨e,he,heq⟩:=QP.1 hm;rw[<-heq];exact De (h.hv e he).1
theorem OW{e:ai}(hv:bm e=true):1<=fo e/\(fo e<=1000\/fo e=1000000):=by
 unfold fo;split
 ·exact⟨by decide,.inr rfl⟩
 ·rename_i h3;have hv':=hv;unfold bm ng at hv';rw[Qm,Qm]at hv';have hb:=hv'.2
  have gof:∀{b:af},finite b=true->1<=b.ae/\b.ae<=1000:=by
   intro b hb;unfold finite at hb;rw[Qm,Qi]at hb;have:=(LB hb.1 hb.2);exact⟨this.1,this.2.1⟩
  by_cases h1:e.bW=1
  ·rw[Qr h1]at hb;unfold gg at hb;simp only[Qm]at hb;have:=gof hb.1.1.1.1.1.1.1.1;exact⟨this.1,.inl this.2⟩
  ·rw[Qs h1]at hb
   by_cases h2:e.bW=2
   ·rw[Qr h2]at hb;unfold xa at hb;simp only[Qm]at hb;have:=gof hb.1.1.1.1.1;exact⟨this.1,.inl this.2⟩
   ·rw[Qs h2,Qs h3]at hb;cases hb
theorem O5(m:ab):fj m=1000000\/(m.aa.ae<fj m/\fj m<1000000/\hU m (fj m)=false/\∃e∈m.aB,fj m=fo e):=by
 unfold fj
 suffices key:∀(l:List ai),(∀e∈l,e∈m.aB)->∀s,(s=1000000\/(m.aa.ae<s/\s<1000000/\hU m s=false/\∃e∈m.aB,s=fo e))->
   (l.foldl (ka m) s=1000000\/(m.aa.ae<l.foldl (ka m) s/\l.foldl (ka m) s<1000000/\hU m (l.foldl (ka m) s)=false/\∃e∈m.aB,l.foldl (ka m) s=fo e))from key _ (fun e he=>he) _ (.inl rfl)
 intro l
 induction l with
 |nil=>intro _ s hs;exact hs
 |cons x l ih=>
  intro hm s hs;rw[QU];refine ih (fun e he=>hm e (Qy _ he)) _ ?_
  unfold ka;split
  ·rename_i hc;exact .inr ⟨hc.1,by rcases hs with e|e<;>omega,hc.2.2,x,hm x Qx,rfl⟩
  ·exact hs
theorem BY{m:ab}(h:aY m)(hb:0<=m.aa.ae/\m.aa.ae<=1000):m.aa.ae<=bn m.aa.ae (dp (fj m) 1000)/\bn m.aa.ae (dp (fj m) 1000)<=1000/\1<=bn m.aa.ae (dp (fj m) 1000)/\
  (bn m.aa.ae (dp (fj m) 1000)=m.aa.ae->m.aa.ae=1000)/\bn m.aa.ae (dp (fj m) 1000)=dp (fj m) 1000:=by
 have hmin:dp (fj m) 1000<=1000/\1<=dp (fj m) 1000/\(m.aa.ae<dp (fj m) 1000\/dp (fj m) 1000=1000):=by
  rcases O5 m with e|⟨g1,g2,_,x,hx,g4⟩
  ·rw[e];exact⟨by decide,by decide,.inr (by decide)⟩
  ·have hc:=OW (h.hv x hx).1;rw[<-g4]at hc;have:fj m<=1000:=by omega
   have e:dp (fj m) 1000=fj m:=by unfold dp;split<;>omega
   rw[e];omega
 unfold bn;split<;>omega
theorem Gw{m:ab}(h:aY m)(h1:P0 m\/P1 m)(ha:hU m m.aa.ae=true):P1 (eE m):=by
 have hph:m.aJ=1:=by rcases h1 with h|h<;>exact h.aE
 have hbc:0<=m.aa.ae/\m.aa.ae<=1000:=by
  rcases h1 with h|h
  ·rw[h.aG];decide
  ·have:=h.aG;exact⟨by have:=this.1;omega,this.2.1⟩
 obtain⟨c1,c2,c3,_⟩:=BY h hbc;obtain⟨e0,he0,_⟩:=No h ha
 have hconf:m.ar=bK\/cn m.ar:=by
  rcases h1 with h|h
  ·exact .inl h.dq
  ·exact h.dq.imp id (·.1)
 have hv:=K8 h hph hconf (.inl (List.ne_nil_of_mem he0));unfold eE;rw[Qs (by rw[hph,ha];decide)]
 have hnv:lR m=dJ m:=Qr hph;rw[hnv];generalize hn:bn m.aa.ae (dp (fj m) 1000)=n at c1 c2 c3 ⊢
 have hpo:oe m.ak m.au:=by
  rcases h1 with h|h
  ·exact⟨.inl h.cP,.inl h.bC⟩
  ·exact h.gg
 refine⟨hph,⟨c3,c2,hv.1,hv.2⟩,hpo.1,hpo.2,?_,?_,?_,?_⟩
 ·rcases h1 with h|h
  ·exact .inl h.dq
  ·exact h.dq
 ·show bd ⟨n,dJ m⟩ m.ar=false;rcases hconf with e|e
  ·rw[e]
   cases hl:bd ⟨n,dJ m⟩ bK with
   |false=>rfl
   |true=>have:=fY hl;have h0:(bK:af).ae=0:=rfl;simp only at this;omega
  ·have hvc:dJ m=m.ar.Value:=by unfold dJ;rw[Qr e.nz]
   rw[zV (show(⟨n,dJ m⟩:af).Value=m.ar.Value from hvc),Qj]
   rcases h1 with h|h
   ·exact absurd h.dq (Eh e)
   ·have:=DV h.up;simp only;omega
 ·rcases h1 with h|h<;>exact h.bU
 ·show(if dJ m=m.aa.Value then m.aQ else 0)=0\/(1<=(if dJ m=m.aa.Value then m.aQ else 0)/\_<=_/\mU m.ak m.au (dJ m) (if dJ m=m.aa.Value then m.aQ else 0)=false)
  split
  ·rename_i hve;rcases h1 with h|h
   ·exact .inl h.low
   ·rcases h.low with e|⟨g1,g2,g3⟩
    ·exact .inl e
    ·refine .inr ⟨g1,?_,by rw[hve];exact g3⟩
     have:eH {m with aQ:=m.aQ,aa:=⟨n,dJ m⟩}=eH m:=by
      unfold eH bI;simp only[hve]
     show m.aQ<=eH {m with aQ:=m.aQ,aa:=⟨n,dJ m⟩}
     rw[this];exact g2
  ·exact .inl rfl
theorem Lh{m:ab}(h:aY m)(h2:P2 m):P2 (eE m):=by
 unfold eE;split
 ·exact h2
 ·obtain⟨c1,c2,c3,_⟩:=BY h ⟨by have:=h2.aG.1;omega,h2.aG.2.1⟩
  have hnv:lR m=m.aa.Value:=Qs (by rw[h2.aE];decide)
  rw[hnv,Qr rfl];exact⟨h2.aE,⟨c3,c2,h2.aG.2.2⟩,h2.cP,h2.bC,h2.dq,h2.range⟩
theorem Ho{m:ab}(h:aY m):aY (eE m):=by
 have hid:m.aJ=3\/hU m m.aa.ae=false->eE m=m:=fun hc=>Qr hc
 cases ha:hU m m.aa.ae with
 |false=>rw[hid (.inr ha)];exact h
 |true=>
  refine xJ h (xC m).all ?_;rcases h.body with h0|h1|h2|h3
  ·exact .inr (.inl (Gw h (.inl h0) ha))
  ·exact .inr (.inl (Gw h (.inr h1) ha))
  ·exact .inr (.inr (.inl (Lh h h2)))
  ·rw[hid (.inl h3.aE)];exact .inr (.inr (.inr h3))
end
end Go.Proofs.YtjbfdglebjnelaaGreat
end
