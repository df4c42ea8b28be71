/-
  Texts made small by a program (see NOTES). Conditions: those that each theorem names.
-/
import Derived.Test.YtjbfdglebjnelaaGreatSlotSaysMf
set_option linter.unusedVariables false
set_option linter.unusedSimpArgs false
set_option linter.unusedSectionVars false
set_option maxHeartbeats 2000000
noncomputable section
namespace Go.Proofs.YtjbfdglebjnelaaGreat
open Go.TQ
section
def gT(n:Nat)(k:Int)(i s:Nat):Bool:=s.testBit i&&decide (k<=(((wM n).countP (mo s):Nat):Int))
def bT(n:Nat)(k:Int)(i s:Nat):Bool:= !decide (k<=(((wM n).countP (mo (AD s i)):Nat):Int))
structure xT (n:Nat) (k:Int) (m:ab):Prop where
 n10:n<=10
 k1:1<=k
 kn:k<=n
 aL:m.aj=flat n k
 heard:∀e∈m.aq,e.aj=flat n k
theorem xT.all{n:Nat}{k:Int}{m:ab}(hf:xT n k m){e:ai}(he:e∈bg m):e.aj=flat n k:=by
 rcases A7 he with he|⟨_,rfl⟩
 ·exact hf.heard e he
 ·rw[GA];exact hf.aL
section
variable {n : Nat} {k : Int} {m : ab} (h : bp m) (hf : xT n k m)
 include h
theorem Aw:bW (bg m)=bg m:=Nd h.mj
 include hf
theorem TH{j:Nat}(hj:j<10)(hs:j=m.an.toNat\/∃e∈bg m,e.an.toNat=j):oA (gD m.an.toNat m.aj (bg m)) j=true/\mJ (gD m.an.toNat m.aj (bg m)) j=flat n k:=
 Zn h.ev.aB.2 (fun _=>flat n k) hf.aL.symm (fun e he=>by rw[Aw h]at he;exact hf.all he) hj (by rw[Aw h];exact hs)
theorem YA{s:Nat}(hs:∀j,s.testBit j=true->∃e∈bg m,e.an.toNat=j):(gq (gD m.an.toNat m.aj (bg m)) s).testBit m.an.toNat=gT n k m.an.toNat s:=by
 have hs10:∀j,s.testBit j=true->j<10:=fun j hj=>by
  obtain⟨e,he,rfl⟩:=hs j hj;have:=jk (h.mj e he);omega
 have hg:=CL (mI (aB:=m.an.toNat) h.aL.sm h.ev.my.1) (FB hs10);have hi:=TH h hf h.ev.aB.2 (.inl rfl);unfold gT;rw[QW,Qm,Qi];constructor
 ·intro hb;have h1:=hg.inside _ hb;refine⟨h1.1,?_⟩;have h3:=h1.2.2;rw[hi.2,LI]at h3;have h3:=of_decide_eq_true h3;have h2:=YR (s':=s) (fun j hj=>(hg.inside j hj).1) (wM n)
  omega
 ·rintro⟨hb,hc⟩;refine hg.max s (fun j hj=> ?_) _ hb
  obtain⟨g1,g2⟩:=TH h hf (hs10 j hj) (.inr (hs j hj));exact⟨hj,g1,by rw[g2,LI];exact Qg hc⟩
theorem acu(s:Nat):wB (gD m.an.toNat m.aj (bg m)) m.an.toNat s=bT n k m.an.toNat s:=by
 obtain⟨g1,g2⟩:=TH h hf h.ev.aB.2 (.inl rfl);unfold wB bT;rw[g1,g2,LI,Bool.true_and]
end
theorem JH{p:ai->Bool}{l:List ai}{j:Nat}(hb:(dL p l).testBit j=true):∃e∈l,e.an.toNat=j:=by
 rw[xX,List.any_eq_true]at hb;obtain⟨e,he,hp⟩:=hb;rw[Qm,Qi]at hp;exact⟨e,he,hp.2⟩
theorem Tq{p q:ai->Bool}{l:List ai}{j:Nat}(hb:(dL p l|||dL q l).testBit j=true):∃e∈l,e.an.toNat=j:=by
 rw[Nat.testBit_or,Qn]at hb;rcases hb with hb|hb
 ·exact JH hb
 ·exact JH hb
def VF(n:Nat)(k:Int)(i:Nat)(l:List ai)(b:af):Bool:=bT n k i (dL (dn · b) l)||gT n k i (dL (fun e=>qF e b||dn e b) l|||dL (dn · b) l)
def OG(n:Nat)(k:Int)(i:Nat)(l:List ai)(b:af):Bool:=gT n k i (dL (dn · b) l)
def uT(n:Nat)(k:Int)(i:Nat)(l:List ai)(v:ByteArray)(lo hi:Int):Bool:=bT n k i (dL (fR · v lo hi) l)||gT n k i (dL (fun e=>tK e v lo hi||fR e v lo hi) l|||dL (fR · v lo hi) l)
def MR(n:Nat)(k:Int)(i:Nat)(l:List ai)(v:ByteArray)(lo hi:Int):Bool:=gT n k i (dL (fR · v lo hi) l)
def acV(e:ai):List af:=if e.bF=1 then[e.aa,e.ao,e.az]else if e.bF=2 then[e.ao,at_ e 1000000]else[at_ e 1000000]
def vD(l:List ai):List af:=((l.flatMap acV).filter fun b=> !aF b).foldl (fun l x=>dH (fun x y=>bz y x) x l) []
def O9(l:List ai):List ByteArray:=(l.map (·.aa.Value)).foldl (fun l x=>dH bJ x l) []
def Tl(v:ByteArray)(e:ai):List Int:=if e.aa.Value=v/\e.aS≠0 then[e.aS,e.bl]else[]
def uf(l:List ai)(v:ByteArray):List Int:=(l.flatMap (Tl v)).foldl (fun l x=>dH (fun a b=>decide (a<b)) x l) []
section
variable {l : List ai} (hv : ∀ e ∈ l, aU e = true) (hsm : ∀ e ∈ l, cQ e.aj) (hlen : l.length <= 1000)
 include hv hsm hlen
theorem Sp:eX l=vD l:=by
 obtain⟨_,h2,_,h4⟩:=nc hsm hlen;obtain⟨h5,h6⟩:=BO Bb.flip ((l.flatMap acV).filter fun b=> !aF b) [] .nil
 refine Bb.flip.unique h2 h5 fun x=> ?_
 unfold vD;rw[h4,h6];simp only[List.mem_filter,QQ,QR,or_false,Bool.not_eq_true'];constructor
 ·rintro⟨e,he,hx,hz⟩;refine⟨⟨e,he,?_⟩,hz⟩;unfold said at hx;rw[hv e he]at hx;exact hx
 ·rintro⟨⟨e,he,hx⟩,hz⟩;refine⟨e,he,?_,hz⟩;unfold said;rw[hv e he];exact hx
theorem aa8:gr l=O9 l:=by
 obtain⟨_,h2,_,h4⟩:=s4 hsm hlen;obtain⟨h5,h6⟩:=BO iu (l.map (·.aa.Value)) [] .nil;refine iu.unique h2 h5 fun x=> ?_
 unfold O9;rw[h4,h6];simp only[QP,QR,or_false];constructor
 ·rintro⟨e,he,_,rfl⟩;exact⟨e,he,rfl⟩
 ·rintro⟨e,he,rfl⟩;exact⟨e,he,hv e he,rfl⟩
theorem MK:br l=uf l:=by
 funext v
 obtain⟨_,h2,_,h4⟩:=iX hsm hlen v;obtain⟨h5,h6⟩:=BO CU (l.flatMap (Tl v)) [] .nil;refine CU.unique (h2.imp fun hab=>Qg hab) h5 fun x=> ?_
 unfold uf;rw[h4,h6,AI];simp only[QQ,QR,or_false];constructor
 ·rintro⟨e,he,hb,hx⟩;refine⟨e,he,?_⟩;simp only[iP,Qm,Qi,Bool.not_eq_true',Qj]at hb;unfold Tl;rw[Qr ⟨hb.1.2,hb.2⟩];simpa using hx
 ·rintro⟨e,he,hx⟩;unfold Tl at hx;split at hx
  ·rename_i hc;refine⟨e,he,?_,by simpa using hx⟩
   simp only[iP,Qm,Qi,Bool.not_eq_true',Qj];exact⟨⟨hv e he,hc.1⟩,hc.2⟩
  ·cases hx
end
section
variable {n : Nat} {k : Int} {m : ab} (h : bp m) (hf : xT n k m)
 include h hf
theorem ahX:lE m.an.toNat m.aj (bg m)=VF n k m.an.toNat (bg m):=by
 funext b
 unfold lE kL VF;rw[Aw h,acu h hf,YA h hf fun j hj=>Tq hj]
theorem agI:kv m.an.toNat m.aj (bg m)=OG n k m.an.toNat (bg m):=by
 funext b
 unfold kv OG;rw[Aw h,YA h hf fun j hj=>JH hj]
theorem WJ:gI m=uT n k m.an.toNat (bg m):=by
 funext v lo hi
 unfold gI mi kL uT;rw[Aw h,acu h hf,YA h hf fun j hj=>Tq hj]
theorem afy:Ge m=MR n k m.an.toNat (bg m):=by
 funext v lo hi
 unfold Ge tq MR;rw[Aw h,YA h hf fun j hj=>JH hj]
end
def aaS(x:ByteArray->Int->Int->Bool)(p q:af)(v:ByteArray)(s:Bool×af)(n:Int):Bool×af:=
 if bz s.2 ⟨n,v⟩&& !nv p q v n&&x v n n then(true,⟨n,v⟩)else s
def To(x:ByteArray->Int->Int->Bool)(l:List ai)(p q:af):Bool×af:=
 (O9 l).foldl (fun s v=>(uf l v).foldl (aaS x p q v) s) (false,⟨0,fH⟩)
def OA(x:ByteArray->Int->Int->Bool)(l:List ai)(p q:af)(s:Bool×af):ByteArray×Int×Int×Bool×Unit:=
 if s.1 then(s.2.Value,cF (fun n=> !nv p q s.2.Value n&&x s.2.Value n s.2.ak) (uf l s.2.Value).reverse s.2.ak,s.2.ak,true,())else(fH,0,0,false,())
def ab6(b:List Int)(ready:Int->Int->Bool)(low bU:Int):Int×Int:=
 match b.reverse.find? (fun n=>decide (bU<n)&&ready n n)with
 |none=>(cF (fun x=>ready x bU) b.reverse low,bU)
 |some n=>
  let bottom:=cF (fun x=>ready x n) b.reverse n
  (cF (fun x=>ready x n) b.reverse (if bU<bottom - 1\/bottom<low then bottom else low),n)
def ZR(nx:af)(m:ab):ab:=
 if m.aK=3\/aF m.aa=true then m else
  {m with ao:=(c9 m.ao m.az (dM nx)).1,az:=(c9 m.ao m.az (dM nx)).2,aS:=sq m (c9 m.ao m.az (dM nx)).1 (c9 m.ao m.az (dM nx)).2}
def ZQ(hg:af)(m:ab):ab:=if m.aK≠1\/aF m.aa=true\/aF hg=true then m else qa (BP m hg) hg
def ZT(fs:ByteArray×Int×Int×Bool×Unit)(ex:Int×Int)(m:ab):ab:=
 if m.aK=1 then(if fs.2.2.2.1=true then Jn m fs.1 fs.2.1 fs.2.2.1 else m)
 else if m.aK=2 then Ar m ex.1 ex.2 else m
def ZS(fn:Int×Int×Bool×Unit)(m:ab):ab:=if m.aK=2/\fn.2.2.1=true then Kc m fn.1 fn.2.1 else m
def acq(ah:Int->Bool)(m:ab):Int:=m.aq.foldl (fun AY e=>if m.aa.ak<eJ e/\eJ e<AY/\ah (eJ e)=false then eJ e else AY) 1000000
def ac5(m:ab):ByteArray:=if m.aK=1 then dO m else m.aa.Value
def T9(ah:Int->Bool)(m:ab):ab:=
 if m.aK=3\/ah m.aa.ak=false then m
 else{m with aS:=if ac5 m=m.aa.Value then m.aS else 0,aa:=⟨bC m.aa.ak (de (acq ah m) 1000),ac5 m⟩}
def OX(n:Nat)(k:Int)(m:ab)(c:Int):Bool:=bT n k m.an.toNat (DN m c)
def JX(m p r:ab):ab:=bif Bc m p then r else p
def stepT(n:Nat)(k:Int)(m:ab):ab:=
 JX m (ZR (((vD (bg m)).find? (xJ (VF n k m.an.toNat (bg m)) m.ao m.az (D7 m))).getD Al) m)<|
 JX m (ZQ (((vD (bg m)).find? (xL (OG n k m.an.toNat (bg m)) m.ax)).getD Al) m)<|
 JX m (ZT (OA (uT n k m.an.toNat (bg m)) (bg m) m.ao m.az (To (uT n k m.an.toNat (bg m)) (bg m) m.ao m.az)) (ab6 (uf (bg m) m.aa.Value) (uT n k m.an.toNat (bg m) m.aa.Value) m.aS m.bl) m)<|
 JX m (ZS (xu (uf (bg m) m.aa.Value) (MR n k m.an.toNat (bg m) m.aa.Value)) m)<|
 T9 (OX n k m) m
open Classical in
theorem JW{m m' r:ab}(he:ir m m'):JX m m' r=if m'=m then r else m':=by
 unfold JX
 by_cases h:m'=m
 ·rw[Qr h,h,vY];rfl
 ·rw[Qs h,AG he h];rfl
section
variable {n : Nat} {k : Int} {m : ab} (h : bp m) (hf : xT n k m)
 include h hf
theorem ahw:eL m=((vD (bg m)).find? (xJ (VF n k m.an.toNat (bg m)) m.ao m.az (D7 m))).getD Al:=by
 unfold eL jC;rw[ahX h hf,Sp h.mj h.ev.my.1.aL h.ev.my.2]
theorem ahB:gA m=((vD (bg m)).find? (xL (OG n k m.an.toNat (bg m)) m.ax)).getD Al:=by
 unfold gA xM;rw[agI h hf,Sp h.mj h.ev.my.1.aL h.ev.my.2]
theorem ahM:fB m=OA (uT n k m.an.toNat (bg m)) (bg m) m.ao m.az (To (uT n k m.an.toNat (bg m)) (bg m) m.ao m.az):=by
 unfold fB pL gV OA To;rw[WJ h hf,MK h.mj h.ev.my.1.aL h.ev.my.2,aa8 h.mj h.ev.my.1.aL h.ev.my.2];rfl
theorem ahQ:eI m=ab6 (uf (bg m) m.aa.Value) (uT n k m.an.toNat (bg m) m.aa.Value) m.aS m.bl:=by
 unfold eI;rw[WJ h hf,MK h.mj h.ev.my.1.aL h.ev.my.2];rfl
theorem ahP:nq m=xu (uf (bg m) m.aa.Value) (MR n k m.an.toNat (bg m) m.aa.Value):=by
 unfold nq;rw[afy h hf,MK h.mj h.ev.my.1.aL h.ev.my.2]
theorem XF:iY m=OX n k m:=by
 funext c
 exact acu h hf _
theorem ad4:fq m=T9 (OX n k m) m:=by
 have e:hY m=acq (OX n k m) m:=by
  unfold hY acq mN;rw[XF h hf]
 unfold fq T9;rw[XF h hf,e];rfl
theorem afA:cn m=stepT n k m:=by
 have eP:ZR (((vD (bg m)).find? (xJ (VF n k m.an.toNat (bg m)) m.ao m.az (D7 m))).getD Al) m=cU m:=by rw[<-ahw h hf];rfl
 have eS:ZQ (((vD (bg m)).find? (xL (OG n k m.an.toNat (bg m)) m.ax)).getD Al) m=fY m:=by rw[<-ahB h hf];rfl
 have eC:ZT (OA (uT n k m.an.toNat (bg m)) (bg m) m.ao m.az (To (uT n k m.an.toNat (bg m)) (bg m) m.ao m.az)) (ab6 (uf (bg m) m.aa.Value) (uT n k m.an.toNat (bg m) m.aa.Value) m.aS m.bl) m=fG m:=by rw[<-ahM h hf,<-ahQ h hf];rfl
 have eF:ZS (xu (uf (bg m) m.aa.Value) (MR n k m.an.toNat (bg m) m.aa.Value)) m=iF m:=by rw[<-ahP h hf];rfl
 unfold cn stepT;rw[eP,eS,eC,eF,<-ad4 h hf,JW (uX m),JW (sX m),JW (sZ m),JW (sY m)]
end
 def zH:Nat->ab->ab
 |0,m=>m
 |j+1,m=>zH j (cn m)
theorem Mo:∀(j:Nat) (m:ab),zH (j+1) m=cn (zH j m)
 |0,_=>rfl
 |j+1,m=>Mo j (cn m)
theorem PN{m:ab}(h:bp m):∀j,bp (zH j m)
 |0=>h
 |j+1=>by rw[Mo];exact yJ (PN h j)
theorem Mp{m:ab}(h:cn m=m):∀j,zH j m=m
 |0=>rfl
 |j+1=>by rw[zH,h];exact Mp h j
theorem PO:∀(i j:Nat) (m:ab),zH (i+j) m=zH j (zH i m)
 |0,j,m=>by rw[Nat.zero_add];rfl
 |i+1,j,m=>by rw[show i+1+j=(i+j)+1 by omega,zH,PO i j];rfl
theorem aew{m:ab}{i j:Nat}(hi:cn (zH i m)=zH i m)(hj:cn (zH j m)=zH j m):zH i m=zH j m:=by
 rcases Nat.le_total i j with hl|hl
 ·have:=PO i (j - i) m;rw[Mp hi]at this;rw[<-this,show i+(j - i)=j by omega]
 ·have:=PO j (i - j) m;rw[Mp hj]at this;rw[<-this,show j+(i - j)=i by omega]
theorem Ih{m m':ab}(he:ir m m')(s:Int):({m' with aE:=s}:ab)={m with aE:=s}↔m'=m:=by
 constructor
 ·intro h;have e1:m'.aK=m.aK:=(congrArg ab.aK h:_);have e2:m'.aa=m.aa:=(congrArg ab.aa h:_);have e3:m'.ao=m.ao:=(congrArg ab.ao h:_);have e4:m'.az=m.az:=(congrArg ab.az h:_);have e5:m'.ax=m.ax:=(congrArg ab.ax h:_);have e6:m'.aS=m.aS:=(congrArg ab.aS h:_);have e7:m'.bl=m.bl:=(congrArg ab.bl h:_);exact AJ he e1 e2 e3 e4 e5 e6 e7
 ·rintro rfl;rfl
open Classical in
theorem Rn{m:ab}(h:bp m){s:Int}(hs:0<=s/\s<=1000000):cn {m with aE:=s}={cn m with aE:=s}:=by
 unfold cn;rw[Eg h hs,Ef h hs,Ei h hs,Eh h hs,ID h hs];simp only[Ih (uX m),Ih (sX m),Ih (sZ m),Ih (sY m)]
 by_cases hP:cU m=m
 ·by_cases hS:fY m=m
  ·by_cases hC:fG m=m
   ·by_cases hF:iF m=m
    ·simp only[Qr hP,Qr hS,Qr hC,Qr hF]
    ·simp only[Qr hP,Qr hS,Qr hC,Qs hF]
   ·simp only[Qr hP,Qr hS,Qs hC]
  ·simp only[Qr hP,Qs hS]
 ·simp only[Qs hP]
def Reach(m x:ab):Prop:=∃j s,(0<=s/\s<=1000000)/\x={zH j m with aE:=s}
theorem adE{m:ab}(h:bp m):∀x,bp x->Reach m x->Reach m (cn x):=by
 rintro x _ ⟨j,s,hs,rfl⟩;exact⟨j+1,s,hs,by rw[Rn (PN h j) hs,Mo]⟩
theorem adD{m:ab}:∀x,Reach m x->Reach m (c8 x):=by
 rintro x ⟨j,s,hs,rfl⟩;unfold c8;split
 ·exact⟨j,bC s 1,by unfold bC;split<;>omega,rfl⟩
 ·exact⟨j,s,hs,rfl⟩
theorem adF{m:ab}(h:bp m):Reach m m:=⟨0,m.aE,h.seq,rfl⟩
def runT(n:Nat)(k:Int):Nat->ab->Option ab
 |0,_=>none
 |f+1,m=>if Bc m (stepT n k m)=true then some m else runT n k f (stepT n k m)
theorem xT.step{n:Nat}{k:Int}{m m':ab}(hf:xT n k m)(he:ir m m'):xT n k m':=⟨hf.n10,hf.k1,hf.kn,by rw[he.aL];exact hf.aL,by rw[he.heard];exact hf.heard⟩
theorem Zw{n:Nat}{k:Int}:∀{f:Nat} {m z:ab},bp m->xT n k m->runT n k f m=some z->∃j,zH j m=z/\cn z=z
 |0,m,z,_,_,e=>by cases e
 |f+1,m,z,h,hf,e=>by
  rw[runT,<-afA h hf]at e;split at e
  ·rename_i hs;obtain rfl:=Option.some.inj e;exact⟨0,rfl,TJ (Bw m) hs⟩
  ·obtain⟨j,h1,h2⟩:=Zw (yJ h) (hf.step (Bw m)) e;exact⟨j+1,h1,h2⟩
theorem ahW{n:Nat}{k:Int}{f:Nat}{m1 z m m2:ab}(h:bp m1)(hf:xT n k m1)(hz:runT n k f m1=some z)(ha:Fg (Reach m1) m m2):m2={z with aE:=m2.aE}:=by
 obtain⟨j,s,hs,e⟩:=ha.rel;obtain⟨i,h1,h2⟩:=Zw h hf hz;have h3:=U4 ha.fix;rw[e,Rn (PN h j) hs]at h3;have h4:=(Ih (Bw (zH j m1)) s).1 h3;rw[<-h1]at h2;have h5:=aew h2 h4;rw[e,<-h5,h1]
structure adp (n:Nat) (k:Int) (m:ab):Prop where
 inv:bp m
 seq:fQ m
 flat:xT n k m
 nz:aF m.aa=false
 aG:m.aY=1
theorem adp.env{n:Nat}{k:Int}{m:ab}(h:adp n k m):aU (cD m)=true/\(cD m).aj=Go.Proofs.YtjbfdglebjnelaaGreat.flat n k/\(cD m).aY=1:=⟨Fx h.inv h.seq h.nz,by rw[oL];exact h.flat.aL,by rw[BS];exact h.aG⟩
end
section
section
variable {n : Nat} {k : Int}
end
end
section
section
variable {n : Nat} {k : Int} (hn : n <= 10) (hk1 : 1 <= k) (hkn : k <= n) {i : Int} (hi0 : 0 <= i) (hi9 : i < 10) {v : ByteArray} (hv : 1 <= v.size /\ v.size <= 200)
 include hn hk1 hkn hi0 hi9
 include hv
end
end
section
def xE(m m1:ab):Prop:=
 (∃v,(1<=v.size/\v.size<=200)/\m1=ep m v)\/(∃e,vI m e/\m1=Bk m e)\/(m.aK≠3/\dO m≠fH/\m.aa.ak<1000/\m1=qb m)\/(∃t,dQ t/\m1=G9 m t)
structure ah5 (m m1:ab):Prop where
 inv:bp m1
 aB:m1.an=m.an
 aG:m1.aY=m.aY
 seq:m1.aE=m.aE
 nz:aF m.aa=false->aF m1.aa=false
theorem acw{m m1:ab}(h:bp m)(hb:xE m m1):ah5 m m1:=by
 rcases hb with⟨v,hv,rfl⟩|⟨e,he,rfl⟩|⟨h3,hv,hc,rfl⟩|⟨t,ht,rfl⟩
 ·exact⟨Dh h hv,by unfold ep;split<;>rfl,by unfold ep;split<;>rfl,nM.2,nM.1⟩
 ·exact⟨G1 h he,rfl,rfl,rfl,fun e=>e⟩
 ·exact⟨TC h h3 hv hc,rfl,rfl,rfl,fun _=>JK h⟩
 ·exact⟨Vf h ht,rfl,rfl,rfl,fun e=>e⟩
structure OkM (m:ab):Prop where
 inv:bp m
 seq:fQ m
 fix:JD m
 aB:m.an=0
 aG:m.aY=1
theorem WO{m:ab}(h:bp m)(hs:fQ m){e:ai}(ht:cQ e.aj)(hbad:aU e=false\/e.an=m.an\/e.aY≠m.aY):kg m e=some (JG,(61:Int),()):=by
 unfold kg;simp only[etas,wz h hs,Qa,Qo,Ql,ka ht]
 cases hv:aU e with
 |false=>rfl
 |true=>
  by_cases hn:e.an=m.an
  ·rw[Qg hn];rfl
  ·have hsl:e.aY≠m.aY:=(hbad.resolve_left (by rw[hv];decide)).resolve_left hn
   rw[Qh hn,Qh hsl];rfl
theorem MO{v:ByteArray}(h:Lr v):1<=v.size/\v.size<=200:=by
 have:=h.size;omega
end
section
abbrev Lp{σ ρ:Type}(I:σ->Prop)(p:ρ->Prop):σ⊕ρ->Prop
 | .inl s=>I s
 | .inr r=>p r
theorem Yd.CN{σ ρ:Type}{step:σ->Option (σ⊕ρ)}{p:ρ->Prop}(inv:σ->Prop)(μ:σ->Nat)(h:∀s,inv s->Yd (step s) (Lp (fun s'=>inv s'/\μ s'<μ s) p)){s:σ}(hs:inv s):Yd (aC step s) p:=
 Yd.down inv μ (fun s hi=>(h s hi).mono fun y hy=>by cases y<;>exact hy) hs
theorem Yd.list{α σ τ ρ:Type}{p:ρ->Prop}{step:τ->Option (τ⊕ρ)}(l:List α)(hl:l.length<=1000000)(mk:Int->σ->τ)(inv:Nat->σ->Prop)
  (h1:∀(i:Nat) (x:α) (s:σ),inv i s->l.drop i=x::l.drop (i+1)->x∈l->i<l.length->decide ((i:Int)<((l.length:Nat):Int))=true->idx l (i:Int)=some x->aA .i64 (i:Int) 1=((i+1:Nat):Int)->Yd (step (mk (i:Int) s)) (Lp (fun t=>∃s',t=mk ((i+1:Nat):Int) s'/\inv (i+1) s') p))
  (h2:∀s,inv l.length s->decide (((l.length:Nat):Int)<((l.length:Nat):Int))=false->Yd (step (mk ((l.length:Nat):Int) s)) (Lp (fun _=>False) p))
  {s:σ} (h0:inv 0 s):Yd (aC step (mk 0 s)) p:=by
 suffices key:∀(k i:Nat) (s:σ),i+k=l.length->inv i s->Yd (aC step (mk (i:Int) s)) p from key l.length 0 s (by omega) h0
 intro k
 induction k with
 |zero=>
  intro i s hi hs;obtain rfl:i=l.length:=by omega
  refine Yd.loop ((h2 s hs (Qh (Qq64 _))).mono fun y hy=> ?_)
  cases y with
  |inl t=>exact hy.elim
  |inr r=>exact hy
 |succ k ih=>
  intro i s hi hs;have hi':i<l.length:=by omega
  refine Yd.loop ((h1 i l[i] s hs (QM hi') (Q0 hi') hi' (Qg (by omega)) (by rw[bd];exact Qv hi') (bD (by omega) (by omega))).mono fun y hy=> ?_)
  cases y with
  |inl t=>
   obtain⟨s',rfl,hs'⟩:=hy;exact ih (i+1) s' (by omega) hs'
  |inr r=>exact hy
def jH(x:ByteArray):Prop:=1<=x.size/\x.size<=200
instance (x:ByteArray):Decidable (jH x):=by unfold jH;infer_instance
def aaB:∀(x:ByteArray) (l:List ByteArray),Decidable (x∈l)
 |_,[]=>isFalse QR
 |x,y::l=>if h:x=y then isTrue (by rw[h];exact Qx)else match aaB x l with
  |isTrue h2=>isTrue (Qy _ h2)
  |isFalse h2=>isFalse fun e=>(QA.1 e).elim h h2
instance (x:ByteArray) (l:List ByteArray):Decidable (x∈l):=aaB x l
structure VL (l:List ByteArray):Prop where
 rD:∀x∈l,jH x
 F0:l.Pairwise (fun a b=>bJ a b=true)
 len:l.length<=40
theorem VL.nil:VL []:=⟨fun x h=>absurd h QR,List.Pairwise.nil,by simp⟩
theorem VL.vb{l:List ByteArray}(h:VL l):l.length<=1000000:=QK h.len (by omega)
def CP(a b:ByteArray):Int:=if a=b then 0 else if bJ a b=true then -1 else 1
theorem AA(a b:ByteArray):iZ a b=some (CP a b):=by
 unfold iZ CP
 by_cases h:a=b
 ·rw[Qg h,Qr h];rfl
 ·rw[Qh h,Qs h];simp only[Ql,Int.ofNat_inj,Int.ofNat_lt]
  by_cases h1:a.size=b.size
  ·have e:bJ a b=kJ a b:=by unfold bJ;rw[Qr h1]
   have h2:¬a.size<b.size:=by omega
   rw[e,Qg h1,Qh h2];simp only[Ql,Qk,Qa];cases kJ a b<;>rfl
  ·have e:bJ a b=decide (a.size<b.size):=by unfold bJ;rw[Qs h1]
   rw[e,Qh h1]
   by_cases h2:a.size<b.size
   ·rw[Qg h2];rfl
   ·rw[Qh h2];rfl
theorem Ey{a b:ByteArray}:decide (CP a b<0)=bJ a b:=by
 unfold CP
 by_cases h:a=b
 ·subst h;rw[Qr rfl,iu.irrefl];rfl
 ·rw[Qs h];cases bJ a b<;>rfl
theorem Jr{a b:ByteArray}:decide (0<CP a b)=bJ b a:=by
 unfold CP
 by_cases h:a=b
 ·subst h;rw[Qr rfl,iu.irrefl];rfl
 ·rw[Qs h]
  cases h1:bJ a b with
  |true=>rw[iu.asymm h1];rfl
  |false=>
   cases h2:bJ b a with
   |true=>rfl
   |false=>exact absurd (iu.total _ _ h1 h2) h
theorem YS{a b:ByteArray}:decide (0<=CP a b)= !bJ a b:=by
 rw[<-Ey (a:=a) (b:=b)]
 by_cases h:CP a b<0
 ·rw[Qg h,Qh (by omega)];rfl
 ·rw[Qh h,Qg (by omega)];rfl
theorem Ni(x:ByteArray):tW x=some (decide (jH x)):=by
 unfold tW;have h1:decide ((1:Int)<=((x.size:Nat):Int))=decide (1<=x.size):=by rw[decide_eq_decide];omega
 have h2:decide (((x.size:Nat):Int)<=(200:Int))=decide (x.size<=200):=by rw[decide_eq_decide];omega
 rw[h1,h2]
 have e:decide (jH x)=(decide (1<=x.size)&&decide (x.size<=200)):=by
  unfold jH;exact Bool.decide_and _ _
 rw[e];cases decide (1<=x.size)<;>rfl
theorem Ix(l:List ByteArray)(hl:l.length<=1000000)(x:ByteArray):nj l x=some (decide (x∈l)):=by
 unfold nj
 have h:Yd (aC (fun(v1:Int×Unit)=>
   bif (decide (v1.1<((List.length l:Nat):Int)))then
   Option.bind (idx l v1.1) fun x2=>
   bif (decide (x=x2))then
   Option.map Sum.inr (some true)
   else
   some (Sum.inl ((aA .i64 v1.1 (1:Int)),()))
   else
   Option.map Sum.inr (some false)) ((0:Int),())) (fun b=>b=decide (x∈l)):=by
  refine Yd.list l hl (fun i (_:Unit)=>(i,())) (fun i _=>x∉l.take i) ?_ ?_ (s:=()) (by simp)
  ·intro i y s hs hd hy hi hdec hx hadd;simp only;rw[hdec,Qk,hx,Qa,hadd]
   by_cases hxy:x=y
   ·rw[Qg hxy,Qk];exact .some (by subst hxy;exact(Qg hy).symm)
   ·rw[Qh hxy,Ql];refine .some ⟨(),rfl,?_⟩
    have hi2:l[i]?=some y:=by
     rw[bd]at hx;exact hx
    rw[List.take_add_one,hi2];simp only[Option.toList_some,Qz,Q5];exact fun h=>h.elim hs hxy
  ·intro s hs hdec;simp only;rw[hdec,Ql];rw[Qq62]at hs;exact .some (Qh hs).symm
 obtain⟨b,h1,rfl⟩:=h;exact h1
theorem UM{α:Type}[DecidableEq α]{lt:α->α->Bool}(x:α):∀(l:List α),x∉l->(dH lt x l).length=l.length+1
 |[],_=>rfl
 |y::l,h=>by
  have h1:y≠x:=fun e=>h (by rw[e];exact Qx)
  rw[dH]
  by_cases h2:lt y x=true
  ·rw[Qr h2,QE,UM x l (fun e=>h (Qy _ e)),QE]
  ·rw[Qs h2,Qs h1];rfl
def mK(l:List ByteArray)(x:ByteArray):List ByteArray:=if x∈l\/40<=l.length then l else dH bJ x l
theorem Iu{l:List ByteArray}(h:VL l)(x:ByteArray):ni l x=some (mK l x):=by
 have hl:=h.len;unfold ni mK;rw[Ix l h.vb,Qa]
 by_cases hx:x∈l
 ·rw[Qg hx,Qr (.inl hx)];rfl
 rw[Qh hx];simp only[Ql,Qa]
 by_cases h40:40<=l.length
 ·rw[Qg (by omega:(40:Int)<=((l.length:Nat):Int)),Qr (.inr h40)];rfl
 rw[Qh (by omega:¬(40:Int)<=((l.length:Nat):Int)),Qs (fun e=>e.elim hx h40)]
 simp only[Ql,aN];have hk:∀n,n<=100->bc 16 n=true:=fun n hn=>bn ⟨by omega,by omega⟩
 have:=Yd.list (p:=fun r=>r=dH bJ x l) (step:=fun(v3:Bool×Int×(List ByteArray)×Unit)=>
   bif (decide (v3.2.1<((List.length l:Nat):Int)))then
   Option.bind (idx l v3.2.1) fun x4=>
   Option.bind (bif (!v3.1)then
   Option.bind (iZ x x4) fun r7=>
   some (decide (r7<(0:Int)))
   else some false) fun b8=>
   bif b8 then
   bif bc 16 (List.length v3.2.2.1+List.length [x])then
   bif bc 16 (List.length (v3.2.2.1++[x])+List.length [x4])then
   some (Sum.inl (true,(aA .i64 v3.2.1 (1:Int)),((v3.2.2.1++[x])++[x4]),()))
   else none
   else none
   else
   bif bc 16 (List.length v3.2.2.1+List.length [x4])then
   some (Sum.inl (v3.1,(aA .i64 v3.2.1 (1:Int)),(v3.2.2.1++[x4]),()))
   else none
   else
   Option.map Sum.inr (
   bif (!v3.1)then
   bif bc 16 (List.length v3.2.2.1+List.length [x])then
   some (v3.2.2.1++[x])
   else none
   else
   some v3.2.2.1)) l h.vb (fun i (s:Bool×List ByteArray)=>(s.1,i,s.2,()))
   (fun i s=>s.2.length<=2*i/\(s.1=false->s.2++dH bJ x (l.drop i)=dH bJ x l)/\(s.1=true->s.2++l.drop i=dH bJ x l)) ?_ ?_ (s:=(false,[])) ⟨by simp,fun _=>by simp,fun e=>by cases e⟩
 ·obtain⟨r,h1,rfl⟩:=this;exact h1
 ·rintro i y ⟨d,out⟩ ⟨hs1,hs2,hs3⟩ hd hy hi hdec hx' hadd;simp only at hs1 hs2 hs3;simp only;rw[hdec,Qk,hx',Qa,hadd,AA,Qa,Ey];have hne:y≠x:=fun e=>hx (by rw[<-e];exact hy)
  have k1:bc 16 (out.length+[x].length)=true:=hk _ (by simp only[Q6];omega)
  have k2:bc 16 ((out++[x]).length+[y].length)=true:=hk _ (by simp only[QB,Q6];omega)
  have k3:bc 16 (out.length+[y].length)=true:=hk _ (by simp only[Q6];omega)
  rw[k1,k2,k3]
  cases d with
  |true=>
   simp only[Qo,Ql,Qa,Qk];refine .some ⟨(true,out++[y]),rfl,by simp only[QB,Q6];omega,fun e=>(by cases e),fun _=> ?_⟩
   rw[<-hs3 rfl,hd,QL];rfl
  |false=>
   have hs2:=hs2 rfl;rw[hd,dH]at hs2;simp only[Qp,Qk,Qa]
   cases hxy:bJ x y with
   |true=>
    simp only[Qk];rw[Qs (by rw[iu.asymm hxy];simp),Qs hne]at hs2
    refine .some ⟨(true,(out++[x])++[y]),rfl,by simp only[QB,Q6];omega,fun e=>(by cases e),fun _=> ?_⟩
    rw[<-hs2,QL,QL];rfl
   |false=>
    simp only[Ql]
    have hyx:bJ y x=true:=by
     cases hh:bJ y x with
     |true=>rfl
     |false=>exact absurd (iu.total _ _ hh hxy) hne
    rw[Qr hyx]at hs2;refine .some ⟨(false,out++[y]),rfl,by simp only[QB,Q6];omega,fun _=> ?_,fun e=>by cases e⟩
    rw[<-hs2,QL];rfl
 ·rintro⟨d,out⟩ ⟨hs1,hs2,hs3⟩ hdec;simp only at hs1 hs2 hs3;simp only;have k1:bc 16 (out.length+[x].length)=true:=hk _ (by simp only[Q6];omega)
  rw[hdec,Ql,k1]
  cases d with
  |true=>
   have:=hs3 rfl;rw[Qq66,List.append_nil]at this;exact .some this
  |false=>
   have:=hs2 rfl;rw[Qq66]at this;exact .some this
theorem uc{l:List ByteArray}(h:VL l){x:ByteArray}(hx:jH x):VL (mK l x)/\(∀y∈l,y∈mK l x)/\(∀y∈mK l x,y=x\/y∈l)/\(x∉l->l.length<40->(mK l x).length=l.length+1):=by
 unfold mK
 by_cases h1:x∈l\/40<=l.length
 ·rw[Qr h1];refine⟨h,fun _ hy=>hy,fun _ hy=> .inr hy,fun h2 h3=> ?_⟩
  rcases h1 with h1|h1
  ·exact absurd h1 h2
  ·omega
 ·rw[Qs h1];have hm:=GK (lt:=bJ) x l;have hlen:=vm (lt:=bJ) x l;have h2:¬40<=l.length:=fun e=>h1 (.inr e)
  refine⟨⟨fun y hy=> ?_,iu.dH x h.F0,by omega⟩,fun y hy=>(hm y).2 (.inr hy),fun y hy=>(hm y).1 hy,fun h3 _=>UM x l h3⟩
  rcases(hm y).1 hy with rfl|hy
  ·exact hx
  ·exact h.rD y hy
theorem Iv{l:List ByteArray}(h:VL l):mm l=some true:=by
 unfold mm;refine Yd.eq_true (Yd.list l h.vb (fun i (_:Unit)=>(i,())) (fun _ _=>True) ?_ ?_ (s:=()) trivial)
 ·intro i y s hs hd hy hi hdec hx hadd;simp only;rw[hdec,Qk,hx,Qa,Ni,Qa,Qg (h.rD y hy),hadd];simp only[Qo,Ql]
  by_cases h0:i=0
  ·subst h0;rw[Qh (by omega:¬(0:Int)<((0:Nat):Int))]
   exact .some ⟨(),rfl,trivial⟩
  ·rw[Qg (by omega:(0:Int)<(i:Int))]
   simp only[Qk];have hsub:dh .i64 (i:Int) 1=((i - 1:Nat):Int):=by rw[qH (by omega) (by have:=h.len;omega)];omega
   have hi1:i - 1<l.length:=by omega
   rw[hsub,bd,Qv hi1,Qa,AA,Qa,YS]
   have hyi:y=l[i]:=by
    rw[bd,Qv hi]at hx;exact(Option.some.inj hx).symm
   have hlt:bJ l[i - 1] y=true:=by
    rw[hyi];exact List.pairwise_iff_getElem.1 h.F0 (i - 1) i hi1 hi (by omega)
   rw[hlt];exact .some ⟨(),rfl,trivial⟩
 ·intro s hs hdec;simp only;rw[hdec,Ql,Qg (by have:=h.len;omega:((l.length:Nat):Int)<=(40:Int))]
  exact .some rfl
theorem Nk{s t:List ByteArray}(h:s.length<=1000000):∃b,pU s t=some b/\(b=true↔s=t):=by
 unfold pU
 by_cases hl:s.length=t.length
 ·rw[Qg (by omega:((s.length:Nat):Int)=((t.length:Nat):Int)),Qo,Ql]
  refine VE hl h (fun i hi hi' hd hx hy hw=> ?_) (fun hd=> ?_)
  ·simp only;rw[hd,Qk,hx,hy,Qa,Qa,hw]
   by_cases he:s[i]=t[i]
   ·rw[Qg he];exact⟨true,rfl,by simp[he]⟩
   ·rw[Qh he];exact⟨false,rfl,by simp[he]⟩
  ·simp only;rw[hd,Ql];rfl
 ·rw[Qh (by omega:¬((s.length:Nat):Int)=((t.length:Nat):Int))]
  exact⟨false,rfl,NO hl⟩
theorem Nj{a b:List ByteArray}{n:Nat}(hn:a.length+b.length<=n)(h:n<=100000):Yd (jB a b) fun r=>r.length<=n/\∀x∈r,x∈a\/x∈b:=by
 unfold jB;simp only[aN];refine Yd.CN (fun(v:Int×Int×List ByteArray×Unit)=>∃i k:Nat,v.1=i/\v.2.1=k/\i<=a.length/\k<=b.length/\v.2.2.1.length<=i+k/\∀x∈v.2.2.1,x∈a\/x∈b) (fun v=>a.length+b.length - (v.1.toNat+v.2.1.toNat)) ?_ ⟨0,0,rfl,rfl,by omega,by omega,by simp,fun x hx=>absurd hx QR⟩
 rintro⟨i',k',out,u⟩ ⟨i,k,e1,e2,hi,hk,hlen,hmem⟩;simp only at e1 e2 hlen hmem;subst e1 e2;have kk:∀x:ByteArray,bc 16 (out.length+[x].length)=true:=fun x=>bn ⟨by simp only[Q6];omega,by simp only[Q6];omega⟩
 have hi1:aA .i64 (i:Int) 1=((i+1:Nat):Int):=bD (by omega) (by omega)
 have hk1:aA .i64 (k:Int) 1=((k+1:Nat):Int):=bD (by omega) (by omega)
 have ga:i<a.length->∃x∈a,idx a (i:Int)=some x:=fun h=>⟨a[i],Q0 h,by rw[bd];exact Qv h⟩
 have gb:k<b.length->∃x∈b,idx b (k:Int)=some x:=fun h=>⟨b[k],Q0 h,by rw[bd];exact Qv h⟩
 have fin1:∀(x:ByteArray) (j1 j2:Nat),(x∈a\/x∈b)->j1<=a.length->j2<=b.length->i+k<j1+j2->Yd (bif bc 16 (out.length+[x].length)then some (Sum.inl (((j1:Nat):Int),((j2:Nat):Int),(out++[x]),()))else(none:Option ((Int×Int×List ByteArray×Unit)⊕List ByteArray)))
   (Lp (fun s'=>(∃i k:Nat,s'.1=i/\s'.2.1=k/\i<=a.length/\k<=b.length/\s'.2.2.1.length<=i+k/\∀x∈s'.2.2.1,x∈a\/x∈b)/\a.length+b.length - (s'.1.toNat+s'.2.1.toNat)<a.length+b.length - ((i:Int).toNat+(k:Int).toNat)) (fun r=>r.length<=n/\∀x∈r,x∈a\/x∈b)):=by
  intro x j1 j2 hx h1 h2 h3;rw[kk x,Qk];refine .some ⟨⟨j1,j2,rfl,rfl,h1,h2,?_,?_⟩,?_⟩
  ·simp only[QB,Q6];omega
  ·intro y hy;rcases Qz.1 hy with hy|hy
   ·exact hmem y hy
   ·rw[Q5.1 hy];exact hx
  ·simp only[QV];omega
 simp only
 by_cases c1:i<a.length
 ·obtain⟨x,hx,ex⟩:=ga c1;rw[Qg (by omega:(i:Int)<((a.length:Nat):Int))]
  simp only[Qk,Qa]
  by_cases c2:k=b.length
  ·rw[Qg (by omega:(k:Int)=((b.length:Nat):Int)),ex,hi1]
   simp only[Qk,Qa];exact fin1 x (i+1) k (.inl hx) (by omega) hk (by omega)
  ·obtain⟨y,hy,ey⟩:=gb (by omega)
   rw[Qh (by omega:¬(k:Int)=((b.length:Nat):Int)),ex,ey,Qh (by omega:¬(i:Int)=((a.length:Nat):Int))]
   simp only[Ql,Qa,AA,Ey,Jr,hi1,hk1]
   cases bJ x y with
   |true=>exact fin1 x (i+1) k (.inl hx) (by omega) hk (by omega)
   |false=>
    cases bJ y x with
    |true=>exact fin1 y i (k+1) (.inr hy) hi (by omega) (by omega)
    |false=>exact fin1 x (i+1) (k+1) (.inl hx) (by omega) (by omega) (by omega)
 ·rw[Qh (by omega:¬(i:Int)<((a.length:Nat):Int))]
  simp only[Ql]
  by_cases c2:k<b.length
  ·obtain⟨y,hy,ey⟩:=gb c2;rw[Qg (by omega:(k:Int)<((b.length:Nat):Int)),Qh (by omega:¬(k:Int)=((b.length:Nat):Int)),ey,Qg (by omega:(i:Int)=((a.length:Nat):Int))]
   simp only[Ql,Qk,Qa,hk1];exact fin1 y i (k+1) (.inr hy) hi (by omega) (by omega)
  ·rw[Qh (by omega:¬(k:Int)<((b.length:Nat):Int))]
   simp only[Ql,Qa];exact .some ⟨by omega,hmem⟩
theorem Ya{l:List ByteArray}(h:l.length<=1000000):Yd (lY l) fun r=>r.2.1=true->jH r.1:=by
 unfold lY;simp only[aN];refine Yd.list l h (fun i (s:ByteArray×Bool)=>(s.1,s.2,i,())) (fun _ s=>s.2=true->jH s.1) ?_ ?_ (s:=(_,false)) (fun e=>by cases e)
 ·rintro i y ⟨AY,found⟩ hs hd hy hi hdec hx hadd;simp only at hs;simp only;rw[hdec,Qk,hx,Qa,Ni,Qa,hadd]
  by_cases hv:jH y
  ·rw[Qg hv];simp only[Qk]
   cases found with
   |false=>
    simp only[Qp,Qk,Qa];exact .some ⟨(y,true),rfl,fun _=>hv⟩
   |true=>
    simp only[Qo,Ql,Qa,AA]
    cases decide (0<CP y AY)with
    |true=>exact .some ⟨(y,true),rfl,fun _=>hv⟩
    |false=>exact .some ⟨(AY,true),rfl,hs⟩
  ·rw[Qh hv];simp only[Ql,Qa];exact .some ⟨(AY,found),rfl,hs⟩
 ·rintro⟨AY,found⟩ hs hdec;simp only;rw[hdec,Ql];exact .some hs
end
section
theorem acN{rec:(ae×Int×Unit)->Option (eO×Bool×Unit)}{t:ae}{x:Int}(hm:cQ t)(hr:∀u∈t.aM,Yd (rec (u,x,())) fun _=>True):Yd (jL rec t x) fun _=>True:=by
 unfold jL;simp only[etas];refine Yd.list t.ba hm.nodes (fun i (s:eO)=>(i,s,())) (fun _ _=>True) ?_ ?_ trivial
 ·intro i y s hs hd hy hi hdec hx hadd;simp only;rw[hdec,Qk,hx,Qa,hadd]
  cases decide (y=x)with
  |true=>exact .some trivial
  |false=>exact .some ⟨s,rfl,trivial⟩
 ·intro s hs hdec;simp only;rw[hdec,Ql];refine Yd.map (Yd.list t.aM hm.len (fun i (s:eO)=>(i,s,())) (fun _ _=>True) ?_ ?_ trivial)
  ·intro i y s hs hd hy hi hdec hx hadd;simp only;rw[hdec,Qk,hx,Qa,hadd];refine Yd.bind (hr y hy) fun q _=> ?_
   cases q.2.1 with
   |true=>exact .some trivial
   |false=>exact .some ⟨s,rfl,trivial⟩
  ·intro s hs hdec;simp only;rw[hdec,Ql];exact .some trivial
theorem acI{x:Int}{n:Nat}:∀{t:ae},SizeOf.sizeOf t<n->cQ t->Yd (sE n (t,x,())) fun _=>True:=by
 induction n with
 |zero=>intro t h;omega
 |succ n ih=>
  intro t hz hm;show Yd (jL (sE n) t x) fun _=>True
  exact acN hm fun u hu=>ih (t:=u) (by have:=pK hu;omega) (hm.inner u hu)
theorem adG{t:ae}(hm:cQ t)(x:Int):Yd (wJ t x) fun _=>True:=acI (by omega) hm
structure CT (t:ae) (v aG round:Int):Prop where
 aL:dQ t
 v0:0<=v
 v1:v<10
 s0:0<=aG
 s1:aG<=1000000
 r1:1<=round
 r2:round<=1000
theorem X8(a b c d:Int):∃r,nB a b c d=some r:=⟨_,rfl⟩
section
variable {t : ae} {v aG round : Int}
theorem No(h:CT t v aG round):tY t v aG round=some 0:=by
 have e1:=h.v0;have e2:=h.v1;have e3:=h.s0;have e4:=h.s1;have e5:=h.r1;have e6:=h.r2;unfold tY;simp only[etas,dE h.aL,Qa];rw[Qh (by omega:¬v<0),Qh (by omega:¬(10:Int)<=v),Qh (by omega:¬aG<0),Qh (by omega:¬(1000000:Int)<aG),Qh (by omega:¬round<1),Qh (by omega:¬(1000:Int)<round)]
 rfl
theorem afP(h:CT t v aG round)(k:Int):Yd (lZ t v aG round k) fun _=>True:=by
 unfold lZ;simp only[etas,No h,Qa,aN];have h1:∀b:Bool,Yd (bif b then(some true:Option Bool)else some (decide (k<0))) fun _=>True:=fun b=>by cases b<;>exact .some trivial
 refine Yd.bind (h1 _) fun b1 _=> ?_
 have h2:∀b:Bool,Yd (bif b then(some true:Option Bool)else some (decide ((10:Int)<=k))) fun _=>True:=fun b=>by cases b<;>exact .some trivial
 refine Yd.bind (h2 _) fun b2 _=> ?_
 cases b2 with
 |true=>exact .some trivial
 |false=>
  simp only[Ql];refine Yd.bind (adG h.aL.sm k) fun q _=> ?_
  obtain⟨hsh,eh⟩:=X8 1 aG round k;rw[eh];simp only[Qa]
  cases decide (k=v)with
  |true=>exact .some trivial
  |false=>
   cases q.2.1<;>exact .some trivial
theorem WQ(h:CT t v aG round):Yd (lg t v aG round) fun q=>0<=q.1/\q.1<10/\q.2.1=0:=by
 unfold lg;simp only[etas,No h,Qa,aN];simp only[decide_true,Qo,Ql];refine Yd.CN (fun(s:Int×Int×Unit)=>0<=s.1/\s.1<10/\0<=s.2.1/\s.2.1<=10) (fun s=>(10 - s.2.1).toNat) ?_ ⟨h.v0,h.v1,Int.le_refl _,by show(0:Int)<=10;omega⟩
 rintro⟨b,k,u⟩ ⟨h1,h2,h3,h4⟩;simp only at h1 h2 h3 h4;simp only
 by_cases hk:k<10
 ·rw[Qg hk];have hadd:aA .i64 k 1=k+1:=bD (by omega) (by omega)
  simp only[Qk];rw[hadd]
  have fin:∀x:Int,0<=x->x<10->Yd (some (Sum.inl (x,k+1,())):Option ((Int×Int×Unit)⊕(Int×Int×Unit))) (Lp (fun s'=>(0<=s'.1/\s'.1<10/\0<=s'.2.1/\s'.2.1<=10)/\(10 - s'.2.1).toNat<(10 - k).toNat) (fun r=>0<=r.1/\r.1<10/\r.2.1=0)):=
   fun x g1 g2=> .some ⟨⟨g1,g2,by show 0<=k+1;omega,by show k+1<=10;omega⟩,by show(10 - (k+1)).toNat<(10 - k).toNat;omega⟩
  refine Yd.bind (afP h k) fun r _=> ?_
  cases r with
  |false=>exact fin b h1 h2
  |true=>
   obtain⟨hsh,eh⟩:=X8 2 aG round k;obtain⟨hsb,eb⟩:=X8 2 aG round b;rw[eh,eb];simp only[Qo,Ql,Qa];refine Yd.bind (p:=fun _=>True) ?_ fun b9 _=> ?_
   ·refine Yd.cond (fun _=> .some trivial) fun _=> ?_
    exact Yd.bind (p:=fun _=>True) (Yd.cond (fun _=> .some trivial) fun _=> .some trivial) fun _ _=> .some trivial
   ·cases b9 with
    |true=>exact fin k h3 hk
    |false=>exact fin b h1 h2
 ·rw[Qh hk];exact .some ⟨h1,h2,rfl⟩
theorem abu(h:CT t v aG round):Yd (nY t v aG round) fun q=>∃s:Nat,q.1=s/\s<1024:=by
 have e5:=h.r1;have e6:=h.r2;unfold nY;simp only[etas,aN];refine Yd.bind (WQ h) fun q ⟨_,_,hq⟩=> ?_
 rw[hq];simp only[decide_true,Qo,Ql];refine Yd.CN (fun(s:Int×Int×Unit)=>(∃n:Nat,s.1=n/\n<1024)/\1<=s.2.1/\s.2.1<=round+1) (fun s=>(round+1 - s.2.1).toNat) ?_ ⟨⟨0,rfl,by omega⟩,Int.le_refl _,by show(1:Int)<=round+1;omega⟩
 rintro⟨b,k,u⟩ ⟨⟨n,h1,h2⟩,h3,h4⟩;simp only at h1 h3 h4;subst h1;simp only
 by_cases hk:k<=round
 ·rw[Qg hk];have hadd:aA .i64 k 1=k+1:=bD (by omega) (by omega)
  simp only[Qk];rw[hadd];refine Yd.bind (WQ ⟨h.aL,h.v0,h.v1,h.s0,h.s1,h3,by omega⟩) fun q ⟨g1,g2,_⟩=> ?_
  rw[pn,Qa]
  have fin:∀x:Nat,x<1024->Yd (some (Sum.inl ((x:Int),k+1,())):Option ((Int×Int×Unit)⊕(Int×Int×Unit))) (Lp (fun s'=>((∃n:Nat,s'.1=n/\n<1024)/\1<=s'.2.1/\s'.2.1<=round+1)/\(round+1 - s'.2.1).toNat<(round+1 - k).toNat) (fun r=>∃s:Nat,r.1=s/\s<1024)):=
   fun x g=> .some ⟨⟨⟨x,rfl,g⟩,by show 1<=k+1;omega,by show k+1<=round+1;omega⟩,by show(round+1 - (k+1)).toNat<(round+1 - k).toNat;omega⟩
  cases w5 n q.1 with
  |true=>exact fin n h2
  |false=>
   simp only[Qp,Qk];rw[Qs (by omega),nO h2 g1 g2]
   exact fin _ (Be h2 g2)
 ·rw[Qh hk];exact .some ⟨n,rfl,h2⟩
end
end
section
structure uu (m:ar):Prop where
 n0:0<=m.an
 n1:m.an<10
 seq:1<=m.aE
 aL:dQ m.aj
 df:VL m.bf
 eA:VL m.aD
structure cI (n:aw):Prop where
 ask:CT n.aj n.an n.aY n.Round
 own:n.mz.size<=200
 df:VL n.bf
 eA:VL n.aD
 lu:VL n.aO
 sub:∀x∈n.aO,x∈n.aD
 heard:∀m∈n.aq,uu m/\m.an≠n.an
 eZ:n.aq.Pairwise (fun a b=>a.an<b.an)
theorem Z9:∀(l:List ar) (k:Nat),k<=10->(∀e∈l,(k:Int)<=e.an/\e.an<10)->l.Pairwise (fun a b=>a.an<b.an)->l.length+k<=10
 |[],k,hk,_,_=>by simp;omega
 |e::l,k,hk,h,hp=>by
  rw[Q4]at hp;have h1:=h e Qx;have h2:=Z9 l (k+1) (by omega) (fun x hx=>⟨by have:=hp.1 x hx;omega,(h x (Qy _ hx)).2⟩) hp.2
  rw[QE];omega
theorem cI.len{n:aw}(h:cI n):n.aq.length<=10:=by
 have:=Z9 n.aq 0 (by omega) (fun e he=>⟨by have:=(h.heard e he).1.n0;omega,(h.heard e he).1.n1⟩) h.eZ
 omega
theorem M1{n:aw}(h:cI n):∀m∈n.aq++[(⟨n.an,n.aE,n.aj,n.bf,n.aD⟩:ar)],0<=m.an/\m.an<10/\VL m.bf/\VL m.aD:=by
 intro m hm;rcases Qz.1 hm with hm|hm
 ·have:=(h.heard m hm).1;exact⟨this.n0,this.n1,this.df,this.eA⟩
 ·rw[Q5.1 hm];exact⟨h.ask.v0,h.ask.v1,h.df,h.eA⟩
theorem PU{α:Type}{l:List α}{i:Nat}{x:α}(h:idx l (i:Int)=some x):l[Int.toNat (i:Int)]?=some x:=by
 rw[bd]at h;exact h
theorem ZE{n:aw}(h:cI n)(x:ByteArray):Yd (kN n x) fun q=>∃a b:Nat,q.1=a/\q.2.1=b/\a<1024/\b<1024:=by
 have hlen:=h.len;have hall:=M1 h;unfold kN Bu;simp only[etas,Qa,aN];rw[bn (by simp;omega),Qk,bn (by simp;omega),Qk]
 simp only[List.nil_append];have hl2:(n.aq++[(⟨n.an,n.aE,n.aj,n.bf,n.aD⟩:ar)]).length<=1000000:=by simp;omega
 refine Yd.list (n.aq++[(⟨n.an,n.aE,n.aj,n.bf,n.aD⟩:ar)]) hl2 (fun i (s:Int×Int)=>(s.1,s.2,i,())) (fun _ s=>∃a b:Nat,s.1=a/\s.2=b/\a<1024/\b<1024) ?_ ?_ (s:=(0,0)) ⟨0,0,rfl,rfl,by omega,by omega⟩
 ·rintro i y ⟨s1,s2⟩ ⟨a,b,e1,e2,ha,hb⟩ hd hy hi hdec hx hadd;simp only at e1 e2;subst e1 e2;obtain⟨g0,g1,gv,ga⟩:=hall y hy;simp only;rw[hdec,Qk,hx,Qa,PU hx,Qa,hadd,Ix _ gv.vb,Qa]
  have fin:∀c:Nat,c<1024->Yd (Option.bind (nj y.aD x) fun r9=>
    bif r9 then
     if y.an<0 then none else
     some (Sum.inl ((c:Int),(qi .i64 (b:Int) (bS .i64 (1:Int) y.an)),((i+1:Nat):Int),()))
    else
     some (Sum.inl ((c:Int),(b:Int),((i+1:Nat):Int),())):Option ((Int×Int×Int×Unit)⊕(Int×Int×Unit))) (Lp (fun t=>∃s':Int×Int,t=(s'.1,s'.2,((i+1:Nat):Int),())/\(∃a b:Nat,s'.1=a/\s'.2=b/\a<1024/\b<1024)) (fun r=>∃a b:Nat,r.1=a/\r.2.1=b/\a<1024/\b<1024)):=by
   intro c hc;rw[Ix _ ga.vb,Qa]
   cases decide (x∈y.aD)with
   |false=>exact .some ⟨((c:Int),(b:Int)),rfl,c,b,rfl,rfl,hc,hb⟩
   |true=>
    rw[Qk,Qs (by omega),nO hb g0 g1]
    exact .some ⟨((c:Int),_),rfl,c,_,rfl,rfl,hc,Be hb g1⟩
  cases decide (x∈y.bf)with
  |false=>exact fin a ha
  |true=>
   rw[Qk,Qs (by omega),nO ha g0 g1]
   exact fin _ (Be ha g1)
 ·rintro⟨s1,s2⟩ ⟨a,b,e1,e2,ha,hb⟩ hdec;simp only at e1 e2;simp only;rw[hdec,Ql];exact .some ⟨a,b,e1,e2,ha,hb⟩
theorem Vs:Yd (ot []) fun _=>True:=by
 unfold ot;refine Yd.list ([]:List ij) (by simp) (fun i (_:Unit)=>(i,())) (fun _ _=>True) (fun i x s _ _ hx=>absurd hx QR) (fun s _ hdec=> ?_) (s:=()) trivial
 simp only;rw[hdec,Ql];exact .some trivial
def Zb(m:ct):Prop:=0<=m.an/\m.an<10/\cQ m.aj/\m.bf=[]/\m.aD=[]
theorem adZ{m:ct}(h:Zb m):Yd (qD m) fun _=>True:=by
 obtain⟨h0,h1,ht,hv,ha⟩:=h;unfold qD;simp only[etas];refine Yd.bind (p:=fun _=>True) (Yd.cond (fun _=> .some trivial) fun _=> .some trivial) fun b1 _=> ?_
 refine Yd.bind (p:=fun _=>True) (Yd.cond (fun _=> .some trivial) fun _=> .some trivial) fun b2 _=> ?_
 refine Yd.bind (p:=fun _=>True) (Yd.cond (fun _=>by rw[Ly ht];exact .some trivial) fun _=> .some trivial) fun b4 _=> ?_
 rw[hv,ha];refine Yd.bind (p:=fun _=>True) (Yd.cond (fun _=>Yd.bind Vs fun _ _=> .some trivial) fun _=> .some trivial) fun b6 _=> ?_
 exact Yd.bind (p:=fun _=>True) (Yd.cond (fun _=>Yd.bind Vs fun _ _=> .some trivial) fun _=> .some trivial) fun b8 _=> .some trivial
def tN:ae:=⟨0,[],[]⟩
theorem IJ:cQ tN:= .mk _ (by simp[tN]) (by simp[tN]) (fun u hu=>by cases hu)
structure sC (l:List aR):Prop where
 len:l.length=10
 sm:∀m∈l,cQ m.aj
theorem sC.set{l:List aR}(h:sC l)(k:Nat){m:aR}(hm:cQ m.aj):sC (l.set k m):=
 ⟨by rw[QY];exact h.len,fun x hx=>(List.mem_or_eq_of_mem_set hx).elim (h.sm x) fun e=>by rw[e];exact hm⟩
theorem sC.get{l:List aR}(h:sC l){v:Int}(h0:0<=v)(h1:v<10):∃x,idx l v=some x/\l[v.toNat]?=some x:=by
 have hl:=h.len;have hv:v.toNat<l.length:=by omega
 exact⟨l[v.toNat],by rw[Oh _ h0];exact Qv hv,Qv hv⟩
theorem sC.sc{l:List aR}(h:sC l):zV ⟨l⟩:=⟨by show l.length<=1000000;rw[h.len];omega,h.sm⟩
theorem afv{v:Int}{t:ae}(hv0:0<=v)(hv1:v<10)(ht:cQ t){l:List ct}(hl:l.length<=1000000)(hm:∀m∈l,Zb m):Yd (pV v t l) zV:=by
 unfold pV
 have h1:(decide ((10:Int)=(10:Int))&&decide (0<=(10:Int))&&bc 64 (Int.toNat (10:Int)))=true:=by
  rw[bn (by decide)];rfl
 rw[h1,Qk];simp only[etas,aN]
 have h0:sC (List.replicate (Int.toNat (10:Int)) (aR.mk false (ae.mk (0:Int) ([]:List Int) ([]:List ae)))):=
  ⟨by rw[List.length_replicate];rfl,fun m hm=>by rw[(List.mem_replicate.1 hm).2];exact IJ⟩
 refine Yd.list l hl (fun i (s:List aR)=>(i,aW.mk [],s,())) (fun _ s=>sC s) ?_ ?_ h0
 ·intro i y s hs hd hy hi hdec hx hadd;have hmy:=hm y hy;simp only;rw[hdec,Qk,hx,Qa,hadd];simp only[ct.eta];refine Yd.bind (adZ hmy) fun r _=> ?_
  cases r with
  |false=>exact .some ⟨s,rfl,hs⟩
  |true=>
   obtain⟨x,g1,g2⟩:=hs.get hmy.1 hmy.2.1;rw[Qk,g1,Qa,g2,Qa];exact .some ⟨_,rfl,hs.set _ hmy.2.2.1⟩
 ·intro s hs hdec;simp only;rw[hdec,Ql,Qg hv0,Qg hv1];simp only[Qk,Qa];obtain⟨x,g1,g2⟩:=hs.get hv0 hv1;have hs2:=hs.set v.toNat (m:=⟨false,⟨0,[],[]⟩⟩) IJ;obtain⟨x2,k1,k2⟩:=hs2.get hv0 hv1;rw[g1,g2,Ly ht];simp only[Qa]
  cases decide (Gc t=0)with
  |false=>exact .some hs2.sc
  |true=>
   simp only[Qk];rw[k1,k2];exact .some (hs2.set _ ht).sc
theorem WM{n:aw}(h:cI n):Yd (lP n) zV:=by
 have hlen:=h.len;unfold lP;simp only[etas];refine Yd.list n.aq (by omega) (fun i (s:List ct)=>(i,s,())) (fun i s=>s.length<=i/\∀m∈s,Zb m) ?_ ?_ (s:=[]) ⟨by simp,fun m hm=>absurd hm QR⟩
 ·intro i y s ⟨hs1,hs2⟩ hd hy hi hdec hx hadd;have hmy:=(h.heard y hy).1;simp only;rw[hdec,Qk,hx,Qa,hadd,bn ⟨by simp only[Q6];omega,by simp only[Q6];omega⟩,Qk]
  refine .some ⟨_,rfl,by simp only[QB,Q6];omega,fun m hm=> ?_⟩
  rcases Qz.1 hm with hm|hm
  ·exact hs2 m hm
  ·rw[Q5.1 hm];exact⟨hmy.n0,hmy.n1,hmy.aL.sm,rfl,rfl⟩
 ·intro s ⟨hs1,hs2⟩ hdec;simp only;rw[hdec,Ql];exact Yd.map (Yd.bind (afv h.ask.v0 h.ask.v1 h.ask.aL.sm (by omega) hs2) fun c hc=> .some hc)
theorem AH{n:aw}(h:cI n):n.an=((n.an.toNat:Nat):Int)/\n.an.toNat<10:=by
 have h0:=h.ask.v0;have h1:=h.ask.v1;omega
theorem aiJ{n:aw}(h:cI n)(x:ByteArray):Yd (rQ n x) fun b=>b=true->x∉n.aD/\n.aD.length<40:=by
 obtain⟨hn,hn10⟩:=AH h;unfold rQ;simp only[etas,aN];refine Yd.bind (ZE h x) fun q ⟨a,b,e1,e2,ha,hb⟩=> ?_
 rw[e1,e2,Ix _ h.eA.vb,Qa]
 by_cases hx:x∈n.aD
 ·rw[Qg hx];exact .some fun e=>by cases e
 ·rw[Qh hx];simp only[Qp,Qk]
  by_cases hl:n.aD.length<40
  ·rw[Qg (by omega:((n.aD.length:Nat):Int)<40),Qk]
   refine Yd.bind (WM h) fun c hc=> ?_
   rw[hn,wa hc hn10 ha hb];exact .some fun _=>⟨hx,hl⟩
  ·rw[Qh (by omega:¬((n.aD.length:Nat):Int)<40)]
   exact .some fun e=>by cases e
theorem afQ{n:aw}(h:cI n):Yd (oq n) fun r=>r.length<=1000/\∀x∈r,jH x:=by
 have hlen:=h.len;have l1:=h.df.len;have l2:=h.eA.len;unfold oq;refine Yd.bind (Nj (n:=80) (by omega) (by omega)) fun r1 ⟨k1,k2⟩=> ?_
 refine Yd.list n.aq (by omega) (fun i (s:List ByteArray)=>(s,i,())) (fun i s=>s.length<=80+80*i/\∀x∈s,jH x) ?_ ?_ ⟨by omega,fun x hx=>(k2 x hx).elim (h.df.rD x) (h.eA.rD x)⟩
 ·intro i y s ⟨hs1,hs2⟩ hd hy hi hdec hx hadd;have hmy:=(h.heard y hy).1;have l3:=hmy.df.len;have l4:=hmy.eA.len;simp only;rw[hdec,Qk,hx,Qa,hadd];refine Yd.bind (Nj (n:=80) (by omega) (by omega)) fun r4 ⟨g1,g2⟩=> ?_
  refine Yd.bind (Nj (n:=80+80*(i+1)) (by omega) (by omega)) fun r5 ⟨g3,g4⟩=> ?_
  exact .some ⟨r5,rfl,g3,fun x hx=>(g4 x hx).elim (hs2 x) fun hx=>(g2 x hx).elim (hmy.df.rD x) (hmy.eA.rD x)⟩
 ·intro s ⟨hs1,hs2⟩ hdec;simp only;rw[hdec,Ql];exact .some ⟨by omega,hs2⟩
theorem cI.Ig{n:aw}(h:cI n){v:List ByteArray}(hv:VL v):cI {n with bf:=v}:=⟨h.ask,h.own,hv,h.eA,h.lu,h.sub,h.heard,h.eZ⟩
theorem cI.afE{n:aw}(h:cI n){a:List ByteArray}(ha:VL a)(hs:∀y∈n.aD,y∈a):cI {n with aD:=a}:=⟨h.ask,h.own,h.df,ha,h.lu,fun x hx=>hs x (h.sub x hx),h.heard,h.eZ⟩
theorem cI.abg{n:aw}(h:cI n){c:List ByteArray}(hc:VL c)(hs:∀y∈c,y∈n.aD):cI {n with aO:=c}:=⟨h.ask,h.own,h.df,h.eA,hc,hs,h.heard,h.eZ⟩
structure rV (n r:aw):Prop where
 ok:cI r
 aB:r.an=n.an
 aG:r.aY=n.aY
 round:r.Round=n.Round
 seq:r.aE=n.aE
 aL:r.aj=n.aj
 own:r.mz=n.mz
 heard:r.aq=n.aq
theorem rV.refl{n:aw}(h:cI n):rV n n:=⟨h,rfl,rfl,rfl,rfl,rfl,rfl,rfl⟩
theorem rV.Ig{n r:aw}(h:rV n r){v:List ByteArray}(hv:VL v):rV n {r with bf:=v}:=⟨h.ok.Ig hv,h.aB,h.aG,h.round,h.seq,h.aL,h.own,h.heard⟩
theorem adR{n:aw}(h:cI n):Yd (pj n) (rV n):=by
 unfold pj;simp only[etas,aN];refine Yd.bind (abu h.ask) fun q ⟨s,e1,hs⟩=> ?_
 rw[e1,Iw hs,Qa];have hl:=zp s;refine Yd.list (np s) (by omega) (fun i (r:aw)=>(i,r,())) (fun _ r=>rV n r) ?_ ?_ (.refl h)
 ·intro i y r hr hd hy hi hdec hx hadd;simp only;rw[hdec,Qk,hx,Qa,hadd];have hlen:=hr.ok.len
  by_cases hyn:y=r.an
  ·rw[Qg hyn,Qk]
   by_cases hown:r.mz=ByteArray.mk #[]
   ·rw[Qg hown];exact .some ⟨r,rfl,hr⟩
   ·rw[Qh hown];simp only[Qp,Qk]
    have hv:jH r.mz:=by
     refine⟨?_,hr.ok.own⟩;rcases Nat.eq_zero_or_pos r.mz.size with h0|h0
     ·exact absurd (ByteArray.ext (Array.eq_empty_of_size_eq_zero h0)) hown
     ·exact h0
    rw[Iu hr.ok.df,Qa];exact .some ⟨_,rfl,hr.Ig (uc hr.ok.df hv).1⟩
  ·rw[Qh hyn,Ql];refine Yd.list r.aq (by omega) (fun i (r:aw)=>(i,r,())) (fun _ r=>rV n r) ?_ ?_ hr
   ·intro j m r2 hr2 hd2 hm hj hdec2 hx2 hadd2;simp only;rw[hdec2,Qk,hx2,Qa,hadd2];have hmy:=(hr.ok.heard m hm).1;have l3:=hmy.df.len;have l4:=hmy.eA.len
    cases decide (m.an=y)with
    |false=>exact .some ⟨r2,rfl,hr2⟩
    |true=>
     simp only[Qo,Ql];refine Yd.bind (Nj (n:=80) (by omega) (by omega)) fun u ⟨g1,g2⟩=> ?_
     refine Yd.list u (by omega) (fun i (r:aw)=>(i,r,())) (fun _ r=>rV n r) ?_ ?_ hr2
     ·intro k x r3 hr3 hd3 hxu hk hdec3 hx3 hadd3;simp only;rw[hdec3,Qk,hx3,Qa,hadd3,Iu hr3.ok.df,Qa];have hv:jH x:=(g2 x hxu).elim (hmy.df.rD x) (hmy.eA.rD x);exact .some ⟨_,rfl,hr3.Ig (uc hr3.ok.df hv).1⟩
     ·intro r3 hr3 hdec3;simp only;rw[hdec3,Ql];exact .some ⟨r3,rfl,hr3⟩
   ·intro r2 hr2 hdec2;simp only;rw[hdec2,Ql];exact .some ⟨r2,rfl,hr2⟩
 ·intro r hr hdec;simp only;rw[hdec,Ql];exact .some hr
structure VN (b n r:aw):Prop where
 ok:cI r
 aB:r.an=n.an
 aG:r.aY=n.aY
 round:r.Round=n.Round
 aL:r.aj=n.aj
 seq:r.aE=n.aE\/r.aE=b.aE+1
theorem Gv{b n:aw}(hb:cQ b.aj/\b.bf.length<=1000000/\b.aD.length<=1000000)(hs:0<=b.aE/\b.aE<=1000000)(h:cI n):Yd (gd b n) (VN b n):=by
 unfold gd;simp only[etas];refine Yd.join (fun v=>rV n v.1) (fun v hv=> ?_) (fun j' hj=> ?_)
 ·refine Yd.CN (fun(s:Bool×aw×Unit)=>rV n s.2.1) (fun s=>(if s.1=true then 1 else 0)+2*(40 - s.2.1.aD.length)) ?_ hv
  rintro⟨again,r,u⟩ hr;simp only at hr;simp only
  cases again with
  |true=>
   rw[Qk];refine Yd.bind (afQ hr.ok) fun l ⟨hl,hvals⟩=> ?_
   refine Yd.list l (by omega) (fun i (s:aw)=>(false,i,s,())) (fun _ s=>s=r) ?_ ?_ rfl
   ·rintro i x s rfl hd hx' hi hdec hx hadd;simp only;rw[hdec,Qk,hx,Qa,hadd];refine Yd.bind (aiJ hr.ok x) fun c hc=> ?_
    cases c with
    |false=>exact .some ⟨s,rfl,rfl⟩
    |true=>
     obtain⟨hc1,hc2⟩:=hc rfl;obtain⟨p1,p2,p3,p4⟩:=uc hr.ok.eA (hvals x hx');rw[Qk,Iu hr.ok.eA,Qa];refine .some ⟨⟨hr.ok.afE p1 p2,hr.aB,hr.aG,hr.round,hr.seq,hr.aL,hr.own,hr.heard⟩,?_⟩;have:=p4 hc1 hc2;show(if true=true then 1 else 0)+2*(40 - (mK s.aD x).length)<(if true=true then 1 else 0)+2*(40 - s.aD.length)
     rw[this];omega
   ·rintro s rfl hdec;simp only;rw[hdec,Ql];refine .some ⟨hr,?_⟩;show(if false=true then 1 else 0)+2*(40 - s.aD.length)<(if true=true then 1 else 0)+2*(40 - s.aD.length)
    simp
  |false=>
   rw[Ql];refine Yd.map ?_;have hl:=hr.ok.eA.len;refine Yd.list r.aD (by omega) (fun i (s:aw)=>(i,s,())) (fun _ s=>rV n s/\s.aD=r.aD) ?_ ?_ ⟨hr,rfl⟩
   ·rintro i x s ⟨hs',hsa⟩ hd hx' hi hdec hx hadd;obtain⟨hn,hn10⟩:=AH hs'.ok;simp only[aN];rw[hdec,Qk,hx,Qa,hadd];refine Yd.bind (ZE hs'.ok x) fun q ⟨a,c,e1,e2,ha,hc⟩=> ?_
    refine Yd.bind (WM hs'.ok) fun cf hcf=> ?_
    have hfc:=uA hcf hn10 hc;rw[<-hn]at hfc;rw[e2,hfc,Qa]
    cases (gq cf.bo c).testBit s.an.toNat with
    |false=>exact .some ⟨s,rfl,hs',hsa⟩
    |true=>
     rw[Qk,Iu hs'.ok.lu,Qa];obtain⟨p1,p2,p3,p4⟩:=uc hs'.ok.lu (hr.ok.eA.rD x hx');refine .some ⟨_,rfl,⟨hs'.ok.abg p1 (fun y hy=> ?_),hs'.aB,hs'.aG,hs'.round,hs'.seq,hs'.aL,hs'.own,hs'.heard⟩,hsa⟩
     rcases p3 y hy with rfl|hy
     ·rw[hsa];exact hx'
     ·exact hs'.ok.sub y hy
   ·rintro s ⟨hs',hsa⟩ hdec;simp only[aN];rw[hdec,Ql];obtain⟨b1,f1,_⟩:=Nk (s:=b.bf) (t:=s.bf) hb.2.1;obtain⟨b2,f2,_⟩:=Nk (s:=b.aD) (t:=s.aD) hb.2.2;obtain⟨b3,f3,_⟩:=U8 (a:=b.aj) (b:=s.aj) hb.1;rw[f1,f2,f3];simp only[Qa];refine Yd.map (Yd.bind (p:=fun _=>True) (Yd.cond (fun _=> .some trivial) fun _=> .some trivial) fun c1 _=> ?_)
    refine Yd.bind (p:=fun _=>True) (Yd.cond (fun _=> .some trivial) fun _=> .some trivial) fun c2 _=> ?_
    cases c2 with
    |false=>exact .some ⟨hs'.ok,hs'.aB,hs'.aG,hs'.round,hs'.aL,.inl hs'.seq⟩
    |true=>
     have hadd:aA .i64 b.aE 1=b.aE+1:=bD (by omega) (by omega)
     rw[Qk,hadd];exact .some ⟨⟨hs'.ok.ask,hs'.ok.own,hs'.ok.df,hs'.ok.eA,hs'.ok.lu,hs'.ok.sub,hs'.ok.heard,hs'.ok.eZ⟩,hs'.aB,hs'.aG,hs'.round,hs'.aL,.inr rfl⟩
 ·cases decide (((List.length n.aO:Nat):Int)=(0:Int))with
  |true=>
   rw[Qk];refine Yd.bind (adR h) fun r hr=> ?_
   exact hj (r,()) hr
  |false=>exact hj (n,()) (.refl h)
end
section
theorem Pl{m:ar}(h:uu m):tX m=some true:=by
 have e1:=h.n0;have e2:=h.n1;have e3:=h.seq;unfold tX;simp only[etas,dE h.aL,Iv h.df,Iv h.eA];rw[Qg e1,Qg e2,Qg e3];rfl
theorem Ft{n:aw}(h:cI n)(hs:1<=n.aE/\n.aE<=1000000):oo n=some true:=by
 have hlen:=h.len;have e1:=h.ask.v0;have e2:=h.ask.v1;have e3:=h.ask.s0;have e4:=h.ask.s1;have e5:=h.ask.r1;have e6:=h.ask.r2;have e7:=h.own;unfold oo;simp only[etas,dE h.ask.aL,Iv h.df,Iv h.eA,Iv h.lu];rw[Qh (by omega:¬n.an<0),Qh (by omega:¬(10:Int)<=n.an),Qh (by omega:¬n.aY<0),Qh (by omega:¬(1000000:Int)<n.aY),Qh (by omega:¬n.Round<1),Qh (by omega:¬(1000:Int)<n.Round),Qh (by omega:¬n.aE<1),Qh (by omega:¬(1000000:Int)<n.aE),Qh (by omega:¬(200:Int)<((n.mz.size:Nat):Int))]
 simp only[Ql,Qa,decide_true,Qo];refine Yd.eq_true ?_;refine Yd.list n.aO h.lu.vb (fun i (_:Unit)=>(i,())) (fun _ _=>True) ?_ ?_ (s:=()) trivial
 ·intro i x s _ hd hx' hi hdec hx hadd;simp only;rw[hdec,Qk,hx,Qa,hadd,Ix _ h.eA.vb,Qg (h.sub x hx')];exact .some ⟨(),rfl,trivial⟩
 ·intro s _ hdec;simp only;rw[hdec,Ql];refine Yd.map ?_;refine Yd.list n.aq (by omega) (fun i (_:Unit)=>(i,())) (fun _ _=>True) ?_ ?_ (s:=()) trivial
  ·intro i m s _ hd hm hi hdec hx hadd;obtain⟨hm1,hm2⟩:=h.heard m hm;simp only[aN];rw[hdec,Qk,hx,Qa,hadd];simp only[ar.eta];rw[Pl hm1,Qa,Qh hm2];simp only[Qo,Ql]
   by_cases h0:i=0
   ·subst h0;rw[Qh (by omega:¬(0:Int)<((0:Nat):Int))]
    exact .some ⟨(),rfl,trivial⟩
   ·rw[Qg (by omega:(0:Int)<(i:Int))]
    simp only[Qk];have hsub:dh .i64 (i:Int) 1=((i - 1:Nat):Int):=by rw[qH (by omega) (by omega)];omega
    have hi1:i - 1<n.aq.length:=by omega
    rw[hsub,bd,Qv hi1,Qa]
    have hyi:m=n.aq[i]:=by
     rw[bd,Qv hi]at hx;exact(Option.some.inj hx).symm
    have hlt:n.aq[i - 1].an<m.an:=by
     rw[hyi];exact List.pairwise_iff_getElem.1 h.eZ (i - 1) i hi1 hi (by omega)
    rw[Qh (by omega:¬m.an<=n.aq[i - 1].an)]
    exact .some ⟨(),rfl,trivial⟩
  ·intro s _ hdec;simp only;rw[hdec,Ql];exact .some rfl
theorem cI.EC{n:aw}(h:cI n):cQ n.aj/\n.bf.length<=1000000/\n.aD.length<=1000000:=⟨h.ask.aL.sm,h.df.vb,h.eA.vb⟩
def D5:aw:=⟨0,0,0,0,⟨0,[],[]⟩,⟨#[]⟩,[],[],[],[]⟩
theorem ahi{n:aw}{m:ar}(h:cI n)(hs:1<=n.aE/\n.aE<=1000000)(hm:uu m)(hne:m.an≠n.an):Yd (sJ n m) fun q=>(q.2.1=0/\VN n n q.1)\/q.2.1=9:=by
 have hlen:=h.len;unfold sJ;simp only[etas,ar.eta,Ft h hs,Pl hm,Qa,Qo,Ql];rw[Qh hne];simp only[Ql,aN];have kk:∀(a:List ar) (x:ar),a.length<=100->bc 120 (a.length+[x].length)=true:=fun a x ha=>bn ⟨by simp only[Q6];omega,by simp only[Q6];omega⟩
 have setl:∀l:List ar,(∀y∈l,uu y/\y.an≠n.an)->l.Pairwise (fun a b=>a.an<b.an)->Yd (Option.bind (gd n {n with aq:=l}) fun r14=>some (r14,(0:Int),())) fun q=>(q.2.1=0/\VN n n q.1)\/q.2.1=9:=by
  intro l h1 h2;refine Yd.bind (Gv h.EC (by omega) (n:={n with aq:=l}) ⟨h.ask,h.own,h.df,h.eA,h.lu,h.sub,h1,h2⟩) fun r hr=> .some (.inl ⟨rfl,hr.ok,hr.aB,hr.aG,hr.round,hr.aL,hr.seq⟩)
 refine Yd.list n.aq (by omega) (fun i (s:Bool×List ar)=>(s.1,i,D5,{n with aq:=[]},s.2,()))
  (fun i s=>s.2.length<=2*i/\(∀y∈s.2,uu y/\y.an≠n.an)/\s.2.Pairwise (fun a b=>a.an<b.an)/\(∀y∈s.2,∀z∈n.aq.drop i,y.an<z.an)/\(s.1=false->∀y∈s.2,y.an<m.an)) ?_ ?_ (s:=(false,[]))
  ⟨by simp,fun y hy=>absurd hy QR,List.Pairwise.nil,fun y hy=>absurd hy QR,fun _ y hy=>absurd hy QR⟩
 ·rintro i x ⟨d,acc⟩ ⟨a1,a2,a3,a4,a5⟩ hd hx' hi hdec hx hadd;simp only at a1 a2 a3 a4 a5;have hxx:=h.heard x hx'
  have hsort:∀z∈n.aq.drop (i+1),x.an<z.an:=by
   have:=h.eZ.sublist (List.drop_sublist i n.aq);rw[hd,Q4]at this;exact this.1
  have a4x:∀y∈acc,y.an<x.an:=fun y hy=>a4 y hy x (by rw[hd];exact Qx)
  have a4r:∀y∈acc,∀z∈n.aq.drop (i+1),y.an<z.an:=fun y hy z hz=>a4 y hy z (by rw[hd];exact Qy _ hz)
  simp only;rw[hdec,Qk,hx,Qa,hadd];have k1:=kk acc m (by omega)
  have k2:=kk acc x (by omega)
  have k3:=kk (acc++[m]) x (by simp only[QB,Q6];omega)
  by_cases hn:x.an=m.an
  ·rw[Qg hn,Qk]
   cases decide (m.aE<=x.aE)with
   |true=>exact .some (.inr rfl)
   |false=>exact .some ⟨(d,acc),rfl,by show acc.length<=2*(i+1);omega,a2,a3,a4r,a5⟩
  ·rw[Qh hn,Ql,k1,k2,k3]
   have plain:(d=false->x.an<m.an)->Yd (some (Sum.inl (d,((i+1:Nat):Int),D5,{n with aq:=([]:List ar)},(acc++[x]),())):Option ((Bool×Int×aw×aw×(List ar)×Unit)⊕(aw×Int×Unit))) (Lp (fun t=>∃s':Bool×List ar,t=(s'.1,((i+1:Nat):Int),D5,{n with aq:=[]},s'.2,())/\(s'.2.length<=2*(i+1)/\(∀y∈s'.2,uu y/\y.an≠n.an)/\s'.2.Pairwise (fun a b=>a.an<b.an)/\(∀y∈s'.2,∀z∈n.aq.drop (i+1),y.an<z.an)/\(s'.1=false->∀y∈s'.2,y.an<m.an))) (fun r=>(r.2.1=0/\VN n n r.1)\/r.2.1=9)):=by
    intro hdm;refine .some ⟨(d,acc++[x]),rfl,by simp only[QB,Q6];omega,fun y hy=> ?_,?_,fun y hy z hz=> ?_,fun e y hy=> ?_⟩
    ·rcases Qz.1 hy with hy|hy
     ·exact a2 y hy
     ·rw[Q5.1 hy];exact hxx
    ·rw[Qq69];exact⟨a3,List.pairwise_singleton _ _,fun y hy z hz=>by rw[Q5.1 hz];exact a4x y hy⟩
    ·rcases Qz.1 hy with hy|hy
     ·exact a4r y hy z hz
     ·rw[Q5.1 hy];exact hsort z hz
    ·rcases Qz.1 hy with hy|hy
     ·exact a5 e y hy
     ·rw[Q5.1 hy];exact hdm e
   by_cases hlt:m.an<x.an
   ·rw[Qg hlt]
    cases d with
    |true=>exact plain fun e=>by cases e
    |false=>
     have a5:=a5 rfl;simp only[Qp,Qk,Qa];refine .some ⟨(true,(acc++[m])++[x]),rfl,by simp only[QB,Q6];omega,fun y hy=> ?_,?_,fun y hy z hz=> ?_,fun e=>by cases e⟩
     ·rcases Qz.1 hy with hy|hy
      ·rcases Qz.1 hy with hy|hy
       ·exact a2 y hy
       ·rw[Q5.1 hy];exact⟨hm,hne⟩
      ·rw[Q5.1 hy];exact hxx
     ·rw[Qq69,Qq69];refine⟨⟨a3,List.pairwise_singleton _ _,fun y hy z hz=>by rw[Q5.1 hz];exact a5 y hy⟩,List.pairwise_singleton _ _,fun y hy z hz=> ?_⟩
      rw[Q5.1 hz];rcases Qz.1 hy with hy|hy
      ·exact a4x y hy
      ·rw[Q5.1 hy];exact hlt
     ·rcases Qz.1 hy with hy|hy
      ·rcases Qz.1 hy with hy|hy
       ·exact a4r y hy z hz
       ·rw[Q5.1 hy];exact Int.lt_trans hlt (hsort z hz)
      ·rw[Q5.1 hy];exact hsort z hz
   ·rw[Qh hlt];exact plain fun _=>by omega
 ·rintro⟨d,acc⟩ ⟨a1,a2,a3,a4,a5⟩ hdec;simp only at a1 a2 a3 a4 a5;simp only;rw[hdec,Ql];refine Yd.map ?_;have k1:=kk acc m (by omega)
  rw[k1]
  cases d with
  |true=>exact setl acc a2 a3
  |false=>
   simp only[Qp,Qk];refine setl (acc++[m]) (fun y hy=> ?_) ?_
   ·rcases Qz.1 hy with hy|hy
    ·exact a2 y hy
    ·rw[Q5.1 hy];exact⟨hm,hne⟩
   ·rw[Qq69];exact⟨a3,List.pairwise_singleton _ _,fun y hy z hz=>by rw[Q5.1 hz];exact a5 rfl y hy⟩
theorem afN{n:aw}(h:cI n)(hs:1<=n.aE/\n.aE<=1000000):Yd (z8 n) fun q=>(q.2.1=0/\cI q.1/\q.1.an=n.an/\q.1.aY=n.aY/\q.1.aj=n.aj/\(q.1.aE=n.aE\/q.1.aE=n.aE+1))\/q.2.1=3:=by
 unfold z8;simp only[etas,Ft h hs,Qa,Qo,Ql];have e5:=h.ask.r1;have e6:=h.ask.r2
 by_cases hr:n.Round=1000
 ·rw[Qg hr];exact .some (.inr rfl)
 ·have hadd:aA .i64 n.Round 1=n.Round+1:=bD (by omega) (by omega)
  rw[Qh hr,Ql,hadd];refine Yd.bind (Gv h.EC (by omega) (n:={n with Round:=n.Round+1}) ⟨⟨h.ask.aL,h.ask.v0,h.ask.v1,h.ask.s0,h.ask.s1,by show 1<=n.Round+1;omega,by show n.Round+1<=1000;omega⟩,h.own,h.df,h.eA,h.lu,h.sub,h.heard,h.eZ⟩) fun r hr=> .some (.inl ⟨rfl,hr.ok,hr.aB,hr.aG,hr.aL,hr.seq⟩)
theorem afU{n:aw}(h:cI n)(hs:1<=n.aE/\n.aE<=1000000){t:ae}(ht:dQ t):Yd (uJ n t) fun q=>q.2.1=0/\cI q.1/\q.1.an=n.an/\q.1.aY=n.aY/\q.1.aj=t/\(q.1.aE=n.aE\/q.1.aE=n.aE+1):=by
 unfold uJ;simp only[etas,Ft h hs,dE ht,Qa,Qo,Ql,decide_true];obtain⟨b,f,hb⟩:=U8 (a:=n.aj) (b:=t) h.ask.aL.sm;rw[f,Qa]
 cases b with
 |true=>exact .some ⟨rfl,h,rfl,rfl,hb.1 rfl,.inl rfl⟩
 |false=>
  refine Yd.bind (Gv h.EC (by omega) (n:={n with aj:=t}) ⟨⟨ht,h.ask.v0,h.ask.v1,h.ask.s0,h.ask.s1,h.ask.r1,h.ask.r2⟩,h.own,h.df,h.eA,h.lu,h.sub,h.heard,h.eZ⟩) fun r hr=> .some ⟨rfl,hr.ok,hr.aB,hr.aG,hr.aL,hr.seq⟩
theorem Pk{t:ae}{v aG:Int}{own:ByteArray}(ht:dQ t)(h0:0<=v)(h1:v<10)(h2:0<=aG)(h3:aG<=1000000)(ho:own.size<=200):Yd (mn v aG t own) fun q=>q.2.1=0/\cI q.1/\q.1.an=v/\q.1.aY=aG/\q.1.aj=t/\q.1.aE=1:=by
 unfold mn;simp only[etas,dE ht];rw[Qh (by omega:¬v<0),Qh (by omega:¬(10:Int)<=v),Qh (by omega:¬aG<0),Qh (by omega:¬(1000000:Int)<aG),Qh (by omega:¬(200:Int)<((own.size:Nat):Int))]
 simp only[Ql,Qa,decide_true,Qo];have hn:cI ⟨v,aG,1,1,t,own,[],[],[],[]⟩:=⟨⟨ht,h0,h1,h2,h3,by show(1:Int)<=1;omega,by show(1:Int)<=1000;omega⟩,ho,.nil,.nil,.nil,fun x hx=>absurd hx QR,fun x hx=>absurd hx QR,List.Pairwise.nil⟩
 refine Yd.bind (Gv hn.EC ⟨by show(0:Int)<=1;omega,by show(1:Int)<=1000000;omega⟩ hn) fun r hr=> .some ⟨rfl,⟨hr.ok.ask,hr.ok.own,hr.ok.df,hr.ok.eA,hr.ok.lu,hr.ok.sub,hr.ok.heard,hr.ok.eZ⟩,hr.aB,hr.aG,hr.aL,rfl⟩
end
section
theorem afC{m:ab}(h:m.aK=3):cn m=m:=by
 have h1:cU m=m:=by unfold cU;rw[Qr (.inl h)]
 have h2:fY m=m:=by unfold fY;rw[Qr (.inl (by rw[h];decide))]
 have h3:fG m=m:=by unfold fG;rw[Qs (by rw[h];decide),Qs (by rw[h];decide)]
 have h4:iF m=m:=by unfold iF;rw[Qs (by rw[h];rintro⟨e,_⟩;exact absurd e (by decide))]
 have h5:fq m=m:=by unfold fq;rw[Qr (.inl h)]
 unfold cn;rw[Qr h1,Qr h2,Qr h3,Qr h4];exact h5
structure CR (m:ab) (t:ae) (x:ab):Prop where
 inv:bp x
 seq:fQ x
 aB:x.an=m.an
 aG:x.aY=m.aY
 aL:x.aj=t
 ext:m.aK=3->x.aK=3/\x.aa.Value=m.aa.Value
theorem CR.refl{m:ab}(h:bp m)(hs:fQ m):CR m m.aj m:=⟨h,hs,rfl,rfl,rfl,fun e=>⟨e,rfl⟩⟩
def oQ(m x:ab):Prop:=m.aK=3->x.aK=3/\x.aa.Value=m.aa.Value
theorem Fl{m:ab}:∀x,bp x->oQ m x->oQ m (cn x):=fun x _ h e=>by
 have h2:=h e;rw[afC h2.1];exact h2
theorem Fk{m:ab}:∀x,oQ m x->oQ m (c8 x):=fun x h e=>by
 have h2:=h e;unfold c8;split
 ·exact h2
 ·exact h2
theorem zU{m m1:ab}(h:bp m)(hb:xE m m1):oQ m m1:=by
 intro e;rcases hb with⟨v,hv,rfl⟩|⟨x,hx,rfl⟩|⟨h3,hv,hc,rfl⟩|⟨t,ht,rfl⟩
 ·have hz:aF m.aa=false:=by
   rcases h.body with k|k|k|k
   ·exact absurd (k.aT.symm.trans e) (by decide)
   ·exact k.aQ.nz
   ·exact k.aQ.nz
   ·exact k.aQ.nz
  unfold ep;rw[Qs (by rw[hz];decide)]
  exact⟨e,rfl⟩
 ·exact⟨e,rfl⟩
 ·exact absurd e h3
 ·exact⟨e,rfl⟩
theorem Fz{m m1:ab}(h:bp m)(hb:xE m m1){q:ab×Int×Unit}(hq:HN (oQ m) m m1 q):q.2.1=0/\CR m m1.aj q.1:=by
 obtain⟨m2,rfl,ha⟩:=hq;have hf:=acw h hb;obtain⟨f1,f2,f3,f4,f5,f6⟩:=Dm m1;obtain⟨s,e,_⟩:=Hh m m2;refine⟨rfl,acs ha.inv,afa ha.inv ha.seq (fun hz=>ha.nz (by rw[f6];exact hf.nz hz)),?_,?_,?_,?_⟩
 ·rw[e];exact ha.env.1.trans (f1.trans hf.aB)
 ·rw[e];exact ha.env.2.1.trans (f2.trans hf.aG)
 ·rw[e];exact ha.env.2.2.1.trans f3
 ·rw[e];exact ha.rel
section
variable {m : ab} (h : bp m) (hs : fQ m)
 include h hs
theorem GG{v:ByteArray}(hv:jH v):Yd (kh m v) fun q=>q.2.1=0/\CR m m.aj q.1:=by
 have hb:xE m (ep m v):= .inl ⟨v,hv,rfl⟩;refine(LM (R:=oQ m) Fl Fk h hs hv (zU h hb)).mono fun q hq=> ?_
 have e:(ep m v).aj=m.aj:=by unfold ep;split<;>rfl
 exact e▸Fz h hb hq
theorem LW{e:ai}(he:vI m e):Yd (kg m e) fun q=>(q.2.1=0/\CR m m.aj q.1)\/q.2.1=9:=by
 have hb:xE m (Bk m e):= .inr (.inl ⟨e,he,rfl⟩);refine(LL (R:=oQ m) Fl Fk h hs he (zU h hb)).mono fun q hq=> ?_
 rcases hq with⟨hq,_⟩|⟨rfl,_⟩
 ·exact .inl (Fz h hb hq)
 ·exact .inr rfl
theorem abU{t:ae}(ht:dQ t):Yd (rh m t) fun q=>q.2.1=0/\CR m t q.1:=by
 have hb:xE m (G9 m t):= .inr (.inr (.inr ⟨t,ht,rfl⟩));refine(aby (R:=oQ m) Fl Fk h hs ht (zU h hb)).mono fun q hq=> ?_
 exact Fz h hb hq
theorem abT:Yd (ra m) fun q=>(q.2.1=0/\CR m m.aj q.1)\/q.2.1≠0:=by
 have hR:∃R:ab->Prop,(∀m,bp m->R m->R (cn m))/\(∀m,R m->R (c8 m))/\R (qb m)/\(xE m (qb m)->∀x,R x->oQ m x):=by
  by_cases hi:xE m (qb m)
  ·exact⟨oQ m,Fl,Fk,zU h hi,fun _ x hx=>hx⟩
  ·exact⟨fun _=>True,fun _ _ _=>trivial,fun _ _=>trivial,trivial,fun hi'=>absurd hi' hi⟩
 obtain⟨R,hR1,hR2,hR0,hRR⟩:=hR;refine(abq hR1 hR2 h hs hR0).mono fun q hq=> ?_
 rcases hq with⟨⟨m2,rfl,ha⟩,h3,hv,hc⟩|⟨rfl,_⟩|⟨rfl,_⟩
 ·have hb:xE m (qb m):= .inr (.inr (.inl ⟨h3,hv,hc,rfl⟩));exact .inl (Fz h hb ⟨m2,rfl,ha.inv,ha.seq,ha.env,ha.num,ha.nz,hRR hb _ ha.rel,ha.fix⟩)
 ·exact .inr (by show(62:Int)≠0;decide)
 ·exact .inr (by show(3:Int)≠0;decide)
theorem Az:ri m=some (bif decide (m.aK=3)then m.aa.Value else fH,decide (m.aK=3),()):=by
 unfold ri;simp only[etas,wz h hs,Qa,Qo,Ql];cases decide (m.aK=3)<;>rfl
theorem abt:uH m=some (bif aF m.aa then(ai.mk (0:Int) (0:Int) (0:Int) (ae.mk (0:Int) ([]:List Int) ([]:List ae)) (0:Int) zB zB zB (0:Int) (0:Int))else cD m,!aF m.aa,()):=by
 unfold uH;simp only[etas,wz h hs,Qa,Qo,Ql,c7,zQ];cases aF m.aa<;>rfl
theorem ZD:Yd (tC m) fun _=>True:=by
 have hev:=h.ev;have hlen:=h.len;unfold tC;simp only[etas,abt h hs,Qa]
 cases hz:aF m.aa with
 |true=>exact .some trivial
 |false=>
  simp only[Qp,Qo,Ql,Qa]
  cases decide (m.aK=3)with
  |true=>exact .some trivial
  |false=>
   simp only[Ql];have ho:=Fx h hs hz;have hm0:cQ (cD m).aj:=by rw[oL];exact h.aL.sm
   have hall:∀e∈[cD m]++m.aq,aU e=true/\cQ e.aj:=by
    intro e he;rcases Qz.1 he with he|he
    ·rw[Q5.1 he];exact⟨ho,hm0⟩
    ·exact⟨(h.hv e he).1,(h.hv e he).2.1.sm⟩
   have hl1:([cD m]++m.aq).length<=1000:=by simp;omega
   rw[bn (by simp;omega),Qk]
   rw[Ex ([cD m]++m.aq) hl1 (fun e=>decide (eJ (cD m)<=eJ e)) (fin:=fun s=>Option.bind (jo m.an m.aj ([cD m]++m.aq)) fun r8=>Option.bind (gm ([cD m]++m.aq) s) fun r9=>Option.bind (kS r8 r9) fun r10=>if(bA .u64 m.an)<0 then none else some (decide ((Fc .i64 (lx .i64 r10 (bA .u64 m.an)) (1:Int))=(1:Int))))
    (fun i e s hs' he hd hx hw=>by
     simp only[hd,hx,hw,PU hx,Qk,Qa,Gw (hall e he).2 (hall e he).1,Gw hm0 ho]
     rw[bn (by simp;omega),Qk])
    (fun s hd=>by simp only[hd,Ql])]
   have hsml:rS ([cD m]++m.aq):=⟨by omega,fun e he=>(hall e he).2⟩
   have hn:=hev.aB;have hv:=Ay hn.2 (t:=m.aj) hsml;rw[hn.1]at hv;have hin:wF ([cD m]++m.aq):=fun e he=>jk (hall e he).1
   rw[hv,Qa,A8 ([cD m]++m.aq) hl1 _ (fun e he _=>hin e he),Qa,Df (mI h.aL.sm hsml) (mH hin),Qa]
   have hc:bA .u64 m.an=m.an:=by
    rw[<-hn.1];exact adl (by omega)
   rw[hc,Qs (by have:=h.n0;omega)]
   exact .some trivial
def ug(t:dj):Prop:=0<=t.ak/\t.ak<=1000000/\ -1<=t.EF/\t.EF<=212
 omit h hs in
theorem TY{t:dj}(ht:ug t):tU t=some true:=by
  obtain⟨h1,h2,h3,h4⟩:=ht;unfold tU;rw[Qg h1,Qg h2,Qg h3,Qg h4];rfl
 omit h hs in
theorem Nh{c:Int}(hc:0<=c)(hc2:c<=1000000):Yd (lN c) fun w=>1<=w/\w<=12:=by
  unfold lN
  by_cases h:12<=c
  ·rw[Qg h];exact .some ⟨by decide,by decide⟩
  ·have hadd:aA .i64 c 1=c+1:=bD (by omega) (by omega)
   rw[Qh h,Ql,hadd];refine .some ?_;unfold bC;split<;>omega
 omit hs in
theorem Y2:0<=m.aa.ak/\m.aa.ak<=1000:=by
  rcases h.body with k|k|k|k
  ·rw[k.aQ];exact⟨by decide,by decide⟩
  ·exact⟨by have:=k.aQ.1;omega,k.aQ.2.1⟩
  ·exact⟨by have:=k.aQ.1;omega,k.aQ.2.1⟩
  ·exact⟨by have:=k.aQ.1;omega,k.aQ.2.1⟩
theorem adK{t:dj}(ht:ug t){now:Int}(h0:0<=now)(h1:now<=200):Yd (zZ t m now) fun q=>ug q.1:=by
 obtain⟨b0,b1⟩:=Y2 h;unfold zZ;simp only[etas,TY ht,Qa,Qo,Ql];rw[Qh (by omega:¬now<0),Qh (by omega:¬(200:Int)<now)]
 simp only[Ql,Qa];refine Yd.bind (ZD h hs) fun b _=> ?_
 have off:ug ⟨m.aa.ak, -1⟩:=⟨b0,by show m.aa.ak<=1000000;omega,by show(-1:Int)<= -1;omega,by show(-1:Int)<=212;omega⟩
 cases b with
 |false=>exact .some off
 |true=>
  simp only[Qo,Ql];refine Yd.bind (p:=fun _=>True) (Yd.cond (fun _=> .some trivial) fun _=> .some trivial) fun c _=> ?_
  cases c with
  |true=>
   rw[Qk];refine Yd.bind (Nh b0 (by omega)) fun w ⟨w1,w2⟩=> ?_
   have hadd:aA .i64 now w=now+w:=bD (by omega) (by omega)
   rw[hadd];exact .some ⟨b0,by show m.aa.ak<=1000000;omega,by show -1<=now+w;omega,by show now+w<=212;omega⟩
  |false=>
   rw[Ql]
   cases decide (t.EF<=now)with
   |true=>exact .some off
   |false=>exact .some ht
end
end
section
structure tu (nd sl:Int) (k:Int) (x:bs):Prop where
 gK:bp x.al
 ji:fQ x.al
 aB:x.al.an=nd
 aG:x.al.aY=sl
 lf:cI x.ay
 pB:1<=x.ay.aE/\x.ay.aE<=1+k
 qN:x.ay.an=nd
 xI:x.ay.aY=sl
 aL:x.ay.aj=x.al.aj
 timer:ug x.Timer
 round:1<=x.Round/\x.Round<=1000
 next:0<=x.Next/\x.Next<=212
structure nT (nd sl:Int) (k:Int) (x:bs):Prop where
 pre:tu nd sl k x
 done:x.uy=decide (x.al.aK=3)
 value:x.Value=bif decide (x.al.aK=3)then x.al.aa.Value else fH
theorem tu.le{nd sl k k':Int}{x:bs}(h:tu nd sl k x)(hk:k<=k'):tu nd sl k' x:=⟨h.gK,h.ji,h.aB,h.aG,h.lf,⟨h.pB.1,by have:=h.pB.2;omega⟩,h.qN,h.xI,h.aL,h.timer,h.round,h.next⟩
theorem nT.le{nd sl k k':Int}{x:bs}(h:nT nd sl k x)(hk:k<=k'):nT nd sl k' x:=⟨h.pre.le hk,h.done,h.value⟩
theorem tu.LF{nd sl k:Int}{x:bs}(h:tu nd sl k x){m:ab}(hm:CR x.al x.al.aj m):tu nd sl k {x with al:=m}:=⟨hm.inv,hm.seq,hm.aB.trans h.aB,hm.aG.trans h.aG,h.lf,h.pB,h.qN,h.xI,h.aL.trans hm.aL.symm,h.timer,h.round,h.next⟩
theorem sn{nd sl k:Int}{x:bs}(h:tu nd sl k x):Yd (eQ x) fun y=>nT nd sl k y/\oQ x.al y.al:=by
 unfold eQ;simp only[etas];refine Yd.join (fun v=>tu nd sl k v.1/\oQ x.al v.1.al) (fun v ⟨hv,hst⟩=> ?_) (fun j' hj=> ?_)
 ·rw[Az hv.gK hv.ji,Qa];exact .some ⟨⟨⟨hv.gK,hv.ji,hv.aB,hv.aG,hv.lf,hv.pB,hv.qN,hv.xI,hv.aL,hv.timer,hv.round,hv.next⟩,rfl,rfl⟩,hst⟩
 ·have same:tu nd sl k x/\oQ x.al x.al:=⟨h,fun e=>⟨e,rfl⟩⟩
  refine Yd.bind (Ya h.lf.lu.vb) fun c hc=> ?_
  rw[c7];simp only[Qa]
  have go:c.2.1=false\/jH c.1:=by
   cases e:c.2.1 with
   |false=>exact .inl rfl
   |true=>exact .inr (hc e)
  have hcond:∀b1 b2 b3:Bool,Yd (Option.bind (bif b1 then some b2 else some false) fun b5=>Option.bind (bif b5 then some b3 else some false) fun b7=>Option.bind (bif b7 then some (!decide (c.1=x.al.bb))else some false) fun b8=>(some b8:Option Bool)) fun b=>b=true->b1=true:=fun b1 b2 b3=>by
   cases b1 with
   |true=>cases b2<;>cases b3<;>exact .some fun _=>rfl
   |false=>exact .some fun e=>e
  obtain⟨b8,hb8,hb8'⟩:=hcond c.2.1 (decide (x.al.aK=1)) (aF x.al.ax)
  have key:∀K:Bool->Option bs,(Option.bind (bif c.2.1 then some (decide (x.al.aK=1))else some false) fun b5=>Option.bind (bif b5 then some (aF x.al.ax)else some false) fun b7=>Option.bind (bif b7 then some (!decide (c.1=x.al.bb))else some false) K)=K b8:=by
   intro K;revert hb8
   cases c.2.1 with
   |false=>intro e;cases e;rfl
   |true=>
    cases decide (x.al.aK=1)with
    |false=>intro e;cases e;rfl
    |true=>
     cases aF x.al.ax with
     |false=>intro e;cases e;rfl
     |true=>intro e;cases e;rfl
  rw[key]
  cases b8 with
  |false=>exact hj (x,()) same
  |true=>
   rw[Qk];have hv:=hc (hb8' rfl);refine Yd.bind (GG h.gK h.ji hv) fun q ⟨h0,hn⟩=> ?_
   rw[h0];exact hj (_,()) ⟨h.LF hn,hn.ext⟩
theorem s6{nd sl k:Int}{x:bs}(h:nT nd sl k x)(hk:k<=999999):ml x=some true:=by
 have p:=h.pre;obtain⟨b,f,hb⟩:=U8 (a:=x.ay.aj) (b:=x.al.aj) p.lf.ask.aL.sm;have hbt:=hb.2 p.aL;subst hbt;unfold ml;simp only[etas,wz p.gK p.ji,Ft p.lf ⟨p.pB.1,by have:=p.pB.2;omega⟩,f,TY p.timer,Az p.gK p.ji,Qa,Qo,Ql]
 rw[Qg (p.qN.trans p.aB.symm),Qg (p.xI.trans p.aG.symm),Qg p.round.1,Qg p.round.2,Qg p.next.1,Qg p.next.2,Qg h.done,Qg h.value]
 rfl
def yC(nd sl:Int)(k:Int)(x y:bs):Prop:=nT nd sl k y/\oQ x.al y.al
theorem yC.self{nd sl k k':Int}{x:bs}(h:nT nd sl k x)(hk:k<=k'):yC nd sl k' x x:=⟨h.le hk,fun e=>⟨e,rfl⟩⟩
section
variable {nd sl k : Int} {x : bs} (h : nT nd sl k x) (hk : k <= 999998)
 include h hk
theorem X7{m:ar}(hm:uu m)(hne:m.an≠nd):Yd (iQ x m) fun q=>(q.2.1=0/\yC nd sl (k+1) x q.1)\/q.2.1≠0:=by
 have p:=h.pre;unfold iQ;simp only[ar.eta,etas,s6 h (by omega),Qa,Qo,Ql]
 refine Yd.bind (ahi p.lf ⟨p.pB.1,by have:=p.pB.2;omega⟩ hm (by rw[p.qN];exact hne)) fun q hq=> ?_
 rcases hq with⟨h0,hq⟩|h9
 ·rw[h0];simp only[decide_true,Qo,Ql];have h1:=p.pB;refine Yd.bind (sn (k:=k+1) (x:={x with ay:=q.1}) ⟨p.gK,p.ji,p.aB,p.aG,hq.ok,?_,hq.aB.trans p.qN,hq.aG.trans p.xI,hq.aL.trans p.aL,p.timer,p.round,p.next⟩) fun y hy=> .some (.inl ⟨rfl,hy⟩)
  show 1<=q.1.aE/\q.1.aE<=1+(k+1);rcases hq.seq with e|e<;>rw[e]<;>omega
 ·rw[h9];exact .some (.inr (by show(9:Int)≠0;decide))
theorem ZJ{e:ai}(he:vI x.al e\/(cQ e.aj/\aU e=false)):Yd (jn x e) fun q=>(q.2.1=0/\yC nd sl k x q.1)\/q.2.1≠0:=by
 have p:=h.pre;unfold jn;simp only[etas,s6 h (by omega),Qa,Qo,Ql]
 rcases he with he|⟨ht,hv⟩
 ·refine Yd.bind (LW p.gK p.ji he) fun q hq=> ?_
  rcases hq with⟨h0,hq⟩|h9
  ·rw[h0];simp only[decide_true,Qo,Ql];refine Yd.bind (sn (p.LF hq)) fun y hy=> .some (.inl ⟨rfl,hy.1,fun e=> ?_⟩)
   have e1:=hq.ext e;have e2:=hy.2 e1.1;exact⟨e2.1,e2.2.trans e1.2⟩
  ·rw[h9];exact .some (.inr (by show(9:Int)≠0;decide))
 ·rw[WO p.gK p.ji ht (.inl hv)];exact .some (.inr (by show(61:Int)≠0;decide))
theorem ZF{v:ByteArray}(hv:jH v):Yd (wH x v) fun q=>(q.2.1=0/\yC nd sl k x q.1)\/q.2.1≠0:=by
 have p:=h.pre;unfold wH;simp only[etas,s6 h (by omega),Qa,Qo,Ql]
 refine Yd.bind (GG p.gK p.ji hv) fun q ⟨h0,hq⟩=> ?_
 rw[h0];simp only[decide_true,Qo,Ql];refine Yd.bind (sn (p.LF hq)) fun y hy=> .some (.inl ⟨rfl,hy.1,fun e=> ?_⟩)
 have e1:=hq.ext e;have e2:=hy.2 e1.1;exact⟨e2.1,e2.2.trans e1.2⟩
theorem X9{t:ae}(ht:dQ t):Yd (uG x t) fun q=>(q.2.1=0/\yC nd sl (k+1) x q.1)\/q.2.1≠0:=by
 have p:=h.pre;unfold uG;simp only[etas,s6 h (by omega),Qa,Qo,Ql]
 have h1:=p.pB;refine Yd.bind (afU p.lf ⟨p.pB.1,by omega⟩ ht) fun q ⟨h0,g1,g2,g3,g4,g5⟩=> ?_
 rw[h0];simp only[decide_true,Qo,Ql];refine Yd.bind (abU p.gK p.ji ht) fun r ⟨r0,hr⟩=> ?_
 rw[r0];simp only[decide_true,Qo,Ql];refine Yd.bind (sn (k:=k+1) (x:={x with ay:=q.1,al:=r.1}) ⟨hr.inv,hr.seq,hr.aB.trans p.aB,hr.aG.trans p.aG,g1,?_,g2.trans p.qN,g3.trans p.xI,g4.trans hr.aL.symm,p.timer,p.round,p.next⟩) fun y hy=> .some (.inl ⟨rfl,hy.1,fun e=> ?_⟩)
 ·show 1<=q.1.aE/\q.1.aE<=1+(k+1);rcases g5 with e|e<;>rw[e]<;>omega
 ·have e1:=hr.ext e;have e2:=hy.2 e1.1;exact⟨e2.1,e2.2.trans e1.2⟩
theorem adJ{now:Int}(h0:0<=now)(h1:now<=200):Yd (zY x now) fun q=>(q.2.1=0/\yC nd sl (k+1) x q.1)\/q.2.1≠0:=by
 have p:=h.pre;have hsq:=p.pB;have hrd:=p.round;unfold zY;simp only[etas,s6 h (by omega),Qa,Qo,Ql]
 rw[Qh (by omega:¬now<0),Qh (by omega:¬(200:Int)<now)]
 simp only[Ql,Qa];refine Yd.join (fun v=>yC nd sl (k+1) x v.1) (fun v hv=> ?_) (fun j4 hj4=> ?_)
 ·have pv:=hv.1.pre;refine Yd.bind (adK pv.gK pv.ji pv.timer h0 h1) fun t ht=> ?_
  refine Yd.join (fun w=>yC nd sl (k+1) x w.1) (fun w hw=> .some (.inl ⟨rfl,hw⟩)) (fun j7 hj7=> ?_)
  have pt:tu nd sl (k+1) {v.1 with Timer:=t.1}:=⟨pv.gK,pv.ji,pv.aB,pv.aG,pv.lf,pv.pB,pv.qN,pv.xI,pv.aL,ht,pv.round,pv.next⟩
  cases t.2.1 with
  |false=>exact hj7 (_,()) ⟨⟨pt,hv.1.done,hv.1.value⟩,hv.2⟩
  |true=>
   rw[Qk];refine Yd.join (fun w=>tu nd sl (k+1) w.1/\oQ v.1.al w.1.al) (fun w ⟨hw,hst⟩=> ?_) (fun j9 hj9=> ?_)
   ·refine Yd.bind (sn hw) fun y hy=>hj7 (y,()) ⟨hy.1,fun e=> ?_⟩
    have e1:=hv.2 e;have e2:=hst e1.1;have e3:=hy.2 e2.1;exact⟨e3.1,e3.2.trans (e2.2.trans e1.2)⟩
   ·refine Yd.bind (abT pv.gK pv.ji) fun r hr=> ?_
    rcases hr with⟨r0,hr⟩|hr
    ·rw[r0];exact hj9 (_,()) ⟨pt.LF hr,hr.ext⟩
    ·rw[Qh hr];exact hj9 (_,()) ⟨pt,fun e=>⟨e,rfl⟩⟩
 ·have skip:=hj4 (x,()) (yC.self h (by omega))
  cases decide (((List.length x.ay.aO:Nat):Int)=(0:Int))with
  |false=>exact skip
  |true=>
   simp only[Qk,Qa]
   cases decide (x.Next<=now)with
   |false=>exact skip
   |true=>
    rw[Qk];refine Yd.join (fun v=>tu nd sl (k+1) v.1/\v.1.al=x.al) (fun v ⟨hv,hm⟩=> ?_) (fun j14 hj14=> ?_)
    ·have hvr:=hv.round;have hadd:aA .i64 v.1.Round 1=v.1.Round+1:=bD (by omega) (by omega)
     have hmin:1<=de (v.1.Round+1) 1000/\de (v.1.Round+1) 1000<=1000:=by unfold de;split<;>omega
     rw[hadd];refine Yd.bind (Nh (by omega) (by omega)) fun w ⟨w1,w2⟩=> ?_
     have hadd2:aA .i64 now w=now+w:=bD (by omega) (by omega)
     rw[hadd2];refine Yd.bind (sn (k:=k+1) (x:=⟨v.1.ay,v.1.al,v.1.Timer,de (v.1.Round+1) 1000,now+w,v.1.uy,v.1.Value⟩) ⟨hv.gK,hv.ji,hv.aB,hv.aG,hv.lf,hv.pB,hv.qN,hv.xI,hv.aL,hv.timer,hmin,by show 0<=now+w/\now+w<=212;omega⟩) fun y hy=>hj4 (y,()) ⟨hy.1,?_⟩
     have h2:=hy.2;simp only at h2;rw[hm]at h2;exact h2
    ·refine Yd.bind (afN p.lf ⟨p.pB.1,by omega⟩) fun q hq=> ?_
     rcases hq with⟨q0,g1,g2,g3,g4,g5⟩|q3
     ·rw[q0];refine hj14 (_,()) ⟨⟨p.gK,p.ji,p.aB,p.aG,g1,?_,g2.trans p.qN,g3.trans p.xI,g4.trans p.aL,p.timer,p.round,p.next⟩,rfl⟩
      show 1<=q.1.aE/\q.1.aE<=1+(k+1);rcases g5 with e|e<;>rw[e]<;>omega
     ·rw[q3];exact hj14 (x,()) ⟨p.le (by omega),rfl⟩
end
theorem Uj{s:dp}(hO:mB s){v:Int}(h0:0<=v)(h1:v<10):Yd (rp s v) fun q=>mB q.2/\uu q.1/\q.1.an=v/\q.1.aE<=30:=by
 unfold rp;refine Yd.bind (pN hO (by omega) (by omega) (by omega)) fun p1 ⟨hO1,hlo,hhi,_⟩=> ?_
 refine Yd.bind (DP hO1 (n:=4) (by omega) (by omega)) fun p2 ⟨hO2,ht,_,_⟩=> ?_
 simp only[etas,aN];have hpw:([(ByteArray.mk #[97]),(ByteArray.mk #[98]),(ByteArray.mk #[99]),(ByteArray.mk #[97,97])]:List ByteArray).Pairwise (fun a b=>bJ a b=true):=by decide+kernel
 have hval:∀x∈([(ByteArray.mk #[97]),(ByteArray.mk #[98]),(ByteArray.mk #[99]),(ByteArray.mk #[97,97])]:List ByteArray),jH x:=by
  intro x hx;have:=Lr.size (v:=x) hx;exact⟨this.1,by omega⟩
 have hlen:([(ByteArray.mk #[97]),(ByteArray.mk #[98]),(ByteArray.mk #[99]),(ByteArray.mk #[97,97])]:List ByteArray).length=4:=rfl;revert hpw hval hlen;generalize ([(ByteArray.mk #[97]),(ByteArray.mk #[98]),(ByteArray.mk #[99]),(ByteArray.mk #[97,97])]:List ByteArray)=L;intro hpw hval hlen;have vl:∀l:List ByteArray,l.Sublist L->VL l:=fun l hl=>⟨fun x hx=>hval x (hl.subset hx),hpw.sublist hl,by have:=hl.length_le;omega⟩
 refine Yd.list L (by omega) (fun i (s:dp×List ByteArray×List ByteArray)=>(i,s.1,(ar.mk v p1.1 p2.1 [] []),s.2.1,s.2.2,())) (fun i s=>mB s.1/\s.2.1.Sublist (L.take i)/\s.2.2.Sublist (L.take i)) ?_ ?_ (s:=(p2.2,[],[])) ⟨hO2,List.nil_sublist _,List.nil_sublist _⟩
 ·rintro i x ⟨s,vs,as_⟩ ⟨hs,g1,g2⟩ hd hx' hi hdec hx hadd;simp only at hs g1 g2;have l1:=g1.length_le;have l2:=g2.length_le;rw[List.length_take]at l1 l2
  have e:L.take (i+1)=L.take i++[x]:=by
   have hi2:L[i]?=some x:=by rw[bd]at hx;exact hx
   rw[List.take_add_one,hi2];rfl
  have w1:vs.Sublist (L.take (i+1)):=by rw[e];exact g1.trans (List.sublist_append_left _ _)
  have w2:as_.Sublist (L.take (i+1)):=by rw[e];exact g2.trans (List.sublist_append_left _ _)
  have w3:(vs++[x]).Sublist (L.take (i+1)):=by rw[e];exact g1.append (List.Sublist.refl _)
  have w4:(as_++[x]).Sublist (L.take (i+1)):=by rw[e];exact g2.append (List.Sublist.refl _)
  simp only;rw[hdec,Qk,hx,Qa,hadd,bn (by simp;omega),bn (by simp;omega)]
  refine Yd.bind (qt hs (by omega)) fun p10 ⟨hO3,_,_,_⟩=> ?_
  have fin:∀vs':List ByteArray,vs'.Sublist (L.take (i+1))->Yd (Option.bind (bR p10.2 (3:Int)) fun p9=>
    bif (decide (p9.1=(2:Int)))then
    bif true then
    some (Sum.inl (((i+1:Nat):Int),p9.2,(ar.mk v p1.1 p2.1 ([]:List ByteArray) ([]:List ByteArray)),vs',(as_++[x]),()))
    else none
    else
    some (Sum.inl (((i+1:Nat):Int),p9.2,(ar.mk v p1.1 p2.1 ([]:List ByteArray) ([]:List ByteArray)),vs',as_,())):Option ((Int×dp×ar×(List ByteArray)×(List ByteArray)×Unit)⊕(ar×dp))) (Lp (fun t=>∃s':dp×List ByteArray×List ByteArray,t=(((i+1:Nat):Int),s'.1,(ar.mk v p1.1 p2.1 [] []),s'.2.1,s'.2.2,())/\(mB s'.1/\s'.2.1.Sublist (L.take (i+1))/\s'.2.2.Sublist (L.take (i+1)))) (fun r=>mB r.2/\uu r.1/\r.1.an=v/\r.1.aE<=30)):=by
   intro vs' hvs;refine Yd.bind (qt hO3 (by omega)) fun p9 ⟨hO4,_,_,_⟩=> ?_
   cases decide (p9.1=2)with
   |true=>exact .some ⟨(p9.2,vs',as_++[x]),rfl,hO4,hvs,w4⟩
   |false=>exact .some ⟨(p9.2,vs',as_),rfl,hO4,hvs,w2⟩
  cases decide (p10.1=1)with
  |true=>exact fin _ w3
  |false=>exact fin _ w1
 ·rintro⟨s,vs,as_⟩ ⟨hs,g1,g2⟩ hdec;simp only at hs g1 g2;rw[Qq62]at g1 g2;simp only;rw[hdec,Ql];exact .some ⟨hs,⟨h0,h1,hlo,ht,vl _ g1,vl _ g2⟩,rfl,hhi (by omega)⟩
theorem afB{k:Int}{x:bs}(h:nT 0 1 k x)(hk:k<=999998){s:dp}(hO:mB s){now:Int}(h0:0<=now)(h1:now<=190):Yd (Ad s x now) fun q=>mB q.2/\yC 0 1 (k+1) x q.1.1/\now<=q.1.2.1/\q.1.2.1<=now+4:=by
 unfold Ad;simp only[etas];refine Yd.join (fun v=>mB v.2.2.1/\(v.2.1=0->yC 0 1 (k+1) x v.2.2.2.1)/\now<=v.1/\v.1<=now+4) (fun v ⟨hv1,hv2,hv3,hv4⟩=> ?_) (fun j' hj=> ?_)
 ·by_cases e:v.2.1=0
  ·rw[Qg e];exact .some ⟨hv1,hv2 e,hv3,hv4⟩
  ·rw[Qh e];exact .some ⟨hv1,yC.self h (by omega),hv3,hv4⟩
 ·refine Yd.bind (qt hO (by omega)) fun p3 ⟨hO3,_,_,_⟩=> ?_
  have out:∀{c:Int} {y:bs} {k':Int},k'<=k+1->((c=0/\yC 0 1 k' x y)\/c≠0)->c=0->yC 0 1 (k+1) x y:=fun{c y k'} hk' hq e=>hq.elim (fun g=>⟨g.2.1.le hk',g.2.2⟩) fun g=>absurd e g
  refine Yd.cond (fun _=> ?_) (fun _=>Yd.cond (fun _=> ?_) (fun _=>Yd.cond (fun _=> ?_) (fun _=>Yd.cond (fun _=> ?_) (fun _=> ?_))))
  ·refine Yd.bind (qt hO3 (by omega)) fun p4 ⟨hO4,g0,g1,_⟩=> ?_
   have g1:=g1 (by omega)
   have hadd:aA .i64 now p4.1=now+p4.1:=bD (by omega) (by omega)
   rw[hadd];refine Yd.bind (adJ h hk (by omega) (by omega)) fun q hq=> ?_
   exact hj _ ⟨hO4,out (by omega) hq,by show now<=now+p4.1;omega,by show now+p4.1<=now+4;omega⟩
  ·refine Yd.bind (DO hO3) fun p6 ⟨hO6,hv⟩=> ?_
   refine Yd.bind (ZF h hk (MO hv)) fun q hq=> ?_
   exact hj _ ⟨hO6,out (by omega) hq,Int.le_refl _,by show now<=now+4;omega⟩
  ·refine Yd.bind (DP hO3 (n:=4) (by omega) (by omega)) fun p8 ⟨hO8,ht,_,_⟩=> ?_
   refine Yd.bind (X9 h hk ht) fun q hq=> ?_
   exact hj _ ⟨hO8,out (by omega) hq,Int.le_refl _,by show now<=now+4;omega⟩
  ·refine Yd.bind (pN hO3 (by omega) (by omega) (by omega)) fun p10 ⟨hO10,hlo,hhi,_⟩=> ?_
   have hhi:=hhi (by omega)
   refine Yd.bind (Uj hO10 (by omega) (by omega)) fun p11 ⟨hO11,hm,hmn,_⟩=> ?_
   simp only[ar.eta];refine Yd.bind (X7 h hk hm (by rw[hmn];omega)) fun q hq=> ?_
   exact hj _ ⟨hO11,out (by omega) hq,Int.le_refl _,by show now<=now+4;omega⟩
  ·refine Yd.bind (pN hO3 (by omega) (by omega) (by omega)) fun p13 ⟨hO13,hlo,hhi,_⟩=> ?_
   have hhi:=hhi (by omega)
   refine Yd.bind (Wz hO13 (by omega) (by omega) (by omega) (by omega) (n:=4) (by omega) (by omega)) fun p14 ⟨hO14,he⟩=> ?_
   generalize hE:(ai.mk p14.1.an p14.1.aY (aA .i64 p14.1.aE now) p14.1.aj p14.1.bF p14.1.aa p14.1.ao p14.1.az p14.1.aS p14.1.bl)=E;have hT:dQ E.aj:=by rw[<-hE];exact he.aL
   have hN:E.an=p13.1:=by rw[<-hE];exact he.aB
   have hS:E.aY=1:=by rw[<-hE];exact he.aG
   have hh:vI x.al E\/(cQ E.aj/\aU E=false):=by
    cases hv:aU E with
    |false=>exact .inr ⟨hT.sm,rfl⟩
    |true=>exact .inl ⟨hv,hT,by rw[hS,h.pre.aG],by rw[hN,h.pre.aB];omega⟩
   refine Yd.bind (ZJ h hk hh) fun q hq=> ?_
   exact hj _ ⟨hO14,out (by omega) hq,Int.le_refl _,by show now<=now+4;omega⟩
theorem ahx{nd sl:Int}(hv0:0<=nd)(hv1:nd<10)(hs0:1<=sl)(hs1:sl<=1000000){t:ae}{own:ByteArray}{now:Int}(ht:dQ t)(ho:own.size<=200)(h0:0<=now)(h1:now<=200):Yd (oY nd sl t own now) fun q=>q.2.1=0/\nT nd sl 0 q.1:=by
 unfold oY;simp only[etas];rw[Qh (by omega:¬now<0),Qh (by omega:¬(200:Int)<now)]
 simp only[Ql,Qa];rw[abr hv0 hv1 hs0 hs1 ht];simp only[Qa,decide_true,Qo,Ql];refine Yd.bind (Pk ht hv0 hv1 (by omega) hs1 ho) fun q ⟨q0,g1,g2,g3,g4,g5⟩=> ?_
 rw[q0];simp only[decide_true,Qo,Ql];refine Yd.bind (Nh (by omega) (by omega)) fun w ⟨w1,w2⟩=> ?_
 have hadd2:aA .i64 now w=now+w:=bD (by omega) (by omega)
 rw[hadd2];obtain⟨m1,m2⟩:=J3 (aB:=nd) (aG:=sl) hv0 hv1 hs0 hs1 ht;have ht0:ug ⟨0, -1⟩:=⟨by decide,by decide,by decide,by decide⟩
 refine Yd.bind (sn (k:=0) (x:=⟨q.1,Ca nd sl t,⟨0, -1⟩,1,now+w,false,ByteArray.mk #[]⟩) ⟨m1,m2,rfl,rfl,g1,by show 1<=q.1.aE/\q.1.aE<=1+0;rw[g5];decide,g2,g3,g4,ht0,⟨(by decide:(1:Int)<=1),(by decide:(1:Int)<=1000)⟩,by show 0<=now+w/\now+w<=212;omega⟩) fun y hy=> .some ⟨rfl,hy.1⟩
end
section
theorem yd(a b:ByteArray):eG a b=some (vx a b):=by
 simp[eG,vx]
theorem aaJ{a b:ByteArray}:decide (0<=vx a b)= !bJ a b:=by
 rw[<-tr]
 by_cases h:vx a b<0
 ·rw[Qg h,Qh (by omega)];rfl
 ·rw[Qh h,Qg (by omega)];rfl
theorem Ua(x:ByteArray):rl x=some (decide (jH x)):=Ni x
theorem Nv{l:List ByteArray}(h:VL l):iR l=some true:=by
 unfold iR;refine Yd.eq_true (Yd.list l h.vb (fun i (_:Unit)=>(i,())) (fun _ _=>True) ?_ ?_ (s:=()) trivial)
 ·intro i y s hs hd hy hi hdec hx hadd;simp only;rw[hdec,Qk,hx,Qa,Ua,Qa,Qg (h.rD y hy),hadd];simp only[Qo,Ql]
  by_cases h0:i=0
  ·subst h0;rw[Qh (by omega:¬(0:Int)<((0:Nat):Int))]
   exact .some ⟨(),rfl,trivial⟩
  ·rw[Qg (by omega:(0:Int)<(i:Int))]
   simp only[Qk];have hsub:dh .i64 (i:Int) 1=((i - 1:Nat):Int):=by rw[qH (by omega) (by have:=h.len;omega)];omega
   have hi1:i - 1<l.length:=by omega
   rw[hsub,bd,Qv hi1,Qa,yd,Qa,aaJ]
   have hyi:y=l[i]:=by
    rw[bd,Qv hi]at hx;exact(Option.some.inj hx).symm
   have hlt:bJ l[i - 1] y=true:=by
    rw[hyi];exact List.pairwise_iff_getElem.1 h.F0 (i - 1) i hi1 hi (by omega)
   rw[hlt];exact .some ⟨(),rfl,trivial⟩
 ·intro s hs hdec;simp only;rw[hdec,Ql,Qg (by have:=h.len;omega:((l.length:Nat):Int)<=(40:Int))]
  exact .some rfl
theorem af2(l:List ByteArray)(hl:l.length<=1000000)(x:ByteArray):Yd (jJ l x) fun r=>decide (0<=r)=decide (x∈l):=by
 unfold jJ;refine Yd.list l hl (fun i (_:Unit)=>(i,())) (fun i _=>x∉l.take i) ?_ ?_ (s:=()) (by simp)
 ·intro i y s hs hd hy hi hdec hx hadd;simp only;rw[hdec,Qk,hx,Qa,hadd]
  by_cases hxy:x=y
  ·rw[Qg hxy,Qk];refine .some ?_;show decide ((0:Int)<=(i:Int))=decide (x∈l);rw[Qg (by omega:(0:Int)<=(i:Int))]
   exact(Qg (by rw[hxy];exact hy)).symm
  ·rw[Qh hxy,Ql];refine .some ⟨(),rfl,?_⟩
   have hi2:l[i]?=some y:=by
    rw[bd]at hx;exact hx
   rw[List.take_add_one,hi2];simp only[Option.toList_some,Qz,Q5];exact fun h=>h.elim hs hxy
 ·intro s hs hdec;simp only;rw[hdec,Ql];rw[Qq62]at hs;refine .some ?_;show decide ((0:Int)<= -1)=decide (x∈l);rw[Qh hs];rfl
theorem IG(l:List ByteArray)(hl:l.length<=1000000)(x:ByteArray):kV l x=some (decide (x∈l)):=by
 obtain⟨r,h1,h2⟩:=af2 l hl x;unfold kV lD;rw[h1,Qa,Qa,h2]
theorem Nu{v:Int}(h0:0<=v)(h1:v<10):ma v=some true:=by
 unfold ma;rw[Qg h0,Qg h1];rfl
theorem W8{m:ar}(h:uu m):nF m=some true:=by
 unfold nF;simp only[etas,Nu h.n0 h.n1,c5 h.aL,Nv h.df,Nv h.eA];rw[Qg h.seq];rfl
theorem Z2{n:aw}(h:cI n):fu n.aO n=some false:=by
 unfold fu jm;simp only[etas]
 have:=Yd.list (p:=fun r:Int=>r= -1) (step:=fun(v1:Int×Unit)=>
   bif (decide (v1.1<((List.length n.aO:Nat):Int)))then
   Option.bind (idx n.aO v1.1) fun x2=>
   Option.bind (oT x2 n) fun r3=>
   bif r3 then
   Option.map Sum.inr (some v1.1)
   else
   some (Sum.inl ((aA .i64 v1.1 (1:Int)),()))
   else
   Option.map Sum.inr (some (-1:Int))) n.aO h.lu.vb (fun i (_:Unit)=>(i,())) (fun _ _=>True) ?_ ?_ (s:=()) trivial
 ·obtain⟨r,h1,rfl⟩:=this;rw[h1];rfl
 ·intro i x s _ hd hx' hi hdec hx hadd;simp only;unfold oT;rw[hdec,Qk,hx,Qa,hadd,IG _ h.eA.vb,Qg (h.sub x hx')];exact .some ⟨(),rfl,trivial⟩
 ·intro s _ hdec;simp only;rw[hdec,Ql];exact .some rfl
theorem WZ{n:aw}(h:cI n)(hs:1<=n.aE/\n.aE<=1000000):nD n=some true:=by
 have hlen:=h.len;unfold nD tF;simp only[etas,Nu h.ask.v0 h.ask.v1,c5 h.ask.aL,Nv h.df,Nv h.eA,Nv h.lu,Z2 h];rw[Qg h.ask.s0,Qg h.ask.s1,Qg h.ask.r1,Qg h.ask.r2,Qg hs.1,Qg hs.2,Qh (by have:=h.own;omega:¬(200:Int)<((n.mz.size:Nat):Int))]
 simp only[Ql,Qk,Qa,decide_true,Qo];refine Yd.eq_true ?_;refine Yd.list n.aq (by omega) (fun i (_:Unit)=>(i,())) (fun _ _=>True) ?_ ?_ (s:=()) trivial
 ·intro i m s _ hd hm hi hdec hx hadd;obtain⟨hm1,hm2⟩:=h.heard m hm;simp only[aN];rw[hdec,Qk,hx,Qa,hadd];simp only[ar.eta];rw[W8 hm1,Qa,Qh hm2];simp only[Qo,Ql]
  by_cases h0:i=0
  ·subst h0;rw[Qh (by omega:¬(0:Int)<((0:Nat):Int))]
   exact .some ⟨(),rfl,trivial⟩
  ·rw[Qg (by omega:(0:Int)<(i:Int))]
   simp only[Qk];have hsub:dh .i64 (i:Int) 1=((i - 1:Nat):Int):=by rw[qH (by omega) (by omega)];omega
   have hi1:i - 1<n.aq.length:=by omega
   rw[hsub,bd,Qv hi1,Qa]
   have hyi:m=n.aq[i]:=by
    rw[bd,Qv hi]at hx;exact(Option.some.inj hx).symm
   have hlt:n.aq[i - 1].an<m.an:=by
    rw[hyi];exact List.pairwise_iff_getElem.1 h.eZ (i - 1) i hi1 hi (by omega)
   rw[Qh (by omega:¬m.an<=n.aq[i - 1].an)]
   exact .some ⟨(),rfl,trivial⟩
 ·intro s _ hdec;simp only;rw[hdec,Ql];exact .some rfl
theorem afZ{t:dj}(ht:ug t):Ba t=some true:=TY ht
theorem Dj{nd sl k:Int}{x:bs}(h:nT nd sl k x)(hk:k<=999999):pQ x=some true:=by
 have p:=h.pre;obtain⟨b,f,hb⟩:=eqT (a:=x.ay.aj) (b:=x.al.aj) p.lf.ask.aL.sm;have hbt:=hb.2 p.aL;subst hbt;unfold pQ;simp only[etas,C4 p.gK p.ji,WZ p.lf ⟨p.pB.1,by have:=p.pB.2;omega⟩,f,afZ p.timer,Gz p.gK p.ji,Qa,Qk]
 rw[Qg (p.qN.trans p.aB.symm),Qg (p.xI.trans p.aG.symm),Qg p.round.1,Qg p.round.2,Qg p.next.1,Qg p.next.2,Qg h.done,Qg h.value]
 rfl
theorem sB(l:List ByteArray)(h:l.length<=1000):bK l=some l:=by
 unfold bK;have hk:bc 16 (([]:List ByteArray).length+l.length)=true:=bn ⟨by simp;omega,by simp;omega⟩
 rw[hk]
 cases l with
 |nil=>simp
 |cons x l=>simp
theorem Pp{t:ae}(h:cQ t):nC t=some t:=(show nC t=gQ t from rfl).trans (oX h)
theorem IF{m:ar}(ht:cQ m.aj)(hv:m.bf.length<=1000)(ha:m.aD.length<=1000):lQ m=some m:=by
 unfold lQ;simp only[etas,Pp ht,sB _ hv,sB _ ha,Qa]
theorem LS{m:ar}(ht:cQ m.aj)(hv:m.bf.length<=1000)(ha:m.aD.length<=1000):mG m=some m:=by
 unfold mG;simp only[etas,oX ht,sB _ hv,sB _ ha,Qa]
theorem Tp{m:ab}(h:bp m):aF m.aa=decide (m.aa.ak=0):=by
 rcases h.body with k|k|k|k
 ·rw[k.aQ];rfl
 all_goals
  rw[k.aQ.nz,Qh (by have:=k.aQ.1;omega)]
theorem abO{nd sl k:Int}{x:bs}(h:nT nd sl k x)(hk:k<=999999):Yd (mP x) fun l=>l.length=(bif x.uy then 0 else 1)+(bif decide (x.al.aa.ak=0)then 0 else 1):=by
 have p:=h.pre;obtain⟨e,he,_⟩:=Uc p.gK p.ji;have l1:=p.lf.df.len;have l2:=p.lf.eA.len;unfold mP tG fE;simp only[ar.eta,etas,Dj h hk,Qa,Qo,Ql,he,aN];rw[IF p.lf.ask.aL.sm (by show x.ay.bf.length<=1000;omega) (by show x.ay.aD.length<=1000;omega)]
 simp only[Qa];rw[LS p.lf.ask.aL.sm (by show x.ay.bf.length<=1000;omega) (by show x.ay.aD.length<=1000;omega)]
 rw[<-Tp p.gK];simp only[Qa,List.nil_append];rw[bn (by simp),bn (by simp),bn (by simp)]
 cases x.uy<;>cases aF x.al.aa<;>exact .some rfl
end
section
def tA:ae:=⟨1,wM 1,[]⟩
def vA:ByteArray:=ByteArray.mk #[97]
theorem vX:dQ tA:=by
 refine⟨fun x hx=> ?_,?_,?_,.inl rfl,?_⟩
 ·obtain⟨k,hk,rfl⟩:=Pr.1 hx;omega
 ·decide
 ·decide
 ·decide
theorem JJ:jH vA:=by decide
theorem vlA:VL [vA]:=⟨fun x hx=>by rw[Q5.1 hx];exact JJ,List.pairwise_singleton _ _,by decide⟩
theorem aee(l:List Int)(hl:l.length<=1000000)(x:Int):Yd (kC l x) fun r=>decide (0<=r)=true->x∈l:=by
 unfold kC;refine Yd.list l hl (fun i (_:Unit)=>(i,())) (fun _ _=>True) ?_ ?_ (s:=()) trivial
 ·intro i y s hs hd hy hi hdec hx hadd;simp only;rw[hdec,Qk,hx,Qa,hadd]
  by_cases hxy:x=y
  ·rw[Qg hxy,Qk];exact .some fun _=>by rw[hxy];exact hy
  ·rw[Qh hxy,Ql];exact .some ⟨(),rfl,trivial⟩
 ·intro s hs hdec;simp only;rw[hdec,Ql];exact .some fun e=>by cases e
theorem ahp(a b c d:Int):∃r,mW a b c d=some r:=⟨_,rfl⟩
theorem aed{k:Int}(h:k≠0):gB tA 0 1 1 k=some false:=by
 unfold gB;rw[Qh h];simp only[etas,Ql,aN]
 have hw:Yd (tH tA k) fun q=>q.2.1=false:=by
  show Yd (jy (tw (SizeOf.sizeOf tA+SizeOf.sizeOf k)) tA k) fun q=>q.2.1=false
  unfold jy
  have hc:gy tA.ba k=some false:=by
   obtain⟨r,h1,h2⟩:=aee tA.ba (by decide) k
   unfold gy;rw[h1,Qa]
   cases e:decide (0<=r)with
   |false=>rfl
   |true=>
    obtain⟨j,hj,rfl⟩:=Pr.1 (h2 e);exact absurd (by omega) h
  rw[hc,Qa,Ql];refine Yd.list tA.aM (by decide) (fun i (s:eO)=>(i,s,())) (fun _ _=>True) (fun i x s _ _ hx=>absurd hx QR) (fun s _ hdec=> ?_) trivial
  simp only;rw[hdec,Ql];exact .some rfl
 obtain⟨q,h1,h2⟩:=hw;rw[h1,Qa,h2];rfl
theorem abQ:iA tA 0 1 1=some 0:=by
 have:Yd (iA tA 0 1 1) fun r=>r=0:=by
  unfold iA;simp only[etas,aN];refine Yd.CN (fun(s:Int×Int×Int×Unit)=>s.1=0/\0<=s.2.2.1/\s.2.2.1<=10) (fun s=>(10 - s.2.2.1).toNat) ?_ ⟨rfl,Int.le_refl _,by show(0:Int)<=10;omega⟩
  rintro⟨b,hsh,k,u⟩ ⟨h1,h2,h3⟩;simp only at h1 h2 h3;subst h1;simp only
  by_cases hk:k<10
  ·rw[Qg hk];have hadd:aA .i64 k 1=k+1:=bD (by omega) (by omega)
   simp only[Qk];rw[hadd]
   have fin:∀x:Int,Yd (some (Sum.inl ((0:Int),x,k+1,())):Option ((Int×Int×Int×Unit)⊕Int)) (Lp (fun s'=>(s'.1=0/\0<=s'.2.2.1/\s'.2.2.1<=10)/\(10 - s'.2.2.1).toNat<(10 - k).toNat) (fun r=>r=0)):=
    fun x=> .some ⟨⟨rfl,by show 0<=k+1;omega,by show k+1<=10;omega⟩,by show(10 - (k+1)).toNat<(10 - k).toNat;omega⟩
   by_cases h0:k=0
   ·subst h0
    have hn:gB tA 0 1 1 0=some true:=by
     unfold gB;rfl
    rw[hn,Qa];obtain⟨hsv,eh⟩:=ahp 2 1 1 0;rw[eh];simp only[Qo,Ql,Qa];refine Yd.cond (fun _=> ?_) fun _=> ?_
    ·exact fin _
    ·exact fin _
   ·rw[aed h0,Qa];exact fin _
  ·rw[Qh hk];exact .some rfl
 obtain⟨r,h1,rfl⟩:=this;exact h1
theorem ZZ:mf tA 0 1 1=some (((1:Nat):Int),0,()):=by
 unfold mf uM;simp only[etas,c5 vX,Qa,decide_true,Qo,Ql];rw[Qh (by omega:¬(0:Int)<0),Qh (by omega:¬(10:Int)<=0),Qh (by omega:¬(1:Int)<0),Qh (by omega:¬(1000000:Int)<1),Qh (by omega:¬(1:Int)<1),Qh (by omega:¬(1000:Int)<1)]
 simp only[Ql,Qa,decide_true,Qo];rw[bh (s':=(((1:Nat):Int),1,())) ?_,bx ?_]
 ·rfl
 ·simp only;rw[Qg (by omega:(0:Int)<1),show aA .i64 0 1=1 from rfl,abQ,Qa,Qk,Qs (by omega)]
  have:=nO (s:=0) (x:=0) (by omega) (by omega) (by omega)
  rw[show qi .i64 (0:Int) (bS .i64 1 0)=((0|||2 ^ (0:Int).toNat:Nat):Int)from this]
  rfl
theorem agK:bK []=some []:=sB [] (by decide)
theorem XB:bL []=some []:=by
 unfold bL;rw[bn (by decide)]
 simp
theorem Ym:fF [] vA=some [vA]:=by
 unfold fF cx;rw[bx (r:=((0:Int),false,())) (by rfl),Qa]
 simp only[Ql,Qa];rw[Qh (by decide),Ql,agK,Qa]
 unfold gz DA;rw[bn (by decide)]
 rfl
theorem ad6{n:aw}(hT:n.aj=tA)(hN:n.an=0)(hS:n.aY=1)(hR:n.Round=1)(hO:n.mz=vA)(hV:n.bf=[]):lh n=some [vA]:=by
 unfold lh;simp only[etas,aN];rw[hT,hN,hS,hR,hO,hV,ZZ,Qa,MM (by omega),Qa,show np 1=[0]from by decide]
 rw[bh (s':=([vA],1,())) ?_,bx (r:=[vA]) ?_]
 ·rfl
 ·simp only;rw[Qg (by decide:(0:Int)<((List.length [(0:Int)]:Nat):Int)),show idx [(0:Int)] 0=some 0 from rfl]
  simp only[Qk,Qa,decide_true];rw[Qh (by decide:¬vA=ByteArray.mk #[])]
  simp only[Qp,Qk];rw[Ym];rfl
theorem ag1{rec:(ae×Unit)->Option ae}{t:ae}(hm:cQ t)(hr:∀u∈t.aM,rec (u,())=some u):nL rec t=some t:=by
 have hn:=hm.nodes;have hi:=hm.len;unfold nL;rw[bn ⟨by omega,by omega⟩,Qk]
 simp only[etas]
 have:=Yd.list (p:=fun r=>r=t) (step:=fun(v1:Int×ae×(List Int)×(List ae)×Unit)=>
   bif (decide (v1.1<((List.length t.aM:Nat):Int)))then
   Option.bind (idx t.aM v1.1) fun x2=>
   Option.bind (rec (x2,())) fun r3=>
   bif bc 56 (List.length v1.2.2.2.1+List.length [r3])then
   some (Sum.inl ((aA .i64 v1.1 (1:Int)),(ae.mk v1.2.1.aJ ([]:List Int) ([]:List ae)),v1.2.2.1,(v1.2.2.2.1++[r3]),()))
   else none
   else
   Option.map Sum.inr (some (ae.mk v1.2.1.aJ v1.2.2.1 v1.2.2.2.1))) t.aM hi (fun i (s:List ae)=>(i,(ae.mk t.aJ [] []),t.ba,s,())) (fun i s=>s=t.aM.take i) ?_ ?_ (s:=[]) (by simp)
 ·obtain⟨r,h1,rfl⟩:=this;exact h1
 ·rintro i x s rfl hd hx' hi' hdec hx hadd;have hi2:t.aM[i]?=some x:=by rw[bd]at hx;exact hx
  simp only;rw[hdec,Qk,hx,Qa,hr x hx',Qa,hadd,bn ⟨by simp;omega,by simp;omega⟩,Qk]
  refine .some ⟨_,rfl,?_⟩;rw[List.take_add_one,hi2];rfl
 ·rintro s rfl hdec;simp only;rw[hdec,Ql,Qq62];exact .some (ae.eta t)
theorem agW{n:Nat}:∀{t:ae},SizeOf.sizeOf t<n->cQ t->vH n (t,())=some t:=by
 induction n with
 |zero=>intro t h;omega
 |succ n ih=>
  intro t hz hm;show nL (vH n) t=some t;exact ag1 hm fun u hu=>ih (t:=u) (by have:=pK hu;omega) (hm.inner u hu)
theorem LU{t:ae}(h:cQ t):rq t=some t:=agW (by omega) h
def cA:List aR:=(List.replicate 10 ⟨false,⟨0,[],[]⟩⟩).set 0 ⟨true,tA⟩
theorem afY{n:aw}(hT:n.aj=tA)(hN:n.an=0)(hH:n.aq=[]):jV n=some ⟨cA⟩:=by
 unfold jV;simp only[etas];rw[hT,hN,hH]
 have hv:kW 0 tA []=some ⟨cA⟩:=by
  unfold kW
  have h1:(decide ((10:Int)=(10:Int))&&decide (0<=(10:Int))&&bc 64 (Int.toNat (10:Int)))=true:=by
   rw[bn (by decide)];rfl
  rw[h1,Qk];refine bx ?_;simp only[etas,aN,QZ];rw[Qh (by decide:¬(0:Int)<((0:Nat):Int)),Ql]
  have hcp:=LU vX.sm;rw[show mX 0=some true from Nu (v:=0) (by omega) (by omega),c5 vX,hcp]
  rfl
 refine bx ?_;simp only[QZ];rw[Qh (by decide:¬(0:Int)<((0:Nat):Int)),Ql,hv]
 rfl
theorem YZ:zV ⟨cA⟩:=⟨by decide,fun m hm=>by
 rcases List.mem_or_eq_of_mem_set hm with hm|rfl
 ·rw[(List.mem_replicate.1 hm).2];exact IJ
 ·exact vX.sm⟩
theorem gqA:(gq cA 1).testBit 0=true:=by
 refine(CL YZ (s:=1) (by omega)).max 1 (fun k hk=> ?_) 0 (by decide)
 have h0:k=0:=by
  rcases Nat.eq_zero_or_pos k with h|h
  ·exact h
  ·rw[Nat.testBit_one_eq_true_iff_self_eq_zero]at hk;exact hk
 subst h0;exact⟨by decide,by decide,by decide⟩
theorem LR{a:List ByteArray}(ha:a=[]\/a=[vA]):eU [(⟨0,1,tA,[vA],a⟩:ar)] vA=some (((1:Nat):Int),((if a=[]then 0 else 1:Nat):Int),()):=by
 unfold eU;simp only[aN];have hb:qi .i64 (0:Int) (bS .i64 1 0)=((1:Nat):Int):=nO (s:=0) (x:=0) (by omega) (by omega) (by omega)
 rw[bh (s':=(((1:Nat):Int),((if a=[]then 0 else 1:Nat):Int),1,())) ?_,bx ?_]
 ·rfl
 ·simp only;rw[Qg (show(0:Int)<((List.length [(⟨0,1,tA,[vA],a⟩:ar)]:Nat):Int)from(by decide:(0:Int)<1)),show idx [(⟨0,1,tA,[vA],a⟩:ar)] 0=some ⟨0,1,tA,[vA],a⟩from rfl]
  simp only[Qk,Qa];rw[IG _ (by decide),IG _ (by rcases ha with rfl|rfl<;>decide),Qa,Qg (Q5.2 rfl),Qk,Qs (by omega),hb,Qa]
  rcases ha with rfl|rfl
  ·rw[Qh QR];rfl
  ·rw[Qg (Q5.2 rfl),Qk,Qs (by omega)]
   rfl
theorem ahu{a:List ByteArray}(ha:a=[]\/a=[vA]):jv [(⟨0,1,tA,[vA],a⟩:ar)]=some [vA]:=by
 unfold jv;have hal:a.length<=1:=by rcases ha with rfl|rfl<;>decide
 rw[bh (s':=(1,[vA]++a,())) ?_]
 ·refine bx ?_;simp only;rw[Qh (show¬(1:Int)<((List.length [(⟨0,1,tA,[vA],a⟩:ar)]:Nat):Int)from(by decide:¬(1:Int)<1)),Ql]
  obtain⟨t,h1,h2,h3,h4⟩:=iu.TG (cmp:=fun x y=>eG x y) yd (fun x y=>tr x y) ([vA]++a) (by simp only[QB,Q6];omega)
  have hs:eK ([vA]++a)=some ((),t):=h1;have hc:dR t=some (dd t):=zR (eq:=fun a b=>decide (a=b)) (ne:=fun a b=> !decide (a=b)) (z:=ByteArray.mk #[]) (fun _ _=>rfl) (fun _ _=>rfl) t (by rw[h2];simp only[QB,Q6];omega)
  rw[hs,Qa,hc]
  have he:dd t=[vA]:=by
   refine iu.unique h3 (List.pairwise_singleton _ _) fun x=> ?_
   rw[h4];rcases ha with rfl|rfl<;>simp
  rw[he];rfl
 ·simp only;rw[Qg (show(0:Int)<((List.length [(⟨0,1,tA,[vA],a⟩:ar)]:Nat):Int)from(by decide:(0:Int)<1)),show idx [(⟨0,1,tA,[vA],a⟩:ar)] 0=some ⟨0,1,tA,[vA],a⟩from rfl]
  simp only[Qk,Qa];rw[bn (by simp),bn (by simp;omega)]
  rfl
theorem ZW{n:aw}{a:List ByteArray}(ha:a=[]\/a=[vA])(hT:n.aj=tA)(hN:n.an=0)(hH:n.aq=[])(hQ:n.aE=1)(hV:n.bf=[vA])(hA:n.aD=a):gG n ⟨cA⟩=some (if a=[]then(vA,true,())else(ByteArray.mk #[],false,())):=by
 unfold gG fE;simp only[etas,Qa];rw[hT,hN,hH,hQ,hV,hA,XB,Qa,bn (by show(0+1)*120<=140737488355328/\0+1<=1000000;decide),Qk]
 simp only[List.nil_append];rw[ahu ha,Qa];have hl:a.length<=1:=by rcases ha with rfl|rfl<;>decide
 rcases ha with rfl|rfl
 ·refine bx ?_;simp only;rw[Qg (by decide:(0:Int)<((List.length [vA]:Nat):Int)),show idx [vA] 0=some vA from rfl]
  simp only[Qk,Qa];rw[LR (.inl rfl),Qa,IG _ (by decide),Qa,Qh QR]
  have:=xO YZ (v:=0) (df:=1) (accepts:=0) (by omega) (by omega) (by omega)
  have hacc:kL cA 0 1 0=true:=by
   unfold kL;rw[show(1|||0:Nat)=1 from rfl,gqA,Bool.or_true]
  rw[hacc]at this;simp only[Qp,Qk,Qa,Qt];rw[Qg (by decide:((List.length ([]:List ByteArray):Nat):Int)<40),Qk]
  rw[show gC ⟨cA⟩ 0 ((1:Nat):Int) ((0:Nat):Int)=some true from this]
  rfl
 ·rw[bh (s':=(1,())) ?_,bx (r:=(ByteArray.mk #[],false,())) ?_]
  ·rw[Qs (by decide)]
  ·rfl
  ·simp only;rw[Qg (by decide:(0:Int)<((List.length [vA]:Nat):Int)),show idx [vA] 0=some vA from rfl]
   simp only[Qk,Qa];rw[LR (.inr rfl),Qa,IG _ (by decide),Qa,Qg (Q5.2 rfl)]
   rfl
def nA:aw:=⟨0,1,1,1,tA,vA,[vA],[vA],[vA],[]⟩
theorem ZU:iz ⟨0,1,1,1,tA,vA,[],[],[],[]⟩=some nA:=by
 unfold iz fE;simp only[etas,aN,QZ];rw[Qg (by decide:((0:Nat):Int)=0),Qk,ad6 rfl rfl rfl rfl rfl rfl,Qa,afY rfl rfl rfl,Qa,ZW (.inl rfl) rfl rfl rfl rfl rfl rfl,Qa,Qr rfl]
 rw[bh (s':=(ByteArray.mk #[],false,⟨0,1,1,1,tA,vA,[vA],[vA],[],[]⟩,())) ?_]
 ·refine bx ?_;simp only[Ql];rw[XB];simp only[Qa];rw[bn (by decide),Qk]
  rw[bh (s':=(1,nA,())) ?_,bx (r:=nA) ?_]
  ·rfl
  ·rfl
  ·simp only;rw[Qg (by decide:(0:Int)<((List.length [vA]:Nat):Int)),show idx [vA] 0=some vA from rfl]
   simp only[Qk,Qa,List.nil_append];rw[LR (.inr rfl),Qa];have:=wu YZ (v:=0) (accepts:=1) (by omega) (by omega)
   rw[gqA]at this;simp only;rw[Qs (by decide),show eH ⟨cA⟩ 0 ((1:Nat):Int)=some true from this,Qa,Qk,Ym]
   rfl
 ·simp only[Qk];rw[Ym,Qa,ZW (.inr rfl) rfl rfl rfl rfl rfl rfl,Qa,Qs (by decide)]
theorem aiN:cI nA:=⟨⟨vX,by decide,by decide,by decide,by decide,by decide,by decide⟩,by decide,vlA,vlA,vlA,fun x hx=>hx,fun m hm=>absurd hm QR,List.Pairwise.nil⟩
theorem aeg:ju nA=some nA:=by
 unfold ju;simp only[etas];rw[show nA.aj=tA from rfl,Pp vX.sm,Qa,show nA.bf=[vA]from rfl,show nA.aD=[vA]from rfl,show nA.aO=[vA]from rfl,sB _ (by decide)]
 simp only[Qa];exact bx rfl
theorem ad8:jw 0 1 tA vA=some (nA,0,()):=by
 unfold jw;simp only[etas,Nu (v:=0) (by omega) (by omega),c5 vX,Qa,Qo,Ql,decide_true]
 rw[Qh (by omega:¬(1:Int)<0),Qh (by omega:¬(1000000:Int)<1),Qh (by decide:¬(200:Int)<((vA.size:Nat):Int)),ZU]
 simp only[Ql,Qa];rw[aeg];rfl
theorem Wc:gn [vA]=some (vA,true,()):=by
 unfold gn;simp only[aN];rw[bh (s':=(vA,1,())) ?_,bx (r:=(vA,true,())) ?_]
 ·rfl
 ·simp only;rw[Qg (by decide:(0:Int)<((List.length [vA]:Nat):Int)),show idx [vA] 0=some vA from rfl]
  simp only[Qk,Qa];rw[Ua,Qg JJ,Qa,Qk,yd,Qa];rw[Qg (by decide:(0:Int)<vx vA (ByteArray.mk #[]))]
  rfl
def mA:ab:=Ca 0 1 tA
def zA:ab:=(runT 1 1 20 (ep mA vA)).getD mA
theorem aiI:runT 1 1 20 (ep mA vA)=some zA/\zA.aK=3/\zA.aa.Value=vA:=by
 refine⟨?_,by decide+kernel,by decide+kernel⟩
 have h:(runT 1 1 20 (ep mA vA)).isSome=true:=by decide+kernel
 unfold zA
 cases e:runT 1 1 20 (ep mA vA)with
 |none=>rw[e]at h;cases h
 |some z=>rfl
theorem afF:Ae=some true:=by
 obtain⟨m1,m2⟩:=J3 (aB:=0) (aG:=1) (by omega) (by omega) (by omega) (by omega) vX
 have hp:=Dh m1 (v:=vA) JJ
 have hflat:xT 1 1 (ep mA vA):=⟨by omega,by omega,by omega,by unfold ep;split<;>rfl,fun e he=>by
  have:(ep mA vA).aq=[]:=by unfold ep;split<;>rfl
  rw[this]at he
  exact absurd he QR⟩
 obtain⟨r1,r2,r3⟩:=aiI;obtain⟨q,e1,x2,hq,ha⟩:=Ub (R:=fun x=>Reach (ep mA vA) x/\oQ mA x) (fun x h1 h2=>⟨adE hp x h1 h2.1,Fl x h1 h2.2⟩) (fun x h=>⟨adD x h.1,Fk x h.2⟩) m1 m2 JJ ⟨adF hp,zU m1 (.inl ⟨vA,JJ,rfl⟩)⟩
 have hb:xE mA (ep mA vA):= .inl ⟨vA,JJ,rfl⟩;have hop:=Fz m1 hb (q:=q) ⟨x2,hq,ha.inv,ha.seq,ha.env,ha.num,ha.nz,ha.rel.2,ha.fix⟩;have hx2:x2={zA with aE:=x2.aE}:=ahW hp hflat r1 ⟨ha.inv,ha.seq,ha.env,ha.num,ha.nz,ha.rel.1,ha.fix⟩
 have hph:q.1.aK=3/\q.1.aa=zA.aa:=by
  obtain⟨s,e,_⟩:=Hh mA x2;rw[hq];show(qX mA x2).aK=3/\(qX mA x2).aa=zA.aa;rw[e,hx2];exact⟨r2,rfl⟩
 have hn:=hop.2;have ht1:(ep mA vA).aj=tA:=by unfold ep;split<;>rfl
 unfold Ae;simp only[etas];rw[show xC 1 1=some tA from afr 1 (by omega) 1,Qa]
 let y:bs:=⟨nA,q.1,⟨0, -1⟩,1,2,true,vA⟩
 have hval:q.1.aa.Value=vA:=by rw[hph.2];exact r3
 have ht0:ug ⟨0, -1⟩:=⟨by decide,by decide,by decide,by decide⟩
 have hy:nT 0 1 0 y:=⟨⟨hn.inv,hn.seq,hn.aB,hn.aG,aiN,⟨(by decide:(1:Int)<=1),(by decide:(1:Int)<=1+0)⟩,rfl,rfl,(hn.aL.trans ht1).symm,ht0,⟨(by decide:(1:Int)<=1),(by decide:(1:Int)<=1000)⟩,⟨(by decide:(0:Int)<=2),(by decide:(2:Int)<=212)⟩⟩,(Qg hph.1).symm,by
  show vA=bif decide (q.1.aK=3)then q.1.aa.Value else fH
  rw[Qg hph.1,hval];rfl⟩
 have hnew:tB 0 1 tA (ByteArray.mk #[97]) 0=some (y,0,()):=by
  unfold tB xU qA;simp only[etas];rw[Qg (by omega:(0:Int)<=0),Qg (by omega:(0:Int)<=200),af1 (by omega) (by omega) (by omega) (by omega) vX]
  simp only[Qk,Ql,Qa,Qo,decide_true];rw[show jw 0 1 tA (ByteArray.mk #[97])=some (nA,0,())from ad8]
  simp only[Qa,decide_true,Qo,Ql];rw[show aA .i64 0 (aA .i64 (bC (de 1 11) 0) 1)=2 from by decide]
  unfold oi;simp only[etas,aN,cz];rw[Qg (show(Ca 0 1 tA).aK=1 from rfl),show aF (Ca 0 1 tA).ax=true from by decide]
  simp only[Qk,Qa];rw[Qg (show(0:Int)<((List.length nA.aO:Nat):Int)from by decide),Qk,show gn nA.aO=some (vA,true,())from Wc]
  simp only[Qk,Qa];rw[Qh (show¬vA=(Ca 0 1 tA).bb from by decide)]
  simp only[Qp,Qk];rw[show me (Ca 0 1 tA) vA=some q from e1,Qa,hop.1]
  simp only[decide_true,Qk];rw[Gz hn.inv hn.seq,Qa,Qg hph.1];simp only[Qk,hval];rfl
 rw[hnew];simp only[Qa,decide_true,Qk];obtain⟨l,hl,hlen⟩:=abO hy (by omega)
 rw[Dj hy (by omega),hl]
 simp only[Qa,Qk]
 have hc:aF q.1.aa=false:=by
  rcases hn.inv.body with k|k|k|k
  ·exact absurd (k.aT.symm.trans hph.1) (by decide)
  ·exact k.aQ.nz
  ·exact k.aQ.nz
  ·exact k.aQ.nz
 rw[Tp hn.inv]at hc
 have:l.length=1:=by
  rw[hlen];show(bif true then 0 else 1)+(bif decide (q.1.aa.ak=0)then 0 else 1)=1
  rw[hc];rfl
 rw[this];rfl
end
section
theorem ahT{n:Nat}(h:n<4611686018427387904):bA .u64 (n:Int)=n:=by
 unfold bA IntKind.wrap;simp[IntKind.signed,IntKind.bits];omega
theorem agi{i j:Nat}(hi:i<=1000000)(hj:j<=1000000):bA .i64 (lx .u64 (bA .u64 (aA .i64 (i:Int) (j:Int))) (1:Int))=(((i+j) / 2:Nat):Int):=by
 have h1:aA .i64 (i:Int) (j:Int)=((i+j:Nat):Int):=bD (by omega) (by omega)
 have h4:lx .u64 (((i+j:Nat)):Int) (1:Int)=(((i+j) / 2:Nat):Int):=by
  show(((i+j:Nat)):Int).fdiv 2=_;rw[Int.fdiv_eq_ediv_of_nonneg _ (by decide)]
  exact(Int.natCast_ediv (i+j) 2).symm
 rw[h1,ahT (by omega),h4]
 exact C6 _ (by omega)
theorem OO{α ρ:Type}(l:List α)(hl:l.length<=1000000)(P:α->Bool)(hp:l.Pairwise fun a b=>P b=true->P a=true){step:Int×Int×Unit->Option ((Int×Int×Unit)⊕ρ)}{fin:Nat->Option ρ}
  (h1:∀(i j m:Nat) (x:α),decide ((i:Int)<(j:Int))=true->j<=l.length->bA .i64 (lx .u64 (bA .u64 (aA .i64 (i:Int) (j:Int))) (1:Int))=(m:Int)->aA .i64 (m:Int) 1=((m+1:Nat):Int)->idx l (m:Int)=some x->step ((i:Int),(j:Int),())=some (.inl (bif P x then(((m+1:Nat):Int),(j:Int),())else((i:Int),(m:Int),()))))
  (h2:∀i:Nat,decide ((i:Int)<(i:Int))=false->i<=l.length->step ((i:Int),(i:Int),())=Option.map Sum.inr (fin i)):
  aC step ((0:Int),((l.length:Nat):Int),())=fin (l.takeWhile P).length:=by
 have htw:∀(l:List α),(l.Pairwise fun a b=>P b=true->P a=true)->∀i x,l[i]?=some x->(P x=true↔i<(l.takeWhile P).length):=by
  intro l
  induction l with
  |nil=>intro _ i x h;simp at h
  |cons y l ih=>
   intro hp i x h;rw[Q4]at hp
   cases hy:P y with
   |false=>
    rw[List.takeWhile_cons,hy];simp only[Qq,Qu,QZ,Nat.not_lt_zero,iff_false]
    cases i with
    |zero=>simp only[List.getElem?_cons_zero,Qf]at h;rw[<-h,hy];simp
    |succ i=>
     intro hx;have:=hp.1 x (Q8 (by simpa using h)) hx
     rw[hy]at this;cases this
   |true=>
    rw[List.takeWhile_cons,hy];simp only[Qt,QE]
    cases i with
    |zero=>simp only[List.getElem?_cons_zero,Qf]at h;rw[<-h,hy];simp
    |succ i=>
     rw[ih hp.2 i x (by simpa using h)]
     omega
 have hk:(l.takeWhile P).length<=l.length:=(List.takeWhile_sublist P).length_le
 suffices key:∀(d i j:Nat),j=i+d->j<=l.length->i<=(l.takeWhile P).length->(l.takeWhile P).length<=j->aC step ((i:Int),(j:Int),())=fin (l.takeWhile P).length from key l.length 0 l.length (by omega) (QI _) (by omega) hk
 intro d
 induction d using Nat.strongRecOn with
 |_ d ih=>
  intro i j hij hjl hi hj
  by_cases h0:d=0
  ·obtain rfl:j=i:=by omega
   obtain rfl:(l.takeWhile P).length=j:=by omega
   rw[ff,h2 _ (Qh (Qq64 _)) hjl];cases fin (l.takeWhile P).length<;>rfl
  ·have hm:(i+j) / 2<l.length:=by omega
   have hs:=h1 i j ((i+j) / 2) l[(i+j) / 2] (Qg (by omega)) hjl (agi (by omega) (by omega)) (bD (by omega) (by omega)) (by rw[bd];exact Qv hm)
   have ht:=htw l hp _ _ (Qv hm)
   cases hP:P l[(i+j) / 2]with
   |true=>
    rw[hP]at hs;have:=ht.1 hP;exact(bh hs).trans (ih (j - ((i+j) / 2+1)) (by omega) _ _ (by omega) hjl (by omega) hj)
   |false=>
    rw[hP]at hs;have:¬(i+j) / 2<(l.takeWhile P).length:=fun e=>by rw[ht.2 e]at hP;cases hP
    exact(bh hs).trans (ih ((i+j) / 2 - i) (by omega) _ _ (by omega) (by omega) hi (by omega))
theorem Jq{a b:ByteArray}:decide (vx a b=0)=decide (a=b):=by
 rw[decide_eq_decide];constructor
 ·intro h;have h1:bJ a b=false:=by rw[<-tr,h];rfl
  refine iu.total a b h1 ?_;unfold vx at h;unfold bJ
  by_cases hs:a.size=b.size
  ·rw[Qr ((vz _ _).2 (by rw[hs]))]at h
   rw[Qr hs.symm];unfold MH at h;split at h
   ·cases h
   ·split at h
    ·rename_i h2 h3;simp only[Qn,Qi]at h3;rcases h3 with h3|rfl
     ·exact absurd h3 h2
     ·exact Da _
    ·cases h
  ·rw[Qs (fun e=>hs (by have:=(vz _ _).1 e;omega))]at h
   exact absurd ((vz _ _).1 h) (by omega)
 ·rintro rfl;unfold vx;rw[Qr ((vz _ _).2 rfl)];unfold MH;rw[Qs (by rw[Da];simp)]
  simp
theorem aal{l:List ByteArray}{a:Nat}(ha:a<=l.length)(h:l.length<=1000)(x:ByteArray):gz l (a:Int) [x]=some (l.take a++[x]++l.drop a):=by
 unfold gz DA;rw[Qg (by omega:(0:Int)<=(a:Int)),Qg (by omega:(a:Int)<=((l.length:Nat):Int)),lU (by omega) (by simp;omega)]
 rfl
theorem H4{α:Type}(P:α->Bool):∀(l:List α),(∀j,j<(l.takeWhile P).length->∃y,l[j]?=some y/\P y=true)/\(∀y,l[(l.takeWhile P).length]?=some y->P y=false)
 |[]=>⟨fun j h=>by simp at h,fun y h=>by simp at h⟩
 |x::l=>by
  obtain⟨h1,h2⟩:=H4 P l
  cases hx:P x with
  |false=>
   rw[List.takeWhile_cons,hx];simp only[Qq,Qu,QZ];exact⟨fun j h=>by omega,fun y h=>by simp only[List.getElem?_cons_zero,Qf]at h;rw[<-h];exact hx⟩
  |true=>
   rw[List.takeWhile_cons,hx];simp only[Qt,QE];refine⟨fun j h=> ?_,fun y h=>h2 y (by simpa using h)⟩
   cases j with
   |zero=>exact⟨x,rfl,hx⟩
   |succ j=>obtain⟨y,g1,g2⟩:=h1 j (by omega);exact⟨y,by simpa using g1,g2⟩
theorem Tr{α:Type}(P:α->Bool)(l:List α):(l.takeWhile P).length<=l.length:=(List.takeWhile_sublist P).length_le
theorem ahq{l:List ByteArray}(h:VL l)(x:ByteArray):cx l x=some ((((l.takeWhile fun y=>bJ y x).length:Nat):Int),decide (x∈l),()):=by
 have hl:=h.len;unfold cx;refine(OO l h.vb (fun y=>bJ y x) (h.F0.imp fun{a b} hab hb=>iu.trans _ _ _ hab hb) (fin:=fun k=>some (((k:Nat):Int),decide (l[k]?=some x),())) (fun i j m y hd hj hm hadd hx=> ?_) (fun i hd hi=> ?_)).trans ?_
 ·simp only[hd,hm,hadd,hx,yd,tr,Qa,Qk];cases bJ y x<;>rfl
 ·simp only[hd,Ql]
  by_cases hi2:i<l.length
  ·rw[Qg (by omega:(i:Int)<((l.length:Nat):Int))]
   simp only[Qk,bd,Qv hi2,Qa,yd,Jq,Qe,Qf]
  ·rw[Qh (by omega:¬(i:Int)<((l.length:Nat):Int)),Qq72 (by omega)]
   rfl
 ·obtain⟨h1,h2⟩:=H4 (fun y=>bJ y x) l
  congr 3;rw[decide_eq_decide];constructor
  ·exact Q8
  ·intro hm;obtain⟨i,hi⟩:=List.getElem?_of_mem hm;have hi':i<l.length:=(Qw.1 hi).1
   have hk:(l.takeWhile fun y=>bJ y x).length=i:=by
    rcases Nat.lt_trichotomy (l.takeWhile fun y=>bJ y x).length i with g|g|g
    ·have hk:(l.takeWhile fun y=>bJ y x).length<l.length:=by omega
     have:=h2 _ (Qv hk);have h3:=List.pairwise_iff_getElem.1 h.F0 _ i hk hi' g;rw[(Qw.1 hi).2,this]at h3;cases h3
    ·exact g
    ·obtain⟨y,g1,g2⟩:=h1 i g;rw[hi]at g1;cases g1;rw[iu.irrefl]at g2;cases g2
   rw[hk];exact hi
theorem Yn{l:List ByteArray}(h:VL l)(x:ByteArray):fF l x=some (mK l x):=by
 have hl:=h.len;unfold fF mK;rw[ahq h x,Qa]
 by_cases hx:x∈l
 ·rw[Qg hx,Qr (.inl hx)];rfl
 by_cases h40:40<=l.length
 ·rw[Qh hx,Qg (by omega:(40:Int)<=((l.length:Nat):Int)),Qr (.inr h40)];rfl
 rw[Qh hx,Qh (by omega:¬(40:Int)<=((l.length:Nat):Int)),Qs (fun e=>e.elim hx h40)]
 simp only[Ql,Qa,sB l (by omega)]
 rw[aal (Tr _ _) (by omega),Qa]
 obtain⟨h1,h2⟩:=H4 (fun y=>bJ y x) l
 rw[PR x l _ h1 h2,Qs (fun e=>hx (Q8 e))]
 simp
def XP(a b:List ByteArray):List ByteArray:=b.foldl (fun l x=>dH bJ x l) a
theorem adx{a:List ByteArray}(ha:a.Pairwise (fun x y=>bJ x y=true))(b:List ByteArray):(XP a b).Pairwise (fun x y=>bJ x y=true)/\∀x,x∈XP a b↔x∈b\/x∈a:=BO iu b a ha
theorem abc(a b:List ByteArray):(XP a b).length<=a.length+b.length:=Of b a
def EI(m:ar):List ByteArray:=m.bf++m.aD
def qG(L:List ar):List ByteArray:=XP [] (L.flatMap EI)
theorem F8(L:List ar):(qG L).Pairwise (fun x y=>bJ x y=true)/\∀x,x∈qG L↔∃m∈L,x∈m.bf\/x∈m.aD:=by
 obtain⟨h1,h2⟩:=adx (a:=[]) List.Pairwise.nil (L.flatMap EI);refine⟨h1,fun x=> ?_⟩
 rw[qG,h2];simp[EI]
theorem Lw{l:List ByteArray}(L:List ar)(h1:l.Pairwise (fun x y=>bJ x y=true))(h2:∀x,x∈l↔∃m∈L,x∈m.bf\/x∈m.aD):l=qG L:=
 iu.unique h1 (F8 L).1 fun x=>by rw[h2,(F8 L).2]
theorem P5{L:List ar}(h:∀m∈L,VL m.bf/\VL m.aD):(L.flatMap EI).length<=80*L.length:=by
 induction L with
 |nil=>simp
 |cons m L ih=>
  have h1:=ih fun x hx=>h x (Qy _ hx)
  have h2:=(h m Qx).1.len;have h3:=(h m Qx).2.len;simp only[List.flatMap_cons,QB,EI,QE]at h1 ⊢;omega
theorem Rk{L:List ar}(h:∀m∈L,VL m.bf/\VL m.aD):(qG L).length<=80*L.length:=by
 have h1:=abc [] (L.flatMap EI);have h2:=P5 h;rw[qG];simp only[QZ]at h1;omega
theorem af9{L:List ar}(h:∀m∈L,VL m.bf/\VL m.aD)(hl:L.length<=100):jv L=some (qG L):=by
 have hf:=P5 h
 have hsort:∀s:List ByteArray,s.length<1000000->(∀x,x∈s↔∃m∈L,x∈m.bf\/x∈m.aD)->(Option.bind (eK s) fun p3=>Option.bind (dR p3.2) fun r4=>some r4)=some (qG L):=by
  intro s hs hmem;obtain⟨t,h1,h2,h3,h4⟩:=iu.TG (cmp:=fun x y=>eG x y) yd (fun x y=>tr x y) s (by omega)
  have hc:=zR (eq:=fun x y:ByteArray=>decide (x=y)) (ne:=fun x y=> !decide (x=y)) (z:=ByteArray.mk #[]) (fun _ _=>rfl) (fun _ _=>rfl) t (by omega)
  have h1':eK s=some ((),t):=h1;have hc':dR t=some (dd t):=hc;rw[h1',Qa,hc',Qa,Lw L h3 (fun x=>by rw[h4,hmem])]
 unfold jv
 suffices key:Yd (aC _ ((0:Int),([]:List ByteArray),())) fun r=>r=qG L by
  obtain⟨r,h1,rfl⟩:=key;exact h1
 refine Yd.list L (by omega) (fun i (s:List ByteArray)=>(i,s,())) (fun i s=>s=(L.take i).flatMap EI) ?_ ?_ (s:=[]) (by simp)
 ·rintro i m s rfl hd hm hi hdec hx hadd;have hi2:L[i]?=some m:=by rw[bd]at hx;exact hx
  have e:L.take (i+1)=L.take i++[m]:=by rw[List.take_add_one,hi2];rfl
  have hlen:((L.take i).flatMap EI).length<=80*100:=QK (P5 fun x hx=>h x (Q1 hx)) (Nat.mul_le_mul_left _ (by rw[List.length_take];omega))
  have l1:=(h m hm).1.len;have l2:=(h m hm).2.len;simp only;rw[hdec,Qk,hx,Qa,hadd,lU (by omega) (by omega),Qk,lU (by omega) (by rw[QB];omega),Qk]
  refine .some ⟨_,rfl,?_⟩;rw[e,List.flatMap_append];simp[EI]
 ·rintro s rfl hdec;rw[Qq62];simp only;rw[hdec,Ql,hsort _ (by omega) (fun x=>by simp[EI])]
  exact .some rfl
theorem JV{a b:List ByteArray}(ha:a.Pairwise (fun x y=>bJ x y=true))(hb:b.Pairwise (fun x y=>bJ x y=true))(h:a.length+b.length<=100000):
  Yd (jB a b) fun r=>r.Pairwise (fun x y=>bJ x y=true)/\(∀x,x∈r↔x∈a\/x∈b)/\r.length<=a.length+b.length:=by
 unfold jB;simp only[aN];refine Yd.CN (fun(v:Int×Int×List ByteArray×Unit)=>∃i k:Nat,v.1=i/\v.2.1=k/\i<=a.length/\k<=b.length/\v.2.2.1.length<=i+k/\v.2.2.1.Pairwise (fun x y=>bJ x y=true)/\(∀x,x∈v.2.2.1↔x∈a.take i\/x∈b.take k)/\(∀x∈v.2.2.1,(∀y∈a.drop i,bJ x y=true)/\∀y∈b.drop k,bJ x y=true)) (fun v=>a.length+b.length - (v.1.toNat+v.2.1.toNat)) ?_ ⟨0,0,rfl,rfl,by omega,by omega,by simp,List.Pairwise.nil,by simp,fun x hx=>absurd hx QR⟩
 rintro⟨i',k',out,u⟩ ⟨i,k,e1,e2,hi,hk,hlen,hpw,hmem,hlt⟩;simp only at e1 e2 hlen hpw hmem hlt;subst e1 e2;have kk:∀x:ByteArray,bc 16 (out.length+[x].length)=true:=fun x=>bn ⟨by simp only[Q6];omega,by simp only[Q6];omega⟩
 have hi1:aA .i64 (i:Int) 1=((i+1:Nat):Int):=bD (by omega) (by omega)
 have hk1:aA .i64 (k:Int) 1=((k+1:Nat):Int):=bD (by omega) (by omega)
 have ga:∀h:i<a.length,idx a (i:Int)=some a[i]:=fun h=>by rw[bd];exact Qv h
 have gb:∀h:k<b.length,idx b (k:Int)=some b[k]:=fun h=>by rw[bd];exact Qv h
 have tail:∀{l:List ByteArray} (hp:l.Pairwise (fun x y=>bJ x y=true)) {j:Nat} (hj:j<l.length),∀y∈l.drop (j+1),bJ l[j] y=true:=by
  intro l hp j hj;have:=hp.sublist (List.drop_sublist j l);rw[QM hj,Q4]at this;exact this.1
 have fin1:∀(x:ByteArray) (j1 j2:Nat),j1<=a.length->j2<=b.length->i<=j1->k<=j2->i+k<j1+j2->(∀y,(y∈a.take j1\/y∈b.take j2)↔y=x\/y∈a.take i\/y∈b.take k)->(x∈a.drop i\/x∈b.drop k)->(∀y∈a.drop j1,bJ x y=true)->(∀y∈b.drop j2,bJ x y=true)->Yd (bif bc 16 (out.length+[x].length)then some (Sum.inl (((j1:Nat):Int),((j2:Nat):Int),(out++[x]),()))else(none:Option ((Int×Int×List ByteArray×Unit)⊕List ByteArray)))
   (Lp (fun s'=>(∃i k:Nat,s'.1=i/\s'.2.1=k/\i<=a.length/\k<=b.length/\s'.2.2.1.length<=i+k/\s'.2.2.1.Pairwise (fun x y=>bJ x y=true)/\(∀x,x∈s'.2.2.1↔x∈a.take i\/x∈b.take k)/\(∀x∈s'.2.2.1,(∀y∈a.drop i,bJ x y=true)/\∀y∈b.drop k,bJ x y=true))/\a.length+b.length - (s'.1.toNat+s'.2.1.toNat)<a.length+b.length - ((i:Int).toNat+(k:Int).toNat)) (fun r=>r.Pairwise (fun x y=>bJ x y=true)/\(∀x,x∈r↔x∈a\/x∈b)/\r.length<=a.length+b.length)):=by
  intro x j1 j2 h1 h2 h3 h4 h5 hm hxi hx1 hx2;rw[kk x,Qk];refine .some ⟨⟨j1,j2,rfl,rfl,h1,h2,?_,?_,fun y=> ?_,fun y hy=> ?_⟩,?_⟩
  ·simp only[QB,Q6];omega
  ·rw[Qq69];refine⟨hpw,List.pairwise_singleton _ _,fun y hy z hz=> ?_⟩
   rw[Q5.1 hz];exact hxi.elim ((hlt y hy).1 x) ((hlt y hy).2 x)
  ·rw[Qz,Q5,hmem,hm];exact or_comm
  ·rcases Qz.1 hy with hy|hy
   ·refine⟨fun z hz=>(hlt y hy).1 z ?_,fun z hz=>(hlt y hy).2 z ?_⟩
    ·rw[show j1=i+(j1 - i)by omega,<-List.drop_drop]at hz
     exact Q2 hz
    ·rw[show j2=k+(j2 - k)by omega,<-List.drop_drop]at hz
     exact Q2 hz
   ·rw[Q5.1 hy];exact⟨hx1,hx2⟩
  ·simp only[QV];omega
 have ta:∀(h:i<a.length) (y:ByteArray),y∈a.take (i+1)↔y=a[i]\/y∈a.take i:=fun h y=>by
  rw[Q7 h,Qz,Q5];exact or_comm
 have tb:∀(h:k<b.length) (y:ByteArray),y∈b.take (k+1)↔y=b[k]\/y∈b.take k:=fun h y=>by
  rw[Q7 h,Qz,Q5];exact or_comm
 have da:∀h:i<a.length,a[i]∈a.drop i:=fun h=>by rw[QM h];exact Qx
 have db:∀h:k<b.length,b[k]∈b.drop k:=fun h=>by rw[QM h];exact Qx
 simp only
 by_cases c1:i<a.length
 ·rw[Qg (by omega:(i:Int)<((a.length:Nat):Int))]
  simp only[Qk,Qa]
  by_cases c2:k=b.length
  ·rw[Qg (by omega:(k:Int)=((b.length:Nat):Int)),ga c1,hi1]
   simp only[Qk,Qa];refine fin1 a[i] (i+1) k (by omega) hk (by omega) (by omega) (by omega) (fun y=>by rw[ta c1,or_assoc]) (.inl (da c1)) (tail ha c1) ?_
   rw[c2,Qq66];exact fun y hy=>absurd hy QR
  ·have c3:k<b.length:=by omega
   rw[Qh (by omega:¬(k:Int)=((b.length:Nat):Int)),ga c1,gb c3,Qh (by omega:¬(i:Int)=((a.length:Nat):Int))]
   simp only[Ql,Qa,AA,Ey,Jr,hi1,hk1]
   cases hxy:bJ a[i] b[k]with
   |true=>
    refine fin1 a[i] (i+1) k (by omega) hk (by omega) (by omega) (by omega) (fun y=>by rw[ta c1,or_assoc]) (.inl (da c1)) (tail ha c1) fun y hy=> ?_
    rw[QM c3]at hy;rcases QA.1 hy with rfl|hy
    ·exact hxy
    ·exact iu.trans _ _ _ hxy (tail hb c3 y hy)
   |false=>
    cases hyx:bJ b[k] a[i]with
    |true=>
     refine fin1 b[k] i (k+1) hi (by omega) (by omega) (by omega) (by omega) (fun y=>by rw[tb c3,or_left_comm]) (.inr (db c3)) (fun y hy=> ?_) (tail hb c3)
     rw[QM c1]at hy;rcases QA.1 hy with rfl|hy
     ·exact hyx
     ·exact iu.trans _ _ _ hyx (tail ha c1 y hy)
    |false=>
     have he:a[i]=b[k]:=iu.total _ _ hxy hyx;refine fin1 a[i] (i+1) (k+1) (by omega) (by omega) (by omega) (by omega) (by omega) (fun y=> ?_) (.inl (da c1)) (tail ha c1) (by rw[he];exact tail hb c3)
     rw[ta c1,tb c3,<-he];constructor
     ·rintro((h|h)|(h|h))
      ·exact .inl h
      ·exact .inr (.inl h)
      ·exact .inl h
      ·exact .inr (.inr h)
     ·rintro(h|h|h)
      ·exact .inl (.inl h)
      ·exact .inl (.inr h)
      ·exact .inr (.inr h)
 ·rw[Qh (by omega:¬(i:Int)<((a.length:Nat):Int))]
  simp only[Ql];have ci:i=a.length:=by omega
  by_cases c2:k<b.length
  ·rw[Qg (by omega:(k:Int)<((b.length:Nat):Int)),Qh (by omega:¬(k:Int)=((b.length:Nat):Int)),gb c2,Qg (by omega:(i:Int)=((a.length:Nat):Int))]
   simp only[Ql,Qk,Qa,hk1];refine fin1 b[k] i (k+1) hi (by omega) (by omega) (by omega) (by omega) (fun y=>by rw[tb c2,or_left_comm]) (.inr (db c2)) (fun y hy=> ?_) (tail hb c2)
   rw[ci,Qq66]at hy;exact absurd hy QR
  ·rw[Qh (by omega:¬(k:Int)<((b.length:Nat):Int))]
   simp only[Ql,Qa];refine .some ⟨hpw,fun x=> ?_,by omega⟩
   rw[hmem,ci,Qq62,show k=b.length by omega,Qq62]
theorem adI{m:ar}(h:VL m.bf/\VL m.aD):jB m.bf m.aD=some (qG [m]):=by
 have l1:=h.1.len;have l2:=h.2.len;obtain⟨r,h1,h2,h3,_⟩:=JV h.1.F0 h.2.F0 (by omega)
 rw[h1,Lw [m] h2 (fun x=>by rw[h3];simp)]
end
section
def qk(n:aw):ar:=⟨n.an,n.aE,n.aj,n.bf,n.aD⟩
def Xa(b:Bool)(s:Nat)(k:Int):Nat:=if b then s|||2 ^ k.toNat else s
theorem Z3{b:Bool}{s:Nat}{k:Int}(h:s<1024)(hk:k<10):Xa b s k<1024:=by
 unfold Xa;split
 ·exact Be h hk
 ·exact h
def Gk(x:ByteArray)(s:Nat×Nat)(m:ar):Nat×Nat:=(Xa (decide (x∈m.bf)) s.1 m.an,Xa (decide (x∈m.aD)) s.2 m.an)
def kZ(L:List ar)(x:ByteArray):Nat×Nat:=L.foldl (Gk x) (0,0)
def O2(L:List ar):Prop:=L.length<=100/\∀m∈L,0<=m.an/\m.an<10/\VL m.bf/\VL m.aD
theorem Rq{x:ByteArray}:∀{L:List ar} (h:∀m∈L,0<=m.an/\m.an<10/\VL m.bf/\VL m.aD) {s:Nat×Nat},s.1<1024->s.2<1024->(L.foldl (Gk x) s).1<1024/\(L.foldl (Gk x) s).2<1024
 |[],_,s,h1,h2=>⟨h1,h2⟩
 |m::L,h,s,h1,h2=>by
  obtain⟨_,g,_⟩:=h m Qx;exact Rq (L:=L) (fun y hy=>h y (Qy _ hy)) (Z3 h1 g) (Z3 h2 g)
theorem Bx{L:List ar}(h:O2 L)(x:ByteArray):(kZ L x).1<1024/\(kZ L x).2<1024:=Rq h.2 (by decide) (by decide)
theorem MZ{L:List ar}(h:O2 L)(x:ByteArray){step:Int×Int×Int×Unit->Option ((Int×Int×Int×Unit)⊕(Int×Int×Unit))}
  (h1:∀(i a b:Nat) (m:ar),decide ((i:Int)<((L.length:Nat):Int))=true->idx L (i:Int)=some m->L[Int.toNat (i:Int)]?=some m->aA .i64 (i:Int) 1=((i+1:Nat):Int)->0<=m.an->m.an<10->VL m.bf->VL m.aD->a<1024->b<1024->step ((a:Int),(b:Int),(i:Int),())=some (.inl (((Gk x (a,b) m).1:Int),((Gk x (a,b) m).2:Int),((i+1:Nat):Int),())))
  (h2:∀a b:Nat,decide (((L.length:Nat):Int)<((L.length:Nat):Int))=false->step ((a:Int),(b:Int),((L.length:Nat):Int),())=Option.map Sum.inr (some ((a:Int),(b:Int),()))):
  aC step ((0:Int),(0:Int),(0:Int),())=some (((kZ L x).1:Int),((kZ L x).2:Int),()):=by
 suffices key:Yd (aC step ((0:Int),(0:Int),(0:Int),())) fun r=>r=(((kZ L x).1:Int),((kZ L x).2:Int),())by
  obtain⟨r,g,rfl⟩:=key;exact g
 refine Yd.list L (by have:=h.1;omega) (fun i (s:Int×Int)=>(s.1,s.2,i,())) (fun i s=>s=(((kZ (L.take i) x).1:Int),((kZ (L.take i) x).2:Int))) ?_ ?_ (s:=(0,0)) rfl
 ·rintro i m s rfl hd hm hi hdec hx hadd;obtain⟨g0,g1,gv,ga⟩:=h.2 m hm;have hlt:=Bx (L:=L.take i) ⟨by rw[List.length_take];have:=h.1;omega,fun y hy=>h.2 y (Q1 hy)⟩ x
  have e:L.take (i+1)=L.take i++[m]:=by rw[List.take_add_one,show L[i]?=some m by rw[bd]at hx;exact hx];rfl
  refine .of_eq (h1 i _ _ m hdec hx (PU hx) hadd g0 g1 gv ga hlt.1 hlt.2) ⟨(_,_),rfl,?_⟩;rw[e];simp only[kZ,List.foldl_append,QU,List.foldl_nil]
 ·rintro s rfl hdec;rw[Qq62];exact .of_eq (h2 _ _ hdec) rfl
theorem OM{b:Bool}{s:Nat}{k:Int}(h:s<1024)(h0:0<=k)(h1:k<10):(if b then qi .i64 (s:Int) (bS .i64 (1:Int) k)else(s:Int))=((Xa b s k:Nat):Int):=by
 cases b with
 |true=>simp only[Qt,Xa];exact nO h h0 h1
 |false=>rfl
theorem W0{L:List ar}(h:O2 L)(x:ByteArray):eU L x=some (((kZ L x).1:Int),((kZ L x).2:Int),()):=by
 unfold eU;refine MZ h x (fun i a b m hd hx hx2 hadd g0 g1 gv ga ha hb=> ?_) (fun a b hd=> ?_)
 ·have e1:=OM (b:=decide (x∈m.bf)) ha g0 g1;have e2:=OM (b:=decide (x∈m.aD)) hb g0 g1;simp only[hd,hx,hadd,Qk,Qa,aN,IG _ gv.vb,IG _ ga.vb,Gk,<-e1,<-e2,Qs (show¬m.an<0 by omega)]
  cases decide (x∈m.bf)<;>cases decide (x∈m.aD)<;>rfl
 ·simp only[hd,Ql]
theorem cI.said{n:aw}(h:cI n):O2 (n.aq++[qk n]):=⟨by have:=h.len;simp;omega,M1 h⟩
theorem WN{n:aw}(h:cI n)(x:ByteArray):kN n x=some (((kZ (n.aq++[qk n]) x).1:Int),((kZ (n.aq++[qk n]) x).2:Int),()):=by
 have hlen:=h.len;unfold kN Bu;simp only[etas,Qa,aN];rw[lU (by omega) (by simp;omega),Qk,lU (by omega) (by simp;omega),Qk]
 simp only[List.nil_append];refine MZ h.said x (fun i a b m hd hx hx2 hadd g0 g1 gv ga ha hb=> ?_) (fun a b hd=> ?_)
 ·have e1:=OM (b:=decide (x∈m.bf)) ha g0 g1;have e2:=OM (b:=decide (x∈m.aD)) hb g0 g1;show(fun _=>_) _=_
  unfold qk at hd hx hx2;simp only[hd,hx,hx2,hadd,Qk,Qa,Ix _ gv.vb,Ix _ ga.vb,Gk,<-e1,<-e2,Qs (show¬m.an<0 by omega)]
  cases decide (x∈m.bf)<;>cases decide (x∈m.aD)<;>rfl
 ·unfold qk at hd ⊢;simp only[hd,Ql]
def GH(m:ar):ct:=⟨m.an,m.aE,m.aj,[],[]⟩
def Gm(l:List aR)(m:ct):List aR:=l.set m.an.toNat ⟨true,m.aj⟩
def ox(n:aw):List aR:=((n.aq.map GH).foldl Gm (List.replicate 10 ⟨false,tN⟩)).set n.an.toNat ⟨true,n.aj⟩
structure B0 (m:ct):Prop where
 n0:0<=m.an
 n1:m.an<10
 seq:1<=m.aE
 aL:dQ m.aj
 df:m.bf=[]
 eA:m.aD=[]
theorem uu.msg{m:ar}(h:uu m):B0 (GH m):=⟨h.n0,h.n1,h.seq,h.aL,rfl,rfl⟩
theorem adN{m:ct}(h:B0 m):qD m=some true:=by
 have hc:ot []=some true:=by
  unfold ot;exact bx rfl
 unfold qD;simp only[etas,h.df,h.eA,hc,dE h.aL];rw[Qg h.n0,Qg h.n1,Qg h.seq];rfl
theorem aeb{m:ct}(h:B0 m):sd m=some true:=by
 have hc:sQ []=some true:=by
  unfold sQ;exact bx rfl
 unfold sd mX;simp only[etas,h.df,h.eA,hc,c5 h.aL];rw[Qg h.n0,Qg h.n1,Qg h.seq];rfl
theorem Gl:∀{l:List ct} (h:∀m∈l,B0 m) {r:List aR},sC r->sC (l.foldl Gm r)
 |[],_,r,hr=>hr
 |m::l,h,r,hr=>Gl (l:=l) (fun y hy=>h y (Qy _ hy)) (hr.set _ (h m Qx).aL.sm)
theorem XX:sC (List.replicate 10 ⟨false,tN⟩):=⟨by rw[List.length_replicate],fun m hm=>by rw[(List.mem_replicate.1 hm).2];exact IJ⟩
theorem TI{l:List ct}(h:∀m∈l,B0 m)(hl:l.length<=1000){fin:List aR->Option aW}{step:Int×aW×List aR×Unit->Option ((Int×aW×List aR×Unit)⊕aW)}
  (h1:∀(i:Nat) (m:ct) (s:List aR) (y:aR),decide ((i:Int)<((l.length:Nat):Int))=true->idx l (i:Int)=some m->aA .i64 (i:Int) 1=((i+1:Nat):Int)->m∈l->B0 m->idx s m.an=some y->s[m.an.toNat]?=some y->step ((i:Int),aW.mk [],s,())=some (.inl (((i+1:Nat):Int),aW.mk [],Gm s m,())))
  (h2:∀s,decide (((l.length:Nat):Int)<((l.length:Nat):Int))=false->sC s->step (((l.length:Nat):Int),aW.mk [],s,())=Option.map Sum.inr (fin s)):
  aC step ((0:Int),aW.mk [],List.replicate 10 ⟨false,tN⟩,())=fin (l.foldl Gm (List.replicate 10 ⟨false,tN⟩)):=by
 suffices key:∀(k i:Nat),i+k=l.length->aC step ((i:Int),aW.mk [],(l.take i).foldl Gm (List.replicate 10 ⟨false,tN⟩),())=fin (l.foldl Gm (List.replicate 10 ⟨false,tN⟩))from key l.length 0 (by omega)
 intro k
 induction k with
 |zero=>
  intro i hi;obtain rfl:i=l.length:=by omega
  rw[Qq62,ff,h2 _ (Qh (Qq64 _)) (Gl h XX)];cases fin (l.foldl Gm (List.replicate 10 ⟨false,tN⟩))<;>rfl
 |succ k ih=>
  intro i hi;have hlt:i<l.length:=by omega
  have hm:=h l[i] (Q0 hlt);obtain⟨y,g1,g2⟩:=(Gl (l:=l.take i) (fun z hz=>h z (Q1 hz)) XX).get hm.n0 hm.n1
  have hs:=h1 i l[i] _ y (Qg (by omega)) (by rw[bd];exact Qv hlt) (bD (by omega) (by omega)) (Q0 hlt) hm g1 g2
  refine(bh hs).trans ?_;have:=ih (i+1) (by omega)
  rw[Q7 hlt,List.foldl_append]at this;exact this
theorem Tt:(decide ((10:Int)=(10:Int))&&decide (0<=(10:Int))&&bc 64 (Int.toNat (10:Int)))=true:=by
 rw[bn (by decide)];rfl
section
variable {v : Int} {t : ae} (h0 : 0 <= v) (h1 : v < 10) (ht : dQ t) {l : List ct} (hl : l.length <= 1000) (h : ∀ m ∈ l, B0 m)
 include h0 h1 ht hl h
theorem abp:pV v t l=some ⟨(l.foldl Gm (List.replicate 10 ⟨false,tN⟩)).set v.toNat ⟨true,t⟩⟩:=by
 unfold pV;rw[Tt,Qk];simp only[etas,aN];refine(TI h hl (fin:=fun s=>some ⟨s.set v.toNat ⟨true,t⟩⟩) (fun i m s y hd hx hadd hm hmo g1 g2=> ?_) (fun s hd hr=> ?_)).trans rfl
 ·simp only[hd,hx,hadd,Qk,Qa,ct.eta,adN hmo,g1,g2];rfl
 ·obtain⟨x,g1,g2⟩:=hr.get h0 h1;have hr2:=hr.set v.toNat (m:=⟨false,⟨0,[],[]⟩⟩) IJ;obtain⟨x2,k1,k2⟩:=hr2.get h0 h1;simp only[hd,Ql,Qg h0,Qg h1,Qk,Qa,g1,g2,dE ht,decide_true,k1,k2,List.set_set]
theorem abL(hne:∀m∈l,m.an≠v):kW v t l=some ⟨(l.foldl Gm (List.replicate 10 ⟨false,tN⟩)).set v.toNat ⟨true,t⟩⟩:=by
 unfold kW mX;rw[Tt,Qk];simp only[etas,aN];refine(TI h hl (fin:=fun s=>some ⟨s.set v.toNat ⟨true,t⟩⟩) (fun i m s y hd hx hadd hm hmo g1 g2=> ?_) (fun s hd hr=> ?_)).trans rfl
 ·simp only[hd,hx,hadd,Qk,Qa,ct.eta,Qh (hne m hm),Qp,aeb hmo,LU hmo.aL.sm,g1,g2];rfl
 ·obtain⟨x,g1,g2⟩:=hr.get h0 h1;simp only[hd,Ql,Qg h0,Qg h1,Qk,Qa,g1,g2,c5 ht,decide_true,LU ht.sm]
end
theorem RX{L:List ar}(hl:L.length<=100){fin:List ct->Option aW}{step:Int×List ct×Unit->Option ((Int×List ct×Unit)⊕aW)}
  (h1:∀(i:Nat) (m:ar) (s:List ct),decide ((i:Int)<((L.length:Nat):Int))=true->idx L (i:Int)=some m->aA .i64 (i:Int) 1=((i+1:Nat):Int)->s.length=i->step ((i:Int),s,())=some (.inl (((i+1:Nat):Int),s++[GH m],())))
  (h2:∀s,decide (((L.length:Nat):Int)<((L.length:Nat):Int))=false->step (((L.length:Nat):Int),s,())=Option.map Sum.inr (fin s)):
  aC step ((0:Int),[],())=fin (L.map GH):=by
 suffices key:∀(k i:Nat),i+k=L.length->aC step ((i:Int),(L.take i).map GH,())=fin (L.map GH)from key L.length 0 (by omega)
 intro k
 induction k with
 |zero=>
  intro i hi;obtain rfl:i=L.length:=by omega
  rw[Qq62,ff,h2 _ (Qh (Qq64 _))];cases fin (L.map GH)<;>rfl
 |succ k ih=>
  intro i hi;have hlt:i<L.length:=by omega
  have hs:=h1 i L[i] ((L.take i).map GH) (Qg (by omega)) (by rw[bd];exact Qv hlt) (bD (by omega) (by omega)) (by simp;omega)
  refine(bh hs).trans ?_;have:=ih (i+1) (by omega)
  rw[Q7 hlt,List.map_append]at this;exact this
section
variable {n : aw} (h : cI n)
 include h
theorem cI.abV:∀m∈n.aq.map GH,B0 m:=fun m hm=>by
 obtain⟨x,hx,rfl⟩:=QP.1 hm;exact(h.heard x hx).1.msg
theorem Cw:zV ⟨ox n⟩:=((Gl h.abV XX).set n.an.toNat (m:=⟨true,n.aj⟩) h.ask.aL.sm).sc
theorem ZC:lP n=some ⟨ox n⟩:=by
 have hlen:=h.len;unfold lP;simp only[etas];refine(RX (L:=n.aq) (by omega) (fin:=fun s=>Option.bind (pV n.an n.aj s) fun r3=>some r3) (fun i m s hd hx hadd hs=> ?_) (fun s hd=> ?_)).trans ?_
 ·simp only[hd,hx,hadd,Qk,Qa];rw[lU (by omega) (by simp only[Q6];have:=of_decide_eq_true hd;omega)]
  rfl
 ·simp only[hd,Ql]
 ·rw[abp h.ask.v0 h.ask.v1 h.ask.aL (by simp;omega) h.abV]
  rfl
theorem afX:jV n=some ⟨ox n⟩:=by
 have hlen:=h.len;unfold jV;simp only[etas];refine(RX (L:=n.aq) (by omega) (fin:=fun s=>Option.bind (kW n.an n.aj s) fun r3=>some r3) (fun i m s hd hx hadd hs=> ?_) (fun s hd=> ?_)).trans ?_
 ·simp only[hd,hx,hadd,Qk,Qa];rw[lU (by omega) (by simp only[Q6];have:=of_decide_eq_true hd;omega)]
  rfl
 ·simp only[hd,Ql]
 ·rw[abL h.ask.v0 h.ask.v1 h.ask.aL (by simp;omega) h.abV (fun m hm=>by
   obtain⟨x,hx,rfl⟩:=QP.1 hm
   exact(h.heard x hx).2)]
  rfl
end
 def rM(n:aw)(x:ByteArray):Bool:= !decide (x∈n.aD)&&decide (n.aD.length<40)&&kL (ox n) n.an.toNat (kZ (n.aq++[qk n]) x).1 (kZ (n.aq++[qk n]) x).2
 def JL(n:aw)(x:ByteArray):Bool:=(gq (ox n) (kZ (n.aq++[qk n]) x).2).testBit n.an.toNat
def fj(n:aw):List ByteArray:=qG (n.aq++[qk n])
section
variable {n : aw} (h : cI n)
 include h
theorem ac0(x:ByteArray):rQ n x=some (rM n x):=by
 obtain⟨hn,hn10⟩:=AH h;obtain⟨l1,l2⟩:=Bx h.said x;have hf:=wa (Cw h) hn10 l1 l2;rw[<-hn]at hf;unfold rQ rM;simp only[etas,aN,WN h,Ix _ h.eA.vb,ZC h,hf,Qa];have hd:decide (((n.aD.length:Nat):Int)<40)=decide (n.aD.length<40):=by rw[decide_eq_decide];omega
 rw[hd];cases decide (x∈n.aD)<;>cases decide (n.aD.length<40)<;>rfl
theorem G0:∀m∈n.aq++[qk n],VL m.bf/\VL m.aD:=fun m hm=>⟨(M1 h m hm).2.2.1,(M1 h m hm).2.2.2⟩
theorem R1:(fj n).length<=880:=by
 have h1:=Rk (G0 h);have:=h.len;rw[QB,Q6]at h1;unfold fj;omega
theorem aai{x:ByteArray}(hx:x∈fj n):jH x:=by
 obtain⟨m,hm,g⟩:=((F8 _).2 x).1 hx;exact g.elim ((G0 h m hm).1.rD x) ((G0 h m hm).2.rD x)
theorem adP:oq n=some (fj n):=by
 have hlen:=h.len;have l1:=h.df.len;have l2:=h.eA.len;unfold oq;obtain⟨r,k0,k1,k2,k3⟩:=JV h.df.F0 h.eA.F0 (by omega)
 rw[k0,Qa]
 suffices key:Yd (aC _ (r,(0:Int),())) fun q=>q=fj n by
  obtain⟨q,g,rfl⟩:=key;exact g
 refine Yd.list n.aq (by omega) (fun i (s:List ByteArray)=>(s,i,())) (fun i s=>s.Pairwise (fun x y=>bJ x y=true)/\s.length<=80+80*i/\∀x,x∈s↔(x∈n.bf\/x∈n.aD)\/∃m∈n.aq.take i,x∈m.bf\/x∈m.aD) ?_ ?_ ⟨k1,by omega,fun x=>by rw[k2];simp⟩
 ·rintro i m s ⟨s1,s2,s3⟩ hd hm hi hdec hx hadd;have hmy:=(h.heard m hm).1;have l3:=hmy.df.len;have l4:=hmy.eA.len;obtain⟨r4,g0,g1,g2,g3⟩:=JV hmy.df.F0 hmy.eA.F0 (by omega)
  obtain⟨r5,e0,e1,e2,e3⟩:=JV s1 g1 (by omega)
  simp only;rw[hdec,Qk,hx,Qa,hadd,g0,Qa,e0];refine .some ⟨r5,rfl,e1,by omega,fun x=> ?_⟩
  have e:n.aq.take (i+1)=n.aq.take i++[m]:=by rw[List.take_add_one,show n.aq[i]?=some m by rw[bd]at hx;exact hx];rfl
  rw[e2,s3,g2,e];simp only[Qz,Q5,or_assoc];constructor
  ·rintro(a|a|⟨m',a,b⟩|a)
   ·exact .inl a
   ·exact .inr (.inl a)
   ·exact .inr (.inr ⟨m',.inl a,b⟩)
   ·exact .inr (.inr ⟨m,.inr rfl,a⟩)
  ·rintro(a|a|⟨m',a|rfl,b⟩)
   ·exact .inl a
   ·exact .inr (.inl a)
   ·exact .inr (.inr (.inl ⟨m',a,b⟩))
   ·exact .inr (.inr (.inr b))
 ·rintro s ⟨s1,s2,s3⟩ hdec;rw[Qq62]at s3;simp only;rw[hdec,Ql];refine .some (Lw _ s1 fun x=> ?_)
  rw[s3];simp only[Qz,Q5];constructor
  ·rintro(a|⟨m',a,b⟩)
   ·exact⟨qk n,.inr rfl,a⟩
   ·exact⟨m',.inl a,b⟩
  ·rintro⟨m',a|rfl,b⟩
   ·exact .inr ⟨m',a,b⟩
   ·exact .inl b
theorem Vr:bL n.aq=some n.aq:=by
 have hlen:=h.len;unfold bL;have hk:bc 120 (([]:List ar).length+n.aq.length)=true:=lU (by omega) (by simp;omega)
 rw[hk]
 cases n.aq with
 |nil=>simp
 |cons x l=>simp
theorem ZV:gG n ⟨ox n⟩=some (match(fj n).find? (rM n)with|some x=>(x,true,())|none=>(⟨#[]⟩,false,())):=by
 have hlen:=h.len;obtain⟨hn,hn10⟩:=AH h;have hkl:=R1 h;unfold gG fE;simp only[etas,Vr h,Qa];rw[lU (by omega) (by simp;omega),Qk]
 have hall:jv (n.aq++[(⟨n.an,n.aE,n.aj,n.bf,n.aD⟩:ar)])=some (fj n):=af9 (G0 h) h.said.1;rw[hall,Qa];refine(zm (fj n) (by omega) (rM n) (f:=fun _ x=>some (x,true,())) (fin:=some (⟨#[]⟩,false,())) (fun i x hi hx0 hd hx hadd=> ?_) (fun _ hd=> ?_)).trans ?_
 ·obtain⟨l1,l2⟩:=Bx h.said x;have hf:=xO (Cw h) hn10 l1 l2;rw[<-hn]at hf;have hsay:eU (n.aq++[(⟨n.an,n.aE,n.aj,n.bf,n.aD⟩:ar)]) x=_:=W0 h.said x;have hd4:decide (((n.aD.length:Nat):Int)<40)=decide (n.aD.length<40):=by rw[decide_eq_decide];omega
  simp only[hd,hx,hadd,Qk,Qa,hsay,IG _ h.eA.vb,hf,hd4,rM];cases decide (x∈n.aD)<;>cases decide (n.aD.length<40)<;>cases kL (ox n) n.an.toNat (kZ (n.aq++[qk n]) x).1 (kZ (n.aq++[qk n]) x).2<;>rfl
 ·simp only[hd,Ql]
 ·cases hf:(fj n).findIdx? (rM n)with
  |none=>
   have:(fj n).find? (rM n)=none:=List.find?_eq_none.2 fun x hx=>by rw[List.findIdx?_eq_none_iff.1 hf x hx];simp
   rw[this]
  |some i=>
   obtain⟨hi,hp,hpre⟩:=List.findIdx?_eq_some_iff_getElem.1 hf;have:(fj n).find? (rM n)=some (fj n)[i]:=List.find?_eq_some_iff_getElem.2 ⟨hp,i,hi,rfl,fun j hj=>by simpa using hpre j hj⟩
   rw[this];simp only[Qv hi,Qa]
end
end
section
def PX(x:Int):List ae->Bool
 |[]=>false
 |u::_=>decide (x∈u.ba)
def UR(t:ae)(x:Int):Bool:=decide (x∈t.ba)||PX x t.aM
def tk(t:ae):Int:=((t.ba.length+t.aM.length:Nat):Int)
def Hs(t:ae)(x:Int):eO×Bool×Unit:=if UR t x then(⟨t.aJ,tk t⟩,true,())else(⟨0,0⟩,false,())
theorem den_add(t:ae)(h:t.ba.length+t.aM.length<=1000):aA .i64 ((t.ba.length:Nat):Int) ((t.aM.length:Nat):Int)=tk t:=by
 rw[bD (by omega) (by omega)]
 unfold tk;omega
theorem ac6{a b:Int}(h0:0<=a*b)(h:a*b<=9223372036854775807):pD .i64 a b=a*b:=wrap64 (by omega) h
theorem af7(l:List Int)(hl:l.length<=1000000)(x:Int):gy l x=some (decide (x∈l)):=by
 unfold gy kC
 have:=Yd.list (p:=fun r=>decide (0<=r)=decide (x∈l)) (step:=fun(v1:Int×Unit)=>
   bif (decide (v1.1<((List.length l:Nat):Int)))then
   Option.bind (idx l v1.1) fun x2=>
   bif (decide (x=x2))then
   Option.map Sum.inr (some v1.1)
   else
   some (Sum.inl ((aA .i64 v1.1 (1:Int)),()))
   else
   Option.map Sum.inr (some (-1:Int))) l hl (fun i (_:Unit)=>(i,())) (fun i _=>x∉l.take i) ?_ ?_ (s:=()) (by simp)
 ·obtain⟨r,h1,h2⟩:=this;rw[h1,Qa,h2]
 ·intro i y s hs hd hy hi hdec hx hadd;simp only;rw[hdec,Qk,hx,Qa,hadd]
  by_cases hxy:x=y
  ·rw[Qg hxy,Qk];refine .some ?_;show decide ((0:Int)<=(i:Int))=decide (x∈l);rw[Qg (by omega:(0:Int)<=(i:Int))]
   exact(Qg (by rw[hxy];exact hy)).symm
  ·rw[Qh hxy,Ql];refine .some ⟨(),rfl,?_⟩;rw[List.take_add_one,show l[i]?=some y by rw[bd]at hx;exact hx]
   simp only[Option.toList_some,Qz,Q5];exact fun h=>h.elim hs hxy
 ·intro s hs hdec;simp only;rw[hdec,Ql];rw[Qq62]at hs;refine .some ?_;show decide ((0:Int)<= -1)=decide (x∈l);rw[Qh hs];rfl
theorem Z7{ρ:Type}(l:List Int)(hl:l.length<=1000000)(x:Int)(z:eO){hit:Option ρ}{fin:Option ρ}{step:Int×eO×Unit->Option ((Int×eO×Unit)⊕ρ)}
  (h1:∀(i:Nat) (y:Int),decide ((i:Int)<((l.length:Nat):Int))=true->idx l (i:Int)=some y->aA .i64 (i:Int) 1=((i+1:Nat):Int)->step ((i:Int),z,())=bif decide (y=x)then Option.map Sum.inr hit else some (.inl (((i+1:Nat):Int),z,())))
  (h2:decide (((l.length:Nat):Int)<((l.length:Nat):Int))=false->step (((l.length:Nat):Int),z,())=Option.map Sum.inr fin):
  aC step ((0:Int),z,())=if x∈l then hit else fin:=by
 suffices key:∀(k i:Nat),i+k=l.length->aC step ((i:Int),z,())=if x∈l.drop i then hit else fin from by
  have:=key l.length 0 (by omega)
  rw[List.drop_zero]at this;exact this
 intro k
 induction k with
 |zero=>
  intro i hi;obtain rfl:i=l.length:=by omega
  rw[ff,h2 (Qh (Qq64 _)),Qq66,Qs QR];cases fin<;>rfl
 |succ k ih=>
  intro i hi;have hlt:i<l.length:=by omega
  have hs:=h1 i l[i] (Qg (by omega)) (by rw[bd];exact Qv hlt) (bD (by omega) (by omega))
  rw[QM hlt]
  by_cases hy:l[i]=x
  ·rw[Qg hy,Qk]at hs;rw[ff,hs,Qr (by rw[<-hy];exact Qx)]
   cases hit<;>rfl
  ·rw[Qh hy,Ql]at hs;rw[bh hs,ih (i+1) (by omega)]
   by_cases hm:x∈l.drop (i+1)
   ·rw[Qr hm,Qr (Qy _ hm)]
   ·rw[Qs hm,Qs (fun e=>(QA.1 e).elim (fun e=>hy e.symm) hm)]
theorem Og{l:List ae}(hl:l=[]\/∃y,l=[⟨1,[y],[]⟩]){x:Int}{th n:Int}(hth:1<=th/\th<=1000)(hn:1<=n/\n<=1000)(z:eO){rec:ae->Option (eO×Bool×Unit)}
  (hr:∀y,l=[⟨1,[y],[]⟩]->rec ⟨1,[y],[]⟩=some (Hs ⟨1,[y],[]⟩ x)) {step:Int×eO×Unit->Option ((Int×eO×Unit)⊕(eO×Bool×Unit))}
  (h1:∀(i:Nat) (u:ae),decide ((i:Int)<((l.length:Nat):Int))=true->idx l (i:Int)=some u->aA .i64 (i:Int) 1=((i+1:Nat):Int)->step ((i:Int),z,())=Option.bind (rec u) fun r=>bif r.2.1 then Option.map Sum.inr (some (⟨pD .i64 th r.1.Sw,pD .i64 n r.1.Sx⟩,true,()))else some (.inl (((i+1:Nat):Int),z,())))
  (h2:decide (((l.length:Nat):Int)<((l.length:Nat):Int))=false->step (((l.length:Nat):Int),z,())=Option.map Sum.inr (some (⟨0,0⟩,false,()))):
  aC step ((0:Int),z,())=some (if PX x l then(⟨th,n⟩,true,())else(⟨0,0⟩,false,())):=by
 rcases hl with rfl|⟨y,rfl⟩
 ·exact bx (h2 (by decide))
 ·have g:=h1 0 _ (by simp) rfl rfl
  rw[hr y rfl]at g;simp only[Qa,Hs,UR,PX,Bool.or_false,tk,Q6,QZ]at g
  by_cases hx:x∈[y]
  ·simp only[Qg hx,Qt,Qk]at g;rw[ac6 (by omega) (by omega),ac6 (by simp;omega) (by simp;omega)]at g
   refine bx (g.trans ?_);simp only[PX,Qg hx,Qt,Int.mul_one];simp
  ·simp only[Qh hx,Qq,Qu,Ql]at g;refine(bh g).trans ((bx (h2 (by simp))).trans ?_)
   simp only[PX,Qh hx,Qq,Qu]
theorem dQ.aam{t:ae}(h:dQ t):t.aM=[]\/∃y,t.aM=[⟨1,[y],[]⟩]:=h.inner.elim .inl fun⟨x,_,_,e⟩=> .inr ⟨x,e⟩
theorem dQ.total{t:ae}(h:dQ t):t.ba.length+t.aM.length<=11/\1<=t.ba.length+t.aM.length:=by
 have h1:=h.len;have h2:=h.th;rcases h.inner with e|⟨_,_,_,e⟩<;>rw[e]at h2 ⊢<;>simp only[QZ,Q6]at h2 ⊢<;>omega
theorem WY{rec:(ae×Int×Unit)->Option (eO×Bool×Unit)}{t:ae}{x:Int}(h1:t.aM=[]\/∃y,t.aM=[⟨1,[y],[]⟩])(hn:t.ba.length<=100)(hth:1<=t.aJ/\t.aJ<=1000)(hd:1<=t.ba.length+t.aM.length)
  (hr:∀y,t.aM=[⟨1,[y],[]⟩]->rec (⟨1,[y],[]⟩,x,())=some (Hs ⟨1,[y],[]⟩ x)):jy rec t x=some (Hs t x):=by
 have hl:t.aM.length<=1:=by rcases h1 with e|⟨_,e⟩<;>rw[e]<;>simp
 unfold jy;simp only[af7 t.ba (by omega),den_add t (by omega),Qa]
 unfold Hs UR
 cases decide (x∈t.ba)with
 |true=>rfl
 |false=>
  simp only[Ql,Bool.false_or];rcases h1 with e|⟨y,e⟩
  ·rw[e];exact bx rfl
  ·refine(Og (l:=t.aM) (.inr ⟨y,e⟩) (th:=t.aJ) (n:=tk t) hth (by unfold tk;omega) ⟨0,0⟩ (rec:=fun u=>rec (u,x,())) hr (fun i u hdc hx hadd=> ?_) (fun hdc=> ?_)).trans rfl
   ·simp only[hdc,hx,hadd,Qk,Qa,etas]
   ·simp only[hdc,Ql]
theorem WL{rec:(ae×Int×Unit)->Option (eO×Bool×Unit)}{t:ae}{x:Int}(h1:t.aM=[]\/∃y,t.aM=[⟨1,[y],[]⟩])(hn:t.ba.length<=100)(hth:1<=t.aJ/\t.aJ<=1000)(hd:1<=t.ba.length+t.aM.length)
  (hr:∀y,t.aM=[⟨1,[y],[]⟩]->rec (⟨1,[y],[]⟩,x,())=some (Hs ⟨1,[y],[]⟩ x)):jL rec t x=some (Hs t x):=by
 have hl:t.aM.length<=1:=by rcases h1 with e|⟨_,e⟩<;>rw[e]<;>simp
 unfold jL;refine(Z7 t.ba (by omega) x ⟨0,0⟩ (hit:=some (⟨t.aJ,tk t⟩,true,())) (fin:=some (if PX x t.aM then(⟨t.aJ,tk t⟩,true,())else(⟨0,0⟩,false,()))) (fun i y hdc hx hadd=> ?_) (fun hdc=> ?_)).trans ?_
 ·simp only[hdc,hx,hadd,Qk,Qa,den_add t (by omega)]
 ·simp only[hdc,Ql,den_add t (by omega)]
  congr 1;rcases h1 with e|⟨y,e⟩
  ·rw[e];exact bx rfl
  ·refine(Og (l:=t.aM) (.inr ⟨y,e⟩) (th:=t.aJ) (n:=tk t) hth (by unfold tk;omega) ⟨0,0⟩ (rec:=fun u=>rec (u,x,())) hr (fun i u hdc hx hadd=> ?_) (fun hdc=> ?_)).trans rfl
   ·simp only[hdc,hx,hadd,Qk,Qa,etas]
   ·simp only[hdc,Ql]
 ·unfold Hs UR
  by_cases hx:x∈t.ba
  ·rw[Qr hx,Qg hx];rfl
  ·rw[Qs hx,Qh hx,Bool.false_or]
theorem pW{t:ae}(h:dQ t)(x:Int):tH t x=some (Hs t x):=by
 have h1:=h.total;have h2:=h.th;have h3:=h.len;show jy (tw (SizeOf.sizeOf t+SizeOf.sizeOf x)) t x=_;refine WY h.aam (by omega) (by omega) h1.2 fun y e=> ?_
 obtain⟨n,hn⟩:∃n,SizeOf.sizeOf t+SizeOf.sizeOf x=n+1:=by
  obtain⟨n,hn⟩:=Fj t;exact⟨n+SizeOf.sizeOf x,by omega⟩
 rw[hn];show jy (tw n) ⟨1,[y],[]⟩ x=_;exact WY (.inl rfl) (by simp) (by simp) (by simp) fun y e=>by cases e
theorem rW{t:ae}(h:dQ t)(x:Int):wJ t x=some (Hs t x):=by
 have h1:=h.total;have h2:=h.th;have h3:=h.len;show jL (sE (SizeOf.sizeOf t+SizeOf.sizeOf x)) t x=_;refine WL h.aam (by omega) (by omega) h1.2 fun y e=> ?_
 obtain⟨n,hn⟩:∃n,SizeOf.sizeOf t+SizeOf.sizeOf x=n+1:=by
  obtain⟨n,hn⟩:=Fj t;exact⟨n+SizeOf.sizeOf x,by omega⟩
 rw[hn];show jL (sE n) ⟨1,[y],[]⟩ x=_;exact WL (.inl rfl) (by simp) (by simp) (by simp) fun y e=>by cases e
theorem J8(a b c d:Int):∃r,nB a b c d=some r/\mW a b c d=some r/\0<=r/\r<4294967296:=by
 have key:∀n:Int,0<=bA .u32 n/\bA .u32 n<4294967296:=fun n=>by
  unfold bA IntKind.wrap;simp[IntKind.signed,IntKind.bits];omega
 unfold nB mW;exact⟨_,rfl,rfl,key _⟩
 def nP(a b c d:Int):Int:=Classical.choose (J8 a b c d)
theorem T0(a b c d:Int):nB a b c d=some (nP a b c d):=(Classical.choose_spec (J8 a b c d)).1
theorem Z0(a b c d:Int):mW a b c d=some (nP a b c d):=(Classical.choose_spec (J8 a b c d)).2.1
theorem UW(a b c d:Int):0<=nP a b c d/\nP a b c d<4294967296:=(Classical.choose_spec (J8 a b c d)).2.2
 def xl(t:ae)(v aG round k:Int):Bool:=decide (k=v)||(UR t k&&decide (nP 1 aG round k*tk t<t.aJ*4294967296))
section
variable {t : ae} {v aG round : Int} (h : CT t v aG round)
 include h
theorem Xe(k:Int):pD .u64 (bA .u64 (nP 1 aG round k)) (bA .u64 (tk t))=nP 1 aG round k*tk t/\bS .u64 (bA .u64 t.aJ) (32:Int)=t.aJ*4294967296/\pD .i64 (bA .i64 (nP 1 aG round k)) (tk t)=nP 1 aG round k*tk t/\bS .i64 t.aJ (32:Int)=t.aJ*4294967296:=by
 obtain⟨h1,h2⟩:=UW 1 aG round k;have h3:=h.aL.total;have h4:=h.aL.th;generalize nP 1 aG round k=a at h1 h2;have hd:1<=tk t/\tk t<=11:=by unfold tk;omega
 generalize tk t=d at hd;have ht:1<=t.aJ/\t.aJ<=11:=by omega
 generalize t.aJ=th at ht;have hm:0<=a*d/\a*d<=4294967296*11:=⟨Int.mul_nonneg h1 (by omega),Int.mul_le_mul (by omega) hd.2 (by omega) (by omega)⟩
 have u64:∀n:Int,0<=n->n<9223372036854775808->IntKind.u64.wrap n=n:=fun n a b=>by
  unfold IntKind.wrap;simp[IntKind.signed,IntKind.bits];omega
 have c1:bA .u64 a=a:=u64 a h1 (by omega)
 have c2:bA .u64 d=d:=u64 d (by omega) (by omega)
 have c3:bA .u64 th=th:=u64 th (by omega) (by omega)
 have c4:bA .i64 a=a:=wrap64 (by omega) (by omega)
 rw[c1,c2,c3,c4];refine⟨u64 _ hm.1 (by omega),?_,wrap64 (by omega) (by omega),?_⟩
 ·exact u64 (th*2 ^ 32) (by omega) (by omega)
 ·exact wrap64 (n:=th*2 ^ 32) (by omega) (by omega)
theorem pNb(k:Int):gB t v aG round k=some (xl t v aG round k):=by
 obtain⟨c1,c2,_,_⟩:=Xe h k;unfold gB xl;simp only[etas,pW h.aL,Z0,Qa,aN]
 cases decide (k=v)with
 |true=>rfl
 |false=>
  unfold Hs
  cases UR t k with
  |true=>
   simp only[Qt,Qk,Ql,c1,c2];rfl
  |false=>rfl
theorem rNb(k:Int)(h0:0<=k)(h1:k<10):lZ t v aG round k=some (xl t v aG round k):=by
 obtain⟨_,_,c1,c2⟩:=Xe h k;unfold lZ xl;simp only[etas,No h,rW h.aL,T0,Qa,aN,decide_true,Qo,Ql];rw[Qh (by omega:¬k<0),Qh (by omega:¬(10:Int)<=k)]
 simp only[Ql,Qa]
 cases decide (k=v)with
 |true=>rfl
 |false=>
  unfold Hs
  cases UR t k with
  |true=>
   simp only[Qt,Qk,Ql,c1,c2];rfl
  |false=>rfl
def xS(aG round j b:Int):Prop:=nP 2 aG round j<nP 2 aG round b\/nP 2 aG round j=nP 2 aG round b/\j<=b
structure B1 (t:ae) (v aG round b:Int):Prop where
 b0:0<=b
 b1:b<10
 nb:xl t v aG round b=true
 top:∀j,0<=j->j<10->xl t v aG round j=true->xS aG round j b
 omit h in
theorem B1.unique{a b:Int}(ha:B1 t v aG round a)(hb:B1 t v aG round b):a=b:=by
  have h1:=ha.top b hb.b0 hb.b1 hb.nb;have h2:=hb.top a ha.b0 ha.b1 ha.nb;unfold xS at h1 h2;omega
theorem abP:Yd (iA t v aG round) (B1 t v aG round):=by
 have hv0:=h.v0;have hv1:=h.v1;unfold iA;simp only[etas,aN];refine Yd.CN (fun(s:Int×Int×Int×Unit)=>0<=s.2.2.1/\s.2.2.1<=10/\((s.2.1=0/\(∀j,0<=j->j<s.2.2.1->xl t v aG round j=false))\/(0<=s.1/\s.1<s.2.2.1/\xl t v aG round s.1=true/\s.2.1=nP 2 aG round s.1/\∀j,0<=j->j<s.2.2.1->xl t v aG round j=true->xS aG round j s.1))) (fun s=>(10 - s.2.2.1).toNat) ?_ ⟨Int.le_refl _,by show(0:Int)<=10;omega,.inl ⟨rfl,fun j h0 h1=>by simp only at h1;omega⟩⟩
 rintro⟨b,m,k,u⟩ ⟨h1,h2,h3⟩;simp only at h1 h2 h3;simp only
 by_cases hk:k<10
 ·rw[Qg hk];have hadd:aA .i64 k 1=k+1:=bD (by omega) (by omega)
  simp only[Qk];rw[hadd,pNb h,Qa];have hm:(10 - (k+1)).toNat<(10 - k).toNat:=by omega
  have split1:∀j,j<k+1->j<k\/j=k:=fun j hj=>by omega
  cases hn:xl t v aG round k with
  |false=>
   refine .some ⟨⟨by show 0<=k+1;omega,by show k+1<=10;omega,?_⟩,hm⟩
   rcases h3 with⟨h4,h5⟩|⟨h4,h5,h6,h7,h8⟩
   ·refine .inl ⟨h4,fun j j0 j1=> ?_⟩
    rcases split1 j j1 with j1|rfl
    ·exact h5 j j0 j1
    ·exact hn
   ·refine .inr ⟨h4,by show b<k+1;omega,h6,h7,fun j j0 j1 hj=> ?_⟩
    rcases split1 j j1 with j1|rfl
    ·exact h8 j j0 j1 hj
    ·rw[hn]at hj;cases hj
  |true=>
   rw[Z0];simp only[Qo,Ql,Qa]
   by_cases hle:m<=nP 2 aG round k
   ·rw[Qg hle,Qk];refine .some ⟨⟨by show 0<=k+1;omega,by show k+1<=10;omega,.inr ⟨h1,by show k<k+1;omega,hn,rfl,fun j j0 j1 hj=> ?_⟩⟩,hm⟩
    show xS aG round j k;rcases split1 j j1 with j1|rfl
    ·rcases h3 with⟨h4,h5⟩|⟨h4,h5,h6,h7,h8⟩
     ·have:=h5 j j0 j1;rw[this]at hj;cases hj
     ·have:=h8 j j0 j1 hj;unfold xS at this ⊢;omega
    ·exact .inr ⟨rfl,Int.le_refl _⟩
   ·rw[Qh hle,Ql];refine .some ⟨⟨by show 0<=k+1;omega,by show k+1<=10;omega,?_⟩,hm⟩
    have hr:=UW 2 aG round k;rcases h3 with⟨h4,h5⟩|⟨h4,h5,h6,h7,h8⟩
    ·omega
    ·refine .inr ⟨h4,by show b<k+1;omega,h6,h7,fun j j0 j1 hj=> ?_⟩
     rcases split1 j j1 with j1|rfl
     ·exact h8 j j0 j1 hj
     ·show xS aG round j b;unfold xS;omega
 ·rw[Qh hk];have hself:xl t v aG round v=true:=by unfold xl;simp
  rcases h3 with⟨h4,h5⟩|⟨h4,h5,h6,h7,h8⟩
  ·have:=h5 v hv0 (by omega)
   rw[hself]at this;cases this
  ·exact .some ⟨h4,by omega,h6,fun j j0 j1 hj=>h8 j j0 (by omega) hj⟩
theorem abA:Yd (lg t v aG round) fun q=>B1 t v aG round q.1/\q.2.1=0:=by
 have hv0:=h.v0;have hv1:=h.v1;have hself:xl t v aG round v=true:=by unfold xl;simp
 unfold lg;simp only[etas,No h,Qa,aN];simp only[decide_true,Qo,Ql];refine Yd.CN (fun(s:Int×Int×Unit)=>0<=s.2.1/\s.2.1<=10/\0<=s.1/\s.1<10/\xl t v aG round s.1=true/\∀j,0<=j->j<s.2.1->xl t v aG round j=true->xS aG round j s.1) (fun s=>(10 - s.2.1).toNat) ?_ ⟨Int.le_refl _,by show(0:Int)<=10;omega,hv0,hv1,hself,fun j h0 h1=>by simp only at h1;omega⟩
 rintro⟨b,k,u⟩ ⟨h1,h2,h3,h4,h5,h6⟩;simp only at h1 h2 h3 h4 h5 h6;simp only
 by_cases hk:k<10
 ·rw[Qg hk];have hadd:aA .i64 k 1=k+1:=bD (by omega) (by omega)
  simp only[Qk];rw[hadd,rNb h k h1 hk,Qa];have hm:(10 - (k+1)).toNat<(10 - k).toNat:=by omega
  have split1:∀j,j<k+1->j<k\/j=k:=fun j hj=>by omega
  have fin:∀x:Int,0<=x->x<10->xl t v aG round x=true->(∀j,0<=j->j<k+1->xl t v aG round j=true->xS aG round j x)->Yd (some (Sum.inl (x,k+1,())):Option ((Int×Int×Unit)⊕(Int×Int×Unit))) (Lp (fun s'=>(0<=s'.2.1/\s'.2.1<=10/\0<=s'.1/\s'.1<10/\xl t v aG round s'.1=true/\∀j,0<=j->j<s'.2.1->xl t v aG round j=true->xS aG round j s'.1)/\(10 - s'.2.1).toNat<(10 - k).toNat) (fun q=>B1 t v aG round q.1/\q.2.1=0)):=
   fun x g1 g2 g3 g4=> .some ⟨⟨by show 0<=k+1;omega,by show k+1<=10;omega,g1,g2,g3,g4⟩,hm⟩
  cases hn:xl t v aG round k with
  |false=>
   refine fin b h3 h4 h5 fun j j0 j1 hj=> ?_
   rcases split1 j j1 with j1|rfl
   ·exact h6 j j0 j1 hj
   ·rw[hn]at hj;cases hj
  |true=>
   rw[T0,T0];simp only[Qo,Ql,Qa]
   by_cases hlt:nP 2 aG round b<nP 2 aG round k
   ·rw[Qg hlt];refine fin k h1 hk hn fun j j0 j1 hj=> ?_
    rcases split1 j j1 with j1|rfl
    ·have:=h6 j j0 j1 hj;unfold xS at this ⊢;omega
    ·exact .inr ⟨rfl,Int.le_refl _⟩
   ·rw[Qh hlt];simp only[Ql]
    by_cases heq:nP 2 aG round k=nP 2 aG round b
    ·rw[Qg heq];simp only[Qk,Qa]
     by_cases hbk:b<k
     ·rw[Qg hbk];refine fin k h1 hk hn fun j j0 j1 hj=> ?_
      rcases split1 j j1 with j1|rfl
      ·have:=h6 j j0 j1 hj;unfold xS at this ⊢;omega
      ·exact .inr ⟨rfl,Int.le_refl _⟩
     ·rw[Qh hbk];refine fin b h3 h4 h5 fun j j0 j1 hj=> ?_
      rcases split1 j j1 with j1|rfl
      ·exact h6 j j0 j1 hj
      ·exact .inr ⟨heq,by omega⟩
    ·rw[Qh heq];refine fin b h3 h4 h5 fun j j0 j1 hj=> ?_
     rcases split1 j j1 with j1|rfl
     ·exact h6 j j0 j1 hj
     ·exact .inl (by omega)
 ·rw[Qh hk];exact .some ⟨⟨h3,h4,h5,fun j j0 j1 hj=>h6 j j0 (by omega) hj⟩,rfl⟩
end
 def wj(t:ae)(v aG round:Int):Int:=(iA t v aG round).getD 0
 def kb(t:ae)(v aG:Int):Nat->Nat
 |0=>0
 |k+1=>kb t v aG k|||2 ^ (wj t v aG ((k+1:Nat):Int)).toNat
section
variable {t : ae} {v aG round : Int} (h : CT t v aG round)
 include h
theorem CT.at{r:Int}(h1:1<=r)(h2:r<=round):CT t v aG r:=⟨h.aL,h.v0,h.v1,h.s0,h.s1,h1,by have:=h.r2;omega⟩
theorem Tc:iA t v aG round=some (wj t v aG round)/\B1 t v aG round (wj t v aG round):=by
 obtain⟨b,h1,h2⟩:=abP h;unfold wj;rw[h1];exact⟨rfl,h2⟩
theorem acY:lg t v aG round=some (wj t v aG round,0,()):=by
 obtain⟨⟨b,e,u⟩,h1,h2,h3⟩:=abA h;simp only at h3;subst h3;have h4:B1 t v aG round b:=h2;rw[h1,h4.unique (Tc h).2]
theorem GO:∀k:Nat,(k:Int)<=round->kb t v aG k<1024
 |0,_=>by unfold kb;omega
 |k+1,hk=>by
  have h1:=GO k (by omega)
  have h2:=(Tc (h.at (r:=((k+1:Nat):Int)) (by omega) hk)).2
  unfold kb;exact Be h1 h2.b1
theorem ZY:mf t v aG round=some (((kb t v aG round.toNat:Nat):Int),0,()):=by
 have e1:=h.v0;have e2:=h.v1;have e3:=h.s0;have e4:=h.s1;have e5:=h.r1;have e6:=h.r2;unfold mf uM;simp only[etas,c5 h.aL,Qa,decide_true,Qo,Ql];rw[Qh (by omega:¬v<0),Qh (by omega:¬(10:Int)<=v),Qh (by omega:¬aG<0),Qh (by omega:¬(1000000:Int)<aG),Qh (by omega:¬round<1),Qh (by omega:¬(1000:Int)<round)]
 simp only[Ql,Qa,decide_true,Qo]
 suffices key:∀(d k:Nat),k+d=round.toNat->aC _ (((kb t v aG k:Nat):Int),(k:Int),())=some (((kb t v aG round.toNat:Nat):Int),(0:Int),())from key round.toNat 0 (by omega)
 intro d
 induction d with
 |zero=>
  intro k hk;obtain rfl:k=round.toNat:=by omega
  refine bx ?_;rw[Qh (by omega:¬((round.toNat:Nat):Int)<round)]
  rfl
 |succ d ih=>
  intro k hk;have hadd:aA .i64 (k:Int) 1=((k+1:Nat):Int):=bD (by omega) (by omega)
  obtain⟨g1,g2⟩:=Tc (h.at (r:=((k+1:Nat):Int)) (by omega) (by omega))
  refine(bh ?_).trans (ih (k+1) (by omega))
  rw[Qg (by omega:(k:Int)<round)]
  simp only[hadd,g1,Qk,Qa];rw[Qs (by have:=g2.b0;omega),nO (GO h k (by omega)) g2.b0 g2.b1]
  rfl
theorem ZG:nY t v aG round=some (((kb t v aG round.toNat:Nat):Int),0,()):=by
 have e5:=h.r1;have e6:=h.r2;unfold nY;simp only[etas,aN,acY h,Qa,decide_true,Qo,Ql]
 suffices key:∀(d k:Nat),k+d=round.toNat->aC _ (((kb t v aG k:Nat):Int),((k+1:Nat):Int),())=some (((kb t v aG round.toNat:Nat):Int),(0:Int),())from key round.toNat 0 (by omega)
 intro d
 induction d with
 |zero=>
  intro k hk;obtain rfl:k=round.toNat:=by omega
  refine bx ?_;rw[Qh (by omega:¬((round.toNat+1:Nat):Int)<=round)]
  rfl
 |succ d ih=>
  intro k hk;have hadd:aA .i64 ((k+1:Nat):Int) 1=((k+1+1:Nat):Int):=bD (by omega) (by omega)
  have ha:=h.at (r:=((k+1:Nat):Int)) (by omega) (by omega)
  have g1:=acY ha;have g2:=(Tc ha).2;have hlt:=GO h k (by omega)
  refine(bh ?_).trans (ih (k+1) (by omega))
  rw[Qg (by omega:((k+1:Nat):Int)<=round)]
  have hh:kF ((kb t v aG k:Nat):Int) (wj t v aG ((k+1:Nat):Int))=some (w5 ((kb t v aG k:Nat):Int) (wj t v aG ((k+1:Nat):Int))):=pn _ _
  have hs:w5 ((kb t v aG k:Nat):Int) (wj t v aG ((k+1:Nat):Int))=(kb t v aG k).testBit (wj t v aG ((k+1:Nat):Int)).toNat:=by
   unfold w5 fO;rw[Qg (by omega:(0:Int)<=((kb t v aG k:Nat):Int)),Qg (by omega:((kb t v aG k:Nat):Int)<1024),Qg g2.b0,Qg g2.b1]
   simp
  simp only[hadd,g1,hh,hs,Qk,Qa];show _=some (Sum.inl (((kb t v aG k|||2 ^ (wj t v aG ((k+1:Nat):Int)).toNat:Nat):Int),((k+1+1:Nat):Int),()))
  cases hb:(kb t v aG k).testBit (wj t v aG ((k+1:Nat):Int)).toNat with
  |true=>
   have:kb t v aG k|||2 ^ (wj t v aG ((k+1:Nat):Int)).toNat=kb t v aG k:=by
    refine Nat.eq_of_testBit_eq fun i=> ?_
    rw[Nat.testBit_or,Nat.testBit_two_pow]
    by_cases hi:(wj t v aG ((k+1:Nat):Int)).toNat=i
    ·rw[<-hi,hb];rfl
    ·rw[Qh hi,Bool.or_false]
   rw[this];rfl
  |false=>
   simp only[Qp,Qk];rw[Qs (by have:=g2.b0;omega),nO hlt g2.b0 g2.b1]
theorem NQ:kb t v aG round.toNat<1024:=GO h round.toNat (by have:=h.r1;omega)
end
end
section
theorem fold_eq{α σ τ ρ:Type}(l:List α)(hl:l.length<=1000000)(f:σ->α->σ)(mk:Int->σ->τ)(Inv:σ->Prop)(hI:∀s x,x∈l->Inv s->Inv (f s x)){step:τ->Option (τ⊕ρ)}{fin:σ->Option ρ}
  (h1:∀(i:Nat) (x:α) (s:σ),Inv s->x∈l->decide ((i:Int)<((l.length:Nat):Int))=true->idx l (i:Int)=some x->aA .i64 (i:Int) 1=((i+1:Nat):Int)->step (mk (i:Int) s)=some (.inl (mk ((i+1:Nat):Int) (f s x))))
  (h2:∀s,Inv s->decide (((l.length:Nat):Int)<((l.length:Nat):Int))=false->step (mk ((l.length:Nat):Int) s)=Option.map Sum.inr (fin s))
  {s:σ} (h0:Inv s):aC step (mk 0 s)=fin (l.foldl f s):=by
 suffices key:∀(k i:Nat) (s:σ),i+k=l.length->Inv s->aC step (mk (i:Int) s)=fin ((l.drop i).foldl f s)from key l.length 0 s (by omega) h0
 intro k
 induction k with
 |zero=>
  intro i s hi hs;obtain rfl:i=l.length:=by omega
  rw[ff,h2 s hs (Qh (Qq64 _)),Qq66,List.foldl_nil];cases fin s<;>rfl
 |succ k ih=>
  intro i s hi hs;have hlt:i<l.length:=by omega
  have hx:=Q0 hlt;refine(bh (h1 i l[i] s hs hx (Qg (by omega)) (by rw[bd];exact Qv hlt) (bD (by omega) (by omega)))).trans ((ih (i+1) _ (by omega) (hI s _ hx hs)).trans ?_)
  rw[QM hlt,QU]
theorem DC{α σ:Type}{f:σ->α->σ}{Inv:σ->Prop}:∀(l:List α) (hI:∀s x,x∈l->Inv s->Inv (f s x)) {s:σ},Inv s->Inv (l.foldl f s)
 |[],_,_,h=>h
 |x::l,hI,s,h=>DC l (fun s y hy=>hI s y (Qy _ hy)) (hI s x Qx h)
def Uf(n:aw)(l:List ByteArray):List ByteArray:=if n.mz=ByteArray.mk #[]then l else mK l n.mz
def G2(u:Int)(l:List ByteArray)(m:ar):List ByteArray:=if m.an=u then(qG [m]).foldl mK l else l
def F7(n:aw)(l:List ByteArray)(u:Int):List ByteArray:=if u=n.an then Uf n l else n.aq.foldl (G2 u) l
 def yX(n:aw):List ByteArray:=(np (kb n.aj n.an n.aY n.Round.toNat)).foldl (F7 n) n.bf
theorem agb{x:ByteArray}(h:x.size<=200)(hx:x≠ByteArray.mk #[]):jH x:=by
 refine⟨?_,h⟩;rcases Nat.eq_zero_or_pos x.size with h0|h0
 ·exact absurd (ByteArray.ext (Array.eq_empty_of_size_eq_zero h0)) hx
 ·exact h0
theorem XN{m:ar}(h:VL m.bf/\VL m.aD):(qG [m]).length<=80/\∀x∈qG [m],jH x:=by
 refine⟨Rk (L:=[m]) (fun y hy=>by rw[Q5.1 hy];exact h),fun x hx=> ?_⟩
 obtain⟨y,hy,hxy⟩:=((F8 _).2 x).1 hx;rw[Q5.1 hy]at hxy;exact hxy.elim (h.1.rD x) (h.2.rD x)
section
variable {n : aw} (h : cI n)
 include h
theorem aek{l:List ByteArray}(hl:VL l):VL (Uf n l):=by
 unfold Uf;split
 ·exact hl
 ·rename_i hx;exact(uc hl (agb h.own hx)).1
theorem Ja{m:ar}(hm:m∈n.aq):VL m.bf/\VL m.aD:=⟨(h.heard m hm).1.df,(h.heard m hm).1.eA⟩
theorem Mr{u:Int}{l:List ByteArray}(hl:VL l){m:ar}(hm:m∈n.aq):VL (G2 u l m):=by
 unfold G2;split
 ·exact DC (Inv:=VL) (qG [m]) (fun s x hx hs=>(uc hs ((XN (Ja h hm)).2 x hx)).1) hl
 ·exact hl
theorem Lv{u:Int}{l:List ByteArray}(hl:VL l):VL (F7 n l u):=by
 unfold F7;split
 ·exact aek h hl
 ·exact DC (Inv:=VL) n.aq (fun s m hm hs=>Mr h hs hm) hl
theorem D6:VL (yX n):=DC (Inv:=VL) _ (fun s u _ hs=>Lv h hs) h.df
theorem ad5:lh n=some (yX n):=by
 have hlen:=h.len;have hlt:=NQ h.ask;have hnl:=zp (kb n.aj n.an n.aY n.Round.toNat);unfold lh;simp only[etas,ZY h.ask,MM hlt,Qa,aN];refine fold_eq (np (kb n.aj n.an n.aY n.Round.toNat)) (by omega) (F7 n) (fun i s=>(s,i,())) VL (fun s u _ hs=>Lv h hs) (fun i u s hs hu hd hx hadd=> ?_) (fun s hs hd=> ?_) h.df
 ·simp only[hd,hx,hadd,Qk,Qa];unfold F7
  by_cases hun:u=n.an
  ·rw[Qr hun,Qg hun];unfold Uf
   by_cases ho:n.mz=ByteArray.mk #[]
   ·rw[Qr ho,Qg ho];rfl
   ·rw[Qs ho,Qh ho];simp only[Qk,Qp,Yn hs,Qa]
  ·rw[Qs hun,Qh hun,Ql];refine fold_eq n.aq (by omega) (G2 u) (fun i s=>(s,i,())) VL (fun s m hm hs=>Mr h hs hm) (fin:=fun s=>some (Sum.inl (s,((i+1:Nat):Int),()))) (fun j m s2 hs2 hm hd2 hx2 hadd2=> ?_) (fun s2 hs2 hd2=> ?_) hs
   ·simp only[hd2,hx2,hadd2,Qk,Qa,ar.eta];unfold G2
    by_cases hmu:m.an=u
    ·obtain⟨v1,v2⟩:=XN (Ja h hm);rw[Qr hmu,Qg hmu];simp only[Qo,Ql,af9 (L:=[m]) (fun y hy=>by rw[Q5.1 hy];exact Ja h hm) (by simp),Qa]
     refine fold_eq (qG [m]) (by omega) mK (fun i s=>(s,i,())) VL (fun s x hx hs=>(uc hs (v2 x hx)).1) (fin:=fun s=>some (Sum.inl (s,((j+1:Nat):Int),()))) (fun k x s3 hs3 hxm hd3 hx3 hadd3=> ?_) (fun s3 hs3 hd3=> ?_) hs2
     ·simp only[hd3,hx3,hadd3,Qk,Qa,Yn hs3]
     ·simp only[hd3,Ql]
    ·rw[Qs hmu,Qh hmu];rfl
   ·simp only[hd2,Ql]
 ·simp only[hd,Ql]
theorem abv:pj n=some {n with bf:=yX n}:=by
 have hlen:=h.len;have hlt:=NQ h.ask;have hnl:=zp (kb n.aj n.an n.aY n.Round.toNat);unfold pj;simp only[etas,ZG h.ask,Iw hlt,Qa,aN];refine(fold_eq (np (kb n.aj n.an n.aY n.Round.toNat)) (by omega) (F7 n) (fun i s=>(i,{n with bf:=s},())) VL (fun s u _ hs=>Lv h hs) (fin:=fun s=>some {n with bf:=s}) (fun i u s hs hu hd hx hadd=> ?_) (fun s hs hd=> ?_) h.df).trans rfl
 ·simp only[hd,hx,hadd,Qk,Qa];unfold F7
  by_cases hun:u=n.an
  ·rw[Qr hun,Qg hun];unfold Uf
   by_cases ho:n.mz=ByteArray.mk #[]
   ·rw[Qr ho,Qg ho];rfl
   ·rw[Qs ho,Qh ho];simp only[Qk,Qp,Iu hs,Qa]
  ·rw[Qs hun,Qh hun,Ql];refine fold_eq n.aq (by omega) (G2 u) (fun i s=>(i,{n with bf:=s},())) VL (fun s m hm hs=>Mr h hs hm) (fin:=fun s=>some (Sum.inl (((i+1:Nat):Int),{n with bf:=s},()))) (fun j m s2 hs2 hm hd2 hx2 hadd2=> ?_) (fun s2 hs2 hd2=> ?_) hs
   ·simp only[hd2,hx2,hadd2,Qk,Qa];unfold G2
    by_cases hmu:m.an=u
    ·obtain⟨v1,v2⟩:=XN (Ja h hm);rw[Qr hmu,Qg hmu];simp only[Qo,Ql,adI (Ja h hm),Qa];refine fold_eq (qG [m]) (by omega) mK (fun i s=>(i,{n with bf:=s},())) VL (fun s x hx hs=>(uc hs (v2 x hx)).1) (fin:=fun s=>some (Sum.inl (((j+1:Nat):Int),{n with bf:=s},()))) (fun k x s3 hs3 hxm hd3 hx3 hadd3=> ?_) (fun s3 hs3 hd3=> ?_) hs2
     ·simp only[hd3,hx3,hadd3,Qk,Qa,Iu hs3]
     ·simp only[hd3,Ql]
    ·rw[Qs hmu,Qh hmu];rfl
   ·simp only[hd2,Ql]
 ·simp only[hd,Ql]
end
 def oK:Nat->aw->aw
 |0,n=>n
 |k+1,n=>match(fj n).find? (rM n)with
  |none=>n
  |some x=>oK k {n with aD:=mK n.aD x}
theorem MJ{n:aw}(h:cI n){x:ByteArray}(hf:(fj n).find? (rM n)=some x):cI {n with aD:=mK n.aD x}/\(mK n.aD x).length=n.aD.length+1:=by
 have hc:=List.find?_some hf;have hm:=List.mem_of_find?_eq_some hf;unfold rM at hc;simp only[Qm,Bool.not_eq_true',Qj,Qi]at hc;obtain⟨p1,p2,p3,p4⟩:=uc h.eA (aai h hm);exact⟨h.afE p1 p2,p4 hc.1.1 hc.1.2⟩
theorem Ou:∀(k:Nat) {n:aw},cI n->rV n (oK k n)/\(oK k n).bf=n.bf/\(oK k n).aO=n.aO
 |0,n,h=>⟨.refl h,rfl,rfl⟩
 |k+1,n,h=>by
  unfold oK
  cases hf:(fj n).find? (rM n)with
  |none=>exact⟨.refl h,rfl,rfl⟩
  |some x=>
   obtain⟨h1,h2,h3⟩:=Ou k (MJ h hf).1;exact⟨⟨h1.ok,h1.aB,h1.aG,h1.round,h1.seq,h1.aL,h1.own,h1.heard⟩,h2,h3⟩
theorem acZ{fin:aw->Option aw}{step:Bool×aw×Unit->Option ((Bool×aw×Unit)⊕aw)}
  (h1:∀n,cI n->step (true,n,())=some (.inl (match(fj n).find? (rM n)with|some x=>(true,{n with aD:=mK n.aD x},())|none=>(false,n,()))))
  (h2:∀n,cI n->step (false,n,())=Option.map Sum.inr (fin n)):∀(k:Nat) {n:aw},cI n->41<=k+n.aD.length->aC step (true,n,())=fin (oK k n)
 |0,n,h,hk=>by have:=h.eA.len;omega
 |k+1,n,h,hk=>by
  have g:=h1 n h;unfold oK
  cases hf:(fj n).find? (rM n)with
  |none=>
   rw[hf]at g;rw[bh g,ff,h2 n h];cases fin n<;>rfl
  |some x=>
   rw[hf]at g;obtain⟨g1,g2⟩:=MJ h hf;exact(bh g).trans (acZ h1 h2 k g1 (by show 41<=k+(mK n.aD x).length;omega))
 def RW(n:aw):ByteArray×Bool×Unit:=match(fj n).find? (rM n)with|some x=>(x,true,())|none=>(⟨#[]⟩,false,())
theorem ac2{fin:aw->Option aw}{step:ByteArray×Bool×aw×Unit->Option ((ByteArray×Bool×aw×Unit)⊕aw)}{c:List aR}
  (h1:∀n x,cI n->ox n=c->cI {n with aD:=mK n.aD x}->step (x,true,n,())=some (.inl ((RW {n with aD:=mK n.aD x}).1,(RW {n with aD:=mK n.aD x}).2.1,{n with aD:=mK n.aD x},())))
  (h2:∀n x,cI n->ox n=c->step (x,false,n,())=Option.map Sum.inr (fin n)):∀(k:Nat) {n:aw},cI n->ox n=c->41<=k+n.aD.length->aC step ((RW n).1,(RW n).2.1,n,())=fin (oK k n)
 |0,n,h,_,hk=>by have:=h.eA.len;omega
 |k+1,n,h,hv,hk=>by
  unfold oK
  cases hf:(fj n).find? (rM n)with
  |none=>
   have e:RW n=(⟨#[]⟩,false,()):=by unfold RW;rw[hf]
   rw[e,ff,h2 n _ h hv];cases fin n<;>rfl
  |some x=>
   have e:RW n=(x,true,()):=by unfold RW;rw[hf]
   obtain⟨g1,g2⟩:=MJ h hf;rw[e];exact(bh (h1 n x h hv g1)).trans (ac2 h1 h2 k g1 hv (by show 41<=k+(mK n.aD x).length;omega))
 def Gd(n:aw)(c:List ByteArray)(x:ByteArray):List ByteArray:=if JL n x then mK c x else c
 def Bp(n:aw):List ByteArray:=n.aD.foldl (Gd n) n.aO
 def ui(n:aw):aw:={oK 41 (if n.aO.length=0 then{n with bf:=yX n}else n)with aO:=Bp (oK 41 (if n.aO.length=0 then{n with bf:=yX n}else n))}
structure DY (n:aw) (c:List ByteArray):Prop where
 vl:VL c
 sub:∀x∈c,x∈n.aD
theorem LB{n:aw}(h:cI n){c:List ByteArray}(hc:DY n c){x:ByteArray}(hx:x∈n.aD):DY n (Gd n c x):=by
 unfold Gd;split
 ·obtain⟨p1,_,p3,_⟩:=uc hc.vl (h.eA.rD x hx);exact⟨p1,fun y hy=>(p3 y hy).elim (fun e=>by rw[e];exact hx) (hc.sub y)⟩
 ·exact hc
theorem cI.acr{n:aw}(h:cI n):DY n n.aO:=⟨h.lu,h.sub⟩
theorem ach{n:aw}(h:cI n):DY n (Bp n):=DC (Inv:=DY n) n.aD (fun s x hx hs=>LB h hs hx) h.acr
theorem aho{n:aw}(h:cI n)(x:ByteArray):eH ⟨ox n⟩ n.an (((kZ (n.aq++[qk n]) x).2:Nat):Int)=some (JL n x):=by
 obtain⟨hn,hn10⟩:=AH h;have hf:=wu (Cw h) hn10 (Bx h.said x).2;rw[<-hn]at hf;exact hf
theorem ahg{n:aw}(h:cI n)(x:ByteArray):ix ⟨ox n⟩ n.an (((kZ (n.aq++[qk n]) x).2:Nat):Int)=some (JL n x):=by
 obtain⟨hn,hn10⟩:=AH h;have hf:=uA (Cw h) hn10 (Bx h.said x).2;rw[<-hn]at hf;exact hf
section
variable {n : aw} (h : cI n)
 include h
theorem afc:cI (if n.aO.length=0 then{n with bf:=yX n}else n)/\rV n (if n.aO.length=0 then{n with bf:=yX n}else n):=by
 split
 ·exact⟨h.Ig (D6 h),(rV.refl h).Ig (D6 h)⟩
 ·exact⟨h,.refl h⟩
theorem D9:rV n (ui n):=by
 obtain⟨h1,h2⟩:=afc h;obtain⟨g,_,_⟩:=Ou 41 h1;obtain⟨c1,c2⟩:=ach g.ok;exact⟨g.ok.abg c1 c2,g.aB.trans h2.aB,g.aG.trans h2.aG,g.round.trans h2.round,g.seq.trans h2.seq,g.aL.trans h2.aL,g.own.trans h2.own,g.heard.trans h2.heard⟩
theorem RP:iz n=some (ui n):=by
 have body:∀n:aw,cI n->(Option.bind (jV n) fun r3=>
   Option.bind (gG n r3) fun r4=>
   aC (fun(v5:ByteArray×Bool×aw×Unit)=>
   bif v5.2.1 then
   Option.bind (fF v5.2.2.1.aD v5.1) fun r6=>
   Option.bind (gG {v5.2.2.1 with aj:=(au v5.2.2.1.aj),aD:=r6} r3) fun r7=>
   some (Sum.inl (r7.1,r7.2.1,{v5.2.2.1 with aj:=(au v5.2.2.1.aj),aD:=r6},()))
   else
   Option.map Sum.inr (Option.bind (bL v5.2.2.1.aq) fun r8=>
   Option.bind (fE (eT0 v5.2.2.1)) fun r9=>
   bif bc 120 (List.length r8+List.length [{r9 with aj:=(au r9.aj)}])then
   aC (fun(v10:Int×aw×Unit)=>
   bif (decide (v10.1<((List.length v5.2.2.1.aD:Nat):Int)))then
   aX (fun(v11:aw×Unit)=>
   some (Sum.inl ((aA .i64 v10.1 (1:Int)),(eT0 v11.1),()))) fun j12=>
   Option.bind (idx v5.2.2.1.aD v10.1) fun x13=>
   Option.bind (eU (r8++[{r9 with aj:=(au r9.aj)}]) x13) fun r14=>
   Option.bind (eH r3 v10.2.1.an r14.2.1) fun r15=>
   bif r15 then
   Option.bind (fF v10.2.1.aO x13) fun r16=>
   j12 ({v10.2.1 with aj:=(au v10.2.1.aj),aO:=r16},())
   else
   j12 ((eT0 v10.2.1),())
   else
   Option.map Sum.inr (some (eT0 v10.2.1))) ((0:Int),(eT0 v5.2.2.1),())
   else none)) (r4.1,r4.2.1,n,()))=some {oK 41 n with aO:=Bp (oK 41 n)}:=by
  intro n h;rw[afX h,Qa,ZV h,Qa];refine ac2 (c:=ox n) (fin:=fun n2=>some {n2 with aO:=Bp n2}) (fun m x hm hv hm2=> ?_) (fun m x hm hv=> ?_) 41 h rfl (by omega)
  ·have hx:=ZV hm2;have hv2:ox {m with aD:=mK m.aD x}=ox n:=hv
   rw[hv2]at hx;simp only[Qk,etas,Yn hm.eA,Qa,hx];rfl
  ·have hlen:=hm.len;have hal:=hm.eA.len;simp only[Ql,etas,Vr hm,fE,Qa,aN];rw[lU (by omega) (by simp;omega),Qk]
   congr 1;refine(fold_eq m.aD (by omega) (Gd m) (fun i c=>(i,{m with aO:=c},())) (DY m) (fun s x hx hs=>LB hm hs hx) (fin:=fun c=>some {m with aO:=c}) (fun i y s hs hy hd hx hadd=> ?_) (fun s hs hd=> ?_) hm.acr).trans rfl
   ·have hsay:eU (m.aq++[(⟨m.an,m.aE,m.aj,m.bf,m.aD⟩:ar)]) y=_:=W0 hm.said y;simp only[hd,hx,hadd,Qk,Qa,hsay,<-hv,aho hm y];unfold Gd
    cases JL m y with
    |true=>simp only[Qk,Yn hs.vl,Qa,Qt]
    |false=>rfl
   ·simp only[hd,Ql]
 unfold iz;simp only[etas,aN,ad5 h,Qa];unfold ui
 by_cases h0:n.aO.length=0
 ·rw[Qg (by omega:((n.aO.length:Nat):Int)=0),Qk,Qr h0]
  have:=body {n with bf:=yX n} (h.Ig (D6 h))
  simp only[etas,aN]at this;exact this
 ·rw[Qh (by omega:¬((n.aO.length:Nat):Int)=0),Ql,Qs h0]
  have:=body n h;simp only[etas,aN]at this;exact this
end
end
section
open Classical in
 def Gn(b r:aw):Bool:=decide (b.bf=r.bf/\b.aD=r.aD/\b.aj=r.aj)
open Classical in
theorem Ea{b r:aw}:Gn b r=true↔b.bf=r.bf/\b.aD=r.aD/\b.aj=r.aj:=by
 unfold Gn;rw[Qi]
 def lp(b n:aw):aw:=if Gn b (ui n)=true then ui n else{ui n with aE:=b.aE+1}
theorem LA{b n:aw}(h:cI n):VN b n (lp b n):=by
 have k:=D9 h;unfold lp;split
 ·exact⟨k.ok,k.aB,k.aG,k.round,k.aL,.inl k.seq⟩
 ·exact⟨⟨k.ok.ask,k.ok.own,k.ok.df,k.ok.eA,k.ok.lu,k.ok.sub,k.ok.heard,k.ok.eZ⟩,k.aB,k.aG,k.round,k.aL,.inr rfl⟩
theorem KX{b n:aw}(h:cI n):(lp b n).aq=n.aq/\(lp b n).mz=n.mz:=by
 have k:=D9 h;unfold lp;split<;>exact⟨k.heard,k.own⟩
theorem af6{s t:List ByteArray}(h:s.length<=1000000):∃b,gM s t=some b/\(b=true↔s=t):=by
 unfold gM
 by_cases hl:s.length=t.length
 ·rw[Qg (by omega:((s.length:Nat):Int)=((t.length:Nat):Int)),Qo,Ql]
  refine VE hl h (fun i hi hi' hd hx hy hw=> ?_) (fun hd=> ?_)
  ·simp only;rw[hd,Qk,hx,hy,Qa,Qa,hw]
   by_cases he:s[i]=t[i]
   ·rw[Qg he];exact⟨true,rfl,by simp[he]⟩
   ·rw[Qh he];exact⟨false,rfl,by simp[he]⟩
  ·simp only;rw[hd,Ql];rfl
 ·rw[Qh (by omega:¬((s.length:Nat):Int)=((t.length:Nat):Int))]
  exact⟨false,rfl,NO hl⟩
theorem Is{b n:aw}(hb:cQ b.aj/\b.bf.length<=1000000/\b.aD.length<=1000000)(hs:0<=b.aE/\b.aE<=1000000)(h:cI n):gd b n=some (lp b n):=by
 have body:∀n:aw,cI n->aC (fun(v3:Bool×aw×Unit)=>
   bif v3.1 then
   Option.bind (oq (eT0 v3.2.1)) fun r4=>
   aC (fun(v5:Bool×Int×aw×Unit)=>
   bif (decide (v5.2.1<((List.length r4:Nat):Int)))then
   Option.bind (idx r4 v5.2.1) fun x6=>
   Option.bind (rQ (eT0 v5.2.2.1) x6) fun r7=>
   bif r7 then
   Option.bind (ni v5.2.2.1.aD x6) fun r8=>
   Option.map Sum.inr (some (Sum.inl (true,{v5.2.2.1 with aj:=(au v5.2.2.1.aj),aD:=r8},())))
   else
   some (Sum.inl (v5.1,(aA .i64 v5.2.1 (1:Int)),(eT0 v5.2.2.1),()))
   else
   Option.map Sum.inr (some (Sum.inl (v5.1,(eT0 v5.2.2.1),())))) (false,(0:Int),(eT0 v3.2.1),())
   else
   Option.map Sum.inr (aC (fun(v9:Int×aw×Unit)=>
   bif (decide (v9.1<((List.length v3.2.1.aD:Nat):Int)))then
   aX (fun(v10:aw×Unit)=>
   some (Sum.inl ((aA .i64 v9.1 (1:Int)),(eT0 v10.1),()))) fun j11=>
   Option.bind (idx v3.2.1.aD v9.1) fun x12=>
   Option.bind (kN (eT0 v9.2.1) x12) fun r13=>
   Option.bind (lP (eT0 v9.2.1)) fun r14=>
   Option.bind (ix r14 v9.2.1.an r13.2.1) fun r15=>
   bif r15 then
   Option.bind (ni v9.2.1.aO x12) fun r16=>
   j11 ({v9.2.1 with aj:=(au v9.2.1.aj),aO:=r16},())
   else
   j11 ((eT0 v9.2.1),())
   else
   Option.map Sum.inr (aX (fun(v17:aw×Unit)=>
   some (eT0 v17.1)) fun j18=>
   Option.bind (pU b.bf v9.2.1.bf) fun r19=>
   Option.bind (bif (!r19)then some true
   else
   Option.bind (pU b.aD v9.2.1.aD) fun r20=>
   some (!r20)) fun b21=>
   Option.bind (bif b21 then some true
   else
   Option.bind (jr (au b.aj) (au v9.2.1.aj)) fun r22=>
   some (!r22)) fun b23=>
   bif b23 then
   j18 ({v9.2.1 with aE:=(aA .i64 b.aE (1:Int)),aj:=(au v9.2.1.aj)},())
   else
   j18 ((eT0 v9.2.1),()))) ((0:Int),(eT0 v3.2.1),()))) (true,n,())=
   some (if Gn b {oK 41 n with aO:=Bp (oK 41 n)}=true then{oK 41 n with aO:=Bp (oK 41 n)}else{oK 41 n with aO:=Bp (oK 41 n),aE:=b.aE+1}):=by
  intro n h;refine acZ (fin:=fun m=>some (if Gn b {m with aO:=Bp m}=true then{m with aO:=Bp m}else{m with aO:=Bp m,aE:=b.aE+1})) (fun m hm=> ?_) (fun m hm=> ?_) 41 h (by omega)
  ·have hkl:=R1 hm;simp only[Qk,etas,adP hm,Qa]
   suffices key:∀(k i:Nat),i+k=(fj m).length->(∀x∈(fj m).take i,rM m x=false)->aC _ (false,(i:Int),m,())=some (Sum.inl (match(fj m).find? (rM m)with|some x=>(true,{m with aD:=mK m.aD x},())|none=>(false,m,())))from key (fj m).length 0 (by omega) (by simp)
   intro k
   induction k with
   |zero=>
    intro i hi hpre;obtain rfl:i=(fj m).length:=by omega
    rw[Qq62]at hpre;have hf:(fj m).find? (rM m)=none:=List.find?_eq_none.2 fun x hx=>by rw[hpre x hx];simp
    rw[hf];exact bx (by simp only[Qh (Qq64 _),Ql,Qe])
   |succ k ih=>
    intro i hi hpre;have hlt:i<(fj m).length:=by omega
    have hx:idx (fj m) (i:Int)=some (fj m)[i]:=by rw[bd];exact Qv hlt
    have hadd:aA .i64 (i:Int) 1=((i+1:Nat):Int):=bD (by omega) (by omega)
    have hd:decide ((i:Int)<(((fj m).length:Nat):Int))=true:=Qg (by omega)
    cases hc:rM m (fj m)[i]with
    |true=>
     have hf:(fj m).find? (rM m)=some (fj m)[i]:=by
      rw[List.find?_eq_some_iff_getElem];refine⟨hc,i,hlt,rfl,fun j hj=> ?_⟩
      rw[hpre _ (List.mem_take_iff_getElem.2 ⟨j,by omega,rfl⟩)]
      rfl
     rw[hf];refine bx ?_;simp only[hd,hx,Qk,Qa,ac0 hm,hc,Iu hm.eA,Qe]
    |false=>
     refine(bh ?_).trans (ih (i+1) (by omega) fun x hx2=> ?_)
     ·simp only[hd,hx,hadd,Qk,Ql,Qa,ac0 hm,hc]
     ·rw[Q7 hlt,Qz,Q5]at hx2;rcases hx2 with hx2|rfl
      ·exact hpre x hx2
      ·exact hc
  ·have hal:=hm.eA.len;simp only[Ql,etas,aN];congr 1;refine(fold_eq m.aD (by omega) (Gd m) (fun i c=>(i,{m with aO:=c},())) (DY m) (fun s x hx hs=>LB hm hs hx) (fin:=fun c=>some (if Gn b {m with aO:=c}=true then{m with aO:=c}else{m with aO:=c,aE:=b.aE+1})) (fun i y s hs hy hd hx hadd=> ?_) (fun s hs hd=> ?_) hm.acr).trans rfl
   ·have hms:=hm.abg hs.vl hs.sub;have hsd:kN {m with aO:=s} y=_:=WN hms y
    have hvw:lP {m with aO:=s}=_:=ZC hms
    have hsu:ix ⟨ox {m with aO:=s}⟩ m.an _=some (JL m y):=ahg hms y
    simp only[hd,hx,hadd,Qk,Qa,hsd,hvw,hsu];unfold Gd
    cases JL m y with
    |true=>simp only[Qk,Iu hs.vl,Qa,Qt]
    |false=>rfl
   ·obtain⟨b1,f1,g1⟩:=Nk (s:=b.bf) (t:=m.bf) hb.2.1;obtain⟨b2,f2,g2⟩:=Nk (s:=b.aD) (t:=m.aD) hb.2.2;obtain⟨b3,f3,g3⟩:=U8 (a:=b.aj) (b:=m.aj) hb.1;have hadd:aA .i64 b.aE 1=b.aE+1:=bD (by omega) (by omega)
    simp only[hd,Ql,f1,f2,f3,Qa,hadd]
    by_cases e:b.bf=m.bf/\b.aD=m.aD/\b.aj=m.aj
    ·rw[Qr ((Ea (b:=b) (r:={m with aO:=s})).2 e),g1.2 e.1,g2.2 e.2.1,g3.2 e.2.2]
     rfl
    ·rw[Qs (fun e'=>e ((Ea (b:=b) (r:={m with aO:=s})).1 e'))]
     cases b1 with
     |false=>rfl
     |true=>
      cases b2 with
      |false=>rfl
      |true=>
       cases b3 with
       |false=>rfl
       |true=>exact absurd ⟨g1.1 rfl,g2.1 rfl,g3.1 rfl⟩ e
 unfold gd;simp only[etas,aN,abv h,Qa];unfold lp ui
 by_cases h0:n.aO.length=0
 ·rw[Qg (by omega:((n.aO.length:Nat):Int)=0),Qk]
  simp only[Qr h0];have:=body {n with bf:=yX n} (h.Ig (D6 h))
  simp only[etas,aN]at this;exact this
 ·rw[Qh (by omega:¬((n.aO.length:Nat):Int)=0),Ql]
  simp only[Qs h0];have:=body n h;simp only[etas,aN]at this;exact this
theorem IH{n:aw}(h:cI n):ju n=some n:=by
 have hlen:=h.len;have hv:=h.df.len;have ha:=h.eA.len;have hc:=h.lu.len;unfold ju;simp only[etas,Pp h.ask.aL.sm,sB _ (QK hv (by omega)),sB _ (QK ha (by omega)),sB _ (QK hc (by omega)),Qa]
 suffices key:∀(k i:Nat),i+k=n.aq.length->aC _ ((i:Int),{n with bf:=[],aD:=[],aO:=[],aq:=[]},n.bf,n.aD,n.aO,n.aq.take i,())=some n from key n.aq.length 0 (by omega)
 intro k
 induction k with
 |zero=>
  intro i hi;obtain rfl:i=n.aq.length:=by omega
  refine bx ?_;simp only[Qh (Qq64 _),Ql,Qq62,Qe]
 |succ k ih=>
  intro i hi;have hlt:i<n.aq.length:=by omega
  have hx:idx n.aq (i:Int)=some n.aq[i]:=by rw[bd];exact Qv hlt
  have hm:=(h.heard _ (Q0 hlt)).1;have hvl:=hm.df.len;have hal:=hm.eA.len;refine(bh ?_).trans (ih (i+1) (by omega))
  simp only[Qg (by omega:(i:Int)<((n.aq.length:Nat):Int)),hx,Qk,Qa,ar.eta,IF hm.aL.sm (QK hvl (by omega)) (QK hal (by omega))]
  rw[lU (by omega) (by simp;omega),bD (by omega) (by omega),Q7 hlt]
  rfl
theorem abM{b n:aw}(hb:cQ b.aj/\b.bf.length<=1000000/\b.aD.length<=1000000)(hs:0<=b.aE/\b.aE<=1000000)(hq:n.aE=b.aE)(h:cI n):mE b n=some (lp b n):=by
 have k:=D9 h;have hok:=(LA (b:=b) h).ok;have hadd:aA .i64 (ui n).aE 1=b.aE+1:=by rw[k.seq,hq];exact bD (by omega) (by omega)
 obtain⟨b1,f1,g1⟩:=af6 (s:=b.bf) (t:=(ui n).bf) hb.2.1;obtain⟨b2,f2,g2⟩:=af6 (s:=b.aD) (t:=(ui n).aD) hb.2.2;obtain⟨b3,f3,g3⟩:=eqT (a:=b.aj) (b:=(ui n).aj) hb.1;unfold mE;simp only[etas,aN,RP h,f1,f2,f3,Qa,hadd];unfold lp at hok ⊢
 by_cases e':Gn b (ui n)=true
 ·have e:=Ea.1 e';rw[Qr e']at hok ⊢;rw[g1.2 e.1,g2.2 e.2.1,g3.2 e.2.2];simp only[Qo,Ql,Qa,IH hok]
 ·have e:¬(b.bf=(ui n).bf/\b.aD=(ui n).aD/\b.aj=(ui n).aj):=fun e=>e' (Ea.2 e)
  rw[Qs e']at hok ⊢
  cases b3 with
  |false=>simp only[Qp,Qk,Qa,IH hok]
  |true=>
   cases b1 with
   |false=>simp only[Qp,Qo,Qk,Ql,Qa,IH hok]
   |true=>
    cases b2 with
    |false=>simp only[Qp,Qo,Qk,Ql,Qa,IH hok]
    |true=>exact absurd ⟨g1.1 rfl,g2.1 rfl,g3.1 rfl⟩ e
end
section
def iG(l:List ar)(m:ar):List ar:=l.filter (fun x=>decide (x.an<m.an))++m::l.filter (fun x=>decide (m.an<x.an))
def uk(l:List ar)(m:ar):Bool:=l.any fun x=>decide (x.an=m.an)&&decide (m.aE<=x.aE)
theorem R5{l:List ar}{m x:ar}:x∈iG l m↔x=m\/(x∈l/\x.an≠m.an):=by
 unfold iG;simp only[Qz,QA,List.mem_filter,Qi];constructor
 ·rintro(⟨h1,h2⟩|h|⟨h1,h2⟩)
  ·exact .inr ⟨h1,by omega⟩
  ·exact .inl h
  ·exact .inr ⟨h1,by omega⟩
 ·rintro(h|⟨h1,h2⟩)
  ·exact .inr (.inl h)
  ·rcases Int.lt_or_gt_of_ne h2 with h3|h3
   ·exact .inl ⟨h1,h3⟩
   ·exact .inr (.inr ⟨h1,h3⟩)
theorem G3{n:aw}(h:cI n){m:ar}(hm:uu m)(hne:m.an≠n.an):cI {n with aq:=iG n.aq m}:=by
 refine⟨h.ask,h.own,h.df,h.eA,h.lu,h.sub,fun x hx=> ?_,?_⟩
 ·rcases R5.1 hx with rfl|⟨hx,_⟩
  ·exact⟨hm,hne⟩
  ·exact h.heard x hx
 ·show(iG n.aq m).Pairwise _;unfold iG;rw[Qq69,Q4];refine⟨h.eZ.filter _,⟨fun x hx=>of_decide_eq_true (List.mem_filter.1 hx).2,h.eZ.filter _⟩,fun x hx y hy=> ?_⟩
  have h1:=of_decide_eq_true (List.mem_filter.1 hx).2;rcases QA.1 hy with rfl|hy
  ·exact h1
  ·have h2:=of_decide_eq_true (List.mem_filter.1 hy).2;omega
theorem MX{a:Int}:∀{l:List ar},l.Pairwise (fun x y=>x.an<y.an)->l.filter (fun x=>decide (x.an<a))=l.takeWhile (fun x=>decide (x.an<a))/\∀x∈l.drop (l.takeWhile fun x=>decide (x.an<a)).length,a<=x.an
 |[],_=>⟨rfl,fun x hx=>by simp at hx⟩
 |y::l,hp=>by
  rw[Q4]at hp
  by_cases hy:y.an<a
  ·obtain⟨h1,h2⟩:=MX (a:=a) hp.2;rw[List.filter_cons,List.takeWhile_cons,Qg hy];simp only[Qt,QE,List.drop_succ_cons];exact⟨by rw[h1],h2⟩
  ·rw[List.filter_cons,List.takeWhile_cons,Qh hy];simp only[Qq,Qu,QZ,List.drop_zero];refine⟨List.filter_eq_nil_iff.2 fun x hx=> ?_,fun x hx=> ?_⟩
   ·have:=hp.1 x hx;rw[Qi];omega
   ·rcases QA.1 hx with rfl|hx
    ·omega
    ·have:=hp.1 x hx;omega
theorem Ro{a:Int}:∀{l:List ar},l.Pairwise (fun x y=>x.an<y.an)->l.filter (fun x=>decide (a<x.an))=match l.drop (l.takeWhile fun x=>decide (x.an<a)).length with|[]=>[]|y::r=>if y.an=a then r else y::r
 |[],_=>rfl
 |y::l,hp=>by
  rw[Q4]at hp
  by_cases hy:y.an<a
  ·have h1:=Ro (a:=a) hp.2;rw[List.filter_cons,List.takeWhile_cons,Qg hy,Qh (by omega:¬a<y.an)]
   simp only[Qt,Qq,Qu,QE,List.drop_succ_cons];exact h1
  ·have hall:∀x∈l,a<x.an:=fun x hx=>by have:=hp.1 x hx;omega
   rw[List.filter_cons,List.takeWhile_cons,Qh hy];simp only[Qq,Qu,QZ,List.drop_zero];rw[List.filter_eq_self.2 fun x hx=>Qg (hall x hx)]
   by_cases he:y.an=a
   ·rw[Qr he,Qh (by omega:¬a<y.an)];rfl
   ·rw[Qs he,Qg (by omega:a<y.an)];rfl
theorem adb(x:ar)(a:Int):mF x a=some (yv x.an a):=by
 unfold mF;simp
section
variable {n : aw} (h : cI n)
 include h
theorem af5(a:Int):cu n.aq a=some ((((n.aq.takeWhile fun x=>decide (x.an<a)).length:Nat):Int),(match n.aq.drop (n.aq.takeWhile fun x=>decide (x.an<a)).length with|[]=>false|y::_=>decide (y.an=a)),()):=by
 have hlen:=h.len;unfold cu;refine(OO n.aq (by omega) (fun y=>decide (y.an<a)) (h.eZ.imp fun{x y} hxy hy=>by simp only[Qi]at hy ⊢;omega) (fin:=fun k=>some (((k:Nat):Int),(match n.aq.drop k with|[]=>false|y::_=>decide (y.an=a)),())) (fun i j m y hd hj hm hadd hx=> ?_) (fun i hd hi=> ?_)).trans rfl
 ·have hc:decide (yv y.an a<0)=decide (y.an<a):=by rw[decide_eq_decide];exact Hg _ _
  simp only[hd,hm,hadd,hx,ar.eta,etas,adb,hc,Qa,Qk];cases decide (y.an<a)<;>rfl
 ·simp only[hd,Ql]
  by_cases hi2:i<n.aq.length
  ·have hc:decide (yv n.aq[i].an a=0)=decide (n.aq[i].an=a):=by rw[decide_eq_decide];exact vz _ _
   rw[Qg (by omega:(i:Int)<((n.aq.length:Nat):Int)),QM hi2]
   simp only[Qk,bd,Qv hi2,Qa,ar.eta,etas,adb,hc,Qe]
  ·rw[Qh (by omega:¬(i:Int)<((n.aq.length:Nat):Int)),List.drop_eq_nil_of_le (by omega)]
   rfl
theorem af4(hs:1<=n.aE/\n.aE<=1000000){m:ar}(hm:uu m)(hne:m.an≠n.an):rZ n m=some (if uk n.aq m then(D5,9,())else(lp n {n with aq:=iG n.aq m},0,())):=by
 have hlen:=h.len;have hno:=G3 h hm hne;have hk:=Tr (fun x:ar=>decide (x.an<m.an)) n.aq
 obtain⟨s1,s2⟩:=MX (a:=m.an) h.eZ;have s3:=Ro (a:=m.an) h.eZ
 have htake:n.aq.take (n.aq.takeWhile fun x=>decide (x.an<m.an)).length=n.aq.takeWhile fun x=>decide (x.an<m.an):=by
  conv=>lhs;arg 2;rw[<-List.takeWhile_append_dropWhile (p:=fun x=>decide (x.an<m.an)) (l:=n.aq)]
  exact List.take_left
 have hturn:mE n {n with aq:=iG n.aq m}=some (lp n {n with aq:=iG n.aq m}):=abM h.EC ⟨by omega,hs.2⟩ rfl hno
 unfold rZ;simp only[etas,ar.eta,WZ h hs,W8 hm,af5 h,Vr h,Qa,Qo,Ql,Qh hne,aN]
 have hold:uk n.aq m=match n.aq.drop (n.aq.takeWhile fun x=>decide (x.an<m.an)).length with|[]=>false|y::_=>decide (y.an=m.an)&&decide (m.aE<=y.aE):=by
  have hsplit:n.aq=(n.aq.takeWhile fun x=>decide (x.an<m.an))++n.aq.drop (n.aq.takeWhile fun x=>decide (x.an<m.an)).length:=by
   conv=>lhs;rw[<-List.take_append_drop (n.aq.takeWhile fun x=>decide (x.an<m.an)).length n.aq]
   rw[htake]
  have hpre:∀x∈n.aq.takeWhile fun x=>decide (x.an<m.an),x.an<m.an:=fun x hx=>by
   rw[<-s1]at hx;exact of_decide_eq_true (List.mem_filter.1 hx).2
  have hsd:=h.eZ;unfold uk;rw[hsplit]at hsd
  conv=>lhs;rw[hsplit]
  rw[List.any_append,List.any_eq_false.2 fun x hx=>by have:=hpre x hx;rw[Qh (by omega:¬x.an=m.an)];simp,Bool.false_or]
  cases hd:n.aq.drop (n.aq.takeWhile fun x=>decide (x.an<m.an)).length with
  |nil=>rfl
  |cons y r=>
   rw[hd,Qq69,Q4]at hsd;have hy:m.an<=y.an:=s2 y (by rw[hd];exact Qx)
   rw[List.any_cons,List.any_eq_false.2 fun x hx=>by have:=hsd.2.1.1 x hx;rw[Qh (by omega:¬x.an=m.an)];simp,Bool.or_false]
 have hl:iG n.aq m=(n.aq.takeWhile fun x=>decide (x.an<m.an))++m::(match n.aq.drop (n.aq.takeWhile fun x=>decide (x.an<m.an)).length with|[]=>[]|y::r=>if y.an=m.an then r else y::r):=by
  unfold iG;rw[s1,s3]
 rw[hold];generalize hkk:(n.aq.takeWhile fun x=>decide (x.an<m.an)).length=k at*
 cases hd:n.aq.drop k with
 |nil=>
  rw[hd]at hl
  have hkl:k=n.aq.length:=by
   have:=congrArg List.length hd;simp only[List.length_drop,QZ]at this;omega
  have hins:cv n.aq (k:Int) [m]=some (iG n.aq m):=by
   unfold cv DA;rw[Qg (by omega:(0:Int)<=(k:Int)),Qg (by omega:(k:Int)<=((n.aq.length:Nat):Int)),lU (by omega) (by simp;omega),hl]
   simp only[QV,htake,hd];simp
  simp only[Ql,hins,hturn,Qa,Qq,Qu]
 |cons y r=>
  rw[hd]at hl
  have hk1:k<n.aq.length:=by
   have:=congrArg List.length hd;simp only[List.length_drop,QE]at this;omega
  have hyk:n.aq[k]=y:=by
   rw[QM hk1]at hd;exact(List.cons.inj hd).1
  have hr:n.aq.drop (k+1)=r:=by
   rw[QM hk1]at hd;exact(List.cons.inj hd).2
  have hx:idx n.aq (k:Int)=some y:=by rw[bd,Qv hk1,hyk]
  have hx2:n.aq[k]?=some y:=by rw[Qv hk1,hyk]
  by_cases hyn:y.an=m.an
  ·simp only[Qr hyn]at hl;simp only[Qg hyn,Qk,hx,Qa,Bool.true_and,QV,hx2]
   cases decide (m.aE<=y.aE)with
   |true=>rfl
   |false=>
    have hset:n.aq.set k m=iG n.aq m:=by
     rw[hl,List.set_eq_take_append_cons_drop,Qr hk1,htake,hr]
    simp only[Ql,hset,hturn,Qa,Qq,Qu]
  ·simp only[Qs hyn]at hl
   have hins:cv n.aq (k:Int) [m]=some (iG n.aq m):=by
    unfold cv DA;rw[Qg (by omega:(0:Int)<=(k:Int)),Qg (by omega:(k:Int)<=((n.aq.length:Nat):Int)),lU (by omega) (by simp;omega),hl]
    simp only[QV,htake,hd];simp
   simp only[Qh hyn,Ql,hins,hturn,Qa,Bool.false_and,Qq,Qu]
theorem ZH(hs:1<=n.aE/\n.aE<=1000000){m:ar}(hm:uu m)(hne:m.an≠n.an):sJ n m=some (if uk n.aq m then(D5,9,())else(lp n {n with aq:=iG n.aq m},0,())):=by
 have hlen:=h.len;have hset:gd n {n with aq:=iG n.aq m}=some (lp n {n with aq:=iG n.aq m}):=Is h.EC ⟨by omega,hs.2⟩ (G3 h hm hne)
 have kk:∀(a:List ar) (x:ar),a.length<=100->bc 120 (a.length+[x].length)=true:=fun a x ha=>bn ⟨by simp only[Q6];omega,by simp only[Q6];omega⟩
 unfold sJ;simp only[etas,ar.eta,Ft h hs,Pl hm,Qa,Qo,Ql];rw[Qh hne];simp only[Ql,aN]
 suffices key:Yd (aC _ (false,(0:Int),D5,{n with aq:=[]},[],())) fun r=>r=if uk n.aq m then(D5,(9:Int),())else(lp n {n with aq:=iG n.aq m},(0:Int),())by
  obtain⟨r,g,rfl⟩:=key;exact g
 refine Yd.list n.aq (by omega) (fun i (s:Bool×List ar)=>(s.1,i,D5,{n with aq:=[]},s.2,()))
  (fun i s=>s.2.length<=i+1/\uk (n.aq.take i) m=false/\s.1=(n.aq.take i).any (fun x=>decide (m.an<x.an))/\s.2=(n.aq.take i).filter (fun x=>decide (x.an<m.an))++(if s.1 then[m]else[])++(n.aq.take i).filter (fun x=>decide (m.an<x.an))) ?_ ?_ (s:=(false,[])) ⟨by simp,rfl,rfl,rfl⟩
 ·rintro i x ⟨d,acc⟩ ⟨a1,a2,a3,a4⟩ hd hx' hi hdec hx hadd;simp only at a1 a2 a3 a4;have e:n.aq.take (i+1)=n.aq.take i++[x]:=by rw[List.take_add_one,show n.aq[i]?=some x by rw[bd]at hx;exact hx];rfl
  have hlt:∀y∈n.aq.take i,y.an<x.an:=by
   have:=h.eZ.sublist (List.take_sublist (i+1) n.aq);rw[e,Qq69]at this;exact fun y hy=>this.2.2 y hy x (by simp)
  have k1:=kk acc m (by omega)
  have k2:=kk acc x (by omega)
  have k3:=kk (acc++[m]) x (by simp only[QB,Q6];omega)
  simp only;rw[hdec,Qk,hx,Qa,hadd]
  by_cases hn:x.an=m.an
  ·rw[Qg hn,Qk]
   by_cases hq:m.aE<=x.aE
   ·rw[Qg hq];refine .some ?_;have:uk n.aq m=true:=List.any_eq_true.2 ⟨x,hx',by rw[Qg hn,Qg hq];rfl⟩
    show _=_;rw[Qr this];rfl
   ·rw[Qh hq];refine .some ⟨(d,acc),rfl,by show acc.length<=i+1+1;omega,?_,?_,?_⟩
    ·rw[e];unfold uk at a2 ⊢;rw[List.any_append,a2];simp[hq]
    ·rw[e,List.any_append];simp only;rw[<-a3];simp[hn]
    ·rw[e];simp only[List.filter_append,List.filter_cons,List.filter_nil,Qh (by omega:¬x.an<m.an),Qh (by omega:¬m.an<x.an),Qq,Qu,List.append_nil]
     exact a4
  ·rw[Qh hn,Ql,k1,k2,k3]
   have holdx:uk (n.aq.take (i+1)) m=false:=by
    rw[e];unfold uk at a2 ⊢;rw[List.any_append,a2];simp[hn]
   by_cases hlx:m.an<x.an
   ·rw[Qg hlx]
    have hany:(n.aq.take (i+1)).any (fun x=>decide (m.an<x.an))=true:=by
     rw[e,List.any_append];simp[hlx]
    have hfl:(n.aq.take (i+1)).filter (fun x=>decide (x.an<m.an))=(n.aq.take i).filter (fun x=>decide (x.an<m.an)):=by
     rw[e,List.filter_append,List.filter_cons,Qh (by omega:¬x.an<m.an)]
     simp
    have hfg:(n.aq.take (i+1)).filter (fun x=>decide (m.an<x.an))=(n.aq.take i).filter (fun x=>decide (m.an<x.an))++[x]:=by
     rw[e,List.filter_append,List.filter_cons,Qg hlx];rfl
    cases d with
    |true=>
     simp only[Qo,Ql,Qk,Qa];refine .some ⟨(true,acc++[x]),rfl,by simp only[QB,Q6];omega,holdx,hany.symm,?_⟩
     simp only;rw[hfl,hfg,a4];simp
    |false=>
     simp only[Qp,Qk,Qa]
     have hnil:(n.aq.take i).filter (fun x=>decide (m.an<x.an))=[]:=by
      refine List.filter_eq_nil_iff.2 fun y hy=> ?_
      have:=List.any_eq_false.1 a3.symm y hy;exact this
     rw[hnil]at a4;refine .some ⟨(true,acc++[m]++[x]),rfl,?_,holdx,hany.symm,?_⟩
     ·have hb:acc.length<=i:=by
       rw[a4];simp only[Qq,Qu,List.append_nil];refine QK (List.length_filter_le _ _) ?_;rw[List.length_take];omega
      simp only[QB,Q6];omega
     ·simp only;rw[hfl,hfg,hnil,a4];simp
   ·have hxm:x.an<m.an:=by omega
    rw[Qh hlx];have hnone:∀y∈n.aq.take i,¬m.an<y.an:=fun y hy=>by have:=hlt y hy;omega
    have hd0:d=false:=by
     rw[a3];exact List.any_eq_false.2 fun y hy=>by rw[Qh (hnone y hy)];simp
    have hnil:(n.aq.take i).filter (fun x=>decide (m.an<x.an))=[]:=List.filter_eq_nil_iff.2 fun y hy=>by rw[Qh (hnone y hy)];simp
    subst hd0;rw[hnil]at a4;simp only[Qp,Qk,Ql,Qa];refine .some ⟨(false,acc++[x]),rfl,by simp only[QB,Q6];omega,holdx,?_,?_⟩
    ·rw[e,List.any_append];simp only;rw[<-a3];simp[hlx]
    ·simp only;rw[e,List.filter_append,List.filter_append,hnil,a4];simp[hxm,hlx]
 ·rintro⟨d,acc⟩ ⟨a1,a2,a3,a4⟩ hdec;rw[Qq62]at a2 a3 a4;simp only at a1 a2 a3 a4;simp only;rw[hdec,Ql];have k1:=kk acc m (by omega)
  have hold:uk n.aq m=false:=a2;rw[k1,hold]
  cases d with
  |true=>
   have:acc=iG n.aq m:=by rw[a4];simp[iG]
   rw[this];simp only[Qo,Ql,hset,Qa,Qe];exact .some rfl
  |false=>
   have hnil:n.aq.filter (fun x=>decide (m.an<x.an))=[]:=List.filter_eq_nil_iff.2 fun y hy=>List.any_eq_false.1 a3.symm y hy
   have:acc++[m]=iG n.aq m:=by
    rw[hnil]at a4;unfold iG;rw[hnil,a4];simp
   simp only[Qp,Qk,this,hset,Qa,Qe];exact .some rfl
end
theorem ad7{t:ae}{v aG:Int}{own:ByteArray}(ht:dQ t)(h0:0<=v)(h1:v<10)(h2:0<=aG)(h3:aG<=1000000)(ho:own.size<=200):jw v aG t own=mn v aG t own:=by
 have hn:cI ⟨v,aG,1,1,t,own,[],[],[],[]⟩:=⟨⟨ht,h0,h1,h2,h3,by show(1:Int)<=1;omega,by show(1:Int)<=1000;omega⟩,ho,.nil,.nil,.nil,fun x hx=>absurd hx QR,fun x hx=>absurd hx QR,List.Pairwise.nil⟩
 have k:=D9 hn;have hq:(ui ⟨v,aG,1,1,t,own,[],[],[],[]⟩).aE=1:=k.seq;unfold mn jw;simp only[etas,dE ht,c5 ht,Nu h0 h1];rw[Qh (by omega:¬v<0),Qh (by omega:¬(10:Int)<=v),Qh (by omega:¬aG<0),Qh (by omega:¬(1000000:Int)<aG),Qh (by omega:¬(200:Int)<((own.size:Nat):Int))]
 simp only[Ql,Qa,decide_true,Qo,RP hn,IH k.ok];rw[Is hn.EC ⟨by show(0:Int)<=1;omega,by show(1:Int)<=1000000;omega⟩ hn,Qa]
 unfold lp;split
 ·generalize ui ⟨v,aG,1,1,t,own,[],[],[],[]⟩=r at hq;obtain⟨a1,a2,a3,a4,a5,a6,a7,a8,a9,a10⟩:=r;simp only at hq;subst hq;rfl
 ·generalize ui ⟨v,aG,1,1,t,own,[],[],[],[]⟩=r at hq;obtain⟨a1,a2,a3,a4,a5,a6,a7,a8,a9,a10⟩:=r;simp only at hq;subst hq;rfl
end
section
theorem Fs{a b:ab}(hq:a.aE=b.aE){s:Int}:({a with aE:=s}:ab)={b with aE:=s}↔a=b:=by
 constructor
 ·intro h;cases a;cases b;simp only[ab.mk.injEq]at h hq ⊢;obtain⟨h1,h2,_,h3⟩:=h;exact⟨h1,h2,hq,h3⟩
 ·rintro rfl;rfl
theorem step_seq{m:ab}(h:bp m){s:Int}(hs:0<=s/\s<=1000000):cn {m with aE:=s}={cn m with aE:=s}:=by
 have e1:cU {m with aE:=s}={m with aE:=s}↔cU m=m:=by rw[Eg h hs];exact Fs (uX m).seq
 have e2:fY {m with aE:=s}={m with aE:=s}↔fY m=m:=by rw[Ef h hs];exact Fs (sX m).seq
 have e3:fG {m with aE:=s}={m with aE:=s}↔fG m=m:=by rw[Ei h hs];exact Fs (sZ m).seq
 have e4:iF {m with aE:=s}={m with aE:=s}↔iF m=m:=by rw[Eh h hs];exact Fs (sY m).seq
 unfold cn
 by_cases hP:cU m=m
 ·rw[Qr (e1.2 hP),Qr hP]
  by_cases hS:fY m=m
  ·rw[Qr (e2.2 hS),Qr hS]
   by_cases hC:fG m=m
   ·rw[Qr (e3.2 hC),Qr hC]
    by_cases hF:iF m=m
    ·rw[Qr (e4.2 hF),Qr hF,ID h hs]
    ·rw[Qs (mt e4.1 hF),Qs hF,Eh h hs]
   ·rw[Qs (mt e3.1 hC),Qs hC,Ei h hs]
  ·rw[Qs (mt e2.1 hS),Qs hS,Ef h hs]
 ·rw[Qs (mt e1.1 hP),Qs hP,Eg h hs]
 def Lc:Nat->ab->ab
 |0,m=>m
 |k+1,m=>cn (Lc k m)
theorem PL{m:ab}(h:cn m=m):∀k,Lc k m=m
 |0=>rfl
 |k+1=>by rw[Lc,PL h k,h]
theorem PM(m:ab)(k:Nat):∀j,Lc (j+k) m=Lc j (Lc k m)
 |0=>by rw[Nat.zero_add];rfl
 |j+1=>by rw[Nat.add_right_comm,Lc,Lc,PM m k j]
def DR(m1 x:ab):Prop:=bp x/\∃k,({x with aE:=0}:ab)=Lc k {m1 with aE:=0}
theorem DR.self{m1:ab}(h:bp m1):DR m1 m1:=⟨h,0,rfl⟩
theorem Tb{m1:ab}:∀m,bp m->DR m1 m->DR m1 (cn m):=fun m h ⟨_,k,e⟩=>⟨yJ h,k+1,by rw[Lc,<-e,step_seq (s:=0) h ⟨by decide,by decide⟩]⟩
theorem Ta{m1:ab}:∀m,DR m1 m->DR m1 (c8 m):=fun m ⟨h,k,e⟩=>⟨yf h,k,by
 rw[<-e];unfold c8
 split<;>rfl⟩
theorem Y9{m0 m1 a b:ab}(ha:Fg (DR m1) m0 a)(hb:Fg (DR m1) m0 b)(hq:0<=m0.aE):a=b:=by
 have fixed:∀{x:ab},Fg (DR m1) m0 x->cn {x with aE:=0}={x with aE:=0}:=fun{x} hx=>by rw[step_seq (s:=0) hx.inv ⟨by decide,by decide⟩,U4 hx.fix]
 obtain⟨_,k,ea⟩:=ha.rel;obtain⟨_,j,eb⟩:=hb.rel
 have core:({a with aE:=0}:ab)={b with aE:=0}:=by
  rcases Nat.le_total k j with h|h
  ·have e2:=PM {m1 with aE:=0} k (j - k)
   rw[show j - k+k=j by omega,<-eb,<-ea,PL (fixed ha)]at e2
   exact e2.symm
  ·have e2:=PM {m1 with aE:=0} j (k - j)
   rw[show k - j+j=k by omega,<-eb,<-ea,PL (fixed hb)]at e2
   exact e2
 have hz:a.aa=b.aa:=by
  have:=congrArg ab.aa core;exact this
 have hs:a.aE=b.aE:=by
  have n1:=ha.num;have n2:=hb.num
  cases hc:aF a.aa with
  |true=>
   rw[ha.seq.zero hc,hb.seq.zero (by rw[<-hz];exact hc)]
  |false=>
   have p1:=ha.seq.pos hc;have p2:=hb.seq.pos (by rw[<-hz];exact hc)
   omega
 exact(Fs hs).1 core
theorem RT{m m1:ab}{q q':ab×Int×Unit}(h1:0<=(c8 m1).aE)(h:HN (DR m1) m m1 q)(h':HN (DR m1) m m1 q'):q=q':=by
 obtain⟨a,rfl,ha⟩:=h;obtain⟨b,rfl,hb⟩:=h';rw[Y9 ha hb h1]
section
variable {m : ab} (h : bp m) (hs : fQ m)
 include h hs
theorem aay{v:ByteArray}(hv:1<=v.size/\v.size<=200):me m v=kh m v:=by
 have hi:=Dh h hv;obtain⟨q,e1,h1⟩:=Ub Tb Ta h hs hv (DR.self hi);obtain⟨q',e2,h2⟩:=LM Tb Ta h hs hv (DR.self hi);rw[e1,e2,RT (yf hi).seq.1 h1 h2]
theorem aax{e:ai}(he:vI m e):jW m e=kg m e:=by
 have hi:=G1 h he;obtain⟨q,e1,h1⟩:=abN Tb Ta h hs he (DR.self hi);obtain⟨q',e2,h2⟩:=LL Tb Ta h hs he (DR.self hi);rw[e1,e2];rcases h1 with⟨h1,a⟩|⟨rfl,a⟩<;>rcases h2 with⟨h2,b⟩|⟨rfl,b⟩
 ·rw[RT (yf hi).seq.1 h1 h2]
 ·rw[a]at b;cases b
 ·rw[a]at b;cases b
 ·rfl
end
end
section
theorem ack{a b:ByteArray}:decide (0<vx a b)=bJ b a:=by
 cases h:bJ b a with
 |true=>
  have h1:¬vx a b<0:=fun e=>by
   have:=tr a b;rw[Qg e,iu.asymm h]at this;cases this
  have h2:¬vx a b=0:=fun e=>by
   have h3:=Jq (a:=a) (b:=b);rw[Qg e]at h3;rw[of_decide_eq_true h3.symm,iu.irrefl]at h;cases h
  exact Qg (by omega)
 |false=>
  refine Qh fun e=> ?_
  have h1:bJ a b=false:=by rw[<-tr];exact Qh (by omega)
  have h2:=iu.total _ _ h1 h;have h3:=Jq (a:=a) (b:=b);rw[Qg h2]at h3;have:=of_decide_eq_true h3;omega
def na(l:List ByteArray):ByteArray:=l.getLast?.getD (ByteArray.mk #[])
theorem IV{l:List ByteArray}(h:l≠[]):na l∈l:=by
 unfold na
 cases hl:l.getLast? with
 |none=>exact absurd (List.getLast?_eq_none_iff.1 hl) h
 |some a=>exact List.mem_of_getLast? hl
theorem abY{x:ByteArray}(h:jH x):bJ (ByteArray.mk #[]) x=true:=by
 have:=h.1;have h0:(ByteArray.mk #[]).size=0:=rfl;unfold bJ;rw[Qs (by rw[h0];omega),h0]
 exact Qg (by omega)
theorem GP{l:List ByteArray}{i:Nat}{x:ByteArray}(hx:l[i]?=some x):na (l.take (i+1))=x:=by
 unfold na;rw[List.take_add_one,hx];simp
theorem RZ{l:List ByteArray}(h:VL l){i:Nat}{x:ByteArray}(hx:l[i]?=some x):bJ (na (l.take i)) x=true:=by
 have hi:i<l.length:=(Qw.1 hx).1;have hxe:l[i]=x:=(Qw.1 hx).2
 by_cases h0:i=0
 ·subst h0;exact abY (h.rD x (Q8 hx))
 ·have e:=GP (l:=l) (i:=i - 1) (Qv (by omega))
  rw[show i - 1+1=i by omega]at e
  rw[e,<-hxe];exact List.pairwise_iff_getElem.1 h.F0 (i - 1) i (by omega) hi (by omega)
theorem ZI{l:List ByteArray}(h:VL l):lY l=some (na l,decide (l≠[]),()):=by
 unfold lY;simp only[aN]
 suffices key:Yd (aC _ (ByteArray.mk #[],false,(0:Int),())) fun r=>r=(na l,decide (l≠[]),())by
  obtain⟨r,g,rfl⟩:=key;exact g
 refine Yd.list l h.vb (fun i (s:ByteArray×Bool)=>(s.1,s.2,i,())) (fun i s=>s=(na (l.take i),decide (i≠0))) ?_ ?_ (s:=(_,false)) rfl
 ·rintro i x s rfl hd hx' hi hdec hx hadd;have hx2:l[i]?=some x:=by rw[bd]at hx;exact hx
  have hl:=RZ h hx2;simp only;rw[hdec,Qk,hx,Qa,Ni,Qa,hadd,Qg (h.rD x hx'),AA];simp only[Qk,Qa,Jr,hl];have g:∃s':ByteArray×Bool,((x,true,((i+1:Nat):Int),()):ByteArray×Bool×Int×Unit)=(s'.1,s'.2,((i+1:Nat):Int),())/\s'=(na (l.take (i+1)),decide (i+1≠0)):=⟨(x,true),rfl,by rw[GP hx2];rfl⟩
  cases decide (i≠0)<;>exact .some g
 ·rintro s rfl hdec;simp only;rw[hdec,Ql,Qq62];refine .some ?_;show _=_;congr 2;rw[decide_eq_decide];cases l<;>simp
theorem af8{l:List ByteArray}(h:VL l):gn l=some (na l,decide (l≠[]),()):=by
 unfold gn;simp only[aN]
 suffices key:Yd (aC _ (ByteArray.mk #[],(0:Int),())) fun r=>r=(na l,decide (l≠[]),())by
  obtain⟨r,g,rfl⟩:=key;exact g
 refine Yd.list l h.vb (fun i (s:ByteArray)=>(s,i,())) (fun i s=>s=na (l.take i)) ?_ ?_ rfl
 ·rintro i x s rfl hd hx' hi hdec hx hadd;have hx2:l[i]?=some x:=by rw[bd]at hx;exact hx
  have hl:=RZ h hx2;simp only;rw[hdec,Qk,hx,Qa,Ua,Qa,hadd,Qg (h.rD x hx'),yd];simp only[Qk,Qa,ack,hl];exact .some ⟨x,rfl,by rw[GP hx2]⟩
 ·rintro s rfl hdec;simp only;rw[hdec,Ql,Qq62];refine .some ?_;show _=_;congr 2
  cases hl:l with
  |nil=>rfl
  |cons y r=>
   have hm:na l∈l:=IV (by rw[hl];simp)
   have hv:=h.rD _ hm;rw[<-hl]
   have hne:na l≠ByteArray.mk #[]:=fun e=>by
    rw[e]at hv;exact absurd hv.1 (by decide)
   rw[Qh hne,Qg (by rw[hl];simp)]
   rfl
theorem aht{l:List ar}(hlen:l.length<=100)(h:∀m∈l,cQ m.aj/\m.bf.length<=1000/\m.aD.length<=1000):fP l=some l:=by
 unfold fP
 suffices key:∀(k i:Nat),i+k=l.length->aC _ ((i:Int),l.take i,())=some l from key l.length 0 (by omega)
 intro k
 induction k with
 |zero=>
  intro i hi;obtain rfl:i=l.length:=by omega
  refine bx ?_;simp only[Qh (Qq64 _),Ql,Qq62,Qe]
 |succ k ih=>
  intro i hi;have hlt:i<l.length:=by omega
  have hx:idx l (i:Int)=some l[i]:=by rw[bd];exact Qv hlt
  obtain⟨h1,h2,h3⟩:=h _ (Q0 hlt);refine(bh ?_).trans (ih (i+1) (by omega))
  simp only[Qg (by omega:(i:Int)<((l.length:Nat):Int)),hx,Qk,Qa,etas,ar.eta,LS h1 h2 h3]
  rw[lU (by omega) (by simp;omega),bD (by omega) (by omega),Q7 hlt]
  rfl
section
variable {nd sl k : Int} {x : bs}
theorem Z1(h:tu nd sl k x):ua x=some x:=by
 have n:=h.lf;have l1:=n.df.len;have l2:=n.eA.len;have l3:=n.lu.len;have l4:=n.len;have l5:=h.gK.len;have hN:fP x.ay.aq=some x.ay.aq:=aht (by omega) fun m hm=>⟨(n.heard m hm).1.aL.sm,QK (n.heard m hm).1.df.len (by omega),QK (n.heard m hm).1.eA.len (by omega)⟩
 have hE:dS x.al.aq=some x.al.aq:=VW (fun e he=>(h.gK.hv e he).2.1.sm) (by omega)
 unfold ua;simp only[bs.eta,aw.eta,ab.eta,etas,oX n.ask.aL.sm,oX h.gK.aL.sm,sB _ (QK l1 (by omega)),sB _ (QK l2 (by omega)),sB _ (QK l3 (by omega)),hN,hE,Qa]
theorem Mx(h:tu nd sl k x):oi x=eQ x:=by
 unfold oi eQ;simp only[etas,aN,af8 h.lf.lu,ZI h.lf.lu,cz,c7,Qa,Gz h.gK h.ji,Az h.gK h.ji]
 by_cases hc:x.ay.aO=[]
 ·have e1:decide ((0:Int)<((x.ay.aO.length:Nat):Int))=false:=by rw[hc];rfl
  rw[e1,hc];cases decide (x.al.aK=1)<;>cases aF x.al.ax<;>rfl
 ·have hpos:0<x.ay.aO.length:=List.length_pos_iff.2 hc;have hlv:jH (na x.ay.aO):=h.lf.lu.rD _ (IV hc);rw[Qg (by omega:(0:Int)<((x.ay.aO.length:Nat):Int)),Qg hc,aay h.gK h.ji hlv]
  obtain⟨q,e,q0,hn⟩:=GG h.gK h.ji hlv;rw[e];simp only[Qa,q0,decide_true,Qk,Gz hn.inv hn.seq,Az hn.inv hn.seq];cases decide (x.al.aK=1)<;>cases aF x.al.ax<;>cases decide (na x.ay.aO=x.al.bb)<;>rfl
theorem aab{m:ab}(h:bp m)(hs:fQ m){v:ByteArray}(hv:jH v):Yd (kh m v) fun q=>q.2.1=0/\CR m m.aj q.1/\q.1.bb=v/\q.1.aq=m.aq:=by
 obtain⟨q,e,h1,h2⟩:=GG h hs hv;obtain⟨q',e',m2,rfl,ha⟩:=LM (R:=fun _=>True) (fun _ _ _=>trivial) (fun _ _=>trivial) h hs hv trivial
 rw[e]at e';obtain rfl:=Option.some.inj e';obtain⟨_,_,_,e4,e5,_⟩:=Dm (ep m v);obtain⟨s,es,_⟩:=Hh m m2;have g1:(ep m v).bb=v:=by unfold ep;split<;>rfl
 have g2:(ep m v).aq=m.aq:=by unfold ep;split<;>rfl
 refine⟨_,e,h1,h2,?_,?_⟩
 ·show(qX m m2).bb=v;rw[es];exact ha.env.2.2.2.1.trans (e4.trans g1)
 ·show(qX m m2).aq=m.aq;rw[es];exact ha.env.2.2.2.2.trans (e5.trans g2)
structure XI (x y:bs):Prop where
 lf:y.ay=x.ay
 round:y.Round=x.Round
 next:y.Next=x.Next
 timer:y.Timer=x.Timer
 heard:y.al.aq=x.al.aq
 s7:x.ay.aO≠[]->y.al.aK=1->aF y.al.ax=true->y.al.bb=na x.ay.aO
theorem TZ(h:tu nd sl k x):Yd (eQ x) fun y=>nT nd sl k y/\oQ x.al y.al/\XI x y:=by
 obtain⟨y,e,h1,h2⟩:=sn h;refine⟨y,e,h1,h2,?_⟩;unfold eQ at e;simp only[etas,aN,ZI h.lf.lu,c7,Qa,Az h.gK h.ji]at e
 have same:(x.ay.aO≠[]->x.al.aK=1->aF x.al.ax=true->x.al.bb=na x.ay.aO)->∀{a:Bool} {b:ByteArray},y=⟨x.ay,x.al,x.Timer,x.Round,x.Next,a,b⟩->XI x y:=fun hp a b ey=>by
  subst ey;exact⟨rfl,rfl,rfl,rfl,rfl,hp⟩
 by_cases hc:x.ay.aO=[]
 ·rw[hc]at e;exact same (fun hn=>absurd hc hn) (Option.some.inj e).symm
 ·have hlv:jH (na x.ay.aO):=h.lf.lu.rD _ (IV hc);rw[Qg hc]at e
  by_cases h3:x.al.aK=1
  ·rw[Qg h3]at e
   cases hz:aF x.al.ax with
   |false=>
    rw[hz]at e;exact same (fun _ _ e2=>by rw[hz]at e2;cases e2) (Option.some.inj e).symm
   |true=>
    rw[hz]at e
    by_cases hp:na x.ay.aO=x.al.bb
    ·rw[Qg hp]at e;exact same (fun _ _ _=>hp.symm) (Option.some.inj e).symm
    ·rw[Qh hp]at e;obtain⟨q,eq,q0,hn,qp,qh⟩:=aab h.gK h.ji hlv;rw[eq]at e;simp only[Qk,Qp,Qa,q0,decide_true,Az hn.inv hn.seq]at e;obtain rfl:=Option.some.inj e;exact⟨rfl,rfl,rfl,rfl,qh,fun _ _ _=>qp⟩
  ·rw[Qh h3]at e;exact same (fun _ e2=>absurd e2 h3) (Option.some.inj e).symm
end
end
section
theorem agB{c:Int}(hc:0<=c)(hc2:c<=1000000):qA c=lN c:=by
 have h1:∀d:Int,0<=d->d<=1000000->aA .i64 d 1=d+1:=fun d a b=>bD (by omega) (by omega)
 unfold qA lN;have hm:0<=bC (de c 11) 0/\bC (de c 11) 0<=11:=by unfold bC de;split<;>split<;>omega
 rw[h1 _ hm.1 (by omega)]
 by_cases h:12<=c
 ·have:bC (de c 11) 0=11:=by unfold bC de;split<;>split<;>omega
  rw[Qg h,this];rfl
 ·have e1:bC (de c 11) 0=c:=by unfold bC de;split<;>split<;>omega
  have e2:bC (c+1) 1=c+1:=by unfold bC;split<;>omega
  rw[Qh h,Ql,h1 c hc hc2,e1,e2]
section
variable {m : ab} (h : bp m) (hs : fQ m)
 include h hs
end
section
variable {nd sl k : Int} {x : bs} (h : nT nd sl k x) (hk : k <= 999998)
 include h hk
theorem Wr{m:ar}(hm:uu m)(hne:m.an≠nd):tz x m=iQ x m:=by
 have p:=h.pre;have hsq:1<=x.ay.aE/\x.ay.aE<=1000000:=⟨p.pB.1,by have:=p.pB.2;omega⟩
 have hne2:m.an≠x.ay.an:=by rw[p.qN];exact hne
 unfold tz w8 vJ zX iQ;simp only[ar.eta,etas,aN,s6 h (by omega),Dj h (by omega),Z1 p,af4 p.lf hsq hm hne2,ZH p.lf hsq hm hne2,Qa,Qo,Ql]
 have hs:=LA (b:=x.ay) (G3 p.lf hm hne2)
 cases uk x.ay.aq m with
 |true=>rfl
 |false=>
  have h1:=p.pB;have hp:tu nd sl (k+1) {x with ay:=lp x.ay {x.ay with aq:=iG x.ay.aq m}}:=⟨p.gK,p.ji,p.aB,p.aG,hs.ok,by show 1<=(lp x.ay {x.ay with aq:=iG x.ay.aq m}).aE/\(lp x.ay {x.ay with aq:=iG x.ay.aq m}).aE<=1+(k+1);rcases hs.seq with e|e<;>rw[e]<;>(try show 1<=x.ay.aE/\x.ay.aE<=1+(k+1))<;>omega,hs.aB.trans p.qN,hs.aG.trans p.xI,hs.aL.trans p.aL,p.timer,p.round,p.next⟩
  simp only[Qq,Qu,decide_true,Qo,Ql,Qk,Qa,Mx hp];obtain⟨y,ey,_⟩:=sn hp;rw[ey];rfl
theorem YJ{e:ai}(he:vI x.al e\/(cQ e.aj/\(aU e=false\/e.an=x.al.an\/e.aY≠x.al.aY))):uF x e=jn x e:=by
 have p:=h.pre;unfold uF w7 w9 Ce jn;simp only[etas,aN,s6 h (by omega),Dj h (by omega),Z1 p,Qa,Qo,Ql]
 rcases he with he|⟨ht,hv⟩
 ·rw[aax p.gK p.ji he];obtain⟨q,e1,hq⟩:=LW p.gK p.ji he;rw[e1];rcases hq with⟨q0,hn⟩|q9
  ·simp only[Qa,q0,decide_true,Qo,Ql,Qk,Mx (p.LF hn)];obtain⟨y,ey,_⟩:=sn (p.LF hn);rw[ey];rfl
  ·simp only[Qa,q9];rfl
 ·rw[WO p.gK p.ji ht hv,aea p.gK p.ji ht hv];rfl
end
theorem ahR{nd sl:Int}(hv0:0<=nd)(hv1:nd<10)(hs0:1<=sl)(hs1:sl<=1000000){t:ae}{own:ByteArray}{now:Int}(ht:dQ t)(ho:own.size<=200)(h0:0<=now)(h1:now<=200):tB nd sl t own now=oY nd sl t own now:=by
 unfold tB oY xU;simp only[etas,Qg h0,Qg h1,Qh (by omega:¬now<0),Qh (by omega:¬(200:Int)<now),Ql,Qk,Qo,Qa]
 rw[abr hv0 hv1 hs0 hs1 ht,af1 hv0 hv1 hs0 hs1 ht,ad7 ht hv0 hv1 (by omega) hs1 ho]
 obtain⟨q,eq,q0,g1,g2,g3,g4,g5⟩:=Pk ht hv0 hv1 (show(0:Int)<=sl by omega) hs1 ho
 obtain⟨w,ew,w1,w2⟩:=Nh (c:=1) (by omega) (by omega)
 have hadd2:aA .i64 now w=now+w:=bD (by omega) (by omega)
 have ew2:qA 1=some w:=(agB (by omega) (by omega)).trans ew
 obtain⟨m1,m2⟩:=J3 (aB:=nd) (aG:=sl) hv0 hv1 hs0 hs1 ht;have ht0:ug ⟨0, -1⟩:=⟨by decide,by decide,by decide,by decide⟩
 have hp:tu nd sl 0 ⟨q.1,Ca nd sl t,⟨0, -1⟩,1,now+w,false,ByteArray.mk #[]⟩:=⟨m1,m2,rfl,rfl,g1,by show 1<=q.1.aE/\q.1.aE<=1+0;rw[g5];decide,g2,g3,g4,ht0,⟨(by decide:(1:Int)<=1),(by decide:(1:Int)<=1000)⟩,by show 0<=now+w/\now+w<=212;omega⟩
 rw[eq];simp only[Qa,decide_true,Qo,Ql,q0,ew,ew2,hadd2,Mx hp]
end
section
theorem agk{s:dp}(hO:mB s):Yd (Af s) fun q=>mB q.2/\nT 0 1 12 q.1:=by
 unfold Af;refine Yd.bind (DP hO (n:=4) (by omega) (by omega)) fun p1 ⟨hO1,ht,_,_⟩=> ?_
 refine Yd.bind (DO hO1) fun p2 ⟨hO2,hv⟩=> ?_
 refine Yd.bind (qt hO2 (by omega)) fun p3 ⟨hO3,h0,h1,_⟩=> ?_
 have h1:=h1 (by omega)
 simp only[etas];refine Yd.bind (ahx (nd:=0) (sl:=1) (by omega) (by omega) (by omega) (by omega) ht (MO hv).2 h0 (by omega)) fun r4 ⟨_,hx⟩=> ?_
 refine Yd.bind (qt hO3 (by omega)) fun p5 ⟨hO5,g0,g1,_⟩=> ?_
 have g1:=g1 (by omega)
 try simp only[bs.eta,aw.eta,ab.eta,etas]
 refine Yd.CN (fun(v:Int×Int×dp×bs×Unit)=>0<=v.2.1/\v.2.1<=11/\5<=v.1/\v.1<=5+4*(11 - v.2.1)/\mB v.2.2.1/\nT 0 1 (11 - v.2.1) v.2.2.2.1) (fun v=>v.2.1.toNat) ?_ ⟨g0,by show p5.1<=11;omega,Int.le_refl _,by show(5:Int)<=5+4*(11 - p5.1);omega,hO5,hx.le (by show(0:Int)<=11 - p5.1;omega)⟩
 rintro⟨now,k,s',x,u⟩ ⟨a1,a2,a3,a4,a5,a6⟩;simp only at a1 a2 a3 a4 a5 a6;simp only
 by_cases hk:0<k
 ·rw[Qg hk,Qk];have hsub:dh .i64 k 1=k - 1:=qH (by omega) (by omega)
  rw[hsub];refine Yd.bind (afB a6 (by omega) a5 (by omega) (by omega)) fun q ⟨hOq,hd,hn1,hn2⟩=> ?_
  refine .some ⟨⟨by show 0<=k - 1;omega,by show k - 1<=11;omega,by show 5<=q.1.2.1;omega,by show q.1.2.1<=5+4*(11 - (k - 1));omega,hOq,?_⟩,by show(k - 1).toNat<k.toNat;omega⟩
  exact hd.1.le (by show 11 - k+1<=11 - (k - 1);omega)
 ·rw[Qh hk,Ql];exact .some ⟨a5,a6.le (by omega)⟩
section
variable {nd sl k : Int} {x : bs} (h : nT nd sl k x) (hk : k <= 999998)
 include h hk
theorem ahh{m:ar}(hm:uu m)(hne:m.an≠nd):Yd (iQ x m) fun q=>(uk x.ay.aq m=false/\q.2.1=0/\nT nd sl (k+1) q.1/\oQ x.al q.1.al/\uk q.1.ay.aq m=true/\(q.1.ay.aO≠[]->q.1.al.aK=1->aF q.1.al.ax=true->q.1.al.bb=na q.1.ay.aO))\/(uk x.ay.aq m=true/\q.2.1=9):=by
 have p:=h.pre;have h1:=p.pB;have hsq:1<=x.ay.aE/\x.ay.aE<=1000000:=⟨p.pB.1,by omega⟩
 have hne2:m.an≠x.ay.an:=by rw[p.qN];exact hne
 have hno:=G3 p.lf hm hne2;have hs:=LA (b:=x.ay) hno;have hh:=(KX (b:=x.ay) hno).1;unfold iQ;simp only[ar.eta,etas,s6 h (by omega),ZH p.lf hsq hm hne2,Qa,Qo,Ql]
 cases ho:uk x.ay.aq m with
 |true=>exact .some (.inr ⟨by trivial,rfl⟩)
 |false=>
  have hq:(lp x.ay {x.ay with aq:=iG x.ay.aq m}).aE=x.ay.aE\/(lp x.ay {x.ay with aq:=iG x.ay.aq m}).aE=x.ay.aE+1:=hs.seq
  have hp:tu nd sl (k+1) {x with ay:=lp x.ay {x.ay with aq:=iG x.ay.aq m}}:=⟨p.gK,p.ji,p.aB,p.aG,hs.ok,by show 1<=(lp x.ay {x.ay with aq:=iG x.ay.aq m}).aE/\(lp x.ay {x.ay with aq:=iG x.ay.aq m}).aE<=1+(k+1);omega,hs.aB.trans p.qN,hs.aG.trans p.xI,hs.aL.trans p.aL,p.timer,p.round,p.next⟩
  simp only[Qq,Qu,decide_true,Qo,Ql];refine Yd.bind (TZ hp) fun y ⟨hy,hst,hq⟩=> .some (.inl ⟨by trivial,rfl,hy,hst,?_,fun h1 h2 h3=> ?_⟩)
  ·show uk y.ay.aq m=true;rw[hq.lf];show uk (lp x.ay {x.ay with aq:=iG x.ay.aq m}).aq m=true
   rw[hh];exact List.any_eq_true.2 ⟨m,R5.2 (.inl rfl),by simp⟩
  ·have e:=hq.lf;simp only at h1 h2 h3 ⊢;rw[e]at h1 ⊢;exact hq.s7 h1 h2 h3
theorem ahl{e:ai}(he:vI x.al e)(hn:x.al.aq=[]):Yd (jn x e) fun q=>q.2.1=0:=by
 have p:=h.pre;unfold jn;simp only[etas,s6 h (by omega),Qa,Qo,Ql]
 obtain⟨q,e1,hq⟩:=LW p.gK p.ji he;obtain⟨q',e2,hq'⟩:=LL (R:=fun _=>True) (fun _ _ _=>trivial) (fun _ _=>trivial) p.gK p.ji he trivial
 rw[e1]at e2;obtain rfl:=Option.some.inj e2
 have hput:(qm x.al.aq e).2.1=true:=by
  rw[hn];unfold qm;rw[Qr he.valid];rfl
 rcases hq with⟨q0,hnx⟩|q9
 ·rw[e1];simp only[Qa,q0,decide_true,Qo,Ql];exact Yd.bind (sn (p.LF hnx)) fun y _=> .some rfl
 ·rcases hq' with⟨⟨m2,rfl,_⟩,_⟩|⟨_,hf⟩
  ·exact absurd q9 (by show¬(0:Int)=9;decide)
  ·rw[hput]at hf;cases hf
theorem ZX:mP x=some ((bif x.uy then[]else[(⟨1,x.al.aY,qk x.ay,⟨0,0,0,tN,0,⟨0,⟨#[]⟩⟩,⟨0,⟨#[]⟩⟩,⟨0,⟨#[]⟩⟩,0,0⟩⟩:im)])++(bif aF x.al.aa then[]else[(⟨2,x.al.aY,⟨0,0,tN,[],[]⟩,cD x.al⟩:im)])):=by
 have p:=h.pre;obtain⟨e,he,he2⟩:=Uc p.gK p.ji;have l1:=p.lf.df.len;have l2:=p.lf.eA.len;unfold mP tG fE;simp only[ar.eta,etas,Dj h (by omega),Qa,Qo,Ql,he,aN]
 rw[IF p.lf.ask.aL.sm (by show x.ay.bf.length<=1000;omega) (by show x.ay.aD.length<=1000;omega)]
 simp only[Qa];rw[LS p.lf.ask.aL.sm (by show x.ay.bf.length<=1000;omega) (by show x.ay.aD.length<=1000;omega)]
 simp only[Qa,List.nil_append];rw[bn (by simp),bn (by simp),bn (by simp)]
 cases hz:aF x.al.aa with
 |true=>cases x.uy<;>rfl
 |false=>
  have:=he2 hz;subst this;cases x.uy<;>rfl
end
theorem adL{t:ae}{v aG:Int}{own:ByteArray}(ht:dQ t)(h0:0<=v)(h1:v<10)(h2:0<=aG)(h3:aG<=1000000)(ho:own.size<=200):Yd (mn v aG t own) fun q=>q.1.aq=[]:=by
 have hn:cI ⟨v,aG,1,1,t,own,[],[],[],[]⟩:=⟨⟨ht,h0,h1,h2,h3,by show(1:Int)<=1;omega,by show(1:Int)<=1000;omega⟩,ho,.nil,.nil,.nil,fun x hx=>absurd hx QR,fun x hx=>absurd hx QR,List.Pairwise.nil⟩
 unfold mn;simp only[etas,dE ht];rw[Qh (by omega:¬v<0),Qh (by omega:¬(10:Int)<=v),Qh (by omega:¬aG<0),Qh (by omega:¬(1000000:Int)<aG),Qh (by omega:¬(200:Int)<((own.size:Nat):Int))]
 simp only[Ql,Qa,decide_true,Qo];rw[Is hn.EC ⟨by show(0:Int)<=1;omega,by show(1:Int)<=1000000;omega⟩ hn,Qa]
 exact .some (KX hn).1
theorem agh{nd sl:Int}(hv0:0<=nd)(hv1:nd<10)(hs0:1<=sl)(hs1:sl<=1000000){t:ae}{own:ByteArray}{now:Int}(ht:dQ t)(ho:own.size<=200)(h0:0<=now)(h1:now<=200):Yd (oY nd sl t own now) fun q=>q.2.1=0/\nT nd sl 0 q.1/\q.1.ay.aq=[]/\q.1.al.aq=[]/\q.1.Round=1/\∀w,lN 1=some w->q.1.Next=now+w:=by
 unfold oY;simp only[etas];rw[Qh (by omega:¬now<0),Qh (by omega:¬(200:Int)<now)]
 simp only[Ql,Qa];rw[abr hv0 hv1 hs0 hs1 ht];simp only[Qa,decide_true,Qo,Ql];obtain⟨q,eq,q0,g1,g2,g3,g4,g5⟩:=Pk ht hv0 hv1 (show(0:Int)<=sl by omega) hs1 ho
 obtain⟨q',eq',hh⟩:=adL ht hv0 hv1 (show(0:Int)<=sl by omega) hs1 ho
 rw[eq]at eq';obtain rfl:=Option.some.inj eq';rw[eq,Qa,q0];simp only[decide_true,Qo,Ql];obtain⟨w,ew,w1,w2⟩:=Nh (c:=1) (by omega) (by omega)
 have hadd2:aA .i64 now w=now+w:=bD (by omega) (by omega)
 rw[ew,Qa,hadd2];obtain⟨m1,m2⟩:=J3 (aB:=nd) (aG:=sl) hv0 hv1 hs0 hs1 ht;have ht0:ug ⟨0, -1⟩:=⟨by decide,by decide,by decide,by decide⟩
 refine Yd.bind (TZ (k:=0) (x:=⟨q.1,Ca nd sl t,⟨0, -1⟩,1,now+w,false,ByteArray.mk #[]⟩) ⟨m1,m2,rfl,rfl,g1,by show 1<=q.1.aE/\q.1.aE<=1+0;rw[g5];decide,g2,g3,g4,ht0,⟨(by decide:(1:Int)<=1),(by decide:(1:Int)<=1000)⟩,by show 0<=now+w/\now+w<=212;omega⟩) fun y ⟨hy,_,hsq⟩=> .some ⟨rfl,hy,?_,hsq.heard,hsq.round,fun w' hw'=> ?_⟩
 ·show y.ay.aq=[];rw[hsq.lf];exact hh
 ·obtain rfl:=Option.some.inj hw';exact hsq.next
end
section
end
section
theorem Gi(l:List Int):yA l=some true:=by
 unfold yA;refine Yd.eq_true ?_;refine Yd.bind (agT l) fun s hO=> ?_
 refine Yd.bind (agk hO) fun p2 ⟨hO2,hx⟩=> ?_
 refine Yd.bind (DP hO2 (n:=6) (by omega) (by omega)) fun p3 ⟨hO3,ht,_,_⟩=> ?_
 refine Yd.bind (DO hO3) fun p4 ⟨hO4,hv⟩=> ?_
 have px:=hx.pre;simp only[ar.eta,etas,afF];rw[ahR (nd:=5) (sl:=1) (by omega) (by omega) (by omega) (by omega) ht (MO hv).2 (by omega) (by omega)]
 refine Yd.bind (agh (nd:=5) (sl:=1) (by omega) (by omega) (by omega) (by omega) ht (MO hv).2 (by omega) (by omega)) fun r5 ⟨r0,hy,hn1,hn2,_,_⟩=> ?_
 rw[r0,ZX hx (by omega)]
 simp only[decide_true,Qo,Ql,Qa];have py:=hy.pre;have hnn:uu (qk p2.1.ay):=⟨px.lf.ask.v0,px.lf.ask.v1,px.pB.1,px.lf.ask.aL,px.lf.df,px.lf.eA⟩;have hsame:∀t:ae,t=p2.1.al.aj->jr t p2.1.al.aj=some true:=fun t e=>by rw[e];exact afI px.gK.aL.sm
 generalize hL:((bif p2.1.uy then[]else[(⟨1,p2.1.al.aY,qk p2.1.ay,⟨0,0,0,tN,0,⟨0,⟨#[]⟩⟩,⟨0,⟨#[]⟩⟩,⟨0,⟨#[]⟩⟩,0,0⟩⟩:im)])++(bif aF p2.1.al.aa then[]else[(⟨2,p2.1.al.aY,⟨0,0,tN,[],[]⟩,cD p2.1.al⟩:im)]))=L
 have hlen:L.length<=2:=by
  rw[<-hL];cases p2.1.uy<;>cases aF p2.1.al.aa<;>simp
 have hall:∀e∈L,e.aY=1/\((e.bF=1/\e.cd=qk p2.1.ay)\/(e.bF=2/\e.aI=cD p2.1.al/\aF p2.1.al.aa=false)):=by
  intro e he;rw[<-hL]at he;rcases Qz.1 he with he|he
  ·cases hd:p2.1.uy with
   |true=>rw[hd]at he;cases he
   |false=>
    rw[hd]at he;rw[Q5.1 he];exact⟨px.aG,.inl ⟨rfl,rfl⟩⟩
  ·cases hz:aF p2.1.al.aa with
   |true=>rw[hz]at he;cases he
   |false=>
    rw[hz]at he;rw[Q5.1 he];exact⟨px.aG,.inr ⟨rfl,rfl,rfl⟩⟩
 refine Yd.list L (by omega) (fun i (_:Unit)=>(i,())) (fun _ _=>True) ?_ ?_ (s:=()) trivial
 ·intro i e u _ hd he hi hdec hx2 hadd;obtain⟨h1,h2⟩:=hall e he;simp only[aN];rw[hdec,Qk,hx2,Qa,hadd,Qg h1];simp only[Qo,Ql];rcases h2 with⟨h2,h3⟩|⟨h2,h3,h4⟩
  ·rw[Qg h2,Qk,h3];have hne:(qk p2.1.ay).an≠5:=by show p2.1.ay.an≠5;rw[px.qN];decide
   rw[Wr hy (by omega) hnn hne]
   obtain⟨q,eq,hq⟩:=ahh hy (by omega) hnn hne
   rw[eq,Qa];rcases hq with⟨_,q0,_⟩|⟨hf,_⟩
   ·rw[q0,hsame (qk p2.1.ay).aj px.aL,Qg (show(qk p2.1.ay).an=0 from px.qN)]
    exact .some ⟨(),rfl,trivial⟩
   ·rw[hn1]at hf;cases hf
  ·rw[Qh (by rw[h2];decide),Ql,h3]
   have hen:(cD p2.1.al).an=0:=(vq _).trans px.aB;have he:vI r5.1.al (cD p2.1.al):=⟨Fx px.gK px.ji h4,by rw[oL];exact px.gK.aL,by rw[BS,px.aG,py.aG],by rw[hen,py.aB];decide⟩
   rw[YJ hy (by omega) (.inl he)]
   obtain⟨q,eq,q0⟩:=ahl hy (by omega) he hn2
   rw[eq,Qa,q0,hsame _ (oL _),Qg hen];exact .some ⟨(),rfl,trivial⟩
 ·intro u _ hdec;simp only;rw[hdec,Ql];exact .some rfl
end
end Go.Proofs.YtjbfdglebjnelaaGreat
end
noncomputable section
namespace Go.TQ
open Go.RowKit
theorem rep_ints{w:World}{M:Nat->Prop}{G:Gh}{a:Option Addr}{len cap:Nat}{zs:List Int}(hM:∀b,¬M b)
  (h:(a=none/\len=0/\cap=0/\zs=[])\/∃x,a=some x/\len<=cap/\cap<=maxLen/\zs.length=cap/\(∀i,i<zs.length->w.cell? (x.add i)=some (.int .i64 (zs.getD i 0)))/\∀n∈zs,(Lit.int .i64 n).wf=true):
  bm w M G (.sl ((zs.take len).map fun n=>[.int .i64 n])) (.slice a len cap):=by
 rcases h with⟨rfl,rfl,rfl,rfl⟩|⟨x,rfl,h1,h2,h3,h4,_⟩
 ·exact .slnil
 ·have hfl:∀l:List Int,(l.map fun n=>[PV.int .i64 n]).flatten=l.map fun n=> .int .i64 n:=by
   intro l
   induction l with
   |nil=>rfl
   |cons n l ih=>simp only[QD,List.flatten_cons,ih];rfl
  have hlen:((zs.take len).map fun n=>[PV.int .i64 n]).length=len:=by simp;omega
  have:=bm.sl (w:=w) (M:=M) (G:=G) ((zs.take len).map fun n=>[.int .i64 n]) x cap 1 ((zs.take len).map fun n=> .int .i64 n) (fun e he=>by obtain⟨n,_,rfl⟩:=QP.1 he;rfl) (by rw[hfl];simp)
   (fun i v hv=> ?_) (fun i y v hy hv=> ?_) (by rw[hlen];exact h1) h2
  ·rw[hlen]at this;exact this
  ·refine⟨?_,hM _⟩;rw[QT,Qb]at hv;obtain⟨n,hn,rfl⟩:=hv;rw[Qq68]at hn;split at hn
   ·have hi:i<zs.length:=(Qw.1 hn).1;rw[h4 i hi,List.getD_eq_getElem?_getD,hn];rfl
   ·cases hn
  ·rw[hfl]at hy;rw[QT]at hy hv;rw[Qb]at hy hv;obtain⟨n,hn,rfl⟩:=hy;obtain⟨n',hn',rfl⟩:=hv;rw[hn]at hn';injection hn' with e
   subst e;exact .int _ _
theorem law_calls{P:Program}{f:FuncId}{args:List PV}{vs:List Value}{w:World}(h:Con P f false [] args (.bool true) [])(hr:bj w (fun _=>False) dw args vs):
  Calls P f vs.toArray w fun e w'=>e= .returned (.bool true)/\Below w.heap.size w w':=by
 refine(h w (fun _=>False) (fun _ hb=>hb.elim) 0 0 [] vs (fun hq=>by cases hq) ?_).mono ?_
 ·exact⟨hr.1,fun i x v hx hv=>(hr.2 i x v hx hv).mono (dW.of fun _ _=>fun hq=>by rcases hq with⟨hq,_⟩|hq;cases hq;exact hq) (Gh.le.refl _)⟩
 ·rintro e w' ⟨v,_,rfl,hv,_,hF⟩;refine⟨by rw[hv.og],hF.os,hF.tape,hF.output,hF.size,fun k hk=>hF.block k hk (by simp)⟩
end Go.TQ
end
