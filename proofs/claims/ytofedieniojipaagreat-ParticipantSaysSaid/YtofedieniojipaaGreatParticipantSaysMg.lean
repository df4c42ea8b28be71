/-
  Texts made small by a program (see NOTES). Conditions: those that each theorem names.
-/
import Derived.Test.YtofedieniojipaaGreatParticipantSaysMf
set_option linter.unusedVariables false
set_option linter.defProp false
set_option linter.unusedSimpArgs false
set_option linter.unusedSectionVars false
set_option maxHeartbeats 2000000
open Int (toNat)
open Sum (inl inr)
open List (replicate)
noncomputable section
namespace Go.Proofs.YtofedieniojipaaGreat
open Go.TQ
section
structure wN (m:az):Prop where
 n0:0<=m.al
 n1:m.al<10
 seq:1<=m.aH
 aN:c5 m.aa
 dy:VL m.bm
 eM:VL m.aG
structure cO (n:ar):Prop where
 ask:DQ n.aa n.al n.aL n.Round
 own:n.nc.size<=200
 dy:VL n.bm
 eM:VL n.aG
 kS:VL n.aS
 sub:∀x∈n.aS,x∈n.aG
 heard:∀m∈n.au,wN m/\m.al≠n.al
 dn:n.au.Pairwise (λa b=>a.al<b.al)
def abJ:∀(l:List az) (k:Nat),k<=10->(∀e∈l,(k:Int)<=e.al/\e.al<10)->l.Pairwise (λa b=>a.al<b.al)->l.length+k<=10
 |[],k,hk,_,_=>by simp;omega
 |e::l,k,hk,h,hp=>by
  rw[Q4]at hp;have h1:=h e Qx;have h2:=abJ l (k+1) (by omega) (λx hx=>⟨by have:=hp.1 x hx;omega,(h x (Qy _ hx)).2⟩) hp.2
  rw[QE];omega
def cO.len{n:ar}(h:cO n):n.au.length<=10:=by
 have:=abJ n.au 0 (by omega) (λe he=>⟨by have:=(h.heard e he).1.n0;omega,(h.heard e he).1.n1⟩) h.dn
 omega
def Ov{n:ar}(h:cO n):∀m∈n.au++[(⟨n.al,n.aH,n.aa,n.bm,n.aG⟩:az)],0<=m.al/\m.al<10/\VL m.bm/\VL m.aG:=by
 intro m hm;rcases Qz.1 hm with hm|hm
 ·have:=(h.heard m hm).1;exact⟨this.n0,this.n1,this.dy,this.eM⟩
 ·rw[Q5.1 hm];exact⟨h.ask.v0,h.ask.v1,h.dy,h.eM⟩
def SI{α:Type}{l:List α}{i:Nat}{x:α}(h:idx l (i:Int)=some x):l[toNat (i:Int)]?=some x:=by rw[bd]at h;exact h
def abd{n:ar}(h:cO n)(x:ByteArray):Yd (kV n x) λq=>∃a b:Nat,q.1=a/\q.2.1=b/\a<1024/\b<1024:=by
 have hlen:=h.len;have hall:=Ov h;unfold kV Ck;simp only[etas,Qa,aR];rw[bz (by simp;omega),Qk,bz (by simp;omega),Qk]
 simp only[List.nil_append];have hl2:(n.au++[(⟨n.al,n.aH,n.aa,n.bm,n.aG⟩:az)]).length<=1000000:=by simp;omega
 refine Yd.list (n.au++[(⟨n.al,n.aH,n.aa,n.bm,n.aG⟩:az)]) hl2 (λi (s:Int×Int)=>(s.1,s.2,i,())) (λ_ s=>∃a b:Nat,s.1=a/\s.2=b/\a<1024/\b<1024) ?_ ?_ (s:=(0,0)) ⟨0,0,rfl,rfl,by omega,by omega⟩
 ·rintro i y ⟨s1,s2⟩ ⟨a,b,e1,e2,ha,hb⟩ hd hy hi hdec hx hadd;simp only at e1 e2;subst e1 e2;obtain⟨g0,g1,gv,ga⟩:=hall y hy;simp only;rw[hdec,Qk,hx,Qa,SI hx,Qa,hadd,JM _ gv.wg,Qa]
  have fin:∀c:Nat,c<1024->Yd (Option.bind (nr y.aG x) λr9=>
    bif r9 then
     if y.al<0 then none else
     some (inl ((c:Int),(sO .i64 (b:Int) (bX .i64 (1:Int) y.al)),((i+1:Nat):Int),()))
    else
     some (inl ((c:Int),(b:Int),((i+1:Nat):Int),())):Option ((Int×Int×Int×Unit)⊕(Int×Int×Unit))) (Lp (λt=>∃s':Int×Int,t=(s'.1,s'.2,((i+1:Nat):Int),())/\(∃a b:Nat,s'.1=a/\s'.2=b/\a<1024/\b<1024)) (λr=>∃a b:Nat,r.1=a/\r.2.1=b/\a<1024/\b<1024)):=by
   intro c hc;rw[JM _ ga.wg,Qa]
   cases decide (x∈y.aG)with
   |false=>exact .some ⟨((c:Int),(b:Int)),rfl,c,b,rfl,rfl,hc,hb⟩
   |true=>
    rw[Qk,Qs (by omega),ra hb g0 g1]
    exact .some ⟨((c:Int),_),rfl,c,_,rfl,rfl,hc,B2 hb g1⟩
  cases decide (x∈y.bm)with
  |false=>exact fin a ha
  |true=>
   rw[Qk,Qs (by omega),ra ha g0 g1]
   exact fin _ (B2 ha g1)
 ·rintro⟨s1,s2⟩ ⟨a,b,e1,e2,ha,hb⟩ hdec;simp only at e1 e2;simp only;rw[hdec,Ql];exact .some ⟨a,b,e1,e2,ha,hb⟩
def Xa:Yd (oO []) λ_=>True:=by
 unfold oO;refine Yd.list ([]:List mH) (by simp) (λi (_:Unit)=>(i,())) (λ_ _=>True) (λi x s _ _ hx=>absurd hx QR) (λs _ hdec=> ?_) (s:=()) trivial
 simp only;rw[hdec,Ql];exact .some trivial
def aaN(m:cI):Prop:=0<=m.al/\m.al<10/\cQ m.aa/\m.bm=[]/\m.aG=[]
def afO{m:cI}(h:aaN m):Yd (rC m) λ_=>True:=by
 obtain⟨h0,h1,ht,hv,ha⟩:=h;unfold rC;simp only[etas];refine Yd.bind (p:=λ_=>True) (Yd.cond (λ_=> .some trivial) λ_=> .some trivial) λb1 _=> ?_
 refine Yd.bind (p:=λ_=>True) (Yd.cond (λ_=> .some trivial) λ_=> .some trivial) λb2 _=> ?_
 refine Yd.bind (p:=λ_=>True) (Yd.cond (λ_=>by rw[Bn ht];exact .some trivial) λ_=> .some trivial) λb4 _=> ?_
 rw[hv,ha];refine Yd.bind (p:=λ_=>True) (Yd.cond (λ_=>Yd.bind Xa λ_ _=> .some trivial) λ_=> .some trivial) λb6 _=> ?_
 exact Yd.bind (p:=λ_=>True) (Yd.cond (λ_=>Yd.bind Xa λ_ _=> .some trivial) λ_=> .some trivial) λb8 _=> .some trivial
def uK:aj:=⟨0,[],[]⟩
def O9:cQ uK:= .mk _ (by simp[uK]) (by simp[uK]) (λu hu=>by cases hu)
structure tx (l:List bh):Prop where
 len:l.length=10
 sm:∀m∈l,cQ m.aa
def tx.set{l:List bh}(h:tx l)(k:Nat){m:bh}(hm:cQ m.aa):tx (l.set k m):=
 ⟨by rw[QY];exact h.len,λx hx=>(List.mem_or_eq_of_mem_set hx).elim (h.sm x) λe=>by rw[e];exact hm⟩
def tx.get{l:List bh}(h:tx l){v:Int}(h0:0<=v)(h1:v<10):∃x,idx l v=some x/\l[v.toNat]?=some x:=by
 have hl:=h.len;have hv:v.toNat<l.length:=by omega
 exact⟨l[v.toNat],by rw[PN _ h0];exact Qv hv,Qv hv⟩
def tx.sc{l:List bh}(h:tx l):Bi ⟨l⟩:=⟨by show l.length<=1000000;rw[h.len];omega,h.sm⟩
def ahm{v:Int}{t:aj}(hv0:0<=v)(hv1:v<10)(ht:cQ t){l:List cI}(hl:l.length<=1000000)(hm:∀m∈l,aaN m):Yd (qE v t l) Bi:=by
 unfold qE
 have h1:(decide ((10:Int)<=(10:Int))&&decide (0<=(10:Int))&&bg 64 (toNat (10:Int)))=true:=by rw[bz (by decide)];rfl
 rw[h1,Qk];simp only[etas,aR]
 have h0:tx (replicate (toNat (10:Int)) (bh.mk false (aj.mk (0:Int) ([]:List Int) ([]:List aj)))):=
  ⟨by rw[List.length_replicate];rfl,λm hm=>by rw[(List.mem_replicate.1 hm).2];exact O9⟩
 refine Yd.list l hl (λi (s:List bh)=>(i,bf.mk [],s,())) (λ_ s=>tx s) ?_ ?_ h0
 ·intro i y s hs hd hy hi hdec hx hadd;have hmy:=hm y hy;simp only;rw[hdec,Qk,hx,Qa,hadd];simp only[cI.eta];refine Yd.bind (afO hmy) λr _=> ?_
  cases r with
  |false=>exact .some ⟨s,rfl,hs⟩
  |true=>obtain⟨x,g1,g2⟩:=hs.get hmy.1 hmy.2.1;rw[Qk,g1,Qa,g2,Qa];exact .some ⟨_,rfl,hs.set _ hmy.2.2.1⟩
 ·intro s hs hdec;simp only;rw[hdec,Ql,Qg hv0,Qg hv1];simp only[Qk,Qa];obtain⟨x,g1,g2⟩:=hs.get hv0 hv1;have hs2:=hs.set v.toNat (m:=⟨false,⟨0,[],[]⟩⟩) O9;obtain⟨x2,k1,k2⟩:=hs2.get hv0 hv1;rw[g1,g2,Bn ht];simp only[Qa]
  cases decide (Hs t=0)with
  |false=>exact .some hs2.sc
  |true=>simp only[Qk];rw[k1,k2];exact .some (hs2.set _ ht).sc
def Yp{n:ar}(h:cO n):Yd (lZ n) Bi:=by
 have hlen:=h.len;unfold lZ;simp only[etas];refine Yd.list n.au (by omega) (λi (s:List cI)=>(i,s,())) (λi s=>s.length<=i/\∀m∈s,aaN m) ?_ ?_ (s:=[]) ⟨by simp,λm hm=>absurd hm QR⟩
 ·intro i y s ⟨hs1,hs2⟩ hd hy hi hdec hx hadd;have hmy:=(h.heard y hy).1;simp only;rw[hdec,Qk,hx,Qa,hadd,bz ⟨by simp only[Q6];omega,by simp only[Q6];omega⟩,Qk]
  refine .some ⟨_,rfl,by simp only[QB,Q6];omega,λm hm=> ?_⟩
  rcases Qz.1 hm with hm|hm
  ·exact hs2 m hm
  ·rw[Q5.1 hm];exact⟨hmy.n0,hmy.n1,hmy.aN.sm,rfl,rfl⟩
 ·intro s ⟨hs1,hs2⟩ hdec;simp only;rw[hdec,Ql];exact Yd.map (Yd.bind (ahm h.ask.v0 h.ask.v1 h.ask.aN.sm (by omega) hs2) λc hc=> .some hc)
def BA{n:ar}(h:cO n):n.al=((n.al.toNat:Nat):Int)/\n.al.toNat<10:=by have h0:=h.ask.v0;have h1:=h.ask.v1;omega
def akw{n:ar}(h:cO n)(x:ByteArray):Yd (sM n x) λb=>b=true->x∉n.aG/\n.aG.length<40:=by
 obtain⟨hn,hn10⟩:=BA h;unfold sM;simp only[etas,aR];refine Yd.bind (abd h x) λq ⟨a,b,e1,e2,ha,hb⟩=> ?_
 rw[e1,e2,JM _ h.eM.wg,Qa]
 by_cases hx:x∈n.aG
 ·rw[Qg hx];exact .some λe=>by cases e
 ·rw[Qh hx];simp only[Qp,Qk]
  by_cases hl:n.aG.length<40
  ·rw[Qg (by omega:(n.aG.length:Int)<40),Qk]
   refine Yd.bind (Yp h) λc hc=> ?_
   rw[hn,w8 hc hn10 ha hb];exact .some λ_=>⟨hx,hl⟩
  ·rw[Qh (by omega:¬(n.aG.length:Int)<40)]
   exact .some λe=>by cases e
def ahI{n:ar}(h:cO n):Yd (oN n) λr=>r.length<=1000/\∀x∈r,kT x:=by
 have hlen:=h.len;have l1:=h.dy.len;have l2:=h.eM.len;unfold oN;refine Yd.bind (OJ (n:=80) (by omega) (by omega)) λr1 ⟨k1,k2⟩=> ?_
 refine Yd.list n.au (by omega) (λi (s:List ByteArray)=>(s,i,())) (λi s=>s.length<=80+80*i/\∀x∈s,kT x) ?_ ?_ ⟨by omega,λx hx=>(k2 x hx).elim (h.dy.sz x) (h.eM.sz x)⟩
 ·intro i y s ⟨hs1,hs2⟩ hd hy hi hdec hx hadd;have hmy:=(h.heard y hy).1;have l3:=hmy.dy.len;have l4:=hmy.eM.len;simp only;rw[hdec,Qk,hx,Qa,hadd];refine Yd.bind (OJ (n:=80) (by omega) (by omega)) λr4 ⟨g1,g2⟩=> ?_
  refine Yd.bind (OJ (n:=80+80*(i+1)) (by omega) (by omega)) λr5 ⟨g3,g4⟩=> ?_
  exact .some ⟨r5,rfl,g3,λx hx=>(g4 x hx).elim (hs2 x) λhx=>(g2 x hx).elim (hmy.dy.sz x) (hmy.eM.sz x)⟩
 ·intro s ⟨hs1,hs2⟩ hdec;simp only;rw[hdec,Ql];exact .some ⟨by omega,hs2⟩
def cO.Jz{n:ar}(h:cO n){v:List ByteArray}(hv:VL v):cO {n with bm:=v}:=⟨h.ask,h.own,hv,h.eM,h.kS,h.sub,h.heard,h.dn⟩
def cO.ahv{n:ar}(h:cO n){a:List ByteArray}(ha:VL a)(hs:∀y∈n.aG,y∈a):cO {n with aG:=a}:=⟨h.ask,h.own,h.dy,ha,h.kS,λx hx=>hs x (h.sub x hx),h.heard,h.dn⟩
def cO.acX{n:ar}(h:cO n){c:List ByteArray}(hc:VL c)(hs:∀y∈c,y∈n.aG):cO {n with aS:=c}:=⟨h.ask,h.own,h.dy,h.eM,hc,hs,h.heard,h.dn⟩
structure sQ (n r:ar):Prop where
 ok:cO r
 aF:r.al=n.al
 aK:r.aL=n.aL
 round:r.Round=n.Round
 seq:r.aH=n.aH
 aN:r.aa=n.aa
 own:r.nc=n.nc
 heard:r.au=n.au
def sQ.refl{n:ar}(h:cO n):sQ n n:=⟨h,rfl,rfl,rfl,rfl,rfl,rfl,rfl⟩
def sQ.Jz{n r:ar}(h:sQ n r){v:List ByteArray}(hv:VL v):sQ n {r with bm:=v}:=⟨h.ok.Jz hv,h.aF,h.aK,h.round,h.seq,h.aN,h.own,h.heard⟩
def afG{n:ar}(h:cO n):Yd (pV n) (sQ n):=by
 unfold pV;simp only[etas,aR];refine Yd.bind (adf h.ask) λq ⟨s,e1,hs⟩=> ?_
 rw[e1,JL hs,Qa];have hl:=Ae s;refine Yd.list (oW s) (by omega) (λi (r:ar)=>(i,r,())) (λ_ r=>sQ n r) ?_ ?_ (.refl h)
 ·intro i y r hr hd hy hi hdec hx hadd;simp only;rw[hdec,Qk,hx,Qa,hadd];have hlen:=hr.ok.len
  by_cases hyn:y=r.al
  ·rw[Qg hyn,Qk]
   by_cases hown:r.nc=bE
   ·rw[Qg hown];exact .some ⟨r,rfl,hr⟩
   ·rw[Qh hown];simp only[Qp,Qk]
    have hv:kT r.nc:=by
     refine⟨?_,hr.ok.own⟩;rcases Nat.eq_zero_or_pos r.nc.size with h0|h0
     ·exact absurd (ByteArray.ext (Array.eq_empty_of_size_eq_zero h0)) hown
     ·exact h0
    rw[JJ hr.ok.dy,Qa];exact .some ⟨_,rfl,hr.Jz (u7 hr.ok.dy hv).1⟩
  ·rw[Qh hyn,Ql];refine Yd.list r.au (by omega) (λi (r:ar)=>(i,r,())) (λ_ r=>sQ n r) ?_ ?_ hr
   ·intro j m r2 hr2 hd2 hm hj hdec2 hx2 hadd2;simp only;rw[hdec2,Qk,hx2,Qa,hadd2];have hmy:=(hr.ok.heard m hm).1;have l3:=hmy.dy.len;have l4:=hmy.eM.len
    cases decide (m.al=y)with
    |false=>exact .some ⟨r2,rfl,hr2⟩
    |true=>
     simp only[Qo,Ql];refine Yd.bind (OJ (n:=80) (by omega) (by omega)) λu ⟨g1,g2⟩=> ?_
     refine Yd.list u (by omega) (λi (r:ar)=>(i,r,())) (λ_ r=>sQ n r) ?_ ?_ hr2
     ·intro k x r3 hr3 hd3 hxu hk hdec3 hx3 hadd3;simp only;rw[hdec3,Qk,hx3,Qa,hadd3,JJ hr3.ok.dy,Qa];have hv:kT x:=(g2 x hxu).elim (hmy.dy.sz x) (hmy.eM.sz x);exact .some ⟨_,rfl,hr3.Jz (u7 hr3.ok.dy hv).1⟩
     ·intro r3 hr3 hdec3;simp only;rw[hdec3,Ql];exact .some ⟨r3,rfl,hr3⟩
   ·intro r2 hr2 hdec2;simp only;rw[hdec2,Ql];exact .some ⟨r2,rfl,hr2⟩
 ·intro r hr hdec;simp only;rw[hdec,Ql];exact .some hr
structure Xt (b n r:ar):Prop where
 ok:cO r
 aF:r.al=n.al
 aK:r.aL=n.aL
 round:r.Round=n.Round
 aN:r.aa=n.aa
 seq:r.aH=n.aH\/r.aH=b.aH+1
def HI{b n:ar}(hb:cQ b.aa/\b.bm.length<=1000000/\b.aG.length<=1000000)(hs:0<=b.aH/\b.aH<=1000000)(h:cO n):Yd (gd b n) (Xt b n):=by
 unfold gd;simp only[etas];refine Yd.join (λv=>sQ n v.1) (λv hv=> ?_) (λj' hj=> ?_)
 ·refine Yd.FG (λ(s:Bool×ar×Unit)=>sQ n s.2.1) (λs=>(if s.1=true then 1 else 0)+2*(40 - s.2.1.aG.length)) ?_ hv
  rintro⟨again,r,u⟩ hr;simp only at hr;simp only
  cases again with
  |true=>
   rw[Qk];refine Yd.bind (ahI hr.ok) λl ⟨hl,hvals⟩=> ?_
   refine Yd.list l (by omega) (λi (s:ar)=>(false,i,s,())) (λ_ s=>s=r) ?_ ?_ rfl
   ·rintro i x s rfl hd hx' hi hdec hx hadd;simp only;rw[hdec,Qk,hx,Qa,hadd];refine Yd.bind (akw hr.ok x) λc hc=> ?_
    cases c with
    |false=>exact .some ⟨s,rfl,rfl⟩
    |true=>
     obtain⟨hc1,hc2⟩:=hc rfl;obtain⟨p1,p2,p3,p4⟩:=u7 hr.ok.eM (hvals x hx');rw[Qk,JJ hr.ok.eM,Qa];refine .some ⟨⟨hr.ok.ahv p1 p2,hr.aF,hr.aK,hr.round,hr.seq,hr.aN,hr.own,hr.heard⟩,?_⟩;have:=p4 hc1 hc2;show(if true=true then 1 else 0)+2*(40 - (mN s.aG x).length)<(if true=true then 1 else 0)+2*(40 - s.aG.length)
     rw[this];omega
   ·rintro s rfl hdec;simp only;rw[hdec,Ql];refine .some ⟨hr,?_⟩;show(if false=true then 1 else 0)+2*(40 - s.aG.length)<(if true=true then 1 else 0)+2*(40 - s.aG.length)
    simp
  |false=>
   rw[Ql];refine Yd.map ?_;have hl:=hr.ok.eM.len;refine Yd.list r.aG (by omega) (λi (s:ar)=>(i,s,())) (λ_ s=>sQ n s/\s.aG=r.aG) ?_ ?_ ⟨hr,rfl⟩
   ·rintro i x s ⟨hs',hsa⟩ hd hx' hi hdec hx hadd;obtain⟨hn,hn10⟩:=BA hs'.ok;simp only[aR];rw[hdec,Qk,hx,Qa,hadd];refine Yd.bind (abd hs'.ok x) λq ⟨a,c,e1,e2,ha,hc⟩=> ?_
    refine Yd.bind (Yp hs'.ok) λcf hcf=> ?_
    have hfc:=vx hcf hn10 hc;rw[<-hn]at hfc;rw[e2,hfc,Qa]
    cases (gq cf.bn c).testBit s.al.toNat with
    |false=>exact .some ⟨s,rfl,hs',hsa⟩
    |true=>
     rw[Qk,JJ hs'.ok.kS,Qa];obtain⟨p1,p2,p3,p4⟩:=u7 hs'.ok.kS (hr.ok.eM.sz x hx');refine .some ⟨_,rfl,⟨hs'.ok.acX p1 (λy hy=> ?_),hs'.aF,hs'.aK,hs'.round,hs'.seq,hs'.aN,hs'.own,hs'.heard⟩,hsa⟩
     rcases p3 y hy with rfl|hy
     ·rw[hsa];exact hx'
     ·exact hs'.ok.sub y hy
   ·rintro s ⟨hs',hsa⟩ hdec;simp only[aR];rw[hdec,Ql];obtain⟨b1,f1,_⟩:=OL (s:=b.bm) (t:=s.bm) hb.2.1;obtain⟨b2,f2,_⟩:=OL (s:=b.aG) (t:=s.aG) hb.2.2;obtain⟨b3,f3,_⟩:=NV (a:=b.aa) (b:=s.aa) hb.1;rw[f1,f2,f3];simp only[Qa];refine Yd.map (Yd.bind (p:=λ_=>True) (Yd.cond (λ_=> .some trivial) λ_=> .some trivial) λc1 _=> ?_)
    refine Yd.bind (p:=λ_=>True) (Yd.cond (λ_=> .some trivial) λ_=> .some trivial) λc2 _=> ?_
    cases c2 with
    |false=>exact .some ⟨hs'.ok,hs'.aF,hs'.aK,hs'.round,hs'.aN,.inl hs'.seq⟩
    |true=>
     have hadd:aB .i64 b.aH 1=b.aH+1:=bG (by omega) (by omega)
     rw[Qk,hadd];exact .some ⟨⟨hs'.ok.ask,hs'.ok.own,hs'.ok.dy,hs'.ok.eM,hs'.ok.kS,hs'.ok.sub,hs'.ok.heard,hs'.ok.dn⟩,hs'.aF,hs'.aK,hs'.round,hs'.aN,.inr rfl⟩
 ·cases decide (((List.length n.aS:Nat):Int)=(0:Int))with
  |true=>
   rw[Qk];refine Yd.bind (afG h) λr hr=> ?_
   exact hj (r,()) hr
  |false=>exact hj (n,()) (.refl h)
end
section
def R0{m:az}(h:wN m):uX m=some true:=by have e1:=h.n0;have e2:=h.n1;have e3:=h.seq;unfold uX;simp only[etas,dx h.aN,JK h.dy,JK h.eM];rw[Qg e1,Qg e2,Qg e3];rfl
def DT{n:ar}(h:cO n)(hs:1<=n.aH/\n.aH<=1000000):oM n=some true:=by
 have hlen:=h.len;have e1:=h.ask.v0;have e2:=h.ask.v1;have e3:=h.ask.s0;have e4:=h.ask.s1;have e5:=h.ask.r1;have e6:=h.ask.r2;have e7:=h.own;unfold oM;simp only[etas,dx h.ask.aN,JK h.dy,JK h.eM,JK h.kS];rw[Qh (by omega:¬n.al<0),Qh (by omega:¬(10:Int)<=n.al),Qh (by omega:¬n.aL<0),Qh (by omega:¬(1000000:Int)<n.aL),Qh (by omega:¬n.Round<1),Qh (by omega:¬(1000:Int)<n.Round),Qh (by omega:¬n.aH<1),Qh (by omega:¬(1000000:Int)<n.aH),Qh (by omega:¬(200:Int)<((n.nc.size:Nat):Int))]
 simp only[Ql,Qa,decide_true,Qo];refine Yd.eq_true ?_;refine Yd.list n.aS h.kS.wg (λi (_:Unit)=>(i,())) (λ_ _=>True) ?_ ?_ (s:=()) trivial
 ·intro i x s _ hd hx' hi hdec hx hadd;simp only;rw[hdec,Qk,hx,Qa,hadd,JM _ h.eM.wg,Qg (h.sub x hx')];exact .some ⟨(),rfl,trivial⟩
 ·intro s _ hdec;simp only;rw[hdec,Ql];refine Yd.map ?_;refine Yd.list n.au (by omega) (λi (_:Unit)=>(i,())) (λ_ _=>True) ?_ ?_ (s:=()) trivial
  ·intro i m s _ hd hm hi hdec hx hadd;obtain⟨hm1,hm2⟩:=h.heard m hm;simp only[aR];rw[hdec,Qk,hx,Qa,hadd];simp only[az.eta];rw[R0 hm1,Qa,Qh hm2];simp only[Qo,Ql]
   by_cases h0:i=0
   ·subst h0;rw[Qh (by omega:¬(0:Int)<((0:Nat):Int))]
    exact .some ⟨(),rfl,trivial⟩
   ·rw[Qg (by omega:(0:Int)<(i:Int))]
    simp only[Qk];have hsub:cW .i64 (i:Int) 1=((i - 1:Nat):Int):=by rw[nY (by omega) (by omega)];omega
    have hi1:i - 1<n.au.length:=by omega
    rw[hsub,bd,Qv hi1,Qa]
    have hyi:m=n.au[i]:=by rw[bd,Qv hi]at hx;exact(Option.some.inj hx).symm
    have hlt:n.au[i - 1].al<m.al:=by rw[hyi];exact List.pairwise_iff_getElem.1 h.dn (i - 1) i hi1 hi (by omega)
    rw[Qh (by omega:¬m.al<=n.au[i - 1].al)]
    exact .some ⟨(),rfl,trivial⟩
  ·intro s _ hdec;simp only;rw[hdec,Ql];exact .some rfl
def cO.Cg{n:ar}(h:cO n):cQ n.aa/\n.bm.length<=1000000/\n.aG.length<=1000000:=⟨h.ask.aN.sm,h.dy.wg,h.eM.wg⟩
def Fc:ar:=⟨0,0,0,0,⟨0,[],[]⟩,⟨#[]⟩,[],[],[],[]⟩
def aja{n:ar}{m:az}(h:cO n)(hs:1<=n.aH/\n.aH<=1000000)(hm:wN m)(hne:m.al≠n.al):Yd (tJ n m) λq=>(q.2.1=0/\Xt n n q.1)\/q.2.1=9:=by
 have hlen:=h.len;unfold tJ;simp only[etas,az.eta,DT h hs,R0 hm,Qa,Qo,Ql];rw[Qh hne];simp only[Ql,aR];have kk:∀(a:List az) (x:az),a.length<=100->bg 120 (a.length+[x].length)=true:=λa x ha=>bz ⟨by simp only[Q6];omega,by simp only[Q6];omega⟩
 have setl:∀l:List az,(∀y∈l,wN y/\y.al≠n.al)->l.Pairwise (λa b=>a.al<b.al)->Yd (Option.bind (gd n {n with au:=l}) λr14=>some (r14,(0:Int),())) λq=>(q.2.1=0/\Xt n n q.1)\/q.2.1=9:=by intro l h1 h2;refine Yd.bind (HI h.Cg (by omega) (n:={n with au:=l}) ⟨h.ask,h.own,h.dy,h.eM,h.kS,h.sub,h1,h2⟩) λr hr=> .some (.inl ⟨rfl,hr.ok,hr.aF,hr.aK,hr.round,hr.aN,hr.seq⟩)
 refine Yd.list n.au (by omega) (λi (s:Bool×List az)=>(s.1,i,Fc,{n with au:=[]},s.2,()))
  (λi s=>s.2.length<=2*i/\(∀y∈s.2,wN y/\y.al≠n.al)/\s.2.Pairwise (λa b=>a.al<b.al)/\(∀y∈s.2,∀z∈n.au.drop i,y.al<z.al)/\(s.1=false->∀y∈s.2,y.al<m.al)) ?_ ?_ (s:=(false,[]))
  ⟨by simp,λy hy=>absurd hy QR,List.Pairwise.nil,λy hy=>absurd hy QR,λ_ y hy=>absurd hy QR⟩
 ·rintro i x ⟨d,acc⟩ ⟨a1,a2,a3,a4,a5⟩ hd hx' hi hdec hx hadd;simp only at a1 a2 a3 a4 a5;have hxx:=h.heard x hx'
  have hsort:∀z∈n.au.drop (i+1),x.al<z.al:=by have:=h.dn.sublist (List.drop_sublist i n.au);rw[hd,Q4]at this;exact this.1
  have a4x:∀y∈acc,y.al<x.al:=λy hy=>a4 y hy x (by rw[hd];exact Qx)
  have a4r:∀y∈acc,∀z∈n.au.drop (i+1),y.al<z.al:=λy hy z hz=>a4 y hy z (by rw[hd];exact Qy _ hz)
  simp only;rw[hdec,Qk,hx,Qa,hadd];have k1:=kk acc m (by omega)
  have k2:=kk acc x (by omega)
  have k3:=kk (acc++[m]) x (by simp only[QB,Q6];omega)
  by_cases hn:x.al=m.al
  ·rw[Qg hn,Qk]
   cases decide (m.aH<=x.aH)with
   |true=>exact .some (.inr rfl)
   |false=>exact .some ⟨(d,acc),rfl,by show acc.length<=2*(i+1);omega,a2,a3,a4r,a5⟩
  ·rw[Qh hn,Ql,k1,k2,k3]
   have plain:(d=false->x.al<m.al)->Yd (some (inl (d,((i+1:Nat):Int),Fc,{n with au:=([]:List az)},(acc++[x]),())):Option ((Bool×Int×ar×ar×(List az)×Unit)⊕(ar×Int×Unit))) (Lp (λt=>∃s':Bool×List az,t=(s'.1,((i+1:Nat):Int),Fc,{n with au:=[]},s'.2,())/\(s'.2.length<=2*(i+1)/\(∀y∈s'.2,wN y/\y.al≠n.al)/\s'.2.Pairwise (λa b=>a.al<b.al)/\(∀y∈s'.2,∀z∈n.au.drop (i+1),y.al<z.al)/\(s'.1=false->∀y∈s'.2,y.al<m.al))) (λr=>(r.2.1=0/\Xt n n r.1)\/r.2.1=9)):=by
    intro hdm;refine .some ⟨(d,acc++[x]),rfl,by simp only[QB,Q6];omega,λy hy=> ?_,?_,λy hy z hz=> ?_,λe y hy=> ?_⟩
    ·rcases Qz.1 hy with hy|hy
     ·exact a2 y hy
     ·rw[Q5.1 hy];exact hxx
    ·rw[Qq69];exact⟨a3,List.pairwise_singleton _ _,λy hy z hz=>by rw[Q5.1 hz];exact a4x y hy⟩
    ·rcases Qz.1 hy with hy|hy
     ·exact a4r y hy z hz
     ·rw[Q5.1 hy];exact hsort z hz
    ·rcases Qz.1 hy with hy|hy
     ·exact a5 e y hy
     ·rw[Q5.1 hy];exact hdm e
   by_cases hlt:m.al<x.al
   ·rw[Qg hlt]
    cases d with
    |true=>exact plain λe=>by cases e
    |false=>
     have a5:=a5 rfl;simp only[Qp,Qk,Qa];refine .some ⟨(true,(acc++[m])++[x]),rfl,by simp only[QB,Q6];omega,λy hy=> ?_,?_,λy hy z hz=> ?_,λe=>by cases e⟩
     ·rcases Qz.1 hy with hy|hy
      ·rcases Qz.1 hy with hy|hy
       ·exact a2 y hy
       ·rw[Q5.1 hy];exact⟨hm,hne⟩
      ·rw[Q5.1 hy];exact hxx
     ·rw[Qq69,Qq69];refine⟨⟨a3,List.pairwise_singleton _ _,λy hy z hz=>by rw[Q5.1 hz];exact a5 y hy⟩,List.pairwise_singleton _ _,λy hy z hz=> ?_⟩
      rw[Q5.1 hz];rcases Qz.1 hy with hy|hy
      ·exact a4x y hy
      ·rw[Q5.1 hy];exact hlt
     ·rcases Qz.1 hy with hy|hy
      ·rcases Qz.1 hy with hy|hy
       ·exact a4r y hy z hz
       ·rw[Q5.1 hy];exact Int.lt_trans hlt (hsort z hz)
      ·rw[Q5.1 hy];exact hsort z hz
   ·rw[Qh hlt];exact plain λ_=>by omega
 ·rintro⟨d,acc⟩ ⟨a1,a2,a3,a4,a5⟩ hdec;simp only at a1 a2 a3 a4 a5;simp only;rw[hdec,Ql];refine Yd.map ?_;have k1:=kk acc m (by omega)
  rw[k1]
  cases d with
  |true=>exact setl acc a2 a3
  |false=>
   simp only[Qp,Qk];refine setl (acc++[m]) (λy hy=> ?_) ?_
   ·rcases Qz.1 hy with hy|hy
    ·exact a2 y hy
    ·rw[Q5.1 hy];exact⟨hm,hne⟩
   ·rw[Qq69];exact⟨a3,List.pairwise_singleton _ _,λy hy z hz=>by rw[Q5.1 hz];exact a5 rfl y hy⟩
def ahF{n:ar}(h:cO n)(hs:1<=n.aH/\n.aH<=1000000):Yd (AR n) λq=>(q.2.1=0/\cO q.1/\q.1.al=n.al/\q.1.aL=n.aL/\q.1.aa=n.aa/\(q.1.aH=n.aH\/q.1.aH=n.aH+1))\/q.2.1=3:=by
 unfold AR;simp only[etas,DT h hs,Qa,Qo,Ql];have e5:=h.ask.r1;have e6:=h.ask.r2
 by_cases hr:n.Round=1000
 ·rw[Qg hr];exact .some (.inr rfl)
 ·have hadd:aB .i64 n.Round 1=n.Round+1:=bG (by omega) (by omega)
  rw[Qh hr,Ql,hadd];refine Yd.bind (HI h.Cg (by omega) (n:={n with Round:=n.Round+1}) ⟨⟨h.ask.aN,h.ask.v0,h.ask.v1,h.ask.s0,h.ask.s1,by show 1<=n.Round+1;omega,by show n.Round+1<=1000;omega⟩,h.own,h.dy,h.eM,h.kS,h.sub,h.heard,h.dn⟩) λr hr=> .some (.inl ⟨rfl,hr.ok,hr.aF,hr.aK,hr.aN,hr.seq⟩)
def abh{n:ar}(h:cO n)(hs:1<=n.aH/\n.aH<=1000000){t:aj}(ht:c5 t):Yd (oq n t) λq=>q.2.1=0/\cO q.1/\q.1.al=n.al/\q.1.aL=n.aL/\q.1.aa=t/\(q.1.aH=n.aH\/q.1.aH=n.aH+1):=by
 unfold oq;simp only[etas,DT h hs,dx ht,Qa,Qo,Ql,decide_true];obtain⟨b,f,hb⟩:=NV (a:=n.aa) (b:=t) h.ask.aN.sm;rw[f,Qa]
 cases b with
 |true=>exact .some ⟨rfl,h,rfl,rfl,hb.1 rfl,.inl rfl⟩
 |false=>refine Yd.bind (HI h.Cg (by omega) (n:={n with aa:=t}) ⟨⟨ht,h.ask.v0,h.ask.v1,h.ask.s0,h.ask.s1,h.ask.r1,h.ask.r2⟩,h.own,h.dy,h.eM,h.kS,h.sub,h.heard,h.dn⟩) λr hr=> .some ⟨rfl,hr.ok,hr.aF,hr.aK,hr.aN,hr.seq⟩
def RZ{t:aj}{v aK:Int}{own:ByteArray}(ht:c5 t)(h0:0<=v)(h1:v<10)(h2:0<=aK)(h3:aK<=1000000)(ho:own.size<=200):Yd (mz v aK t own) λq=>q.2.1=0/\cO q.1/\q.1.al=v/\q.1.aL=aK/\q.1.aa=t/\q.1.aH=1:=by
 unfold mz;simp only[etas,dx ht];rw[Qh (by omega:¬v<0),Qh (by omega:¬(10:Int)<=v),Qh (by omega:¬aK<0),Qh (by omega:¬(1000000:Int)<aK),Qh (by omega:¬(200:Int)<((own.size:Nat):Int))]
 simp only[Ql,Qa,decide_true,Qo];have hn:cO ⟨v,aK,1,1,t,own,[],[],[],[]⟩:=⟨⟨ht,h0,h1,h2,h3,by show(1:Int)<=1;omega,by show(1:Int)<=1000;omega⟩,ho,.nil,.nil,.nil,λx hx=>absurd hx QR,λx hx=>absurd hx QR,List.Pairwise.nil⟩
 refine Yd.bind (HI hn.Cg ⟨by show(0:Int)<=1;omega,by show(1:Int)<=1000000;omega⟩ hn) λr hr=> .some ⟨rfl,⟨hr.ok.ask,hr.ok.own,hr.ok.dy,hr.ok.eM,hr.ok.kS,hr.ok.sub,hr.ok.heard,hr.ok.dn⟩,hr.aF,hr.aK,hr.aN,rfl⟩
end
section
def aht{m:ae}(h:m.aQ=3):dh m=m:=by
 have h1:di m=m:=by unfold di;rw[Qr (.inl h)]
 have h2:gB m=m:=by unfold gB;rw[Qr (.inl (by rw[h];decide))]
 have h3:fX m=m:=by unfold fX;rw[Qs (by rw[h];decide),Qs (by rw[h];decide)]
 have h4:jf m=m:=by unfold jf;rw[Qs (by rw[h];rintro⟨e,_⟩;exact absurd e (by decide))]
 have h5:fS m=m:=by unfold fS;rw[Qr (.inl h)]
 unfold dh;rw[Qr h1,Qr h2,Qr h3,Qr h4];exact h5
structure DO (m:ae) (t:aj) (x:ae):Prop where
 inv:bs x
 seq:fM x
 aF:x.al=m.al
 aK:x.aL=m.aL
 aN:x.aa=t
 ext:m.aQ=3->x.aQ=3/\x.af.Value=m.af.Value
def DO.refl{m:ae}(h:bs m)(hs:fM m):DO m m.aa m:=⟨h,hs,rfl,rfl,rfl,λe=>⟨e,rfl⟩⟩
def mD(m x:ae):Prop:=m.aQ=3->x.aQ=3/\x.af.Value=m.af.Value
def Lc{m:ae}:∀x,bs x->mD m x->mD m (dh x):=λx _ h e=>by have h2:=h e;rw[aht h2.1];exact h2
def Lb{m:ae}:∀x,mD m x->mD m (dq x):=λx h e=>by
 have h2:=h e;unfold dq;split
 ·exact h2
 ·exact h2
def DM{m m1:ae}(h:bs m)(hb:A7 m m1):mD m m1:=by
 intro e;rcases hb with⟨v,hv,rfl⟩|⟨x,hx,rfl⟩|⟨h3,hv,hc,rfl⟩|⟨t,ht,rfl⟩
 ·have hz:aP m.af=false:=by
   rcases h.body with k|k|k|k
   ·exact absurd (k.ba.symm.trans e) (by decide)
   ·exact k.aT.nz
   ·exact k.aT.nz
   ·exact k.aT.nz
  unfold gA;rw[Qs (by rw[hz];decide)]
  exact⟨e,rfl⟩
 ·exact⟨e,rfl⟩
 ·exact absurd e h3
 ·exact⟨e,rfl⟩
def Ln{m m1:ae}(h:bs m)(hb:A7 m m1){q:ae×Int×Unit}(hq:Hi (mD m) m m1 q):q.2.1=0/\DO m m1.aa q.1:=by
 obtain⟨m2,rfl,ha⟩:=hq;have hf:=aeg h hb;obtain⟨f1,f2,f3,f4,f5,f6⟩:=El m1;obtain⟨s,e,_⟩:=Oa m m2;refine⟨rfl,aed ha.inv,agX ha.inv ha.seq (λhz=>ha.nz (by rw[f6];exact hf.nz hz)),?_,?_,?_,?_⟩
 ·rw[e];exact ha.env.1.trans (f1.trans hf.aF)
 ·rw[e];exact ha.env.2.1.trans (f2.trans hf.aK)
 ·rw[e];exact ha.env.2.2.1.trans f3
 ·rw[e];exact ha.rel
section
variable {m : ae} (h : bs m) (hs : fM m)
 include h hs
theorem HT{v:ByteArray}(hv:kT v):Yd (kq m v) λq=>q.2.1=0/\DO m m.aa q.1:=by
 have hb:A7 m (gA m v):= .inl ⟨v,hv,rfl⟩;refine(Nh (R:=mD m) Lc Lb h hs hv (DM h hb)).mono λq hq=> ?_
 have e:(gA m v).aa=m.aa:=by unfold gA;split<;>rfl
 exact e▸Ln h hb hq
theorem VQ{e:ak}(he:AJ m e):Yd (kp m e) λq=>(q.2.1=0/\DO m m.aa q.1)\/q.2.1=9:=by
 have hb:A7 m (B8 m e):= .inr (.inl ⟨e,he,rfl⟩);refine(Vt (R:=mD m) Lc Lb h hs he (DM h hb)).mono λq hq=> ?_
 rcases hq with⟨hq,_⟩|⟨rfl,_⟩
 ·exact .inl (Ln h hb hq)
 ·exact .inr rfl
theorem VR{t:aj}(ht:c5 t):Yd (oh m t) λq=>q.2.1=0/\DO m t q.1:=by
 have hb:A7 m (Cd m t):= .inr (.inr (.inr ⟨t,ht,rfl⟩));refine(Vv (R:=mD m) Lc Lb h hs ht (DM h hb)).mono λq hq=> ?_
 exact Ln h hb hq
theorem adC:Yd (si m) λq=>(q.2.1=0/\DO m m.aa q.1)\/q.2.1≠0:=by
 have hR:∃R:ae->Prop,(∀m,bs m->R m->R (dh m))/\(∀m,R m->R (dq m))/\R (qN m)/\(A7 m (qN m)->∀x,R x->mD m x):=by
  by_cases hi:A7 m (qN m)
  ·exact⟨mD m,Lc,Lb,DM h hi,λ_ x hx=>hx⟩
  ·exact⟨λ_=>True,λ_ _ _=>trivial,λ_ _=>trivial,trivial,λhi'=>absurd hi' hi⟩
 obtain⟨R,hR1,hR2,hR0,hRR⟩:=hR;refine(ada hR1 hR2 h hs hR0).mono λq hq=> ?_
 rcases hq with⟨⟨m2,rfl,ha⟩,h3,hv,hc⟩|⟨rfl,_⟩|⟨rfl,_⟩
 ·have hb:A7 m (qN m):= .inr (.inr (.inl ⟨h3,hv,hc,rfl⟩));exact .inl (Ln h hb ⟨m2,rfl,ha.inv,ha.seq,ha.env,ha.num,ha.nz,hRR hb _ ha.rel,ha.fix⟩)
 ·exact .inr (by show(62:Int)≠0;decide)
 ·exact .inr (by show(3:Int)≠0;decide)
theorem Br:sj m=some (bif decide (m.aQ=3)then m.af.Value else gw,decide (m.aQ=3),()):=by unfold sj;simp only[etas,xl h hs,Qa,Qo,Ql];cases decide (m.aQ=3)<;>rfl
theorem ade:vH m=some (bif aP m.af then(ak.mk (0:Int) (0:Int) (0:Int) (aj.mk (0:Int) ([]:List Int) ([]:List aj)) (0:Int) zB zB zB (0:Int) (0:Int))else cY m,!aP m.af,()):=by unfold vH;simp only[etas,xl h hs,Qa,Qo,Ql,df,AD];cases aP m.af<;>rfl
theorem abc:Yd (uC m) λ_=>True:=by
 have hev:=h.ev;have hlen:=h.len;unfold uC;simp only[etas,ade h hs,Qa]
 cases hz:aP m.af with
 |true=>exact .some trivial
 |false=>
  simp only[Qp,Qo,Ql,Qa]
  cases decide (m.aQ=3)with
  |true=>exact .some trivial
  |false=>
   simp only[Ql];have ho:=Lm h hs hz;have hm0:cQ (cY m).aa:=by rw[rU];exact h.aN.sm
   have hall:∀e∈[cY m]++m.au,bc e=true/\cQ e.aa:=by
    intro e he;rcases Qz.1 he with he|he
    ·rw[Q5.1 he];exact⟨ho,hm0⟩
    ·exact⟨(h.hv e he).1,(h.hv e he).2.1.sm⟩
   have hl1:([cY m]++m.au).length<=1000:=by simp;omega
   rw[bz (by simp;omega),Qk]
   rw[FI ([cY m]++m.au) hl1 (λe=>decide (fG (cY m)<=fG e)) (fin:=λs=>Option.bind (jq m.al m.aa ([cY m]++m.au)) λr8=>Option.bind (gu ([cY m]++m.au) s) λr9=>Option.bind (lg r8 r9) λr10=>if(br .u64 m.al)<0 then none else some (decide ((Gq .i64 (jP .i64 r10 (br .u64 m.al)) (1:Int))=(1:Int))))
    (λi e s hs' he hd hx hw=>by
     simp only[hd,hx,hw,SI hx,Qk,Qa,HJ (hall e he).2 (hall e he).1,HJ hm0 ho]
     rw[bz (by simp;omega),Qk])
    (λs hd=>by simp only[hd,Ql])]
   have hsml:tw ([cY m]++m.au):=⟨by omega,λe he=>(hall e he).2⟩
   have hn:=hev.aF;have hv:=Bq hn.2 (t:=m.aa) hsml;rw[hn.1]at hv;have hin:xr ([cY m]++m.au):=λe he=>kG (hall e he).1
   rw[hv,Qa,BW ([cY m]++m.au) hl1 _ (λe he _=>hin e he),Qa,Ee (oE h.aN.sm hsml) (mM hin),Qa]
   have hc:br .u64 m.al=m.al:=by rw[<-hn.1];exact afa (by omega)
   rw[hc,Qs (by have:=h.n0;omega)]
   exact .some trivial
def xn(t:dg):Prop:=0<=t.ai/\t.ai<=1000000/\ -1<=t.FQ/\t.FQ<=212
 omit h hs in
theorem Vr{t:dg}(ht:xn t):uU t=some true:=by
  obtain⟨h1,h2,h3,h4⟩:=ht;unfold uU;rw[Qg h1,Qg h2,Qg h3,Qg h4];rfl
 omit h hs in
theorem OH{c:Int}(hc:0<=c)(hc2:c<=1000000):Yd (lX c) λw=>1<=w/\w<=12:=by
  unfold lX
  by_cases h:12<=c
  ·rw[Qg h];exact .some ⟨by decide,by decide⟩
  ·have hadd:aB .i64 c 1=c+1:=bG (by omega) (by omega)
   rw[Qh h,Ql,hadd];refine .some ?_;unfold bF;split<;>omega
 omit hs in
theorem aaB:0<=m.af.ai/\m.af.ai<=1000:=by
  rcases h.body with k|k|k|k
  ·rw[k.aT];exact⟨by decide,by decide⟩
  ·exact⟨by have:=k.aT.1;omega,k.aT.2.1⟩
  ·exact⟨by have:=k.aT.1;omega,k.aT.2.1⟩
  ·exact⟨by have:=k.aT.1;omega,k.aT.2.1⟩
theorem afz{t:dg}(ht:xn t){now:Int}(h0:0<=now)(h1:now<=200):Yd (AN t m now) λq=>xn q.1:=by
 obtain⟨b0,b1⟩:=aaB h;unfold AN;simp only[etas,Vr ht,Qa,Qo,Ql];rw[Qh (by omega:¬now<0),Qh (by omega:¬(200:Int)<now)]
 simp only[Ql,Qa];refine Yd.bind (abc h hs) λb _=> ?_
 have off:xn ⟨m.af.ai, -1⟩:=⟨b0,by show m.af.ai<=1000000;omega,by show(-1:Int)<= -1;omega,by show(-1:Int)<=212;omega⟩
 cases b with
 |false=>exact .some off
 |true=>
  simp only[Qo,Ql];refine Yd.bind (p:=λ_=>True) (Yd.cond (λ_=> .some trivial) λ_=> .some trivial) λc _=> ?_
  cases c with
  |true=>
   rw[Qk];refine Yd.bind (OH b0 (by omega)) λw ⟨w1,w2⟩=> ?_
   have hadd:aB .i64 now w=now+w:=bG (by omega) (by omega)
   rw[hadd];exact .some ⟨b0,by show m.af.ai<=1000000;omega,by show -1<=now+w;omega,by show now+w<=212;omega⟩
  |false=>
   rw[Ql]
   cases decide (t.FQ<=now)with
   |true=>exact .some off
   |false=>exact .some ht
end
end
section
structure tz (nd sl:Int) (k:Int) (x:aJ):Prop where
 hZ:bs x.ab
 jB:fM x.ab
 aF:x.ab.al=nd
 aK:x.ab.aL=sl
 lS:cO x.aA
 oF:1<=x.aA.aH/\x.aA.aH<=1+k
 rJ:x.aA.al=nd
 xc:x.aA.aL=sl
 aN:x.aA.aa=x.ab.aa
 timer:xn x.Timer
 round:1<=x.Round/\x.Round<=1000
 next:0<=x.Next/\x.Next<=212
structure se (nd sl:Int) (k:Int) (x:aJ):Prop where
 pre:tz nd sl k x
 done:x.zr=decide (x.ab.aQ=3)
 value:x.Value=bif decide (x.ab.aQ=3)then x.ab.af.Value else gw
def tz.le{nd sl k k':Int}{x:aJ}(h:tz nd sl k x)(hk:k<=k'):tz nd sl k' x:=⟨h.hZ,h.jB,h.aF,h.aK,h.lS,⟨h.oF.1,by have:=h.oF.2;omega⟩,h.rJ,h.xc,h.aN,h.timer,h.round,h.next⟩
def se.le{nd sl k k':Int}{x:aJ}(h:se nd sl k x)(hk:k<=k'):se nd sl k' x:=⟨h.pre.le hk,h.done,h.value⟩
def tz.RO{nd sl k:Int}{x:aJ}(h:tz nd sl k x){m:ae}(hm:DO x.ab x.ab.aa m):tz nd sl k {x with ab:=m}:=⟨hm.inv,hm.seq,hm.aF.trans h.aF,hm.aK.trans h.aK,h.lS,h.oF,h.rJ,h.xc,h.aN.trans hm.aN.symm,h.timer,h.round,h.next⟩
def u0{nd sl k:Int}{x:aJ}(h:tz nd sl k x):Yd (eS x) λy=>se nd sl k y/\mD x.ab y.ab/\y.ab.aa=x.ab.aa:=by
 unfold eS;simp only[etas];refine Yd.join (λv=>tz nd sl k v.1/\mD x.ab v.1.ab/\v.1.ab.aa=x.ab.aa) (λv ⟨hv,hst⟩=> ?_) (λj' hj=> ?_)
 ·rw[Br hv.hZ hv.jB,Qa];exact .some ⟨⟨⟨hv.hZ,hv.jB,hv.aF,hv.aK,hv.lS,hv.oF,hv.rJ,hv.xc,hv.aN,hv.timer,hv.round,hv.next⟩,rfl,rfl⟩,hst⟩
 ·have same:tz nd sl k x/\mD x.ab x.ab/\x.ab.aa=x.ab.aa:=⟨h,λe=>⟨e,rfl⟩,rfl⟩
  refine Yd.bind (ZH h.lS.kS.wg) λc hc=> ?_
  rw[df];simp only[Qa]
  have go:c.2.1=false\/kT c.1:=by
   cases e:c.2.1 with
   |false=>exact .inl rfl
   |true=>exact .inr (hc e)
  have hcond:∀b1 b2 b3:Bool,Yd (Option.bind (bif b1 then some b2 else some false) λb5=>Option.bind (bif b5 then some b3 else some false) λb7=>Option.bind (bif b7 then some (!decide (c.1=x.ab.bj))else some false) λb8=>(some b8:Option Bool)) λb=>b=true->b1=true:=λb1 b2 b3=>by
   cases b1 with
   |true=>cases b2<;>cases b3<;>exact .some λ_=>rfl
   |false=>exact .some λe=>e
  obtain⟨b8,hb8,hb8'⟩:=hcond c.2.1 (decide (x.ab.aQ=1)) (aP x.ab.ax)
  have key:∀K:Bool->Option aJ,(Option.bind (bif c.2.1 then some (decide (x.ab.aQ=1))else some false) λb5=>Option.bind (bif b5 then some (aP x.ab.ax)else some false) λb7=>Option.bind (bif b7 then some (!decide (c.1=x.ab.bj))else some false) K)=K b8:=by
   intro K;revert hb8
   cases c.2.1 with
   |false=>intro e;cases e;rfl
   |true=>
    cases decide (x.ab.aQ=1)with
    |false=>intro e;cases e;rfl
    |true=>
     cases aP x.ab.ax with
     |false|true=>intro e;cases e;rfl
  rw[key]
  cases b8 with
  |false=>exact hj (x,()) same
  |true=>
   rw[Qk];have hv:=hc (hb8' rfl);refine Yd.bind (HT h.hZ h.jB hv) λq ⟨h0,hn⟩=> ?_
   rw[h0];exact hj (_,()) ⟨h.RO hn,hn.ext,hn.aN⟩
def sA{nd sl k:Int}{x:aJ}(h:se nd sl k x)(hk:k<=999999):kU x=some true:=by
 have p:=h.pre;obtain⟨b,f,hb⟩:=NV (a:=x.aA.aa) (b:=x.ab.aa) p.lS.ask.aN.sm;have hbt:=hb.2 p.aN;subst hbt;unfold kU;simp only[etas,xl p.hZ p.jB,DT p.lS ⟨p.oF.1,by have:=p.oF.2;omega⟩,f,Vr p.timer,Br p.hZ p.jB,Qa,Qo,Ql]
 rw[Qg (p.rJ.trans p.aF.symm),Qg (p.xc.trans p.aK.symm),Qg p.round.1,Qg p.round.2,Qg p.next.1,Qg p.next.2,Qg h.done,Qg h.value]
 rfl
def xV(nd sl:Int)(k:Int)(x y:aJ):Prop:=se nd sl k y/\mD x.ab y.ab
def xV.self{nd sl k k':Int}{x:aJ}(h:se nd sl k x)(hk:k<=k'):xV nd sl k' x x:=⟨h.le hk,λe=>⟨e,rfl⟩⟩
section
variable {nd sl k : Int} {x : aJ} (h : se nd sl k x) (hk : k <= 999998)
 include h hk
theorem ZE{m:az}(hm:wN m)(hne:m.al≠nd):Yd (fQ x m) λq=>(q.2.1=0/\xV nd sl (k+1) x q.1/\q.1.ab.aa=x.ab.aa)\/q.2.1≠0:=by
 have p:=h.pre;unfold fQ;simp only[az.eta,etas,sA h (by omega),Qa,Qo,Ql]
 refine Yd.bind (aja p.lS ⟨p.oF.1,by have:=p.oF.2;omega⟩ hm (by rw[p.rJ];exact hne)) λq hq=> ?_
 rcases hq with⟨h0,hq⟩|h9
 ·rw[h0];simp only[decide_true,Qo,Ql];have h1:=p.oF;refine Yd.bind (u0 (k:=k+1) (x:={x with aA:=q.1}) ⟨p.hZ,p.jB,p.aF,p.aK,hq.ok,?_,hq.aF.trans p.rJ,hq.aK.trans p.xc,hq.aN.trans p.aN,p.timer,p.round,p.next⟩) λy hy=> .some (.inl ⟨rfl,⟨hy.1,hy.2.1⟩,hy.2.2⟩)
  show 1<=q.1.aH/\q.1.aH<=1+(k+1);rcases hq.seq with e|e<;>rw[e]<;>omega
 ·rw[h9];exact .some (.inr (by show(9:Int)≠0;decide))
theorem abj{e:ak}(he:AJ x.ab e\/(cQ e.aa/\bc e=false)):Yd (lf x e) λq=>(q.2.1=0/\xV nd sl k x q.1/\q.1.ab.aa=x.ab.aa)\/q.2.1≠0:=by
 have p:=h.pre;unfold lf;simp only[etas,sA h (by omega),Qa,Qo,Ql]
 rcases he with he|⟨ht,hv⟩
 ·refine Yd.bind (VQ p.hZ p.jB he) λq hq=> ?_
  rcases hq with⟨h0,hq⟩|h9
  ·rw[h0];simp only[decide_true,Qo,Ql];refine Yd.bind (u0 (p.RO hq)) λy hy=> .some (.inl ⟨rfl,⟨hy.1,λe=> ?_⟩,hy.2.2.trans hq.aN⟩)
   have e1:=hq.ext e;have e2:=hy.2.1 e1.1;exact⟨e2.1,e2.2.trans e1.2⟩
  ·rw[h9];exact .some (.inr (by show(9:Int)≠0;decide))
 ·rw[Yr p.hZ p.jB ht (.inl hv)];exact .some (.inr (by show(61:Int)≠0;decide))
theorem abe{v:ByteArray}(hv:kT v):Yd (pT x v) λq=>(q.2.1=0/\xV nd sl k x q.1/\q.1.ab.aa=x.ab.aa)\/q.2.1≠0:=by
 have p:=h.pre;unfold pT;simp only[etas,sA h (by omega),Qa,Qo,Ql]
 refine Yd.bind (HT p.hZ p.jB hv) λq ⟨h0,hq⟩=> ?_
 rw[h0];simp only[decide_true,Qo,Ql];refine Yd.bind (u0 (p.RO hq)) λy hy=> .some (.inl ⟨rfl,⟨hy.1,λe=> ?_⟩,hy.2.2.trans hq.aN⟩)
 have e1:=hq.ext e;have e2:=hy.2.1 e1.1;exact⟨e2.1,e2.2.trans e1.2⟩
theorem ZG{t:aj}(ht:c5 t):Yd (gO x t) λq=>q.2.1=0/\xV nd sl (k+1) x q.1/\q.1.ab.aa=t:=by
 have p:=h.pre;unfold gO;simp only[etas,sA h (by omega),Qa,Qo,Ql]
 have h1:=p.oF;refine Yd.bind (abh p.lS ⟨p.oF.1,by omega⟩ ht) λq ⟨h0,g1,g2,g3,g4,g5⟩=> ?_
 rw[h0];simp only[decide_true,Qo,Ql];refine Yd.bind (VR p.hZ p.jB ht) λr ⟨r0,hr⟩=> ?_
 rw[r0];simp only[decide_true,Qo,Ql];refine Yd.bind (u0 (k:=k+1) (x:={x with aA:=q.1,ab:=r.1}) ⟨hr.inv,hr.seq,hr.aF.trans p.aF,hr.aK.trans p.aK,g1,?_,g2.trans p.rJ,g3.trans p.xc,g4.trans hr.aN.symm,p.timer,p.round,p.next⟩) λy hy=> .some ⟨rfl,⟨hy.1,λe=> ?_⟩,hy.2.2.trans hr.aN⟩
 ·show 1<=q.1.aH/\q.1.aH<=1+(k+1);rcases g5 with e|e<;>rw[e]<;>omega
 ·have e1:=hr.ext e;have e2:=hy.2.1 e1.1;exact⟨e2.1,e2.2.trans e1.2⟩
theorem afy{now:Int}(h0:0<=now)(h1:now<=200):Yd (tE x now) λq=>q.2.1=0/\xV nd sl (k+1) x q.1/\q.1.ab.aa=x.ab.aa:=by
 have p:=h.pre;have hsq:=p.oF;have hrd:=p.round;unfold tE;simp only[etas,sA h (by omega),Qa,Qo,Ql]
 rw[Qh (by omega:¬now<0),Qh (by omega:¬(200:Int)<now)]
 simp only[Ql,Qa];refine Yd.join (λv=>xV nd sl (k+1) x v.1/\v.1.ab.aa=x.ab.aa) (λv ⟨hv,hvt⟩=> ?_) (λj4 hj4=> ?_)
 ·have pv:=hv.1.pre;refine Yd.bind (afz pv.hZ pv.jB pv.timer h0 h1) λt ht=> ?_
  refine Yd.join (λw=>xV nd sl (k+1) x w.1/\w.1.ab.aa=x.ab.aa) (λw hw=> .some ⟨rfl,hw⟩) (λj7 hj7=> ?_)
  have pt:tz nd sl (k+1) {v.1 with Timer:=t.1}:=⟨pv.hZ,pv.jB,pv.aF,pv.aK,pv.lS,pv.oF,pv.rJ,pv.xc,pv.aN,ht,pv.round,pv.next⟩
  cases t.2.1 with
  |false=>exact hj7 (_,()) ⟨⟨⟨pt,hv.1.done,hv.1.value⟩,hv.2⟩,hvt⟩
  |true=>
   rw[Qk];refine Yd.join (λw=>tz nd sl (k+1) w.1/\mD v.1.ab w.1.ab/\w.1.ab.aa=v.1.ab.aa) (λw ⟨hw,hst,hwt⟩=> ?_) (λj9 hj9=> ?_)
   ·refine Yd.bind (u0 hw) λy hy=>hj7 (y,()) ⟨⟨hy.1,λe=> ?_⟩,hy.2.2.trans (hwt.trans hvt)⟩
    have e1:=hv.2 e;have e2:=hst e1.1;have e3:=hy.2.1 e2.1;exact⟨e3.1,e3.2.trans (e2.2.trans e1.2)⟩
   ·refine Yd.bind (adC pv.hZ pv.jB) λr hr=> ?_
    rcases hr with⟨r0,hr⟩|hr
    ·rw[r0];exact hj9 (_,()) ⟨pt.RO hr,hr.ext,hr.aN⟩
    ·rw[Qh hr];exact hj9 (_,()) ⟨pt,λe=>⟨e,rfl⟩,rfl⟩
 ·have skip:=hj4 (x,()) ⟨xV.self h (by omega),rfl⟩
  cases decide (((List.length x.aA.aS:Nat):Int)=(0:Int))with
  |false=>exact skip
  |true=>
   simp only[Qk,Qa]
   cases decide (x.Next<=now)with
   |false=>exact skip
   |true=>
    rw[Qk];refine Yd.join (λv=>tz nd sl (k+1) v.1/\v.1.ab=x.ab) (λv ⟨hv,hm⟩=> ?_) (λj14 hj14=> ?_)
    ·have hvr:=hv.round;have hadd:aB .i64 v.1.Round 1=v.1.Round+1:=bG (by omega) (by omega)
     have hmin:1<=dt (v.1.Round+1) 1000/\dt (v.1.Round+1) 1000<=1000:=by unfold dt;split<;>omega
     rw[hadd];refine Yd.bind (OH (by omega) (by omega)) λw ⟨w1,w2⟩=> ?_
     have hadd2:aB .i64 now w=now+w:=bG (by omega) (by omega)
     rw[hadd2];refine Yd.bind (u0 (k:=k+1) (x:=⟨v.1.aA,v.1.ab,v.1.Timer,dt (v.1.Round+1) 1000,now+w,v.1.zr,v.1.Value⟩) ⟨hv.hZ,hv.jB,hv.aF,hv.aK,hv.lS,hv.oF,hv.rJ,hv.xc,hv.aN,hv.timer,hmin,by show 0<=now+w/\now+w<=212;omega⟩) λy hy=>hj4 (y,()) ?_
     have h2:=hy.2;simp only at h2;rw[hm]at h2;exact⟨⟨hy.1,h2.1⟩,h2.2⟩
    ·refine Yd.bind (ahF p.lS ⟨p.oF.1,by omega⟩) λq hq=> ?_
     rcases hq with⟨q0,g1,g2,g3,g4,g5⟩|q3
     ·rw[q0];refine hj14 (_,()) ⟨⟨p.hZ,p.jB,p.aF,p.aK,g1,?_,g2.trans p.rJ,g3.trans p.xc,g4.trans p.aN,p.timer,p.round,p.next⟩,rfl⟩
      show 1<=q.1.aH/\q.1.aH<=1+(k+1);rcases g5 with e|e<;>rw[e]<;>omega
     ·rw[q3];exact hj14 (x,()) ⟨p.le (by omega),rfl⟩
end
def ajq{nd sl:Int}(hv0:0<=nd)(hv1:nd<10)(hs0:1<=sl)(hs1:sl<=1000000){t:aj}{own:ByteArray}{now:Int}(ht:c5 t)(ho:own.size<=200)(h0:0<=now)(h1:now<=200):Yd (nn nd sl t own now) λq=>q.2.1=0/\se nd sl 0 q.1/\q.1.ab.aa=t:=by
 unfold nn;simp only[etas];rw[Qh (by omega:¬now<0),Qh (by omega:¬(200:Int)<now)]
 simp only[Ql,Qa];rw[adb hv0 hv1 hs0 hs1 ht];simp only[Qa,decide_true,Qo,Ql];refine Yd.bind (RZ ht hv0 hv1 (by omega) hs1 ho) λq ⟨q0,g1,g2,g3,g4,g5⟩=> ?_
 rw[q0];simp only[decide_true,Qo,Ql];refine Yd.bind (OH (by omega) (by omega)) λw ⟨w1,w2⟩=> ?_
 have hadd2:aB .i64 now w=now+w:=bG (by omega) (by omega)
 rw[hadd2];obtain⟨m1,m2⟩:=R7 (aF:=nd) (aK:=sl) hv0 hv1 hs0 hs1 ht;have ht0:xn ⟨0, -1⟩:=⟨by decide,by decide,by decide,by decide⟩
 refine Yd.bind (u0 (k:=0) (x:=⟨q.1,Nq nd sl t,⟨0, -1⟩,1,now+w,false,bE⟩) ⟨m1,m2,rfl,rfl,g1,by show 1<=q.1.aH/\q.1.aH<=1+0;rw[g5];decide,g2,g3,g4,ht0,⟨(by decide:(1:Int)<=1),(by decide:(1:Int)<=1000)⟩,by show 0<=now+w/\now+w<=212;omega⟩) λy hy=> .some ⟨rfl,hy.1,hy.2.2⟩
end
section
def Eh(a b:ByteArray):fp a b=some (xO a b):=by simp[fp,xO]
def acr{a b:ByteArray}:decide (0<=xO a b)= !bQ a b:=by
 rw[<-wG]
 by_cases h:xO a b<0
 ·rw[Qg h,Qh (by omega)];rfl
 ·rw[Qh h,Qg (by omega)];rfl
def abr(x:ByteArray):so x=some (decide (kT x)):=OI x
def OV{l:List ByteArray}(h:VL l):iJ l=some true:=by
 unfold iJ;refine Yd.eq_true (Yd.list l h.wg (λi (_:Unit)=>(i,())) (λ_ _=>True) ?_ ?_ (s:=()) trivial)
 ·intro i y s hs hd hy hi hdec hx hadd;simp only;rw[hdec,Qk,hx,Qa,abr,Qa,Qg (h.sz y hy),hadd];simp only[Qo,Ql]
  by_cases h0:i=0
  ·subst h0;rw[Qh (by omega:¬(0:Int)<((0:Nat):Int))]
   exact .some ⟨(),rfl,trivial⟩
  ·rw[Qg (by omega:(0:Int)<(i:Int))]
   simp only[Qk];have hsub:cW .i64 (i:Int) 1=((i - 1:Nat):Int):=by rw[nY (by omega) (by have:=h.len;omega)];omega
   have hi1:i - 1<l.length:=by omega
   rw[hsub,bd,Qv hi1,Qa,Eh,Qa,acr]
   have hyi:y=l[i]:=by rw[bd,Qv hi]at hx;exact(Option.some.inj hx).symm
   have hlt:bQ l[i - 1] y=true:=by rw[hyi];exact List.pairwise_iff_getElem.1 h.Hd (i - 1) i hi1 hi (by omega)
   rw[hlt];exact .some ⟨(),rfl,trivial⟩
 ·intro s hs hdec;simp only;rw[hdec,Ql,Qg (by have:=h.len;omega:(l.length:Int)<=(40:Int))]
  exact .some rfl
def ahR(l:List ByteArray)(hl:l.length<=1000000)(x:ByteArray):Yd (jI l x) λr=>decide (0<=r)=decide (x∈l):=by
 unfold jI;refine Yd.list l hl (λi (_:Unit)=>(i,())) (λi _=>x∉l.take i) ?_ ?_ (s:=()) (by simp)
 ·intro i y s hs hd hy hi hdec hx hadd;simp only;rw[hdec,Qk,hx,Qa,hadd]
  by_cases hxy:x=y
  ·rw[Qg hxy,Qk];refine .some ?_;show decide ((0:Int)<=(i:Int))=decide (x∈l);rw[Qg (by omega:(0:Int)<=(i:Int))]
   exact(Qg (by rw[hxy];exact hy)).symm
  ·rw[Qh hxy,Ql];refine .some ⟨(),rfl,?_⟩
   have hi2:l[i]?=some y:=by rw[bd]at hx;exact hx
   rw[List.take_add_one,hi2];simp only[Option.toList_some,Qz,Q5];exact λh=>h.elim hs hxy
 ·intro s hs hdec;simp only;rw[hdec,Ql];rw[Qq62]at hs;refine .some ?_;show decide ((0:Int)<= -1)=decide (x∈l);rw[Qh hs];rfl
def ZV(l:List ByteArray)(hl:l.length<=1000000)(x:ByteArray):ll l x=some (decide (x∈l)):=by obtain⟨r,h1,h2⟩:=ahR l hl x;unfold ll lP;rw[h1,Qa,Qa,h2]
def ZU{v:Int}(h0:0<=v)(h1:v<10):mn v=some true:=by unfold mn;rw[Qg h0,Qg h1];rfl
def YB{m:az}(h:wN m):nR m=some true:=by unfold nR;simp only[etas,ZU h.n0 h.n1,de h.aN,OV h.dy,OV h.eM];rw[Qg h.seq];rfl
def abz{n:ar}(h:cO n):fm n.aS n=some false:=by
 unfold fm jb;simp only[etas]
 have:=Yd.list (p:=λr:Int=>r= -1) (step:=λ(v1:Int×Unit)=>
   bif (decide (v1.1<((List.length n.aS:Nat):Int)))then
   Option.bind (idx n.aS v1.1) λx2=>
   Option.bind (pG x2 n) λr3=>
   bif r3 then
   Option.map inr (some v1.1)
   else
   some (inl ((aB .i64 v1.1 (1:Int)),()))
   else
   Option.map inr (some (-1:Int))) n.aS h.kS.wg (λi (_:Unit)=>(i,())) (λ_ _=>True) ?_ ?_ (s:=()) trivial
 ·obtain⟨r,h1,rfl⟩:=this;rw[h1];rfl
 ·intro i x s _ hd hx' hi hdec hx hadd;simp only;unfold pG;rw[hdec,Qk,hx,Qa,hadd,ZV _ h.eM.wg,Qg (h.sub x hx')];exact .some ⟨(),rfl,trivial⟩
 ·intro s _ hdec;simp only;rw[hdec,Ql];exact .some rfl
def R6{n:ar}(h:cO n)(hs:1<=n.aH/\n.aH<=1000000):lD n=some true:=by
 have hlen:=h.len;unfold lD uF;simp only[etas,ZU h.ask.v0 h.ask.v1,de h.ask.aN,OV h.dy,OV h.eM,OV h.kS,abz h];rw[Qg h.ask.s0,Qg h.ask.s1,Qg h.ask.r1,Qg h.ask.r2,Qg hs.1,Qg hs.2,Qh (by have:=h.own;omega:¬(200:Int)<((n.nc.size:Nat):Int))]
 simp only[Ql,Qk,Qa,decide_true,Qo];refine Yd.eq_true ?_;refine Yd.list n.au (by omega) (λi (_:Unit)=>(i,())) (λ_ _=>True) ?_ ?_ (s:=()) trivial
 ·intro i m s _ hd hm hi hdec hx hadd;obtain⟨hm1,hm2⟩:=h.heard m hm;simp only[aR];rw[hdec,Qk,hx,Qa,hadd];simp only[az.eta];rw[YB hm1,Qa,Qh hm2];simp only[Qo,Ql]
  by_cases h0:i=0
  ·subst h0;rw[Qh (by omega:¬(0:Int)<((0:Nat):Int))]
   exact .some ⟨(),rfl,trivial⟩
  ·rw[Qg (by omega:(0:Int)<(i:Int))]
   simp only[Qk];have hsub:cW .i64 (i:Int) 1=((i - 1:Nat):Int):=by rw[nY (by omega) (by omega)];omega
   have hi1:i - 1<n.au.length:=by omega
   rw[hsub,bd,Qv hi1,Qa]
   have hyi:m=n.au[i]:=by rw[bd,Qv hi]at hx;exact(Option.some.inj hx).symm
   have hlt:n.au[i - 1].al<m.al:=by rw[hyi];exact List.pairwise_iff_getElem.1 h.dn (i - 1) i hi1 hi (by omega)
   rw[Qh (by omega:¬m.al<=n.au[i - 1].al)]
   exact .some ⟨(),rfl,trivial⟩
 ·intro s _ hdec;simp only;rw[hdec,Ql];exact .some rfl
def ahP{t:dg}(ht:xn t):BX t=some true:=Vr ht
def Ei{nd sl k:Int}{x:aJ}(h:se nd sl k x)(hk:k<=999999):nL x=some true:=by
 have p:=h.pre;obtain⟨b,f,hb⟩:=eqT (a:=x.aA.aa) (b:=x.ab.aa) p.lS.ask.aN.sm;have hbt:=hb.2 p.aN;subst hbt;unfold nL;simp only[etas,BO p.hZ p.jB,R6 p.lS ⟨p.oF.1,by have:=p.oF.2;omega⟩,f,ahP p.timer,No p.hZ p.jB,Qa,Qk]
 rw[Qg (p.rJ.trans p.aF.symm),Qg (p.xc.trans p.aK.symm),Qg p.round.1,Qg p.round.2,Qg p.next.1,Qg p.next.2,Qg h.done,Qg h.value]
 rfl
def wI(l:List ByteArray)(h:l.length<=1000):bR l=some l:=by
 unfold bR;have hk:bg 16 (([]:List ByteArray).length+l.length)=true:=bz ⟨by simp;omega,by simp;omega⟩
 rw[hk]
 cases l with
 |nil|cons x l=>simp
def Yz{t:aj}(h:cQ t):nQ t=some t:=(show nQ t=ec t from rfl).trans (jm h)
def TJ{m:az}(ht:cQ m.aa)(hv:m.bm.length<=1000)(ha:m.aG.length<=1000):l9 m=some m:=by unfold l9;simp only[etas,Yz ht,wI _ hv,wI _ ha,Qa]
def VF{m:az}(ht:cQ m.aa)(hv:m.bm.length<=1000)(ha:m.aG.length<=1000):mL m=some m:=by unfold mL;simp only[etas,jm ht,wI _ hv,wI _ ha,Qa]
end
section
def aiT{rec:(aj×Unit)->Option aj}{t:aj}(hm:cQ t)(hr:∀u∈t.aO,rec (u,())=some u):nX rec t=some t:=by
 have hn:=hm.nodes;have hi:=hm.len;unfold nX;rw[bz ⟨by omega,by omega⟩,Qk]
 simp only[etas]
 have:=Yd.list (p:=λr=>r=t) (step:=λ(v1:Int×aj×(List Int)×(List aj)×Unit)=>
   bif (decide (v1.1<((List.length t.aO:Nat):Int)))then
   Option.bind (idx t.aO v1.1) λx2=>
   Option.bind (rec (x2,())) λr3=>
   bif bg 56 (List.length v1.2.2.2.1+List.length [r3])then
   some (inl ((aB .i64 v1.1 (1:Int)),(aj.mk v1.2.1.aI ([]:List Int) ([]:List aj)),v1.2.2.1,(v1.2.2.2.1++[r3]),()))
   else none
   else
   Option.map inr (some (aj.mk v1.2.1.aI v1.2.2.1 v1.2.2.2.1))) t.aO hi (λi (s:List aj)=>(i,(aj.mk t.aI [] []),t.bb,s,())) (λi s=>s=t.aO.take i) ?_ ?_ (s:=[]) (by simp)
 ·obtain⟨r,h1,rfl⟩:=this;exact h1
 ·rintro i x s rfl hd hx' hi' hdec hx hadd;have hi2:t.aO[i]?=some x:=by rw[bd]at hx;exact hx
  simp only;rw[hdec,Qk,hx,Qa,hr x hx',Qa,hadd,bz ⟨by simp;omega,by simp;omega⟩,Qk]
  refine .some ⟨_,rfl,?_⟩;rw[List.take_add_one,hi2];rfl
 ·rintro s rfl hdec;simp only;rw[hdec,Ql,Qq62];exact .some (aj.eta t)
def aiO{n:Nat}:∀{t:aj},SizeOf.sizeOf t<n->cQ t->wP n (t,())=some t:=by
 induction n with
 |zero=>intro t h;omega
 |succ n ih=>intro t hz hm;show nX (wP n) t=some t;exact aiT hm λu hu=>ih (t:=u) (by have:=qt hu;omega) (hm.inner u hu)
def VG{t:aj}(h:cQ t):su t=some t:=aiO (by omega) h
end
section
def ajJ{n:Nat}(h:n<4611686018427387904):br .u64 (n:Int)=n:=by unfold br IntKind.wrap;simp[IntKind.signed,IntKind.bits];omega
def ah9{i j:Nat}(hi:i<=1000000)(hj:j<=1000000):br .i64 (jP .u64 (br .u64 (aB .i64 (i:Int) (j:Int))) (1:Int))=(((i+j) / 2:Nat):Int):=by
 have h1:aB .i64 (i:Int) (j:Int)=((i+j:Nat):Int):=bG (by omega) (by omega)
 have h4:jP .u64 (((i+j:Nat)):Int) (1:Int)=(((i+j) / 2:Nat):Int):=by
  show(((i+j:Nat)):Int).fdiv 2=_;rw[Int.fdiv_eq_ediv_of_nonneg _ (by decide)]
  exact(Int.natCast_ediv (i+j) 2).symm
 rw[h1,ajJ (by omega),h4]
 exact D5 _ (by omega)
def Iz{α ρ:Type}(l:List α)(hl:l.length<=1000000)(P:α->Bool)(hp:l.Pairwise λa b=>P b=true->P a=true){step:Int×Int×Unit->Option ((Int×Int×Unit)⊕ρ)}{fin:Nat->Option ρ}
  (h1:∀(i j m:Nat) (x:α),decide ((i:Int)<(j:Int))=true->j<=l.length->br .i64 (jP .u64 (br .u64 (aB .i64 (i:Int) (j:Int))) (1:Int))=(m:Int)->aB .i64 (m:Int) 1=((m+1:Nat):Int)->idx l (m:Int)=some x->step ((i:Int),(j:Int),())=some (.inl (bif P x then(((m+1:Nat):Int),(j:Int),())else((i:Int),(m:Int),()))))
  (h2:∀i:Nat,decide ((i:Int)<(i:Int))=false->i<=l.length->step ((i:Int),(i:Int),())=Option.map inr (fin i)):
  aE step ((0:Int),(l.length:Int),())=fin (l.takeWhile P).length:=by
 have htw:∀(l:List α),(l.Pairwise λa b=>P b=true->P a=true)->∀i x,l[i]?=some x->(P x=true↔i<(l.takeWhile P).length):=by
  intro l
  induction l with
  |nil=>intro _ i x h;simp at h
  |cons y l ih=>
   intro hp i x h;rw[Q4]at hp
   cases hy:P y with
   |false=>
    rw[List.takeWhile_cons,hy];simp only[Qq,Qu,QZ,Nat.not_lt_zero,iff_false]
    cases i with
    |zero=>simp only[List.getElem?_cons_zero,Qf]at h;rw[<-h,hy];simp
    |succ i=>
     intro hx;have:=hp.1 x (Q8 (by simpa using h)) hx
     rw[hy]at this;cases this
   |true=>
    rw[List.takeWhile_cons,hy];simp only[Qt,QE]
    cases i with
    |zero=>simp only[List.getElem?_cons_zero,Qf]at h;rw[<-h,hy];simp
    |succ i=>
     rw[ih hp.2 i x (by simpa using h)]
     omega
 have hk:(l.takeWhile P).length<=l.length:=(List.takeWhile_sublist P).length_le
 suffices key:∀(d i j:Nat),j=i+d->j<=l.length->i<=(l.takeWhile P).length->(l.takeWhile P).length<=j->aE step ((i:Int),(j:Int),())=fin (l.takeWhile P).length from key l.length 0 l.length (by omega) (QI _) (by omega) hk
 intro d
 induction d using Nat.strongRecOn with
 |_ d ih=>
  intro i j hij hjl hi hj
  by_cases h0:d=0
  ·obtain rfl:j=i:=by omega
   obtain rfl:(l.takeWhile P).length=j:=by omega
   rw[fg,h2 _ (Qh (Qq64 _)) hjl];cases fin (l.takeWhile P).length<;>rfl
  ·have hm:(i+j) / 2<l.length:=by omega
   have hs:=h1 i j ((i+j) / 2) l[(i+j) / 2] (Qg (by omega)) hjl (ah9 (by omega) (by omega)) (bG (by omega) (by omega)) (by rw[bd];exact Qv hm)
   have ht:=htw l hp _ _ (Qv hm)
   cases hP:P l[(i+j) / 2]with
   |true=>rw[hP]at hs;have:=ht.1 hP;exact(bA hs).trans (ih (j - ((i+j) / 2+1)) (by omega) _ _ (by omega) hjl (by omega) hj)
   |false=>
    rw[hP]at hs;have:¬(i+j) / 2<(l.takeWhile P).length:=λe=>by rw[ht.2 e]at hP;cases hP
    exact(bA hs).trans (ih ((i+j) / 2 - i) (by omega) _ _ (by omega) (by omega) hi (by omega))
def KI{a b:ByteArray}:decide (xO a b=0)=decide (a=b):=by
 rw[decide_eq_decide];constructor
 ·intro h;have h1:bQ a b=false:=by rw[<-wG,h];rfl
  refine jA.total a b h1 ?_;unfold xO at h;unfold bQ
  by_cases hs:a.size=b.size
  ·rw[Qr ((wH _ _).2 (by rw[hs]))]at h
   rw[Qr hs.symm];unfold N6 at h;split at h
   ·cases h
   ·split at h
    ·rename_i h2 h3;simp only[Qn,Qi]at h3;rcases h3 with h3|rfl
     ·exact absurd h3 h2
     ·exact D8 _
    ·cases h
  ·rw[Qs (λe=>hs (by have:=(wH _ _).1 e;omega))]at h
   exact absurd ((wH _ _).1 h) (by omega)
 ·rintro rfl;unfold xO;rw[Qr ((wH _ _).2 rfl)];unfold N6;rw[Qs (by rw[D8];simp)]
  simp
def abX{l:List ByteArray}{a:Nat}(ha:a<=l.length)(h:l.length<=1000)(x:ByteArray):jg l (a:Int) [x]=some (l.take a++[x]++l.drop a):=by
 unfold jg C1;rw[Qg (by omega:(0:Int)<=(a:Int)),Qg (by omega:(a:Int)<=(l.length:Int)),mg (by omega) (by simp;omega)]
 rfl
def Cm{α:Type}(P:α->Bool):∀(l:List α),(∀j,j<(l.takeWhile P).length->∃y,l[j]?=some y/\P y=true)/\(∀y,l[(l.takeWhile P).length]?=some y->P y=false)
 |[]=>⟨λj h=>by simp at h,λy h=>by simp at h⟩
 |x::l=>by
  obtain⟨h1,h2⟩:=Cm P l
  cases hx:P x with
  |false=>rw[List.takeWhile_cons,hx];simp only[Qq,Qu,QZ];exact⟨λj h=>by omega,λy h=>by simp only[List.getElem?_cons_zero,Qf]at h;rw[<-h];exact hx⟩
  |true=>
   rw[List.takeWhile_cons,hx];simp only[Qt,QE];refine⟨λj h=> ?_,λy h=>h2 y (by simpa using h)⟩
   cases j with
   |zero=>exact⟨x,rfl,hx⟩
   |succ j=>obtain⟨y,g1,g2⟩:=h1 j (by omega);exact⟨y,by simpa using g1,g2⟩
def M3{α:Type}(P:α->Bool)(l:List α):(l.takeWhile P).length<=l.length:=(List.takeWhile_sublist P).length_le
def ajj{l:List ByteArray}(h:VL l)(x:ByteArray):dG l x=some ((((l.takeWhile λy=>bQ y x).length:Nat):Int),decide (x∈l),()):=by
 have hl:=h.len;unfold dG;refine(Iz l h.wg (λy=>bQ y x) (h.Hd.imp λ{a b} hab hb=>jA.trans _ _ _ hab hb) (fin:=λk=>some (((k:Nat):Int),decide (l[k]?=some x),())) (λi j m y hd hj hm hadd hx=> ?_) (λi hd hi=> ?_)).trans ?_
 ·simp only[hd,hm,hadd,hx,Eh,wG,Qa,Qk];cases bQ y x<;>rfl
 ·simp only[hd,Ql]
  by_cases hi2:i<l.length
  ·rw[Qg (by omega:(i:Int)<(l.length:Int))]
   simp only[Qk,bd,Qv hi2,Qa,Eh,KI,Qe,Qf]
  ·rw[Qh (by omega:¬(i:Int)<(l.length:Int)),Qq72 (by omega)]
   rfl
 ·obtain⟨h1,h2⟩:=Cm (λy=>bQ y x) l
  congr 3;rw[decide_eq_decide];constructor
  ·exact Q8
  ·intro hm;obtain⟨i,hi⟩:=List.getElem?_of_mem hm;have hi':i<l.length:=(Qw.1 hi).1
   have hk:(l.takeWhile λy=>bQ y x).length=i:=by
    rcases Nat.lt_trichotomy (l.takeWhile λy=>bQ y x).length i with g|g|g
    ·have hk:(l.takeWhile λy=>bQ y x).length<l.length:=by omega
     have:=h2 _ (Qv hk);have h3:=List.pairwise_iff_getElem.1 h.Hd _ i hk hi' g;rw[(Qw.1 hi).2,this]at h3;cases h3
    ·exact g
    ·obtain⟨y,g1,g2⟩:=h1 i g;rw[hi]at g1;cases g1;rw[jA.irrefl]at g2;cases g2
   rw[hk];exact hi
def ZT{l:List ByteArray}(h:VL l)(x:ByteArray):iq l x=some (mN l x):=by
 have hl:=h.len;unfold iq mN;rw[ajj h x,Qa]
 by_cases hx:x∈l
 ·rw[Qg hx,Qr (.inl hx)];rfl
 by_cases h40:40<=l.length
 ·rw[Qh hx,Qg (by omega:(40:Int)<=(l.length:Int)),Qr (.inr h40)];rfl
 rw[Qh hx,Qh (by omega:¬(40:Int)<=(l.length:Int)),Qs (λe=>e.elim hx h40)]
 simp only[Ql,Qa,wI l (by omega)]
 rw[abX (M3 _ _) (by omega),Qa]
 obtain⟨h1,h2⟩:=Cm (λy=>bQ y x) l
 rw[SE x l _ h1 h2,Qs (λe=>hx (Q8 e))]
 simp
def Zj(a b:List ByteArray):List ByteArray:=b.foldl (λl x=>dV bQ x l) a
def afn{a:List ByteArray}(ha:a.Pairwise (λx y=>bQ x y=true))(b:List ByteArray):(Zj a b).Pairwise (λx y=>bQ x y=true)/\∀x,x∈Zj a b↔x∈b\/x∈a:=Kr jA b a ha
def acS(a b:List ByteArray):(Zj a b).length<=a.length+b.length:=PL b a
def FU(m:az):List ByteArray:=m.bm++m.aG
def rF(L:List az):List ByteArray:=Zj [] (L.flatMap FU)
def Ho(L:List az):(rF L).Pairwise (λx y=>bQ x y=true)/\∀x,x∈rF L↔∃m∈L,x∈m.bm\/x∈m.aG:=by
 obtain⟨h1,h2⟩:=afn (a:=[]) List.Pairwise.nil (L.flatMap FU);refine⟨h1,λx=> ?_⟩
 rw[rF,h2];simp[FU]
def M5{l:List ByteArray}(L:List az)(h1:l.Pairwise (λx y=>bQ x y=true))(h2:∀x,x∈l↔∃m∈L,x∈m.bm\/x∈m.aG):l=rF L:=
 jA.unique h1 (Ho L).1 λx=>by rw[h2,(Ho L).2]
def SN{L:List az}(h:∀m∈L,VL m.bm/\VL m.aG):(L.flatMap FU).length<=80*L.length:=by
 induction L with
 |nil=>simp
 |cons m L ih=>
  have h1:=ih λx hx=>h x (Qy _ hx)
  have h2:=(h m Qx).1.len;have h3:=(h m Qx).2.len;simp only[List.flatMap_cons,QB,FU,QE]at h1 ⊢;omega
def Tf{L:List az}(h:∀m∈L,VL m.bm/\VL m.aG):(rF L).length<=80*L.length:=by have h1:=acS [] (L.flatMap FU);have h2:=SN h;rw[rF];simp only[QZ]at h1;omega
def ahZ{L:List az}(h:∀m∈L,VL m.bm/\VL m.aG)(hl:L.length<=100):mX L=some (rF L):=by
 have hf:=SN h
 have hsort:∀s:List ByteArray,s.length<1000000->(∀x,x∈s↔∃m∈L,x∈m.bm\/x∈m.aG)->(Option.bind (fZ s) λp3=>Option.bind (eR p3.2) λr4=>some r4)=some (rF L):=by
  intro s hs hmem;obtain⟨t,h1,h2,h3,h4⟩:=jA.Zn (cmp:=λx y=>fp x y) Eh (λx y=>wG x y) s (by omega)
  have hc:=DJ (eq:=λx y:ByteArray=>decide (x=y)) (ne:=λx y=> !decide (x=y)) (z:=bE) (λ_ _=>rfl) (λ_ _=>rfl) t (by omega)
  have h1':fZ s=some ((),t):=h1;have hc':eR t=some (dd t):=hc;rw[h1',Qa,hc',Qa,M5 L h3 (λx=>by rw[h4,hmem])]
 unfold mX
 suffices key:Yd (aE _ ((0:Int),([]:List ByteArray),())) λr=>r=rF L by obtain⟨r,h1,rfl⟩:=key;exact h1
 refine Yd.list L (by omega) (λi (s:List ByteArray)=>(i,s,())) (λi s=>s=(L.take i).flatMap FU) ?_ ?_ (s:=[]) (by simp)
 ·rintro i m s rfl hd hm hi hdec hx hadd;have hi2:L[i]?=some m:=by rw[bd]at hx;exact hx
  have e:L.take (i+1)=L.take i++[m]:=by rw[List.take_add_one,hi2];rfl
  have hlen:((L.take i).flatMap FU).length<=80*100:=QK (SN λx hx=>h x (Q1 hx)) (Nat.mul_le_mul_left _ (by rw[List.length_take];omega))
  have l1:=(h m hm).1.len;have l2:=(h m hm).2.len;simp only;rw[hdec,Qk,hx,Qa,hadd,mg (by omega) (by omega),Qk,mg (by omega) (by rw[QB];omega),Qk]
  refine .some ⟨_,rfl,?_⟩;rw[e,List.flatMap_append];simp[FU]
 ·rintro s rfl hdec;rw[Qq62];simp only;rw[hdec,Ql,hsort _ (by omega) (λx=>by simp[FU])]
  exact .some rfl
def Li{a b:List ByteArray}(ha:a.Pairwise (λx y=>bQ x y=true))(hb:b.Pairwise (λx y=>bQ x y=true))(h:a.length+b.length<=100000):
  Yd (jy a b) λr=>r.Pairwise (λx y=>bQ x y=true)/\(∀x,x∈r↔x∈a\/x∈b)/\r.length<=a.length+b.length:=by
 unfold jy;simp only[aR];refine Yd.FG (λ(v:Int×Int×List ByteArray×Unit)=>∃i k:Nat,v.1=i/\v.2.1=k/\i<=a.length/\k<=b.length/\v.2.2.1.length<=i+k/\v.2.2.1.Pairwise (λx y=>bQ x y=true)/\(∀x,x∈v.2.2.1↔x∈a.take i\/x∈b.take k)/\(∀x∈v.2.2.1,(∀y∈a.drop i,bQ x y=true)/\∀y∈b.drop k,bQ x y=true)) (λv=>a.length+b.length - (v.1.toNat+v.2.1.toNat)) ?_ ⟨0,0,rfl,rfl,by omega,by omega,by simp,List.Pairwise.nil,by simp,λx hx=>absurd hx QR⟩
 rintro⟨i',k',out,u⟩ ⟨i,k,e1,e2,hi,hk,hlen,hpw,hmem,hlt⟩;simp only at e1 e2 hlen hpw hmem hlt;subst e1 e2;have kk:∀x:ByteArray,bg 16 (out.length+[x].length)=true:=λx=>bz ⟨by simp only[Q6];omega,by simp only[Q6];omega⟩
 have hi1:aB .i64 (i:Int) 1=((i+1:Nat):Int):=bG (by omega) (by omega)
 have hk1:aB .i64 (k:Int) 1=((k+1:Nat):Int):=bG (by omega) (by omega)
 have ga:∀h:i<a.length,idx a (i:Int)=some a[i]:=λh=>by rw[bd];exact Qv h
 have gb:∀h:k<b.length,idx b (k:Int)=some b[k]:=λh=>by rw[bd];exact Qv h
 have tail:∀{l:List ByteArray} (hp:l.Pairwise (λx y=>bQ x y=true)) {j:Nat} (hj:j<l.length),∀y∈l.drop (j+1),bQ l[j] y=true:=by intro l hp j hj;have:=hp.sublist (List.drop_sublist j l);rw[QM hj,Q4]at this;exact this.1
 have fin1:∀(x:ByteArray) (j1 j2:Nat),j1<=a.length->j2<=b.length->i<=j1->k<=j2->i+k<j1+j2->(∀y,(y∈a.take j1\/y∈b.take j2)↔y=x\/y∈a.take i\/y∈b.take k)->(x∈a.drop i\/x∈b.drop k)->(∀y∈a.drop j1,bQ x y=true)->(∀y∈b.drop j2,bQ x y=true)->Yd (bif bg 16 (out.length+[x].length)then some (inl (((j1:Nat):Int),((j2:Nat):Int),(out++[x]),()))else(none:Option ((Int×Int×List ByteArray×Unit)⊕List ByteArray)))
   (Lp (λs'=>(∃i k:Nat,s'.1=i/\s'.2.1=k/\i<=a.length/\k<=b.length/\s'.2.2.1.length<=i+k/\s'.2.2.1.Pairwise (λx y=>bQ x y=true)/\(∀x,x∈s'.2.2.1↔x∈a.take i\/x∈b.take k)/\(∀x∈s'.2.2.1,(∀y∈a.drop i,bQ x y=true)/\∀y∈b.drop k,bQ x y=true))/\a.length+b.length - (s'.1.toNat+s'.2.1.toNat)<a.length+b.length - ((i:Int).toNat+(k:Int).toNat)) (λr=>r.Pairwise (λx y=>bQ x y=true)/\(∀x,x∈r↔x∈a\/x∈b)/\r.length<=a.length+b.length)):=by
  intro x j1 j2 h1 h2 h3 h4 h5 hm hxi hx1 hx2;rw[kk x,Qk];refine .some ⟨⟨j1,j2,rfl,rfl,h1,h2,?_,?_,λy=> ?_,λy hy=> ?_⟩,?_⟩
  ·simp only[QB,Q6];omega
  ·rw[Qq69];refine⟨hpw,List.pairwise_singleton _ _,λy hy z hz=> ?_⟩
   rw[Q5.1 hz];exact hxi.elim ((hlt y hy).1 x) ((hlt y hy).2 x)
  ·rw[Qz,Q5,hmem,hm];exact or_comm
  ·rcases Qz.1 hy with hy|hy
   ·refine⟨λz hz=>(hlt y hy).1 z ?_,λz hz=>(hlt y hy).2 z ?_⟩
    ·rw[show j1=i+(j1 - i)by omega,<-List.drop_drop]at hz
     exact Q2 hz
    ·rw[show j2=k+(j2 - k)by omega,<-List.drop_drop]at hz
     exact Q2 hz
   ·rw[Q5.1 hy];exact⟨hx1,hx2⟩
  ·simp only[QV];omega
 have ta:∀(h:i<a.length) (y:ByteArray),y∈a.take (i+1)↔y=a[i]\/y∈a.take i:=λh y=>by rw[Q7 h,Qz,Q5];exact or_comm
 have tb:∀(h:k<b.length) (y:ByteArray),y∈b.take (k+1)↔y=b[k]\/y∈b.take k:=λh y=>by rw[Q7 h,Qz,Q5];exact or_comm
 have da:∀h:i<a.length,a[i]∈a.drop i:=λh=>by rw[QM h];exact Qx
 have db:∀h:k<b.length,b[k]∈b.drop k:=λh=>by rw[QM h];exact Qx
 simp only
 by_cases c1:i<a.length
 ·rw[Qg (by omega:(i:Int)<(a.length:Int))]
  simp only[Qk,Qa]
  by_cases c2:k=b.length
  ·rw[Qg (by omega:(k:Int)=(b.length:Int)),ga c1,hi1]
   simp only[Qk,Qa];refine fin1 a[i] (i+1) k (by omega) hk (by omega) (by omega) (by omega) (λy=>by rw[ta c1,or_assoc]) (.inl (da c1)) (tail ha c1) ?_
   rw[c2,Qq66];exact λy hy=>absurd hy QR
  ·have c3:k<b.length:=by omega
   rw[Qh (by omega:¬(k:Int)=(b.length:Int)),ga c1,gb c3,Qh (by omega:¬(i:Int)=(a.length:Int))]
   simp only[Ql,Qa,Bs,FJ,KJ,hi1,hk1]
   cases hxy:bQ a[i] b[k]with
   |true=>
    refine fin1 a[i] (i+1) k (by omega) hk (by omega) (by omega) (by omega) (λy=>by rw[ta c1,or_assoc]) (.inl (da c1)) (tail ha c1) λy hy=> ?_
    rw[QM c3]at hy;rcases QA.1 hy with rfl|hy
    ·exact hxy
    ·exact jA.trans _ _ _ hxy (tail hb c3 y hy)
   |false=>
    cases hyx:bQ b[k] a[i]with
    |true=>
     refine fin1 b[k] i (k+1) hi (by omega) (by omega) (by omega) (by omega) (λy=>by rw[tb c3,or_left_comm]) (.inr (db c3)) (λy hy=> ?_) (tail hb c3)
     rw[QM c1]at hy;rcases QA.1 hy with rfl|hy
     ·exact hyx
     ·exact jA.trans _ _ _ hyx (tail ha c1 y hy)
    |false=>
     have he:a[i]=b[k]:=jA.total _ _ hxy hyx;refine fin1 a[i] (i+1) (k+1) (by omega) (by omega) (by omega) (by omega) (by omega) (λy=> ?_) (.inl (da c1)) (tail ha c1) (by rw[he];exact tail hb c3)
     rw[ta c1,tb c3,<-he];constructor
     ·rintro((h|h)|(h|h))
      ·exact .inl h
      ·exact .inr (.inl h)
      ·exact .inl h
      ·exact .inr (.inr h)
     ·rintro(h|h|h)
      ·exact .inl (.inl h)
      ·exact .inl (.inr h)
      ·exact .inr (.inr h)
 ·rw[Qh (by omega:¬(i:Int)<(a.length:Int))]
  simp only[Ql];have ci:i=a.length:=by omega
  by_cases c2:k<b.length
  ·rw[Qg (by omega:(k:Int)<(b.length:Int)),Qh (by omega:¬(k:Int)=(b.length:Int)),gb c2,Qg (by omega:(i:Int)=(a.length:Int))]
   simp only[Ql,Qk,Qa,hk1];refine fin1 b[k] i (k+1) hi (by omega) (by omega) (by omega) (by omega) (λy=>by rw[tb c2,or_left_comm]) (.inr (db c2)) (λy hy=> ?_) (tail hb c2)
   rw[ci,Qq66]at hy;exact absurd hy QR
  ·rw[Qh (by omega:¬(k:Int)<(b.length:Int))]
   simp only[Ql,Qa];refine .some ⟨hpw,λx=> ?_,by omega⟩
   rw[hmem,ci,Qq62,show k=b.length by omega,Qq62]
def afx{m:az}(h:VL m.bm/\VL m.aG):jy m.bm m.aG=some (rF [m]):=by
 have l1:=h.1.len;have l2:=h.2.len;obtain⟨r,h1,h2,h3,_⟩:=Li h.1.Hd h.2.Hd (by omega)
 rw[h1,M5 [m] h2 (λx=>by rw[h3];simp)]
end
section
def vS(n:ar):az:=⟨n.al,n.aH,n.aa,n.bm,n.aG⟩
def YD(b:Bool)(s:Nat)(k:Int):Nat:=if b then s|||2 ^ k.toNat else s
def abA{b:Bool}{s:Nat}{k:Int}(h:s<1024)(hk:k<10):YD b s k<1024:=by
 unfold YD;split
 ·exact B2 h hk
 ·exact h
def Hw(x:ByteArray)(s:Nat×Nat)(m:az):Nat×Nat:=(YD (decide (x∈m.bm)) s.1 m.al,YD (decide (x∈m.aG)) s.2 m.al)
def lu(L:List az)(x:ByteArray):Nat×Nat:=L.foldl (Hw x) (0,0)
def RA(L:List az):Prop:=L.length<=100/\∀m∈L,0<=m.al/\m.al<10/\VL m.bm/\VL m.aG
def Tk{x:ByteArray}:∀{L:List az} (h:∀m∈L,0<=m.al/\m.al<10/\VL m.bm/\VL m.aG) {s:Nat×Nat},s.1<1024->s.2<1024->(L.foldl (Hw x) s).1<1024/\(L.foldl (Hw x) s).2<1024
 |[],_,s,h1,h2=>⟨h1,h2⟩
 |m::L,h,s,h1,h2=>by obtain⟨_,g,_⟩:=h m Qx;exact Tk (L:=L) (λy hy=>h y (Qy _ hy)) (abA h1 g) (abA h2 g)
def Cn{L:List az}(h:RA L)(x:ByteArray):(lu L x).1<1024/\(lu L x).2<1024:=Tk h.2 (by decide) (by decide)
def Ot{L:List az}(h:RA L)(x:ByteArray){step:Int×Int×Int×Unit->Option ((Int×Int×Int×Unit)⊕(Int×Int×Unit))}
  (h1:∀(i a b:Nat) (m:az),decide ((i:Int)<(L.length:Int))=true->idx L (i:Int)=some m->L[toNat (i:Int)]?=some m->aB .i64 (i:Int) 1=((i+1:Nat):Int)->0<=m.al->m.al<10->VL m.bm->VL m.aG->a<1024->b<1024->step ((a:Int),(b:Int),(i:Int),())=some (.inl (((Hw x (a,b) m).1:Int),((Hw x (a,b) m).2:Int),((i+1:Nat):Int),())))
  (h2:∀a b:Nat,decide ((L.length:Int)<(L.length:Int))=false->step ((a:Int),(b:Int),(L.length:Int),())=Option.map inr (some ((a:Int),(b:Int),()))):
  aE step ((0:Int),(0:Int),(0:Int),())=some (((lu L x).1:Int),((lu L x).2:Int),()):=by
 suffices key:Yd (aE step ((0:Int),(0:Int),(0:Int),())) λr=>r=(((lu L x).1:Int),((lu L x).2:Int),())by obtain⟨r,g,rfl⟩:=key;exact g
 refine Yd.list L (by have:=h.1;omega) (λi (s:Int×Int)=>(s.1,s.2,i,())) (λi s=>s=(((lu (L.take i) x).1:Int),((lu (L.take i) x).2:Int))) ?_ ?_ (s:=(0,0)) rfl
 ·rintro i m s rfl hd hm hi hdec hx hadd;obtain⟨g0,g1,gv,ga⟩:=h.2 m hm;have hlt:=Cn (L:=L.take i) ⟨by rw[List.length_take];have:=h.1;omega,λy hy=>h.2 y (Q1 hy)⟩ x
  have e:L.take (i+1)=L.take i++[m]:=by rw[List.take_add_one,show L[i]?=some m by rw[bd]at hx;exact hx];rfl
  refine .of_eq (h1 i _ _ m hdec hx (SI hx) hadd g0 g1 gv ga hlt.1 hlt.2) ⟨(_,_),rfl,?_⟩;rw[e];simp only[lu,List.foldl_append,QU,List.foldl_nil]
 ·rintro s rfl hdec;rw[Qq62];exact .of_eq (h2 _ _ hdec) rfl
def Rm{b:Bool}{s:Nat}{k:Int}(h:s<1024)(h0:0<=k)(h1:k<10):(if b then sO .i64 (s:Int) (bX .i64 (1:Int) k)else(s:Int))=((YD b s k:Nat):Int):=by
 cases b with
 |true=>simp only[Qt,YD];exact ra h h0 h1
 |false=>rfl
def YA{L:List az}(h:RA L)(x:ByteArray):gz L x=some (((lu L x).1:Int),((lu L x).2:Int),()):=by
 unfold gz;refine Ot h x (λi a b m hd hx hx2 hadd g0 g1 gv ga ha hb=> ?_) (λa b hd=> ?_)
 ·have e1:=Rm (b:=decide (x∈m.bm)) ha g0 g1;have e2:=Rm (b:=decide (x∈m.aG)) hb g0 g1;simp only[hd,hx,hadd,Qk,Qa,aR,ZV _ gv.wg,ZV _ ga.wg,Hw,<-e1,<-e2,Qs (show¬m.al<0 by omega)]
  cases decide (x∈m.bm)<;>cases decide (x∈m.aG)<;>rfl
 ·simp only[hd,Ql]
def cO.said{n:ar}(h:cO n):RA (n.au++[vS n]):=⟨by have:=h.len;simp;omega,Ov h⟩
def Yq{n:ar}(h:cO n)(x:ByteArray):kV n x=some (((lu (n.au++[vS n]) x).1:Int),((lu (n.au++[vS n]) x).2:Int),()):=by
 have hlen:=h.len;unfold kV Ck;simp only[etas,Qa,aR];rw[mg (by omega) (by simp;omega),Qk,mg (by omega) (by simp;omega),Qk]
 simp only[List.nil_append];refine Ot h.said x (λi a b m hd hx hx2 hadd g0 g1 gv ga ha hb=> ?_) (λa b hd=> ?_)
 ·have e1:=Rm (b:=decide (x∈m.bm)) ha g0 g1;have e2:=Rm (b:=decide (x∈m.aG)) hb g0 g1;show(λ_=>_) _=_
  unfold vS at hd hx hx2;simp only[hd,hx,hx2,hadd,Qk,Qa,JM _ gv.wg,JM _ ga.wg,Hw,<-e1,<-e2,Qs (show¬m.al<0 by omega)]
  cases decide (x∈m.bm)<;>cases decide (x∈m.aG)<;>rfl
 ·unfold vS at hd ⊢;simp only[hd,Ql]
def HU(m:az):cI:=⟨m.al,m.aH,m.aa,[],[]⟩
def Hz(l:List bh)(m:cI):List bh:=l.set m.al.toNat ⟨true,m.aa⟩
def oT(n:ar):List bh:=((n.au.map HU).foldl Hz (replicate 10 ⟨false,uK⟩)).set n.al.toNat ⟨true,n.aa⟩
structure CP (m:cI):Prop where
 n0:0<=m.al
 n1:m.al<10
 seq:1<=m.aH
 aN:c5 m.aa
 dy:m.bm=[]
 eM:m.aG=[]
def wN.msg{m:az}(h:wN m):CP (HU m):=⟨h.n0,h.n1,h.seq,h.aN,rfl,rfl⟩
def afC{m:cI}(h:CP m):rC m=some true:=by
 have hc:oO []=some true:=by unfold oO;exact bO rfl
 unfold rC;simp only[etas,h.dy,h.eM,hc,dx h.aN];rw[Qg h.n0,Qg h.n1,Qg h.seq];rfl
def afW{m:cI}(h:CP m):sZ m=some true:=by
 have hc:tT []=some true:=by unfold tT;exact bO rfl
 unfold sZ qI;simp only[etas,h.dy,h.eM,hc,de h.aN];rw[Qg h.n0,Qg h.n1,Qg h.seq];rfl
def Hy:∀{l:List cI} (h:∀m∈l,CP m) {r:List bh},tx r->tx (l.foldl Hz r)
 |[],_,r,hr=>hr
 |m::l,h,r,hr=>Hy (l:=l) (λy hy=>h y (Qy _ hy)) (hr.set _ (h m Qx).aN.sm)
def Zt:tx (replicate 10 ⟨false,uK⟩):=⟨by rw[List.length_replicate],λm hm=>by rw[(List.mem_replicate.1 hm).2];exact O9⟩
def Vg{l:List cI}(h:∀m∈l,CP m)(hl:l.length<=1000){fin:List bh->Option bf}{step:Int×bf×List bh×Unit->Option ((Int×bf×List bh×Unit)⊕bf)}
  (h1:∀(i:Nat) (m:cI) (s:List bh) (y:bh),decide ((i:Int)<(l.length:Int))=true->idx l (i:Int)=some m->aB .i64 (i:Int) 1=((i+1:Nat):Int)->m∈l->CP m->idx s m.al=some y->s[m.al.toNat]?=some y->step ((i:Int),bf.mk [],s,())=some (.inl (((i+1:Nat):Int),bf.mk [],Hz s m,())))
  (h2:∀s,decide ((l.length:Int)<(l.length:Int))=false->tx s->step ((l.length:Int),bf.mk [],s,())=Option.map inr (fin s)):
  aE step ((0:Int),bf.mk [],replicate 10 ⟨false,uK⟩,())=fin (l.foldl Hz (replicate 10 ⟨false,uK⟩)):=by
 suffices key:∀(k i:Nat),i+k=l.length->aE step ((i:Int),bf.mk [],(l.take i).foldl Hz (replicate 10 ⟨false,uK⟩),())=fin (l.foldl Hz (replicate 10 ⟨false,uK⟩))from key l.length 0 (by omega)
 intro k
 induction k with
 |zero=>
  intro i hi;obtain rfl:i=l.length:=by omega
  rw[Qq62,fg,h2 _ (Qh (Qq64 _)) (Hy h Zt)];cases fin (l.foldl Hz (replicate 10 ⟨false,uK⟩))<;>rfl
 |succ k ih=>
  intro i hi;have hlt:i<l.length:=by omega
  have hm:=h l[i] (Q0 hlt);obtain⟨y,g1,g2⟩:=(Hy (l:=l.take i) (λz hz=>h z (Q1 hz)) Zt).get hm.n0 hm.n1
  have hs:=h1 i l[i] _ y (Qg (by omega)) (by rw[bd];exact Qv hlt) (bG (by omega) (by omega)) (Q0 hlt) hm g1 g2
  refine(bA hs).trans ?_;have:=ih (i+1) (by omega)
  rw[Q7 hlt,List.foldl_append]at this;exact this
def U3:(decide ((10:Int)<=(10:Int))&&decide (0<=(10:Int))&&bg 64 (toNat (10:Int)))=true:=by rw[bz (by decide)];rfl
section
variable {v : Int} {t : aj} (h0 : 0 <= v) (h1 : v < 10) (ht : c5 t) {l : List cI} (hl : l.length <= 1000) (h : ∀ m ∈ l, CP m)
 include h0 h1 ht hl h
theorem ac9:qE v t l=some ⟨(l.foldl Hz (replicate 10 ⟨false,uK⟩)).set v.toNat ⟨true,t⟩⟩:=by
 unfold qE;rw[U3,Qk];simp only[etas,aR];refine(Vg h hl (fin:=λs=>some ⟨s.set v.toNat ⟨true,t⟩⟩) (λi m s y hd hx hadd hm hmo g1 g2=> ?_) (λs hd hr=> ?_)).trans rfl
 ·simp only[hd,hx,hadd,Qk,Qa,cI.eta,afC hmo,g1,g2];rfl
 ·obtain⟨x,g1,g2⟩:=hr.get h0 h1;have hr2:=hr.set v.toNat (m:=⟨false,⟨0,[],[]⟩⟩) O9;obtain⟨x2,k1,k2⟩:=hr2.get h0 h1;simp only[hd,Ql,Qg h0,Qg h1,Qk,Qa,g1,g2,dx ht,decide_true,k1,k2,List.set_set]
theorem adt(hne:∀m∈l,m.al≠v):qJ v t l=some ⟨(l.foldl Hz (replicate 10 ⟨false,uK⟩)).set v.toNat ⟨true,t⟩⟩:=by
 unfold qJ qI;rw[U3,Qk];simp only[etas,aR];refine(Vg h hl (fin:=λs=>some ⟨s.set v.toNat ⟨true,t⟩⟩) (λi m s y hd hx hadd hm hmo g1 g2=> ?_) (λs hd hr=> ?_)).trans rfl
 ·simp only[hd,hx,hadd,Qk,Qa,cI.eta,Qh (hne m hm),Qp,afW hmo,VG hmo.aN.sm,g1,g2];rfl
 ·obtain⟨x,g1,g2⟩:=hr.get h0 h1;simp only[hd,Ql,Qg h0,Qg h1,Qk,Qa,g1,g2,de ht,decide_true,VG ht.sm]
end
def TP{L:List az}(hl:L.length<=100){fin:List cI->Option bf}{step:Int×List cI×Unit->Option ((Int×List cI×Unit)⊕bf)}
  (h1:∀(i:Nat) (m:az) (s:List cI),decide ((i:Int)<(L.length:Int))=true->idx L (i:Int)=some m->aB .i64 (i:Int) 1=((i+1:Nat):Int)->s.length=i->step ((i:Int),s,())=some (.inl (((i+1:Nat):Int),s++[HU m],())))
  (h2:∀s,decide ((L.length:Int)<(L.length:Int))=false->step ((L.length:Int),s,())=Option.map inr (fin s)):
  aE step ((0:Int),[],())=fin (L.map HU):=by
 suffices key:∀(k i:Nat),i+k=L.length->aE step ((i:Int),(L.take i).map HU,())=fin (L.map HU)from key L.length 0 (by omega)
 intro k
 induction k with
 |zero=>
  intro i hi;obtain rfl:i=L.length:=by omega
  rw[Qq62,fg,h2 _ (Qh (Qq64 _))];cases fin (L.map HU)<;>rfl
 |succ k ih=>
  intro i hi;have hlt:i<L.length:=by omega
  have hs:=h1 i L[i] ((L.take i).map HU) (Qg (by omega)) (by rw[bd];exact Qv hlt) (bG (by omega) (by omega)) (by simp;omega)
  refine(bA hs).trans ?_;have:=ih (i+1) (by omega)
  rw[Q7 hlt,List.map_append]at this;exact this
section
variable {n : ar} (h : cO n)
 include h
theorem cO.adD:∀m∈n.au.map HU,CP m:=λm hm=>by obtain⟨x,hx,rfl⟩:=QP.1 hm;exact(h.heard x hx).1.msg
theorem Dn:Bi ⟨oT n⟩:=((Hy h.adD Zt).set n.al.toNat (m:=⟨true,n.aa⟩) h.ask.aN.sm).sc
theorem abb:lZ n=some ⟨oT n⟩:=by
 have hlen:=h.len;unfold lZ;simp only[etas];refine(TP (L:=n.au) (by omega) (fin:=λs=>Option.bind (qE n.al n.aa s) λr3=>some r3) (λi m s hd hx hadd hs=> ?_) (λs hd=> ?_)).trans ?_
 ·simp only[hd,hx,hadd,Qk,Qa];rw[mg (by omega) (by simp only[Q6];have:=of_decide_eq_true hd;omega)]
  rfl
 ·simp only[hd,Ql]
 ·rw[ac9 h.ask.v0 h.ask.v1 h.ask.aN (by simp;omega) h.adD]
  rfl
theorem ahO:pd n=some ⟨oT n⟩:=by
 have hlen:=h.len;unfold pd;simp only[etas];refine(TP (L:=n.au) (by omega) (fin:=λs=>Option.bind (qJ n.al n.aa s) λr3=>some r3) (λi m s hd hx hadd hs=> ?_) (λs hd=> ?_)).trans ?_
 ·simp only[hd,hx,hadd,Qk,Qa];rw[mg (by omega) (by simp only[Q6];have:=of_decide_eq_true hd;omega)]
  rfl
 ·simp only[hd,Ql]
 ·rw[adt h.ask.v0 h.ask.v1 h.ask.aN (by simp;omega) h.adD (λm hm=>by
   obtain⟨x,hx,rfl⟩:=QP.1 hm
   exact(h.heard x hx).2)]
  rfl
end
 def sF(n:ar)(x:ByteArray):Bool:= !decide (x∈n.aG)&&decide (n.aG.length<40)&&rS (oT n) n.al.toNat (lu (n.au++[vS n]) x).1 (lu (n.au++[vS n]) x).2
 def K8(n:ar)(x:ByteArray):Bool:=(gq (oT n) (lu (n.au++[vS n]) x).2).testBit n.al.toNat
def fu(n:ar):List ByteArray:=rF (n.au++[vS n])
section
variable {n : ar} (h : cO n)
 include h
theorem aeN(x:ByteArray):sM n x=some (sF n x):=by
 obtain⟨hn,hn10⟩:=BA h;obtain⟨l1,l2⟩:=Cn h.said x;have hf:=w8 (Dn h) hn10 l1 l2;rw[<-hn]at hf;unfold sM sF;simp only[etas,aR,Yq h,JM _ h.eM.wg,abb h,hf,Qa];have hd:decide ((n.aG.length:Int)<40)=decide (n.aG.length<40):=by rw[decide_eq_decide];omega
 rw[hd];cases decide (x∈n.aG)<;>cases decide (n.aG.length<40)<;>rfl
theorem Ih:∀m∈n.au++[vS n],VL m.bm/\VL m.aG:=λm hm=>⟨(Ov h m hm).2.2.1,(Ov h m hm).2.2.2⟩
theorem TV:(fu n).length<=880:=by have h1:=Tf (Ih h);have:=h.len;rw[QB,Q6]at h1;unfold fu;omega
theorem abU{x:ByteArray}(hx:x∈fu n):kT x:=by obtain⟨m,hm,g⟩:=((Ho _).2 x).1 hx;exact g.elim ((Ih h m hm).1.sz x) ((Ih h m hm).2.sz x)
theorem afE:oN n=some (fu n):=by
 have hlen:=h.len;have l1:=h.dy.len;have l2:=h.eM.len;unfold oN;obtain⟨r,k0,k1,k2,k3⟩:=Li h.dy.Hd h.eM.Hd (by omega)
 rw[k0,Qa]
 suffices key:Yd (aE _ (r,(0:Int),())) λq=>q=fu n by obtain⟨q,g,rfl⟩:=key;exact g
 refine Yd.list n.au (by omega) (λi (s:List ByteArray)=>(s,i,())) (λi s=>s.Pairwise (λx y=>bQ x y=true)/\s.length<=80+80*i/\∀x,x∈s↔(x∈n.bm\/x∈n.aG)\/∃m∈n.au.take i,x∈m.bm\/x∈m.aG) ?_ ?_ ⟨k1,by omega,λx=>by rw[k2];simp⟩
 ·rintro i m s ⟨s1,s2,s3⟩ hd hm hi hdec hx hadd;have hmy:=(h.heard m hm).1;have l3:=hmy.dy.len;have l4:=hmy.eM.len;obtain⟨r4,g0,g1,g2,g3⟩:=Li hmy.dy.Hd hmy.eM.Hd (by omega)
  obtain⟨r5,e0,e1,e2,e3⟩:=Li s1 g1 (by omega)
  simp only;rw[hdec,Qk,hx,Qa,hadd,g0,Qa,e0];refine .some ⟨r5,rfl,e1,by omega,λx=> ?_⟩
  have e:n.au.take (i+1)=n.au.take i++[m]:=by rw[List.take_add_one,show n.au[i]?=some m by rw[bd]at hx;exact hx];rfl
  rw[e2,s3,g2,e];simp only[Qz,Q5,or_assoc];constructor
  ·rintro(a|a|⟨m',a,b⟩|a)
   ·exact .inl a
   ·exact .inr (.inl a)
   ·exact .inr (.inr ⟨m',.inl a,b⟩)
   ·exact .inr (.inr ⟨m,.inr rfl,a⟩)
  ·rintro(a|a|⟨m',a|rfl,b⟩)
   ·exact .inl a
   ·exact .inr (.inl a)
   ·exact .inr (.inr (.inl ⟨m',a,b⟩))
   ·exact .inr (.inr (.inr b))
 ·rintro s ⟨s1,s2,s3⟩ hdec;rw[Qq62]at s3;simp only;rw[hdec,Ql];refine .some (M5 _ s1 λx=> ?_)
  rw[s3];simp only[Qz,Q5];constructor
  ·rintro(a|⟨m',a,b⟩)
   ·exact⟨vS n,.inr rfl,a⟩
   ·exact⟨m',.inl a,b⟩
  ·rintro⟨m',a|rfl,b⟩
   ·exact .inr ⟨m',a,b⟩
   ·exact .inl b
theorem W9:cp n.au=some n.au:=by
 have hlen:=h.len;unfold cp;have hk:bg 120 (([]:List az).length+n.au.length)=true:=mg (by omega) (by simp;omega)
 rw[hk]
 cases n.au with
 |nil|cons x l=>simp
theorem abu:jX n ⟨oT n⟩=some (match(fu n).find? (sF n)with|some x=>(x,true,())|none=>(⟨#[]⟩,false,())):=by
 have hlen:=h.len;obtain⟨hn,hn10⟩:=BA h;have hkl:=TV h;unfold jX jt;simp only[etas,W9 h,Qa];rw[mg (by omega) (by simp;omega),Qk]
 have hall:mX (n.au++[(⟨n.al,n.aH,n.aa,n.bm,n.aG⟩:az)])=some (fu n):=ahZ (Ih h) h.said.1;rw[hall,Qa];refine(Ab (fu n) (by omega) (sF n) (f:=λ_ x=>some (x,true,())) (fin:=some (⟨#[]⟩,false,())) (λi x hi hx0 hd hx hadd=> ?_) (λ_ hd=> ?_)).trans ?_
 ·obtain⟨l1,l2⟩:=Cn h.said x;have hf:=C2 (Dn h) hn10 l1 l2;rw[<-hn]at hf;have hsay:gz (n.au++[(⟨n.al,n.aH,n.aa,n.bm,n.aG⟩:az)]) x=_:=YA h.said x;have hd4:decide ((n.aG.length:Int)<40)=decide (n.aG.length<40):=by rw[decide_eq_decide];omega
  simp only[hd,hx,hadd,Qk,Qa,hsay,ZV _ h.eM.wg,hf,hd4,sF];cases decide (x∈n.aG)<;>cases decide (n.aG.length<40)<;>cases rS (oT n) n.al.toNat (lu (n.au++[vS n]) x).1 (lu (n.au++[vS n]) x).2<;>rfl
 ·simp only[hd,Ql]
 ·cases hf:(fu n).findIdx? (sF n)with
  |none=>
   have:(fu n).find? (sF n)=none:=List.find?_eq_none.2 λx hx=>by rw[List.findIdx?_eq_none_iff.1 hf x hx];simp
   rw[this]
  |some i=>
   obtain⟨hi,hp,hpre⟩:=List.findIdx?_eq_some_iff_getElem.1 hf;have:(fu n).find? (sF n)=some (fu n)[i]:=List.find?_eq_some_iff_getElem.2 ⟨hp,i,hi,rfl,λj hj=>by simpa using hpre j hj⟩
   rw[this];simp only[Qv hi,Qa]
end
end
section
def SJ(x:Int):List aj->Bool
 |[]=>false
 |u::_=>decide (x∈u.bb)
def Wp(t:aj)(x:Int):Bool:=decide (x∈t.bb)||SJ x t.aO
def uu(t:aj):Int:=((t.bb.length+t.aO.length:Nat):Int)
def IM(t:aj)(x:Int):eY×Bool×Unit:=if Wp t x then(⟨t.aI,uu t⟩,true,())else(⟨0,0⟩,false,())
def den_add(t:aj)(h:t.bb.length+t.aO.length<=1000):aB .i64 (t.bb.length:Int) (t.aO.length:Int)=uu t:=by
 rw[bG (by omega) (by omega)]
 unfold uu;omega
def aeU{a b:Int}(h0:0<=a*b)(h:a*b<=9223372036854775807):qi .i64 a b=a*b:=wrap64 (by omega) h
def ahX(l:List Int)(hl:l.length<=1000000)(x:Int):lJ l x=some (decide (x∈l)):=by
 unfold lJ sK
 have:=Yd.list (p:=λr=>decide (0<=r)=decide (x∈l)) (step:=λ(v1:Int×Unit)=>
   bif (decide (v1.1<((List.length l:Nat):Int)))then
   Option.bind (idx l v1.1) λx2=>
   bif (decide (x=x2))then
   Option.map inr (some v1.1)
   else
   some (inl ((aB .i64 v1.1 (1:Int)),()))
   else
   Option.map inr (some (-1:Int))) l hl (λi (_:Unit)=>(i,())) (λi _=>x∉l.take i) ?_ ?_ (s:=()) (by simp)
 ·obtain⟨r,h1,h2⟩:=this;rw[h1,Qa,h2]
 ·intro i y s hs hd hy hi hdec hx hadd;simp only;rw[hdec,Qk,hx,Qa,hadd]
  by_cases hxy:x=y
  ·rw[Qg hxy,Qk];refine .some ?_;show decide ((0:Int)<=(i:Int))=decide (x∈l);rw[Qg (by omega:(0:Int)<=(i:Int))]
   exact(Qg (by rw[hxy];exact hy)).symm
  ·rw[Qh hxy,Ql];refine .some ⟨(),rfl,?_⟩;rw[List.take_add_one,show l[i]?=some y by rw[bd]at hx;exact hx]
   simp only[Option.toList_some,Qz,Q5];exact λh=>h.elim hs hxy
 ·intro s hs hdec;simp only;rw[hdec,Ql];rw[Qq62]at hs;refine .some ?_;show decide ((0:Int)<= -1)=decide (x∈l);rw[Qh hs];rfl
def abH{ρ:Type}(l:List Int)(hl:l.length<=1000000)(x:Int)(z:eY){hit:Option ρ}{fin:Option ρ}{step:Int×eY×Unit->Option ((Int×eY×Unit)⊕ρ)}
  (h1:∀(i:Nat) (y:Int),decide ((i:Int)<(l.length:Int))=true->idx l (i:Int)=some y->aB .i64 (i:Int) 1=((i+1:Nat):Int)->step ((i:Int),z,())=bif decide (y=x)then Option.map inr hit else some (.inl (((i+1:Nat):Int),z,())))
  (h2:decide ((l.length:Int)<(l.length:Int))=false->step ((l.length:Int),z,())=Option.map inr fin):
  aE step ((0:Int),z,())=if x∈l then hit else fin:=by
 suffices key:∀(k i:Nat),i+k=l.length->aE step ((i:Int),z,())=if x∈l.drop i then hit else fin from by
  have:=key l.length 0 (by omega)
  rw[List.drop_zero]at this;exact this
 intro k
 induction k with
 |zero=>
  intro i hi;obtain rfl:i=l.length:=by omega
  rw[fg,h2 (Qh (Qq64 _)),Qq66,Qs QR];cases fin<;>rfl
 |succ k ih=>
  intro i hi;have hlt:i<l.length:=by omega
  have hs:=h1 i l[i] (Qg (by omega)) (by rw[bd];exact Qv hlt) (bG (by omega) (by omega))
  rw[QM hlt]
  by_cases hy:l[i]=x
  ·rw[Qg hy,Qk]at hs;rw[fg,hs,Qr (by rw[<-hy];exact Qx)]
   cases hit<;>rfl
  ·rw[Qh hy,Ql]at hs;rw[bA hs,ih (i+1) (by omega)]
   by_cases hm:x∈l.drop (i+1)
   ·rw[Qr hm,Qr (Qy _ hm)]
   ·rw[Qs hm,Qs (λe=>(QA.1 e).elim (λe=>hy e.symm) hm)]
def PM{l:List aj}(hl:l=[]\/∃y,l=[⟨1,[y],[]⟩]){x:Int}{th n:Int}(hth:1<=th/\th<=1000)(hn:1<=n/\n<=1000)(z:eY){rec:aj->Option (eY×Bool×Unit)}
  (hr:∀y,l=[⟨1,[y],[]⟩]->rec ⟨1,[y],[]⟩=some (IM ⟨1,[y],[]⟩ x)) {step:Int×eY×Unit->Option ((Int×eY×Unit)⊕(eY×Bool×Unit))}
  (h1:∀(i:Nat) (u:aj),decide ((i:Int)<(l.length:Int))=true->idx l (i:Int)=some u->aB .i64 (i:Int) 1=((i+1:Nat):Int)->step ((i:Int),z,())=Option.bind (rec u) λr=>bif r.2.1 then Option.map inr (some (⟨qi .i64 th r.1.Um,qi .i64 n r.1.Un⟩,true,()))else some (.inl (((i+1:Nat):Int),z,())))
  (h2:decide ((l.length:Int)<(l.length:Int))=false->step ((l.length:Int),z,())=Option.map inr (some (⟨0,0⟩,false,()))):
  aE step ((0:Int),z,())=some (if SJ x l then(⟨th,n⟩,true,())else(⟨0,0⟩,false,())):=by
 rcases hl with rfl|⟨y,rfl⟩
 ·exact bO (h2 (by decide))
 ·have g:=h1 0 _ (by simp) rfl rfl
  rw[hr y rfl]at g;simp only[Qa,IM,Wp,SJ,Bool.or_false,uu,Q6,QZ]at g
  by_cases hx:x∈[y]
  ·simp only[Qg hx,Qt,Qk]at g;rw[aeU (by omega) (by omega),aeU (by simp;omega) (by simp;omega)]at g
   refine bO (g.trans ?_);simp only[SJ,Qg hx,Qt,Int.mul_one];simp
  ·simp only[Qh hx,Qq,Qu,Ql]at g;refine(bA g).trans ((bO (h2 (by simp))).trans ?_)
   simp only[SJ,Qh hx,Qq,Qu]
def c5.abY{t:aj}(h:c5 t):t.aO=[]\/∃y,t.aO=[⟨1,[y],[]⟩]:=h.inner.elim .inl λ⟨x,_,_,e⟩=> .inr ⟨x,e⟩
def c5.total{t:aj}(h:c5 t):t.bb.length+t.aO.length<=11/\1<=t.bb.length+t.aO.length:=by have h1:=h.len;have h2:=h.th;rcases h.inner with e|⟨_,_,_,e⟩<;>rw[e]at h2 ⊢<;>simp only[QZ,Q6]at h2 ⊢<;>omega
def Yy{rec:(aj×Int×Unit)->Option (eY×Bool×Unit)}{t:aj}{x:Int}(h1:t.aO=[]\/∃y,t.aO=[⟨1,[y],[]⟩])(hn:t.bb.length<=100)(hth:1<=t.aI/\t.aI<=1000)(hd:1<=t.bb.length+t.aO.length)
  (hr:∀y,t.aO=[⟨1,[y],[]⟩]->rec (⟨1,[y],[]⟩,x,())=some (IM ⟨1,[y],[]⟩ x)):na rec t x=some (IM t x):=by
 have hl:t.aO.length<=1:=by rcases h1 with e|⟨_,e⟩<;>rw[e]<;>simp
 unfold na;simp only[ahX t.bb (by omega),den_add t (by omega),Qa]
 unfold IM Wp
 cases decide (x∈t.bb)with
 |true=>rfl
 |false=>
  simp only[Ql,Bool.false_or];rcases h1 with e|⟨y,e⟩
  ·rw[e];exact bO rfl
  ·refine(PM (l:=t.aO) (.inr ⟨y,e⟩) (th:=t.aI) (n:=uu t) hth (by unfold uu;omega) ⟨0,0⟩ (rec:=λu=>rec (u,x,())) hr (λi u hdc hx hadd=> ?_) (λhdc=> ?_)).trans rfl
   ·simp only[hdc,hx,hadd,Qk,Qa,etas]
   ·simp only[hdc,Ql]
def Yo{rec:(aj×Int×Unit)->Option (eY×Bool×Unit)}{t:aj}{x:Int}(h1:t.aO=[]\/∃y,t.aO=[⟨1,[y],[]⟩])(hn:t.bb.length<=100)(hth:1<=t.aI/\t.aI<=1000)(hd:1<=t.bb.length+t.aO.length)
  (hr:∀y,t.aO=[⟨1,[y],[]⟩]->rec (⟨1,[y],[]⟩,x,())=some (IM ⟨1,[y],[]⟩ x)):jK rec t x=some (IM t x):=by
 have hl:t.aO.length<=1:=by rcases h1 with e|⟨_,e⟩<;>rw[e]<;>simp
 unfold jK;refine(abH t.bb (by omega) x ⟨0,0⟩ (hit:=some (⟨t.aI,uu t⟩,true,())) (fin:=some (if SJ x t.aO then(⟨t.aI,uu t⟩,true,())else(⟨0,0⟩,false,()))) (λi y hdc hx hadd=> ?_) (λhdc=> ?_)).trans ?_
 ·simp only[hdc,hx,hadd,Qk,Qa,den_add t (by omega)]
 ·simp only[hdc,Ql,den_add t (by omega)]
  congr 1;rcases h1 with e|⟨y,e⟩
  ·rw[e];exact bO rfl
  ·refine(PM (l:=t.aO) (.inr ⟨y,e⟩) (th:=t.aI) (n:=uu t) hth (by unfold uu;omega) ⟨0,0⟩ (rec:=λu=>rec (u,x,())) hr (λi u hdc hx hadd=> ?_) (λhdc=> ?_)).trans rfl
   ·simp only[hdc,hx,hadd,Qk,Qa,etas]
   ·simp only[hdc,Ql]
 ·unfold IM Wp
  by_cases hx:x∈t.bb
  ·rw[Qr hx,Qg hx];rfl
  ·rw[Qs hx,Qh hx,Bool.false_or]
def pW{t:aj}(h:c5 t)(x:Int):zp t x=some (IM t x):=by
 have h1:=h.total;have h2:=h.th;have h3:=h.len;show na (zk (SizeOf.sizeOf t+SizeOf.sizeOf x)) t x=_;refine Yy h.abY (by omega) (by omega) h1.2 λy e=> ?_
 obtain⟨n,hn⟩:∃n,SizeOf.sizeOf t+SizeOf.sizeOf x=n+1:=by obtain⟨n,hn⟩:=Gw t;exact⟨n+SizeOf.sizeOf x,by omega⟩
 rw[hn];show na (zk n) ⟨1,[y],[]⟩ x=_;exact Yy (.inl rfl) (by simp) (by simp) (by simp) λy e=>by cases e
def rW{t:aj}(h:c5 t)(x:Int):xy t x=some (IM t x):=by
 have h1:=h.total;have h2:=h.th;have h3:=h.len;show jK (tD (SizeOf.sizeOf t+SizeOf.sizeOf x)) t x=_;refine Yo h.abY (by omega) (by omega) h1.2 λy e=> ?_
 obtain⟨n,hn⟩:∃n,SizeOf.sizeOf t+SizeOf.sizeOf x=n+1:=by obtain⟨n,hn⟩:=Gw t;exact⟨n+SizeOf.sizeOf x,by omega⟩
 rw[hn];show jK (tD n) ⟨1,[y],[]⟩ x=_;exact Yo (.inl rfl) (by simp) (by simp) (by simp) λy e=>by cases e
def Lx(a b c d:Int):∃r,nN a b c d=some r/\pZ a b c d=some r/\0<=r/\r<4294967296:=by
 have key:∀n:Int,0<=br .u32 n/\br .u32 n<4294967296:=λn=>by unfold br IntKind.wrap;simp[IntKind.signed,IntKind.bits];omega
 unfold nN pZ;exact⟨_,rfl,rfl,key _⟩
 def n9(a b c d:Int):Int:=Classical.choose (Lx a b c d)
def Vu(a b c d:Int):nN a b c d=some (n9 a b c d):=(Classical.choose_spec (Lx a b c d)).1
def aby(a b c d:Int):pZ a b c d=some (n9 a b c d):=(Classical.choose_spec (Lx a b c d)).2.1
def Wt(a b c d:Int):0<=n9 a b c d/\n9 a b c d<4294967296:=(Classical.choose_spec (Lx a b c d)).2.2
 def yh(t:aj)(v aK round k:Int):Bool:=decide (k=v)||(Wp t k&&decide (n9 1 aK round k*uu t<t.aI*4294967296))
section
variable {t : aj} {v aK round : Int} (h : DQ t v aK round)
 include h
theorem YI(k:Int):qi .u64 (br .u64 (n9 1 aK round k)) (br .u64 (uu t))=n9 1 aK round k*uu t/\bX .u64 (br .u64 t.aI) (32:Int)=t.aI*4294967296/\qi .i64 (br .i64 (n9 1 aK round k)) (uu t)=n9 1 aK round k*uu t/\bX .i64 t.aI (32:Int)=t.aI*4294967296:=by
 obtain⟨h1,h2⟩:=Wt 1 aK round k;have h3:=h.aN.total;have h4:=h.aN.th;generalize n9 1 aK round k=a at h1 h2;have hd:1<=uu t/\uu t<=11:=by unfold uu;omega
 generalize uu t=d at hd;have ht:1<=t.aI/\t.aI<=11:=by omega
 generalize t.aI=th at ht;have hm:0<=a*d/\a*d<=4294967296*11:=⟨Int.mul_nonneg h1 (by omega),Int.mul_le_mul (by omega) hd.2 (by omega) (by omega)⟩
 have u64:∀n:Int,0<=n->n<9223372036854775808->IntKind.u64.wrap n=n:=λn a b=>by unfold IntKind.wrap;simp[IntKind.signed,IntKind.bits];omega
 have c1:br .u64 a=a:=u64 a h1 (by omega)
 have c2:br .u64 d=d:=u64 d (by omega) (by omega)
 have c3:br .u64 th=th:=u64 th (by omega) (by omega)
 have c4:br .i64 a=a:=wrap64 (by omega) (by omega)
 rw[c1,c2,c3,c4];refine⟨u64 _ hm.1 (by omega),?_,wrap64 (by omega) (by omega),?_⟩
 ·exact u64 (th*2 ^ 32) (by omega) (by omega)
 ·exact wrap64 (n:=th*2 ^ 32) (by omega) (by omega)
theorem pNb(k:Int):qV t v aK round k=some (yh t v aK round k):=by
 obtain⟨c1,c2,_,_⟩:=YI h k;unfold qV yh;simp only[etas,pW h.aN,aby,Qa,aR]
 cases decide (k=v)with
 |true=>rfl
 |false=>
  unfold IM
  cases Wp t k with
  |true=>simp only[Qt,Qk,Ql,c1,c2];rfl
  |false=>rfl
theorem rNb(k:Int)(h0:0<=k)(h1:k<10):ml t v aK round k=some (yh t v aK round k):=by
 obtain⟨_,_,c1,c2⟩:=YI h k;unfold ml yh;simp only[etas,ON h,rW h.aN,Vu,Qa,aR,decide_true,Qo,Ql];rw[Qh (by omega:¬k<0),Qh (by omega:¬(10:Int)<=k)]
 simp only[Ql,Qa]
 cases decide (k=v)with
 |true=>rfl
 |false=>
  unfold IM
  cases Wp t k with
  |true=>simp only[Qt,Qk,Ql,c1,c2];rfl
  |false=>rfl
def yH(aK round j b:Int):Prop:=n9 2 aK round j<n9 2 aK round b\/n9 2 aK round j=n9 2 aK round b/\j<=b
structure CQ (t:aj) (v aK round b:Int):Prop where
 b0:0<=b
 b1:b<10
 nb:yh t v aK round b=true
 top:∀j,0<=j->j<10->yh t v aK round j=true->yH aK round j b
 omit h in
theorem CQ.unique{a b:Int}(ha:CQ t v aK round a)(hb:CQ t v aK round b):a=b:=by have h1:=ha.top b hb.b0 hb.b1 hb.nb;have h2:=hb.top a ha.b0 ha.b1 ha.nb;unfold yH at h1 h2;omega
theorem adx:Yd (mZ t v aK round) (CQ t v aK round):=by
 have hv0:=h.v0;have hv1:=h.v1;unfold mZ;simp only[etas,aR];refine Yd.FG (λ(s:Int×Int×Int×Unit)=>0<=s.2.2.1/\s.2.2.1<=10/\((s.2.1=0/\(∀j,0<=j->j<s.2.2.1->yh t v aK round j=false))\/(0<=s.1/\s.1<s.2.2.1/\yh t v aK round s.1=true/\s.2.1=n9 2 aK round s.1/\∀j,0<=j->j<s.2.2.1->yh t v aK round j=true->yH aK round j s.1))) (λs=>(10 - s.2.2.1).toNat) ?_ ⟨Int.le_refl _,by show(0:Int)<=10;omega,.inl ⟨rfl,λj h0 h1=>by simp only at h1;omega⟩⟩
 rintro⟨b,m,k,u⟩ ⟨h1,h2,h3⟩;simp only at h1 h2 h3;simp only
 by_cases hk:k<10
 ·rw[Qg hk];have hadd:aB .i64 k 1=k+1:=bG (by omega) (by omega)
  simp only[Qk];rw[hadd,pNb h,Qa];have hm:(10 - (k+1)).toNat<(10 - k).toNat:=by omega
  have split1:∀j,j<k+1->j<k\/j=k:=λj hj=>by omega
  cases hn:yh t v aK round k with
  |false=>
   refine .some ⟨⟨by show 0<=k+1;omega,by show k+1<=10;omega,?_⟩,hm⟩
   rcases h3 with⟨h4,h5⟩|⟨h4,h5,h6,h7,h8⟩
   ·refine .inl ⟨h4,λj j0 j1=> ?_⟩
    rcases split1 j j1 with j1|rfl
    ·exact h5 j j0 j1
    ·exact hn
   ·refine .inr ⟨h4,by show b<k+1;omega,h6,h7,λj j0 j1 hj=> ?_⟩
    rcases split1 j j1 with j1|rfl
    ·exact h8 j j0 j1 hj
    ·rw[hn]at hj;cases hj
  |true=>
   rw[aby];simp only[Qo,Ql,Qa]
   by_cases hle:m<=n9 2 aK round k
   ·rw[Qg hle,Qk];refine .some ⟨⟨by show 0<=k+1;omega,by show k+1<=10;omega,.inr ⟨h1,by show k<k+1;omega,hn,rfl,λj j0 j1 hj=> ?_⟩⟩,hm⟩
    show yH aK round j k;rcases split1 j j1 with j1|rfl
    ·rcases h3 with⟨h4,h5⟩|⟨h4,h5,h6,h7,h8⟩
     ·have:=h5 j j0 j1;rw[this]at hj;cases hj
     ·have:=h8 j j0 j1 hj;unfold yH at this ⊢;omega
    ·exact .inr ⟨rfl,Int.le_refl _⟩
   ·rw[Qh hle,Ql];refine .some ⟨⟨by show 0<=k+1;omega,by show k+1<=10;omega,?_⟩,hm⟩
    have hr:=Wt 2 aK round k;rcases h3 with⟨h4,h5⟩|⟨h4,h5,h6,h7,h8⟩
    ·omega
    ·refine .inr ⟨h4,by show b<k+1;omega,h6,h7,λj j0 j1 hj=> ?_⟩
     rcases split1 j j1 with j1|rfl
     ·exact h8 j j0 j1 hj
     ·show yH aK round j b;unfold yH;omega
 ·rw[Qh hk];have hself:yh t v aK round v=true:=by unfold yh;simp
  rcases h3 with⟨h4,h5⟩|⟨h4,h5,h6,h7,h8⟩
  ·have:=h5 v hv0 (by omega)
   rw[hself]at this;cases this
  ·exact .some ⟨h4,by omega,h6,λj j0 j1 hj=>h8 j j0 (by omega) hj⟩
theorem adk:Yd (lA t v aK round) λq=>CQ t v aK round q.1/\q.2.1=0:=by
 have hv0:=h.v0;have hv1:=h.v1;have hself:yh t v aK round v=true:=by unfold yh;simp
 unfold lA;simp only[etas,ON h,Qa,aR];simp only[decide_true,Qo,Ql];refine Yd.FG (λ(s:Int×Int×Unit)=>0<=s.2.1/\s.2.1<=10/\0<=s.1/\s.1<10/\yh t v aK round s.1=true/\∀j,0<=j->j<s.2.1->yh t v aK round j=true->yH aK round j s.1) (λs=>(10 - s.2.1).toNat) ?_ ⟨Int.le_refl _,by show(0:Int)<=10;omega,hv0,hv1,hself,λj h0 h1=>by simp only at h1;omega⟩
 rintro⟨b,k,u⟩ ⟨h1,h2,h3,h4,h5,h6⟩;simp only at h1 h2 h3 h4 h5 h6;simp only
 by_cases hk:k<10
 ·rw[Qg hk];have hadd:aB .i64 k 1=k+1:=bG (by omega) (by omega)
  simp only[Qk];rw[hadd,rNb h k h1 hk,Qa];have hm:(10 - (k+1)).toNat<(10 - k).toNat:=by omega
  have split1:∀j,j<k+1->j<k\/j=k:=λj hj=>by omega
  have fin:∀x:Int,0<=x->x<10->yh t v aK round x=true->(∀j,0<=j->j<k+1->yh t v aK round j=true->yH aK round j x)->Yd (some (inl (x,k+1,())):Option ((Int×Int×Unit)⊕(Int×Int×Unit))) (Lp (λs'=>(0<=s'.2.1/\s'.2.1<=10/\0<=s'.1/\s'.1<10/\yh t v aK round s'.1=true/\∀j,0<=j->j<s'.2.1->yh t v aK round j=true->yH aK round j s'.1)/\(10 - s'.2.1).toNat<(10 - k).toNat) (λq=>CQ t v aK round q.1/\q.2.1=0)):=
   λx g1 g2 g3 g4=> .some ⟨⟨by show 0<=k+1;omega,by show k+1<=10;omega,g1,g2,g3,g4⟩,hm⟩
  cases hn:yh t v aK round k with
  |false=>
   refine fin b h3 h4 h5 λj j0 j1 hj=> ?_
   rcases split1 j j1 with j1|rfl
   ·exact h6 j j0 j1 hj
   ·rw[hn]at hj;cases hj
  |true=>
   rw[Vu,Vu];simp only[Qo,Ql,Qa]
   by_cases hlt:n9 2 aK round b<n9 2 aK round k
   ·rw[Qg hlt];refine fin k h1 hk hn λj j0 j1 hj=> ?_
    rcases split1 j j1 with j1|rfl
    ·have:=h6 j j0 j1 hj;unfold yH at this ⊢;omega
    ·exact .inr ⟨rfl,Int.le_refl _⟩
   ·rw[Qh hlt];simp only[Ql]
    by_cases heq:n9 2 aK round k=n9 2 aK round b
    ·rw[Qg heq];simp only[Qk,Qa]
     by_cases hbk:b<k
     ·rw[Qg hbk];refine fin k h1 hk hn λj j0 j1 hj=> ?_
      rcases split1 j j1 with j1|rfl
      ·have:=h6 j j0 j1 hj;unfold yH at this ⊢;omega
      ·exact .inr ⟨rfl,Int.le_refl _⟩
     ·rw[Qh hbk];refine fin b h3 h4 h5 λj j0 j1 hj=> ?_
      rcases split1 j j1 with j1|rfl
      ·exact h6 j j0 j1 hj
      ·exact .inr ⟨heq,by omega⟩
    ·rw[Qh heq];refine fin b h3 h4 h5 λj j0 j1 hj=> ?_
     rcases split1 j j1 with j1|rfl
     ·exact h6 j j0 j1 hj
     ·exact .inl (by omega)
 ·rw[Qh hk];exact .some ⟨⟨h3,h4,h5,λj j0 j1 hj=>h6 j j0 (by omega) hj⟩,rfl⟩
end
 def xe(t:aj)(v aK round:Int):Int:=(mZ t v aK round).getD 0
 def kh(t:aj)(v aK:Int):Nat->Nat
 |0=>0
 |k+1=>kh t v aK k|||2 ^ (xe t v aK ((k+1:Nat):Int)).toNat
section
variable {t : aj} {v aK round : Int} (h : DQ t v aK round)
 include h
theorem DQ.at{r:Int}(h1:1<=r)(h2:r<=round):DQ t v aK r:=⟨h.aN,h.v0,h.v1,h.s0,h.s1,h1,by have:=h.r2;omega⟩
theorem UO:mZ t v aK round=some (xe t v aK round)/\CQ t v aK round (xe t v aK round):=by obtain⟨b,h1,h2⟩:=adx h;unfold xe;rw[h1];exact⟨rfl,h2⟩
theorem aeL:lA t v aK round=some (xe t v aK round,0,()):=by obtain⟨⟨b,e,u⟩,h1,h2,h3⟩:=adk h;simp only at h3;subst h3;have h4:CQ t v aK round b:=h2;rw[h1,h4.unique (UO h).2]
theorem HZ:∀k:Nat,(k:Int)<=round->kh t v aK k<1024
 |0,_=>by unfold kh;omega
 |k+1,hk=>by
  have h1:=HZ k (by omega)
  have h2:=(UO (h.at (r:=((k+1:Nat):Int)) (by omega) hk)).2
  unfold kh;exact B2 h1 h2.b1
theorem abx:sY t v aK round=some (((kh t v aK round.toNat:Nat):Int),0,()):=by
 have e1:=h.v0;have e2:=h.v1;have e3:=h.s0;have e4:=h.s1;have e5:=h.r1;have e6:=h.r2;unfold sY AV;simp only[etas,de h.aN,Qa,decide_true,Qo,Ql];rw[Qh (by omega:¬v<0),Qh (by omega:¬(10:Int)<=v),Qh (by omega:¬aK<0),Qh (by omega:¬(1000000:Int)<aK),Qh (by omega:¬round<1),Qh (by omega:¬(1000:Int)<round)]
 simp only[Ql,Qa,decide_true,Qo]
 suffices key:∀(d k:Nat),k+d=round.toNat->aE _ (((kh t v aK k:Nat):Int),(k:Int),())=some (((kh t v aK round.toNat:Nat):Int),(0:Int),())from key round.toNat 0 (by omega)
 intro d
 induction d with
 |zero=>
  intro k hk;obtain rfl:k=round.toNat:=by omega
  refine bO ?_;rw[Qh (by omega:¬((round.toNat:Nat):Int)<round)]
  rfl
 |succ d ih=>
  intro k hk;have hadd:aB .i64 (k:Int) 1=((k+1:Nat):Int):=bG (by omega) (by omega)
  obtain⟨g1,g2⟩:=UO (h.at (r:=((k+1:Nat):Int)) (by omega) (by omega))
  refine(bA ?_).trans (ih (k+1) (by omega))
  rw[Qg (by omega:(k:Int)<round)]
  simp only[hadd,g1,Qk,Qa];rw[Qs (by have:=g2.b0;omega),ra (HZ h k (by omega)) g2.b0 g2.b1]
  rfl
theorem abf:ot t v aK round=some (((kh t v aK round.toNat:Nat):Int),0,()):=by
 have e5:=h.r1;have e6:=h.r2;unfold ot;simp only[etas,aR,aeL h,Qa,decide_true,Qo,Ql]
 suffices key:∀(d k:Nat),k+d=round.toNat->aE _ (((kh t v aK k:Nat):Int),((k+1:Nat):Int),())=some (((kh t v aK round.toNat:Nat):Int),(0:Int),())from key round.toNat 0 (by omega)
 intro d
 induction d with
 |zero=>
  intro k hk;obtain rfl:k=round.toNat:=by omega
  refine bO ?_;rw[Qh (by omega:¬((round.toNat+1:Nat):Int)<=round)]
  rfl
 |succ d ih=>
  intro k hk;have hadd:aB .i64 ((k+1:Nat):Int) 1=((k+1+1:Nat):Int):=bG (by omega) (by omega)
  have ha:=h.at (r:=((k+1:Nat):Int)) (by omega) (by omega)
  have g1:=aeL ha;have g2:=(UO ha).2;have hlt:=HZ h k (by omega)
  refine(bA ?_).trans (ih (k+1) (by omega))
  rw[Qg (by omega:((k+1:Nat):Int)<=round)]
  have hh:kJ ((kh t v aK k:Nat):Int) (xe t v aK ((k+1:Nat):Int))=some (xN ((kh t v aK k:Nat):Int) (xe t v aK ((k+1:Nat):Int))):=mV _ _
  have hs:xN ((kh t v aK k:Nat):Int) (xe t v aK ((k+1:Nat):Int))=(kh t v aK k).testBit (xe t v aK ((k+1:Nat):Int)).toNat:=by
   unfold xN fR;rw[Qg (by omega:(0:Int)<=((kh t v aK k:Nat):Int)),Qg (by omega:((kh t v aK k:Nat):Int)<1024),Qg g2.b0,Qg g2.b1]
   simp
  simp only[hadd,g1,hh,hs,Qk,Qa];show _=some (inl (((kh t v aK k|||2 ^ (xe t v aK ((k+1:Nat):Int)).toNat:Nat):Int),((k+1+1:Nat):Int),()))
  cases hb:(kh t v aK k).testBit (xe t v aK ((k+1:Nat):Int)).toNat with
  |true=>
   have:kh t v aK k|||2 ^ (xe t v aK ((k+1:Nat):Int)).toNat=kh t v aK k:=by
    refine Nat.eq_of_testBit_eq λi=> ?_
    rw[Nat.testBit_or,Nat.testBit_two_pow]
    by_cases hi:(xe t v aK ((k+1:Nat):Int)).toNat=i
    ·rw[<-hi,hb];rfl
    ·rw[Qh hi,Bool.or_false]
   rw[this];rfl
  |false=>simp only[Qp,Qk];rw[Qs (by have:=g2.b0;omega),ra hlt g2.b0 g2.b1]
theorem Pl:kh t v aK round.toNat<1024:=HZ h round.toNat (by have:=h.r1;omega)
end
end
section
def fold_eq{α σ τ ρ:Type}(l:List α)(hl:l.length<=1000000)(f:σ->α->σ)(mk:Int->σ->τ)(Inv:σ->Prop)(hI:∀s x,x∈l->Inv s->Inv (f s x)){step:τ->Option (τ⊕ρ)}{fin:σ->Option ρ}
  (h1:∀(i:Nat) (x:α) (s:σ),Inv s->x∈l->decide ((i:Int)<(l.length:Int))=true->idx l (i:Int)=some x->aB .i64 (i:Int) 1=((i+1:Nat):Int)->step (mk (i:Int) s)=some (.inl (mk ((i+1:Nat):Int) (f s x))))
  (h2:∀s,Inv s->decide ((l.length:Int)<(l.length:Int))=false->step (mk (l.length:Int) s)=Option.map inr (fin s))
  {s:σ} (h0:Inv s):aE step (mk 0 s)=fin (l.foldl f s):=by
 suffices key:∀(k i:Nat) (s:σ),i+k=l.length->Inv s->aE step (mk (i:Int) s)=fin ((l.drop i).foldl f s)from key l.length 0 s (by omega) h0
 intro k
 induction k with
 |zero=>
  intro i s hi hs;obtain rfl:i=l.length:=by omega
  rw[fg,h2 s hs (Qh (Qq64 _)),Qq66,List.foldl_nil];cases fin s<;>rfl
 |succ k ih=>
  intro i s hi hs;have hlt:i<l.length:=by omega
  have hx:=Q0 hlt;refine(bA (h1 i l[i] s hs hx (Qg (by omega)) (by rw[bd];exact Qv hlt) (bG (by omega) (by omega)))).trans ((ih (i+1) _ (by omega) (hI s _ hx hs)).trans ?_)
  rw[QM hlt,QU]
def EH{α σ:Type}{f:σ->α->σ}{Inv:σ->Prop}:∀(l:List α) (hI:∀s x,x∈l->Inv s->Inv (f s x)) {s:σ},Inv s->Inv (l.foldl f s)
 |[],_,_,h=>h
 |x::l,hI,s,h=>EH l (λs y hy=>hI s y (Qy _ hy)) (hI s x Qx h)
def VI(n:ar)(l:List ByteArray):List ByteArray:=if n.nc=bE then l else mN l n.nc
def Ij(u:Int)(l:List ByteArray)(m:az):List ByteArray:=if m.al=u then(rF [m]).foldl mN l else l
def Hn(n:ar)(l:List ByteArray)(u:Int):List ByteArray:=if u=n.al then VI n l else n.au.foldl (Ij u) l
 def zQ(n:ar):List ByteArray:=(oW (kh n.aa n.al n.aL n.Round.toNat)).foldl (Hn n) n.bm
def ah1{x:ByteArray}(h:x.size<=200)(hx:x≠bE):kT x:=by
 refine⟨?_,h⟩;rcases Nat.eq_zero_or_pos x.size with h0|h0
 ·exact absurd (ByteArray.ext (Array.eq_empty_of_size_eq_zero h0)) hx
 ·exact h0
def Zh{m:az}(h:VL m.bm/\VL m.aG):(rF [m]).length<=80/\∀x∈rF [m],kT x:=by
 refine⟨Tf (L:=[m]) (λy hy=>by rw[Q5.1 hy];exact h),λx hx=> ?_⟩
 obtain⟨y,hy,hxy⟩:=((Ho _).2 x).1 hx;rw[Q5.1 hy]at hxy;exact hxy.elim (h.1.sz x) (h.2.sz x)
section
variable {n : ar} (h : cO n)
 include h
theorem af2{l:List ByteArray}(hl:VL l):VL (VI n l):=by
 unfold VI;split
 ·exact hl
 ·rename_i hx;exact(u7 hl (ah1 h.own hx)).1
theorem Kt{m:az}(hm:m∈n.au):VL m.bm/\VL m.aG:=⟨(h.heard m hm).1.dy,(h.heard m hm).1.eM⟩
theorem NO{u:Int}{l:List ByteArray}(hl:VL l){m:az}(hm:m∈n.au):VL (Ij u l m):=by
 unfold Ij;split
 ·exact EH (Inv:=VL) (rF [m]) (λs x hx hs=>(u7 hs ((Zh (Kt h hm)).2 x hx)).1) hl
 ·exact hl
theorem M4{u:Int}{l:List ByteArray}(hl:VL l):VL (Hn n l u):=by
 unfold Hn;split
 ·exact af2 h hl
 ·exact EH (Inv:=VL) n.au (λs m hm hs=>NO h hs hm) hl
theorem Fe:VL (zQ n):=EH (Inv:=VL) _ (λs u _ hs=>M4 h hs) h.dy
theorem afS:sn n=some (zQ n):=by
 have hlen:=h.len;have hlt:=Pl h.ask;have hnl:=Ae (kh n.aa n.al n.aL n.Round.toNat);unfold sn;simp only[etas,abx h.ask,Xu hlt,Qa,aR];refine fold_eq (oW (kh n.aa n.al n.aL n.Round.toNat)) (by omega) (Hn n) (λi s=>(s,i,())) VL (λs u _ hs=>M4 h hs) (λi u s hs hu hd hx hadd=> ?_) (λs hs hd=> ?_) h.dy
 ·simp only[hd,hx,hadd,Qk,Qa];unfold Hn
  by_cases hun:u=n.al
  ·rw[Qr hun,Qg hun];unfold VI
   by_cases ho:n.nc=bE
   ·rw[Qr ho,Qg ho];rfl
   ·rw[Qs ho,Qh ho];simp only[Qk,Qp,ZT hs,Qa]
  ·rw[Qs hun,Qh hun,Ql];refine fold_eq n.au (by omega) (Ij u) (λi s=>(s,i,())) VL (λs m hm hs=>NO h hs hm) (fin:=λs=>some (inl (s,((i+1:Nat):Int),()))) (λj m s2 hs2 hm hd2 hx2 hadd2=> ?_) (λs2 hs2 hd2=> ?_) hs
   ·simp only[hd2,hx2,hadd2,Qk,Qa,az.eta];unfold Ij
    by_cases hmu:m.al=u
    ·obtain⟨v1,v2⟩:=Zh (Kt h hm);rw[Qr hmu,Qg hmu];simp only[Qo,Ql,ahZ (L:=[m]) (λy hy=>by rw[Q5.1 hy];exact Kt h hm) (by simp),Qa]
     refine fold_eq (rF [m]) (by omega) mN (λi s=>(s,i,())) VL (λs x hx hs=>(u7 hs (v2 x hx)).1) (fin:=λs=>some (inl (s,((j+1:Nat):Int),()))) (λk x s3 hs3 hxm hd3 hx3 hadd3=> ?_) (λs3 hs3 hd3=> ?_) hs2
     ·simp only[hd3,hx3,hadd3,Qk,Qa,ZT hs3]
     ·simp only[hd3,Ql]
    ·rw[Qs hmu,Qh hmu];rfl
   ·simp only[hd2,Ql]
 ·simp only[hd,Ql]
theorem adg:pV n=some {n with bm:=zQ n}:=by
 have hlen:=h.len;have hlt:=Pl h.ask;have hnl:=Ae (kh n.aa n.al n.aL n.Round.toNat);unfold pV;simp only[etas,abf h.ask,JL hlt,Qa,aR];refine(fold_eq (oW (kh n.aa n.al n.aL n.Round.toNat)) (by omega) (Hn n) (λi s=>(i,{n with bm:=s},())) VL (λs u _ hs=>M4 h hs) (fin:=λs=>some {n with bm:=s}) (λi u s hs hu hd hx hadd=> ?_) (λs hs hd=> ?_) h.dy).trans rfl
 ·simp only[hd,hx,hadd,Qk,Qa];unfold Hn
  by_cases hun:u=n.al
  ·rw[Qr hun,Qg hun];unfold VI
   by_cases ho:n.nc=bE
   ·rw[Qr ho,Qg ho];rfl
   ·rw[Qs ho,Qh ho];simp only[Qk,Qp,JJ hs,Qa]
  ·rw[Qs hun,Qh hun,Ql];refine fold_eq n.au (by omega) (Ij u) (λi s=>(i,{n with bm:=s},())) VL (λs m hm hs=>NO h hs hm) (fin:=λs=>some (inl (((i+1:Nat):Int),{n with bm:=s},()))) (λj m s2 hs2 hm hd2 hx2 hadd2=> ?_) (λs2 hs2 hd2=> ?_) hs
   ·simp only[hd2,hx2,hadd2,Qk,Qa];unfold Ij
    by_cases hmu:m.al=u
    ·obtain⟨v1,v2⟩:=Zh (Kt h hm);rw[Qr hmu,Qg hmu];simp only[Qo,Ql,afx (Kt h hm),Qa];refine fold_eq (rF [m]) (by omega) mN (λi s=>(i,{n with bm:=s},())) VL (λs x hx hs=>(u7 hs (v2 x hx)).1) (fin:=λs=>some (inl (((j+1:Nat):Int),{n with bm:=s},()))) (λk x s3 hs3 hxm hd3 hx3 hadd3=> ?_) (λs3 hs3 hd3=> ?_) hs2
     ·simp only[hd3,hx3,hadd3,Qk,Qa,JJ hs3]
     ·simp only[hd3,Ql]
    ·rw[Qs hmu,Qh hmu];rfl
   ·simp only[hd2,Ql]
 ·simp only[hd,Ql]
end
 def pz:Nat->ar->ar
 |0,n=>n
 |k+1,n=>match(fu n).find? (sF n)with
  |none=>n
  |some x=>pz k {n with aG:=mN n.aG x}
def N9{n:ar}(h:cO n){x:ByteArray}(hf:(fu n).find? (sF n)=some x):cO {n with aG:=mN n.aG x}/\(mN n.aG x).length=n.aG.length+1:=by have hc:=List.find?_some hf;have hm:=List.mem_of_find?_eq_some hf;unfold sF at hc;simp only[Qm,Bool.not_eq_true',Qj,Qi]at hc;obtain⟨p1,p2,p3,p4⟩:=u7 h.eM (abU h hm);exact⟨h.ahv p1 p2,p4 hc.1.1 hc.1.2⟩
def P4:∀(k:Nat) {n:ar},cO n->sQ n (pz k n)/\(pz k n).bm=n.bm/\(pz k n).aS=n.aS
 |0,n,h=>⟨.refl h,rfl,rfl⟩
 |k+1,n,h=>by
  unfold pz
  cases hf:(fu n).find? (sF n)with
  |none=>exact⟨.refl h,rfl,rfl⟩
  |some x=>obtain⟨h1,h2,h3⟩:=P4 k (N9 h hf).1;exact⟨⟨h1.ok,h1.aF,h1.aK,h1.round,h1.seq,h1.aN,h1.own,h1.heard⟩,h2,h3⟩
def aeM{fin:ar->Option ar}{step:Bool×ar×Unit->Option ((Bool×ar×Unit)⊕ar)}
  (h1:∀n,cO n->step (true,n,())=some (.inl (match(fu n).find? (sF n)with|some x=>(true,{n with aG:=mN n.aG x},())|none=>(false,n,()))))
  (h2:∀n,cO n->step (false,n,())=Option.map inr (fin n)):∀(k:Nat) {n:ar},cO n->41<=k+n.aG.length->aE step (true,n,())=fin (pz k n)
 |0,n,h,hk=>by have:=h.eM.len;omega
 |k+1,n,h,hk=>by
  have g:=h1 n h;unfold pz
  cases hf:(fu n).find? (sF n)with
  |none=>rw[hf]at g;rw[bA g,fg,h2 n h];cases fin n<;>rfl
  |some x=>rw[hf]at g;obtain⟨g1,g2⟩:=N9 h hf;exact(bA g).trans (aeM h1 h2 k g1 (by show 41<=k+(mN n.aG x).length;omega))
 def TO(n:ar):ByteArray×Bool×Unit:=match(fu n).find? (sF n)with|some x=>(x,true,())|none=>(⟨#[]⟩,false,())
def aeP{fin:ar->Option ar}{step:ByteArray×Bool×ar×Unit->Option ((ByteArray×Bool×ar×Unit)⊕ar)}{c:List bh}
  (h1:∀n x,cO n->oT n=c->cO {n with aG:=mN n.aG x}->step (x,true,n,())=some (.inl ((TO {n with aG:=mN n.aG x}).1,(TO {n with aG:=mN n.aG x}).2.1,{n with aG:=mN n.aG x},())))
  (h2:∀n x,cO n->oT n=c->step (x,false,n,())=Option.map inr (fin n)):∀(k:Nat) {n:ar},cO n->oT n=c->41<=k+n.aG.length->aE step ((TO n).1,(TO n).2.1,n,())=fin (pz k n)
 |0,n,h,_,hk=>by have:=h.eM.len;omega
 |k+1,n,h,hv,hk=>by
  unfold pz
  cases hf:(fu n).find? (sF n)with
  |none=>
   have e:TO n=(⟨#[]⟩,false,()):=by unfold TO;rw[hf]
   rw[e,fg,h2 n _ h hv];cases fin n<;>rfl
  |some x=>
   have e:TO n=(x,true,()):=by unfold TO;rw[hf]
   obtain⟨g1,g2⟩:=N9 h hf;rw[e];exact(bA (h1 n x h hv g1)).trans (aeP h1 h2 k g1 hv (by show 41<=k+(mN n.aG x).length;omega))
 def Ht(n:ar)(c:List ByteArray)(x:ByteArray):List ByteArray:=if K8 n x then mN c x else c
 def Cf(n:ar):List ByteArray:=n.aG.foldl (Ht n) n.aS
 def vf(n:ar):ar:={pz 41 (if n.aS.length=0 then{n with bm:=zQ n}else n)with aS:=Cf (pz 41 (if n.aS.length=0 then{n with bm:=zQ n}else n))}
structure E4 (n:ar) (c:List ByteArray):Prop where
 vl:VL c
 sub:∀x∈c,x∈n.aG
def M8{n:ar}(h:cO n){c:List ByteArray}(hc:E4 n c){x:ByteArray}(hx:x∈n.aG):E4 n (Ht n c x):=by
 unfold Ht;split
 ·obtain⟨p1,_,p3,_⟩:=u7 hc.vl (h.eM.sz x hx);exact⟨p1,λy hy=>(p3 y hy).elim (λe=>by rw[e];exact hx) (hc.sub y)⟩
 ·exact hc
def cO.aec{n:ar}(h:cO n):E4 n n.aS:=⟨h.kS,h.sub⟩
def ad2{n:ar}(h:cO n):E4 n (Cf n):=EH (Inv:=E4 n) n.aG (λs x hx hs=>M8 h hs hx) h.aec
def ajg{n:ar}(h:cO n)(x:ByteArray):fq ⟨oT n⟩ n.al (((lu (n.au++[vS n]) x).2:Nat):Int)=some (K8 n x):=by obtain⟨hn,hn10⟩:=BA h;have hf:=BL (Dn h) hn10 (Cn h.said x).2;rw[<-hn]at hf;exact hf
def ai8{n:ar}(h:cO n)(x:ByteArray):ik ⟨oT n⟩ n.al (((lu (n.au++[vS n]) x).2:Nat):Int)=some (K8 n x):=by obtain⟨hn,hn10⟩:=BA h;have hf:=vx (Dn h) hn10 (Cn h.said x).2;rw[<-hn]at hf;exact hf
section
variable {n : ar} (h : cO n)
 include h
theorem agZ:cO (if n.aS.length=0 then{n with bm:=zQ n}else n)/\sQ n (if n.aS.length=0 then{n with bm:=zQ n}else n):=by
 split
 ·exact⟨h.Jz (Fe h),(sQ.refl h).Jz (Fe h)⟩
 ·exact⟨h,.refl h⟩
theorem Fj:sQ n (vf n):=by obtain⟨h1,h2⟩:=agZ h;obtain⟨g,_,_⟩:=P4 41 h1;obtain⟨c1,c2⟩:=ad2 g.ok;exact⟨g.ok.acX c1 c2,g.aF.trans h2.aF,g.aK.trans h2.aK,g.round.trans h2.round,g.seq.trans h2.seq,g.aN.trans h2.aN,g.own.trans h2.own,g.heard.trans h2.heard⟩
theorem TI:l0 n=some (vf n):=by
 have body:∀n:ar,cO n->(Option.bind (pd n) λr3=>
   Option.bind (jX n r3) λr4=>
   aE (λ(v5:ByteArray×Bool×ar×Unit)=>
   bif v5.2.1 then
   Option.bind (iq v5.2.2.1.aG v5.1) λr6=>
   Option.bind (jX {v5.2.2.1 with aa:=(aq v5.2.2.1.aa),aG:=r6} r3) λr7=>
   some (inl (r7.1,r7.2.1,{v5.2.2.1 with aa:=(aq v5.2.2.1.aa),aG:=r6},()))
   else
   Option.map inr (Option.bind (cp v5.2.2.1.au) λr8=>
   Option.bind (jt (eT0 v5.2.2.1)) λr9=>
   bif bg 120 (List.length r8+List.length [{r9 with aa:=(aq r9.aa)}])then
   aE (λ(v10:Int×ar×Unit)=>
   bif (decide (v10.1<((List.length v5.2.2.1.aG:Nat):Int)))then
   aY (λ(v11:ar×Unit)=>
   some (inl ((aB .i64 v10.1 (1:Int)),(eT0 v11.1),()))) λj12=>
   Option.bind (idx v5.2.2.1.aG v10.1) λx13=>
   Option.bind (gz (r8++[{r9 with aa:=(aq r9.aa)}]) x13) λr14=>
   Option.bind (fq r3 v10.2.1.al r14.2.1) λr15=>
   bif r15 then
   Option.bind (iq v10.2.1.aS x13) λr16=>
   j12 ({v10.2.1 with aa:=(aq v10.2.1.aa),aS:=r16},())
   else
   j12 ((eT0 v10.2.1),())
   else
   Option.map inr (some (eT0 v10.2.1))) ((0:Int),(eT0 v5.2.2.1),())
   else none)) (r4.1,r4.2.1,n,()))=some {pz 41 n with aS:=Cf (pz 41 n)}:=by
  intro n h;rw[ahO h,Qa,abu h,Qa];refine aeP (c:=oT n) (fin:=λn2=>some {n2 with aS:=Cf n2}) (λm x hm hv hm2=> ?_) (λm x hm hv=> ?_) 41 h rfl (by omega)
  ·have hx:=abu hm2;have hv2:oT {m with aG:=mN m.aG x}=oT n:=hv
   rw[hv2]at hx;simp only[Qk,etas,ZT hm.eM,Qa,hx];rfl
  ·have hlen:=hm.len;have hal:=hm.eM.len;simp only[Ql,etas,W9 hm,jt,Qa,aR];rw[mg (by omega) (by simp;omega),Qk]
   congr 1;refine(fold_eq m.aG (by omega) (Ht m) (λi c=>(i,{m with aS:=c},())) (E4 m) (λs x hx hs=>M8 hm hs hx) (fin:=λc=>some {m with aS:=c}) (λi y s hs hy hd hx hadd=> ?_) (λs hs hd=> ?_) hm.aec).trans rfl
   ·have hsay:gz (m.au++[(⟨m.al,m.aH,m.aa,m.bm,m.aG⟩:az)]) y=_:=YA hm.said y;simp only[hd,hx,hadd,Qk,Qa,hsay,<-hv,ajg hm y];unfold Ht
    cases K8 m y with
    |true=>simp only[Qk,ZT hs.vl,Qa,Qt]
    |false=>rfl
   ·simp only[hd,Ql]
 unfold l0;simp only[etas,aR,afS h,Qa];unfold vf
 by_cases h0:n.aS.length=0
 ·rw[Qg (by omega:(n.aS.length:Int)=0),Qk,Qr h0]
  have:=body {n with bm:=zQ n} (h.Jz (Fe h))
  simp only[etas,aR]at this;exact this
 ·rw[Qh (by omega:¬(n.aS.length:Int)=0),Ql,Qs h0]
  have:=body n h;simp only[etas,aR]at this;exact this
end
end
section
open Classical in
 def HA(b r:ar):Bool:=decide (b.bm=r.bm/\b.aG=r.aG/\b.aa=r.aa)
open Classical in
def Fk{b r:ar}:HA b r=true↔b.bm=r.bm/\b.aG=r.aG/\b.aa=r.aa:=by
 unfold HA;rw[Qi]
 def lH(b n:ar):ar:=if HA b (vf n)=true then vf n else{vf n with aH:=b.aH+1}
def M7{b n:ar}(h:cO n):Xt b n (lH b n):=by
 have k:=Fj h;unfold lH;split
 ·exact⟨k.ok,k.aF,k.aK,k.round,k.aN,.inl k.seq⟩
 ·exact⟨⟨k.ok.ask,k.ok.own,k.ok.dy,k.ok.eM,k.ok.kS,k.ok.sub,k.ok.heard,k.ok.dn⟩,k.aF,k.aK,k.round,k.aN,.inr rfl⟩
def My{b n:ar}(h:cO n):(lH b n).au=n.au/\(lH b n).nc=n.nc:=by have k:=Fj h;unfold lH;split<;>exact⟨k.heard,k.own⟩
def ahV{s t:List ByteArray}(h:s.length<=1000000):∃b,gH s t=some b/\(b=true↔s=t):=by
 unfold gH
 by_cases hl:s.length=t.length
 ·rw[Qg (by omega:(s.length:Int)=(t.length:Int)),Qo,Ql]
  refine Xm hl h (λi hi hi' hd hx hy hw=> ?_) (λhd=> ?_)
  ·simp only;rw[hd,Qk,hx,hy,Qa,Qa,hw]
   by_cases he:s[i]=t[i]
   ·rw[Qg he];exact⟨true,rfl,by simp[he]⟩
   ·rw[Qh he];exact⟨false,rfl,by simp[he]⟩
  ·simp only;rw[hd,Ql];rfl
 ·rw[Qh (by omega:¬(s.length:Int)=(t.length:Int))]
  exact⟨false,rfl,Pj hl⟩
def Fq{b n:ar}(hb:cQ b.aa/\b.bm.length<=1000000/\b.aG.length<=1000000)(hs:0<=b.aH/\b.aH<=1000000)(h:cO n):gd b n=some (lH b n):=by
 have body:∀n:ar,cO n->aE (λ(v3:Bool×ar×Unit)=>
   bif v3.1 then
   Option.bind (oN (eT0 v3.2.1)) λr4=>
   aE (λ(v5:Bool×Int×ar×Unit)=>
   bif (decide (v5.2.1<((List.length r4:Nat):Int)))then
   Option.bind (idx r4 v5.2.1) λx6=>
   Option.bind (sM (eT0 v5.2.2.1) x6) λr7=>
   bif r7 then
   Option.bind (nq v5.2.2.1.aG x6) λr8=>
   Option.map inr (some (inl (true,{v5.2.2.1 with aa:=(aq v5.2.2.1.aa),aG:=r8},())))
   else
   some (inl (v5.1,(aB .i64 v5.2.1 (1:Int)),(eT0 v5.2.2.1),()))
   else
   Option.map inr (some (inl (v5.1,(eT0 v5.2.2.1),())))) (false,(0:Int),(eT0 v3.2.1),())
   else
   Option.map inr (aE (λ(v9:Int×ar×Unit)=>
   bif (decide (v9.1<((List.length v3.2.1.aG:Nat):Int)))then
   aY (λ(v10:ar×Unit)=>
   some (inl ((aB .i64 v9.1 (1:Int)),(eT0 v10.1),()))) λj11=>
   Option.bind (idx v3.2.1.aG v9.1) λx12=>
   Option.bind (kV (eT0 v9.2.1) x12) λr13=>
   Option.bind (lZ (eT0 v9.2.1)) λr14=>
   Option.bind (ik r14 v9.2.1.al r13.2.1) λr15=>
   bif r15 then
   Option.bind (nq v9.2.1.aS x12) λr16=>
   j11 ({v9.2.1 with aa:=(aq v9.2.1.aa),aS:=r16},())
   else
   j11 ((eT0 v9.2.1),())
   else
   Option.map inr (aY (λ(v17:ar×Unit)=>
   some (eT0 v17.1)) λj18=>
   Option.bind (qD b.bm v9.2.1.bm) λr19=>
   Option.bind (bif (!r19)then some true
   else
   Option.bind (qD b.aG v9.2.1.aG) λr20=>
   some (!r20)) λb21=>
   Option.bind (bif b21 then some true
   else
   Option.bind (iz (aq b.aa) (aq v9.2.1.aa)) λr22=>
   some (!r22)) λb23=>
   bif b23 then
   j18 ({v9.2.1 with aH:=(aB .i64 b.aH (1:Int)),aa:=(aq v9.2.1.aa)},())
   else
   j18 ((eT0 v9.2.1),()))) ((0:Int),(eT0 v3.2.1),()))) (true,n,())=
   some (if HA b {pz 41 n with aS:=Cf (pz 41 n)}=true then{pz 41 n with aS:=Cf (pz 41 n)}else{pz 41 n with aS:=Cf (pz 41 n),aH:=b.aH+1}):=by
  intro n h;refine aeM (fin:=λm=>some (if HA b {m with aS:=Cf m}=true then{m with aS:=Cf m}else{m with aS:=Cf m,aH:=b.aH+1})) (λm hm=> ?_) (λm hm=> ?_) 41 h (by omega)
  ·have hkl:=TV hm;simp only[Qk,etas,afE hm,Qa]
   suffices key:∀(k i:Nat),i+k=(fu m).length->(∀x∈(fu m).take i,sF m x=false)->aE _ (false,(i:Int),m,())=some (inl (match(fu m).find? (sF m)with|some x=>(true,{m with aG:=mN m.aG x},())|none=>(false,m,())))from key (fu m).length 0 (by omega) (by simp)
   intro k
   induction k with
   |zero=>
    intro i hi hpre;obtain rfl:i=(fu m).length:=by omega
    rw[Qq62]at hpre;have hf:(fu m).find? (sF m)=none:=List.find?_eq_none.2 λx hx=>by rw[hpre x hx];simp
    rw[hf];exact bO (by simp only[Qh (Qq64 _),Ql,Qe])
   |succ k ih=>
    intro i hi hpre;have hlt:i<(fu m).length:=by omega
    have hx:idx (fu m) (i:Int)=some (fu m)[i]:=by rw[bd];exact Qv hlt
    have hadd:aB .i64 (i:Int) 1=((i+1:Nat):Int):=bG (by omega) (by omega)
    have hd:decide ((i:Int)<(((fu m).length:Nat):Int))=true:=Qg (by omega)
    cases hc:sF m (fu m)[i]with
    |true=>
     have hf:(fu m).find? (sF m)=some (fu m)[i]:=by
      rw[List.find?_eq_some_iff_getElem];refine⟨hc,i,hlt,rfl,λj hj=> ?_⟩
      rw[hpre _ (List.mem_take_iff_getElem.2 ⟨j,by omega,rfl⟩)]
      rfl
     rw[hf];refine bO ?_;simp only[hd,hx,Qk,Qa,aeN hm,hc,JJ hm.eM,Qe]
    |false=>
     refine(bA ?_).trans (ih (i+1) (by omega) λx hx2=> ?_)
     ·simp only[hd,hx,hadd,Qk,Ql,Qa,aeN hm,hc]
     ·rw[Q7 hlt,Qz,Q5]at hx2;rcases hx2 with hx2|rfl
      ·exact hpre x hx2
      ·exact hc
  ·have hal:=hm.eM.len;simp only[Ql,etas,aR];congr 1;refine(fold_eq m.aG (by omega) (Ht m) (λi c=>(i,{m with aS:=c},())) (E4 m) (λs x hx hs=>M8 hm hs hx) (fin:=λc=>some (if HA b {m with aS:=c}=true then{m with aS:=c}else{m with aS:=c,aH:=b.aH+1})) (λi y s hs hy hd hx hadd=> ?_) (λs hs hd=> ?_) hm.aec).trans rfl
   ·have hms:=hm.acX hs.vl hs.sub;have hsd:kV {m with aS:=s} y=_:=Yq hms y
    have hvw:lZ {m with aS:=s}=_:=abb hms
    have hsu:ik ⟨oT {m with aS:=s}⟩ m.al _=some (K8 m y):=ai8 hms y
    simp only[hd,hx,hadd,Qk,Qa,hsd,hvw,hsu];unfold Ht
    cases K8 m y with
    |true=>simp only[Qk,JJ hs.vl,Qa,Qt]
    |false=>rfl
   ·obtain⟨b1,f1,g1⟩:=OL (s:=b.bm) (t:=m.bm) hb.2.1;obtain⟨b2,f2,g2⟩:=OL (s:=b.aG) (t:=m.aG) hb.2.2;obtain⟨b3,f3,g3⟩:=NV (a:=b.aa) (b:=m.aa) hb.1;have hadd:aB .i64 b.aH 1=b.aH+1:=bG (by omega) (by omega)
    simp only[hd,Ql,f1,f2,f3,Qa,hadd]
    by_cases e:b.bm=m.bm/\b.aG=m.aG/\b.aa=m.aa
    ·rw[Qr ((Fk (b:=b) (r:={m with aS:=s})).2 e),g1.2 e.1,g2.2 e.2.1,g3.2 e.2.2]
     rfl
    ·rw[Qs (λe'=>e ((Fk (b:=b) (r:={m with aS:=s})).1 e'))]
     cases b1 with
     |false=>rfl
     |true=>
      cases b2 with
      |false=>rfl
      |true=>
       cases b3 with
       |false=>rfl
       |true=>exact absurd ⟨g1.1 rfl,g2.1 rfl,g3.1 rfl⟩ e
 unfold gd;simp only[etas,aR,adg h,Qa];unfold lH vf
 by_cases h0:n.aS.length=0
 ·rw[Qg (by omega:(n.aS.length:Int)=0),Qk]
  simp only[Qr h0];have:=body {n with bm:=zQ n} (h.Jz (Fe h))
  simp only[etas,aR]at this;exact this
 ·rw[Qh (by omega:¬(n.aS.length:Int)=0),Ql]
  simp only[Qs h0];have:=body n h;simp only[etas,aR]at this;exact this
def GH{n:ar}(h:cO n):lC n=some n:=by
 have hlen:=h.len;have hv:=h.dy.len;have ha:=h.eM.len;have hc:=h.kS.len;unfold lC;simp only[etas,Yz h.ask.aN.sm,wI _ (QK hv (by omega)),wI _ (QK ha (by omega)),wI _ (QK hc (by omega)),Qa]
 suffices key:∀(k i:Nat),i+k=n.au.length->aE _ ((i:Int),{n with bm:=[],aG:=[],aS:=[],au:=[]},n.bm,n.aG,n.aS,n.au.take i,())=some n from key n.au.length 0 (by omega)
 intro k
 induction k with
 |zero=>
  intro i hi;obtain rfl:i=n.au.length:=by omega
  refine bO ?_;simp only[Qh (Qq64 _),Ql,Qq62,Qe]
 |succ k ih=>
  intro i hi;have hlt:i<n.au.length:=by omega
  have hx:idx n.au (i:Int)=some n.au[i]:=by rw[bd];exact Qv hlt
  have hm:=(h.heard _ (Q0 hlt)).1;have hvl:=hm.dy.len;have hal:=hm.eM.len;refine(bA ?_).trans (ih (i+1) (by omega))
  simp only[Qg (by omega:(i:Int)<(n.au.length:Int)),hx,Qk,Qa,az.eta,TJ hm.aN.sm (QK hvl (by omega)) (QK hal (by omega))]
  rw[mg (by omega) (by simp;omega),bG (by omega) (by omega),Q7 hlt]
  rfl
def VD{b n:ar}(hb:cQ b.aa/\b.bm.length<=1000000/\b.aG.length<=1000000)(hs:0<=b.aH/\b.aH<=1000000)(hq:n.aH=b.aH)(h:cO n):ky b n=some (lH b n):=by
 have k:=Fj h;have hok:=(M7 (b:=b) h).ok;have hadd:aB .i64 (vf n).aH 1=b.aH+1:=by rw[k.seq,hq];exact bG (by omega) (by omega)
 obtain⟨b1,f1,g1⟩:=ahV (s:=b.bm) (t:=(vf n).bm) hb.2.1;obtain⟨b2,f2,g2⟩:=ahV (s:=b.aG) (t:=(vf n).aG) hb.2.2;obtain⟨b3,f3,g3⟩:=eqT (a:=b.aa) (b:=(vf n).aa) hb.1;unfold ky;simp only[etas,aR,TI h,f1,f2,f3,Qa,hadd];unfold lH at hok ⊢
 by_cases e':HA b (vf n)=true
 ·have e:=Fk.1 e';rw[Qr e']at hok ⊢;rw[g1.2 e.1,g2.2 e.2.1,g3.2 e.2.2];simp only[Qo,Ql,Qa,GH hok]
 ·have e:¬(b.bm=(vf n).bm/\b.aG=(vf n).aG/\b.aa=(vf n).aa):=λe=>e' (Fk.2 e)
  rw[Qs e']at hok ⊢
  cases b3 with
  |false=>simp only[Qp,Qk,Qa,GH hok]
  |true=>
   cases b1 with
   |false=>simp only[Qp,Qo,Qk,Ql,Qa,GH hok]
   |true=>
    cases b2 with
    |false=>simp only[Qp,Qo,Qk,Ql,Qa,GH hok]
    |true=>exact absurd ⟨g1.1 rfl,g2.1 rfl,g3.1 rfl⟩ e
end
section
def iB(l:List az)(m:az):List az:=l.filter (λx=>decide (x.al<m.al))++m::l.filter (λx=>decide (m.al<x.al))
def vh(l:List az)(m:az):Bool:=l.any λx=>decide (x.al=m.al)&&decide (m.aH<=x.aH)
def TY{l:List az}{m x:az}:x∈iB l m↔x=m\/(x∈l/\x.al≠m.al):=by
 unfold iB;simp only[Qz,QA,List.mem_filter,Qi];constructor
 ·rintro(⟨h1,h2⟩|h|⟨h1,h2⟩)
  ·exact .inr ⟨h1,by omega⟩
  ·exact .inl h
  ·exact .inr ⟨h1,by omega⟩
 ·rintro(h|⟨h1,h2⟩)
  ·exact .inr (.inl h)
  ·rcases Int.lt_or_gt_of_ne h2 with h3|h3
   ·exact .inl ⟨h1,h3⟩
   ·exact .inr (.inr ⟨h1,h3⟩)
def Ik{n:ar}(h:cO n){m:az}(hm:wN m)(hne:m.al≠n.al):cO {n with au:=iB n.au m}:=by
 refine⟨h.ask,h.own,h.dy,h.eM,h.kS,h.sub,λx hx=> ?_,?_⟩
 ·rcases TY.1 hx with rfl|⟨hx,_⟩
  ·exact⟨hm,hne⟩
  ·exact h.heard x hx
 ·show(iB n.au m).Pairwise _;unfold iB;rw[Qq69,Q4];refine⟨h.dn.filter _,⟨λx hx=>of_decide_eq_true (List.mem_filter.1 hx).2,h.dn.filter _⟩,λx hx y hy=> ?_⟩
  have h1:=of_decide_eq_true (List.mem_filter.1 hx).2;rcases QA.1 hy with rfl|hy
  ·exact h1
  ·have h2:=of_decide_eq_true (List.mem_filter.1 hy).2;omega
def Oo{a:Int}:∀{l:List az},l.Pairwise (λx y=>x.al<y.al)->l.filter (λx=>decide (x.al<a))=l.takeWhile (λx=>decide (x.al<a))/\∀x∈l.drop (l.takeWhile λx=>decide (x.al<a)).length,a<=x.al
 |[],_=>⟨rfl,λx hx=>by simp at hx⟩
 |y::l,hp=>by
  rw[Q4]at hp
  by_cases hy:y.al<a
  ·obtain⟨h1,h2⟩:=Oo (a:=a) hp.2;rw[List.filter_cons,List.takeWhile_cons,Qg hy];simp only[Qt,QE,List.drop_succ_cons];exact⟨by rw[h1],h2⟩
  ·rw[List.filter_cons,List.takeWhile_cons,Qh hy];simp only[Qq,Qu,QZ,List.drop_zero];refine⟨List.filter_eq_nil_iff.2 λx hx=> ?_,λx hx=> ?_⟩
   ·have:=hp.1 x hx;rw[Qi];omega
   ·rcases QA.1 hx with rfl|hx
    ·omega
    ·have:=hp.1 x hx;omega
def Ti{a:Int}:∀{l:List az},l.Pairwise (λx y=>x.al<y.al)->l.filter (λx=>decide (a<x.al))=match l.drop (l.takeWhile λx=>decide (x.al<a)).length with|[]=>[]|y::r=>if y.al=a then r else y::r
 |[],_=>rfl
 |y::l,hp=>by
  rw[Q4]at hp
  by_cases hy:y.al<a
  ·have h1:=Ti (a:=a) hp.2;rw[List.filter_cons,List.takeWhile_cons,Qg hy,Qh (by omega:¬a<y.al)]
   simp only[Qt,Qq,Qu,QE,List.drop_succ_cons];exact h1
  ·have hall:∀x∈l,a<x.al:=λx hx=>by have:=hp.1 x hx;omega
   rw[List.filter_cons,List.takeWhile_cons,Qh hy];simp only[Qq,Qu,QZ,List.drop_zero];rw[List.filter_eq_self.2 λx hx=>Qg (hall x hx)]
   by_cases he:y.al=a
   ·rw[Qr he,Qh (by omega:¬a<y.al)];rfl
   ·rw[Qs he,Qg (by omega:a<y.al)];rfl
def ae0(x:az)(a:Int):mK x a=some (zg x.al a):=by unfold mK;simp
section
variable {n : ar} (h : cO n)
 include h
theorem ahU(a:Int):cv n.au a=some ((((n.au.takeWhile λx=>decide (x.al<a)).length:Nat):Int),(match n.au.drop (n.au.takeWhile λx=>decide (x.al<a)).length with|[]=>false|y::_=>decide (y.al=a)),()):=by
 have hlen:=h.len;unfold cv;refine(Iz n.au (by omega) (λy=>decide (y.al<a)) (h.dn.imp λ{x y} hxy hy=>by simp only[Qi]at hy ⊢;omega) (fin:=λk=>some (((k:Nat):Int),(match n.au.drop k with|[]=>false|y::_=>decide (y.al=a)),())) (λi j m y hd hj hm hadd hx=> ?_) (λi hd hi=> ?_)).trans rfl
 ·have hc:decide (zg y.al a<0)=decide (y.al<a):=by rw[decide_eq_decide];exact Iy _ _
  simp only[hd,hm,hadd,hx,az.eta,etas,ae0,hc,Qa,Qk];cases decide (y.al<a)<;>rfl
 ·simp only[hd,Ql]
  by_cases hi2:i<n.au.length
  ·have hc:decide (zg n.au[i].al a=0)=decide (n.au[i].al=a):=by rw[decide_eq_decide];exact wH _ _
   rw[Qg (by omega:(i:Int)<(n.au.length:Int)),QM hi2]
   simp only[Qk,bd,Qv hi2,Qa,az.eta,etas,ae0,hc,Qe]
  ·rw[Qh (by omega:¬(i:Int)<(n.au.length:Int)),List.drop_eq_nil_of_le (by omega)]
   rfl
theorem ahT(hs:1<=n.aH/\n.aH<=1000000){m:az}(hm:wN m)(hne:m.al≠n.al):sW n m=some (if vh n.au m then(Fc,9,())else(lH n {n with au:=iB n.au m},0,())):=by
 have hlen:=h.len;have hno:=Ik h hm hne;have hk:=M3 (λx:az=>decide (x.al<m.al)) n.au
 obtain⟨s1,s2⟩:=Oo (a:=m.al) h.dn;have s3:=Ti (a:=m.al) h.dn
 have htake:n.au.take (n.au.takeWhile λx=>decide (x.al<m.al)).length=n.au.takeWhile λx=>decide (x.al<m.al):=by
  conv=>lhs;arg 2;rw[<-List.takeWhile_append_dropWhile (p:=λx=>decide (x.al<m.al)) (l:=n.au)]
  exact List.take_left
 have hturn:ky n {n with au:=iB n.au m}=some (lH n {n with au:=iB n.au m}):=VD h.Cg ⟨by omega,hs.2⟩ rfl hno
 unfold sW;simp only[etas,az.eta,R6 h hs,YB hm,ahU h,W9 h,Qa,Qo,Ql,Qh hne,aR]
 have hold:vh n.au m=match n.au.drop (n.au.takeWhile λx=>decide (x.al<m.al)).length with|[]=>false|y::_=>decide (y.al=m.al)&&decide (m.aH<=y.aH):=by
  have hsplit:n.au=(n.au.takeWhile λx=>decide (x.al<m.al))++n.au.drop (n.au.takeWhile λx=>decide (x.al<m.al)).length:=by
   conv=>lhs;rw[<-List.take_append_drop (n.au.takeWhile λx=>decide (x.al<m.al)).length n.au]
   rw[htake]
  have hpre:∀x∈n.au.takeWhile λx=>decide (x.al<m.al),x.al<m.al:=λx hx=>by rw[<-s1]at hx;exact of_decide_eq_true (List.mem_filter.1 hx).2
  have hsd:=h.dn;unfold vh;rw[hsplit]at hsd
  conv=>lhs;rw[hsplit]
  rw[List.any_append,List.any_eq_false.2 λx hx=>by have:=hpre x hx;rw[Qh (by omega:¬x.al=m.al)];simp,Bool.false_or]
  cases hd:n.au.drop (n.au.takeWhile λx=>decide (x.al<m.al)).length with
  |nil=>rfl
  |cons y r=>
   rw[hd,Qq69,Q4]at hsd;have hy:m.al<=y.al:=s2 y (by rw[hd];exact Qx)
   rw[List.any_cons,List.any_eq_false.2 λx hx=>by have:=hsd.2.1.1 x hx;rw[Qh (by omega:¬x.al=m.al)];simp,Bool.or_false]
 have hl:iB n.au m=(n.au.takeWhile λx=>decide (x.al<m.al))++m::(match n.au.drop (n.au.takeWhile λx=>decide (x.al<m.al)).length with|[]=>[]|y::r=>if y.al=m.al then r else y::r):=by unfold iB;rw[s1,s3]
 rw[hold];generalize hkk:(n.au.takeWhile λx=>decide (x.al<m.al)).length=k at*
 cases hd:n.au.drop k with
 |nil=>
  rw[hd]at hl
  have hkl:k=n.au.length:=by have:=congrArg List.length hd;simp only[List.length_drop,QZ]at this;omega
  have hins:cy n.au (k:Int) [m]=some (iB n.au m):=by
   unfold cy C1;rw[Qg (by omega:(0:Int)<=(k:Int)),Qg (by omega:(k:Int)<=(n.au.length:Int)),mg (by omega) (by simp;omega),hl]
   simp only[QV,htake,hd];simp
  simp only[Ql,hins,hturn,Qa,Qq,Qu]
 |cons y r=>
  rw[hd]at hl
  have hk1:k<n.au.length:=by have:=congrArg List.length hd;simp only[List.length_drop,QE]at this;omega
  have hyk:n.au[k]=y:=by rw[QM hk1]at hd;exact(List.cons.inj hd).1
  have hr:n.au.drop (k+1)=r:=by rw[QM hk1]at hd;exact(List.cons.inj hd).2
  have hx:idx n.au (k:Int)=some y:=by rw[bd,Qv hk1,hyk]
  have hx2:n.au[k]?=some y:=by rw[Qv hk1,hyk]
  by_cases hyn:y.al=m.al
  ·simp only[Qr hyn]at hl;simp only[Qg hyn,Qk,hx,Qa,Bool.true_and,QV,hx2]
   cases decide (m.aH<=y.aH)with
   |true=>rfl
   |false=>
    have hset:n.au.set k m=iB n.au m:=by rw[hl,List.set_eq_take_append_cons_drop,Qr hk1,htake,hr]
    simp only[Ql,hset,hturn,Qa,Qq,Qu]
  ·simp only[Qs hyn]at hl
   have hins:cy n.au (k:Int) [m]=some (iB n.au m):=by
    unfold cy C1;rw[Qg (by omega:(0:Int)<=(k:Int)),Qg (by omega:(k:Int)<=(n.au.length:Int)),mg (by omega) (by simp;omega),hl]
    simp only[QV,htake,hd];simp
   simp only[Qh hyn,Ql,hins,hturn,Qa,Bool.false_and,Qq,Qu]
theorem abg(hs:1<=n.aH/\n.aH<=1000000){m:az}(hm:wN m)(hne:m.al≠n.al):tJ n m=some (if vh n.au m then(Fc,9,())else(lH n {n with au:=iB n.au m},0,())):=by
 have hlen:=h.len;have hset:gd n {n with au:=iB n.au m}=some (lH n {n with au:=iB n.au m}):=Fq h.Cg ⟨by omega,hs.2⟩ (Ik h hm hne)
 have kk:∀(a:List az) (x:az),a.length<=100->bg 120 (a.length+[x].length)=true:=λa x ha=>bz ⟨by simp only[Q6];omega,by simp only[Q6];omega⟩
 unfold tJ;simp only[etas,az.eta,DT h hs,R0 hm,Qa,Qo,Ql];rw[Qh hne];simp only[Ql,aR]
 suffices key:Yd (aE _ (false,(0:Int),Fc,{n with au:=[]},[],())) λr=>r=if vh n.au m then(Fc,(9:Int),())else(lH n {n with au:=iB n.au m},(0:Int),())by obtain⟨r,g,rfl⟩:=key;exact g
 refine Yd.list n.au (by omega) (λi (s:Bool×List az)=>(s.1,i,Fc,{n with au:=[]},s.2,()))
  (λi s=>s.2.length<=i+1/\vh (n.au.take i) m=false/\s.1=(n.au.take i).any (λx=>decide (m.al<x.al))/\s.2=(n.au.take i).filter (λx=>decide (x.al<m.al))++(if s.1 then[m]else[])++(n.au.take i).filter (λx=>decide (m.al<x.al))) ?_ ?_ (s:=(false,[])) ⟨by simp,rfl,rfl,rfl⟩
 ·rintro i x ⟨d,acc⟩ ⟨a1,a2,a3,a4⟩ hd hx' hi hdec hx hadd;simp only at a1 a2 a3 a4;have e:n.au.take (i+1)=n.au.take i++[x]:=by rw[List.take_add_one,show n.au[i]?=some x by rw[bd]at hx;exact hx];rfl
  have hlt:∀y∈n.au.take i,y.al<x.al:=by have:=h.dn.sublist (List.take_sublist (i+1) n.au);rw[e,Qq69]at this;exact λy hy=>this.2.2 y hy x (by simp)
  have k1:=kk acc m (by omega)
  have k2:=kk acc x (by omega)
  have k3:=kk (acc++[m]) x (by simp only[QB,Q6];omega)
  simp only;rw[hdec,Qk,hx,Qa,hadd]
  by_cases hn:x.al=m.al
  ·rw[Qg hn,Qk]
   by_cases hq:m.aH<=x.aH
   ·rw[Qg hq];refine .some ?_;have:vh n.au m=true:=List.any_eq_true.2 ⟨x,hx',by rw[Qg hn,Qg hq];rfl⟩
    show _=_;rw[Qr this];rfl
   ·rw[Qh hq];refine .some ⟨(d,acc),rfl,by show acc.length<=i+1+1;omega,?_,?_,?_⟩
    ·rw[e];unfold vh at a2 ⊢;rw[List.any_append,a2];simp[hq]
    ·rw[e,List.any_append];simp only;rw[<-a3];simp[hn]
    ·rw[e];simp only[List.filter_append,List.filter_cons,List.filter_nil,Qh (by omega:¬x.al<m.al),Qh (by omega:¬m.al<x.al),Qq,Qu,List.append_nil]
     exact a4
  ·rw[Qh hn,Ql,k1,k2,k3]
   have holdx:vh (n.au.take (i+1)) m=false:=by rw[e];unfold vh at a2 ⊢;rw[List.any_append,a2];simp[hn]
   by_cases hlx:m.al<x.al
   ·rw[Qg hlx]
    have hany:(n.au.take (i+1)).any (λx=>decide (m.al<x.al))=true:=by rw[e,List.any_append];simp[hlx]
    have hfl:(n.au.take (i+1)).filter (λx=>decide (x.al<m.al))=(n.au.take i).filter (λx=>decide (x.al<m.al)):=by
     rw[e,List.filter_append,List.filter_cons,Qh (by omega:¬x.al<m.al)]
     simp
    have hfg:(n.au.take (i+1)).filter (λx=>decide (m.al<x.al))=(n.au.take i).filter (λx=>decide (m.al<x.al))++[x]:=by rw[e,List.filter_append,List.filter_cons,Qg hlx];rfl
    cases d with
    |true=>
     simp only[Qo,Ql,Qk,Qa];refine .some ⟨(true,acc++[x]),rfl,by simp only[QB,Q6];omega,holdx,hany.symm,?_⟩
     simp only;rw[hfl,hfg,a4];simp
    |false=>
     simp only[Qp,Qk,Qa]
     have hnil:(n.au.take i).filter (λx=>decide (m.al<x.al))=[]:=by
      refine List.filter_eq_nil_iff.2 λy hy=> ?_
      have:=List.any_eq_false.1 a3.symm y hy;exact this
     rw[hnil]at a4;refine .some ⟨(true,acc++[m]++[x]),rfl,?_,holdx,hany.symm,?_⟩
     ·have hb:acc.length<=i:=by
       rw[a4];simp only[Qq,Qu,List.append_nil];refine QK (List.length_filter_le _ _) ?_;rw[List.length_take];omega
      simp only[QB,Q6];omega
     ·simp only;rw[hfl,hfg,hnil,a4];simp
   ·have hxm:x.al<m.al:=by omega
    rw[Qh hlx];have hnone:∀y∈n.au.take i,¬m.al<y.al:=λy hy=>by have:=hlt y hy;omega
    have hd0:d=false:=by rw[a3];exact List.any_eq_false.2 λy hy=>by rw[Qh (hnone y hy)];simp
    have hnil:(n.au.take i).filter (λx=>decide (m.al<x.al))=[]:=List.filter_eq_nil_iff.2 λy hy=>by rw[Qh (hnone y hy)];simp
    subst hd0;rw[hnil]at a4;simp only[Qp,Qk,Ql,Qa];refine .some ⟨(false,acc++[x]),rfl,by simp only[QB,Q6];omega,holdx,?_,?_⟩
    ·rw[e,List.any_append];simp only;rw[<-a3];simp[hlx]
    ·simp only;rw[e,List.filter_append,List.filter_append,hnil,a4];simp[hxm,hlx]
 ·rintro⟨d,acc⟩ ⟨a1,a2,a3,a4⟩ hdec;rw[Qq62]at a2 a3 a4;simp only at a1 a2 a3 a4;simp only;rw[hdec,Ql];have k1:=kk acc m (by omega)
  have hold:vh n.au m=false:=a2;rw[k1,hold]
  cases d with
  |true=>
   have:acc=iB n.au m:=by rw[a4];simp[iB]
   rw[this];simp only[Qo,Ql,hset,Qa,Qe];exact .some rfl
  |false=>
   have hnil:n.au.filter (λx=>decide (m.al<x.al))=[]:=List.filter_eq_nil_iff.2 λy hy=>List.any_eq_false.1 a3.symm y hy
   have:acc++[m]=iB n.au m:=by rw[hnil]at a4;unfold iB;rw[hnil,a4];simp
   simp only[Qp,Qk,this,hset,Qa,Qe];exact .some rfl
theorem ahW(hs:1<=n.aH/\n.aH<=1000000){t:aj}(ht:c5 t):pH n t=oq n t:=by
 unfold oq pH;simp only[etas,ar.eta,DT h hs,R6 h hs,dx ht,de ht,Qa,Qo,Ql,decide_true];obtain⟨b,f,hb⟩:=NV (a:=n.aa) (b:=t) h.ask.aN.sm;obtain⟨b',f',hb'⟩:=eqT (a:=n.aa) (b:=t) h.ask.aN.sm;have e:b'=b:=by rw[QW,hb,hb']
 rw[f,f',e];simp only[Qa]
 cases b with
 |true=>simp only[Qk,GH h,Qa]
 |false=>
  have hn:cO {n with aa:=t}:=⟨⟨ht,h.ask.v0,h.ask.v1,h.ask.s0,h.ask.s1,h.ask.r1,h.ask.r2⟩,h.own,h.dy,h.eM,h.kS,h.sub,h.heard,h.dn⟩
  simp only[Ql];rw[Fq h.Cg ⟨by omega,hs.2⟩ hn,VD (n:={n with aa:=t}) h.Cg ⟨by omega,hs.2⟩ rfl hn]
end
def afT{t:aj}{v aK:Int}{own:ByteArray}(ht:c5 t)(h0:0<=v)(h1:v<10)(h2:0<=aK)(h3:aK<=1000000)(ho:own.size<=200):sq v aK t own=mz v aK t own:=by
 have hn:cO ⟨v,aK,1,1,t,own,[],[],[],[]⟩:=⟨⟨ht,h0,h1,h2,h3,by show(1:Int)<=1;omega,by show(1:Int)<=1000;omega⟩,ho,.nil,.nil,.nil,λx hx=>absurd hx QR,λx hx=>absurd hx QR,List.Pairwise.nil⟩
 have k:=Fj hn;have hq:(vf ⟨v,aK,1,1,t,own,[],[],[],[]⟩).aH=1:=k.seq;unfold mz sq;simp only[etas,dx ht,de ht,ZU h0 h1];rw[Qh (by omega:¬v<0),Qh (by omega:¬(10:Int)<=v),Qh (by omega:¬aK<0),Qh (by omega:¬(1000000:Int)<aK),Qh (by omega:¬(200:Int)<((own.size:Nat):Int))]
 simp only[Ql,Qa,decide_true,Qo,TI hn,GH k.ok];rw[Fq hn.Cg ⟨by show(0:Int)<=1;omega,by show(1:Int)<=1000000;omega⟩ hn,Qa]
 unfold lH;split
 ·generalize vf ⟨v,aK,1,1,t,own,[],[],[],[]⟩=r at hq;obtain⟨a1,a2,a3,a4,a5,a6,a7,a8,a9,a10⟩:=r;simp only at hq;subst hq;rfl
 ·generalize vf ⟨v,aK,1,1,t,own,[],[],[],[]⟩=r at hq;obtain⟨a1,a2,a3,a4,a5,a6,a7,a8,a9,a10⟩:=r;simp only at hq;subst hq;rfl
end
section
def GB{a b:ae}(hq:a.aH=b.aH){s:Int}:({a with aH:=s}:ae)={b with aH:=s}↔a=b:=by
 constructor
 ·intro h;cases a;cases b;simp only[ae.mk.injEq]at h hq ⊢;obtain⟨h1,h2,_,h3⟩:=h;exact⟨h1,h2,hq,h3⟩
 ·rintro rfl;rfl
def step_seq{m:ae}(h:bs m){s:Int}(hs:0<=s/\s<=1000000):dh {m with aH:=s}={dh m with aH:=s}:=by
 have e1:di {m with aH:=s}={m with aH:=s}↔di m=m:=by rw[JT h hs];exact GB (Cr m).seq
 have e2:gB {m with aH:=s}={m with aH:=s}↔gB m=m:=by rw[JR h hs];exact GB (zx m).seq
 have e3:fX {m with aH:=s}={m with aH:=s}↔fX m=m:=by rw[JV h hs];exact GB (zz m).seq
 have e4:jf {m with aH:=s}={m with aH:=s}↔jf m=m:=by rw[JU h hs];exact GB (zy m).seq
 unfold dh
 by_cases hP:di m=m
 ·rw[Qr (e1.2 hP),Qr hP]
  by_cases hS:gB m=m
  ·rw[Qr (e2.2 hS),Qr hS]
   by_cases hC:fX m=m
   ·rw[Qr (e3.2 hC),Qr hC]
    by_cases hF:jf m=m
    ·rw[Qr (e4.2 hF),Qr hF,TD h hs]
    ·rw[Qs (mt e4.1 hF),Qs hF,JU h hs]
   ·rw[Qs (mt e3.1 hC),Qs hC,JV h hs]
  ·rw[Qs (mt e2.1 hS),Qs hS,JR h hs]
 ·rw[Qs (mt e1.1 hP),Qs hP,JT h hs]
 def MM:Nat->ae->ae
 |0,m=>m
 |k+1,m=>dh (MM k m)
def Sx{m:ae}(h:dh m=m):∀k,MM k m=m
 |0=>rfl
 |k+1=>by rw[MM,Sx h k,h]
def Sy(m:ae)(k:Nat):∀j,MM (j+k) m=MM j (MM k m)
 |0=>by rw[Nat.zero_add];rfl
 |j+1=>by rw[Nat.add_right_comm,MM,MM,Sy m k j]
def Bj(m1 x:ae):Prop:=bs x/\∃k,({x with aH:=0}:ae)=MM k {m1 with aH:=0}
def Bj.self{m1:ae}(h:bs m1):Bj m1 m1:=⟨h,0,rfl⟩
def Lh{m1:ae}:∀m,bs m->Bj m1 m->Bj m1 (dh m):=λm h ⟨_,k,e⟩=>⟨Fi h,k+1,by rw[MM,<-e,step_seq (s:=0) h ⟨by decide,by decide⟩]⟩
def Lg{m1:ae}:∀m,Bj m1 m->Bj m1 (dq m):=λm ⟨h,k,e⟩=>⟨wc h,k,by
 rw[<-e];unfold dq
 split<;>rfl⟩
def aaL{m0 m1 a b:ae}(ha:IL (Bj m1) m0 a)(hb:IL (Bj m1) m0 b)(hq:0<=m0.aH):a=b:=by
 have fixed:∀{x:ae},IL (Bj m1) m0 x->dh {x with aH:=0}={x with aH:=0}:=λ{x} hx=>by rw[step_seq (s:=0) hx.inv ⟨by decide,by decide⟩,adP hx.fix]
 obtain⟨_,k,ea⟩:=ha.rel;obtain⟨_,j,eb⟩:=hb.rel
 have core:({a with aH:=0}:ae)={b with aH:=0}:=by
  rcases Nat.le_total k j with h|h
  ·have e2:=Sy {m1 with aH:=0} k (j - k)
   rw[show j - k+k=j by omega,<-eb,<-ea,Sx (fixed ha)]at e2
   exact e2.symm
  ·have e2:=Sy {m1 with aH:=0} j (k - j)
   rw[show k - j+j=k by omega,<-eb,<-ea,Sx (fixed hb)]at e2
   exact e2
 have hz:a.af=b.af:=by have:=congrArg ae.af core;exact this
 have hs:a.aH=b.aH:=by
  have n1:=ha.num;have n2:=hb.num
  cases hc:aP a.af with
  |true=>rw[ha.seq.zero hc,hb.seq.zero (by rw[<-hz];exact hc)]
  |false=>
   have p1:=ha.seq.pos hc;have p2:=hb.seq.pos (by rw[<-hz];exact hc)
   omega
 exact(GB hs).1 core
def JX{m m1:ae}{q q':ae×Int×Unit}(h1:0<=(dq m1).aH)(h:Hi (Bj m1) m m1 q)(h':Hi (Bj m1) m m1 q'):q=q':=by obtain⟨a,rfl,ha⟩:=h;obtain⟨b,rfl,hb⟩:=h';rw[aaL ha hb h1]
section
variable {m : ae} (h : bs m) (hs : fM m)
 include h hs
theorem aca{v:ByteArray}(hv:1<=v.size/\v.size<=200):pf m v=kq m v:=by have hi:=HM h hv;obtain⟨q,e1,h1⟩:=adv Lh Lg h hs hv (Bj.self hi);obtain⟨q',e2,h2⟩:=Nh Lh Lg h hs hv (Bj.self hi);rw[e1,e2,JX (wc hi).seq.1 h1 h2]
theorem ab9{e:ak}(he:AJ m e):jY m e=kp m e:=by
 have hi:=Ii h he;obtain⟨q,e1,h1⟩:=adu Lh Lg h hs he (Bj.self hi);obtain⟨q',e2,h2⟩:=Vt Lh Lg h hs he (Bj.self hi);rw[e1,e2];rcases h1 with⟨h1,a⟩|⟨rfl,a⟩<;>rcases h2 with⟨h2,b⟩|⟨rfl,b⟩
 ·rw[JX (wc hi).seq.1 h1 h2]
 ·rw[a]at b;cases b
 ·rw[a]at b;cases b
 ·rfl
end
end
section
def ad6{a b:ByteArray}:decide (0<xO a b)=bQ b a:=by
 cases h:bQ b a with
 |true=>
  have h1:¬xO a b<0:=λe=>by have:=wG a b;rw[Qg e,jA.asymm h]at this;cases this
  have h2:¬xO a b=0:=λe=>by have h3:=KI (a:=a) (b:=b);rw[Qg e]at h3;rw[of_decide_eq_true h3.symm,jA.irrefl]at h;cases h
  exact Qg (by omega)
 |false=>
  refine Qh λe=> ?_
  have h1:bQ a b=false:=by rw[<-wG];exact Qh (by omega)
  have h2:=jA.total _ _ h1 h;have h3:=KI (a:=a) (b:=b);rw[Qg h2]at h3;have:=of_decide_eq_true h3;omega
def nj(l:List ByteArray):ByteArray:=l.getLast?.getD bE
def J9{l:List ByteArray}(h:l≠[]):nj l∈l:=by
 unfold nj
 cases hl:l.getLast? with
 |none=>exact absurd (List.getLast?_eq_none_iff.1 hl) h
 |some a=>exact List.mem_of_getLast? hl
def adH{x:ByteArray}(h:kT x):bQ bE x=true:=by
 have:=h.1;have h0:bE.size=0:=rfl;unfold bQ;rw[Qs (by rw[h0];omega),h0]
 exact Qg (by omega)
def H2{l:List ByteArray}{i:Nat}{x:ByteArray}(hx:l[i]?=some x):nj (l.take (i+1))=x:=by unfold nj;rw[List.take_add_one,hx];simp
def TS{l:List ByteArray}(h:VL l){i:Nat}{x:ByteArray}(hx:l[i]?=some x):bQ (nj (l.take i)) x=true:=by
 have hi:i<l.length:=(Qw.1 hx).1;have hxe:l[i]=x:=(Qw.1 hx).2
 by_cases h0:i=0
 ·subst h0;exact adH (h.sz x (Q8 hx))
 ·have e:=H2 (l:=l) (i:=i - 1) (Qv (by omega))
  rw[show i - 1+1=i by omega]at e
  rw[e,<-hxe];exact List.pairwise_iff_getElem.1 h.Hd (i - 1) i (by omega) hi (by omega)
def abi{l:List ByteArray}(h:VL l):mj l=some (nj l,decide (l≠[]),()):=by
 unfold mj;simp only[aR]
 suffices key:Yd (aE _ (bE,false,(0:Int),())) λr=>r=(nj l,decide (l≠[]),())by obtain⟨r,g,rfl⟩:=key;exact g
 refine Yd.list l h.wg (λi (s:ByteArray×Bool)=>(s.1,s.2,i,())) (λi s=>s=(nj (l.take i),decide (i≠0))) ?_ ?_ (s:=(_,false)) rfl
 ·rintro i x s rfl hd hx' hi hdec hx hadd;have hx2:l[i]?=some x:=by rw[bd]at hx;exact hx
  have hl:=TS h hx2;simp only;rw[hdec,Qk,hx,Qa,OI,Qa,hadd,Qg (h.sz x hx'),Bs];simp only[Qk,Qa,KJ,hl];have g:∃s':ByteArray×Bool,((x,true,((i+1:Nat):Int),()):ByteArray×Bool×Int×Unit)=(s'.1,s'.2,((i+1:Nat):Int),())/\s'=(nj (l.take (i+1)),decide (i+1≠0)):=⟨(x,true),rfl,by rw[H2 hx2];rfl⟩
  cases decide (i≠0)<;>exact .some g
 ·rintro s rfl hdec;simp only;rw[hdec,Ql,Qq62];refine .some ?_;show _=_;congr 2;rw[decide_eq_decide];cases l<;>simp
def ahY{l:List ByteArray}(h:VL l):nu l=some (nj l,decide (l≠[]),()):=by
 unfold nu;simp only[aR]
 suffices key:Yd (aE _ (bE,(0:Int),())) λr=>r=(nj l,decide (l≠[]),())by obtain⟨r,g,rfl⟩:=key;exact g
 refine Yd.list l h.wg (λi (s:ByteArray)=>(s,i,())) (λi s=>s=nj (l.take i)) ?_ ?_ rfl
 ·rintro i x s rfl hd hx' hi hdec hx hadd;have hx2:l[i]?=some x:=by rw[bd]at hx;exact hx
  have hl:=TS h hx2;simp only;rw[hdec,Qk,hx,Qa,abr,Qa,hadd,Qg (h.sz x hx'),Eh];simp only[Qk,Qa,ad6,hl];exact .some ⟨x,rfl,by rw[H2 hx2]⟩
 ·rintro s rfl hdec;simp only;rw[hdec,Ql,Qq62];refine .some ?_;show _=_;congr 2
  cases hl:l with
  |nil=>rfl
  |cons y r=>
   have hm:nj l∈l:=J9 (by rw[hl];simp)
   have hv:=h.sz _ hm;rw[<-hl]
   have hne:nj l≠bE:=λe=>by rw[e]at hv;exact absurd hv.1 (by decide)
   rw[Qh hne,Qg (by rw[hl];simp)]
   rfl
def ajn{l:List az}(hlen:l.length<=100)(h:∀m∈l,cQ m.aa/\m.bm.length<=1000/\m.aG.length<=1000):fJ l=some l:=by
 unfold fJ
 suffices key:∀(k i:Nat),i+k=l.length->aE _ ((i:Int),l.take i,())=some l from key l.length 0 (by omega)
 intro k
 induction k with
 |zero=>
  intro i hi;obtain rfl:i=l.length:=by omega
  refine bO ?_;simp only[Qh (Qq64 _),Ql,Qq62,Qe]
 |succ k ih=>
  intro i hi;have hlt:i<l.length:=by omega
  have hx:idx l (i:Int)=some l[i]:=by rw[bd];exact Qv hlt
  obtain⟨h1,h2,h3⟩:=h _ (Q0 hlt);refine(bA ?_).trans (ih (i+1) (by omega))
  simp only[Qg (by omega:(i:Int)<(l.length:Int)),hx,Qk,Qa,etas,az.eta,VF h1 h2 h3]
  rw[mg (by omega) (by simp;omega),bG (by omega) (by omega),Q7 hlt]
  rfl
section
variable {nd sl k : Int} {x : aJ}
def OW(h:tz nd sl k x):oP x=some x:=by
 have n:=h.lS;have l1:=n.dy.len;have l2:=n.eM.len;have l3:=n.kS.len;have l4:=n.len;have l5:=h.hZ.len;have hN:fJ x.aA.au=some x.aA.au:=ajn (by omega) λm hm=>⟨(n.heard m hm).1.aN.sm,QK (n.heard m hm).1.dy.len (by omega),QK (n.heard m hm).1.eM.len (by omega)⟩
 have hE:dZ x.ab.au=some x.ab.au:=XA (λe he=>(h.hZ.hv e he).2.1.sm) (by omega)
 unfold oP;simp only[aJ.eta,ar.eta,ae.eta,etas,jm n.ask.aN.sm,jm h.hZ.aN.sm,wI _ (QK l1 (by omega)),wI _ (QK l2 (by omega)),wI _ (QK l3 (by omega)),hN,hE,Qa]
def Im(h:tz nd sl k x):oK x=eS x:=by
 unfold oK eS;simp only[etas,aR,ahY h.lS.kS,abi h.lS.kS,c6,df,Qa,No h.hZ h.jB,Br h.hZ h.jB]
 by_cases hc:x.aA.aS=[]
 ·have e1:decide ((0:Int)<(x.aA.aS.length:Int))=false:=by rw[hc];rfl
  rw[e1,hc];cases decide (x.ab.aQ=1)<;>cases aP x.ab.ax<;>rfl
 ·have hpos:0<x.aA.aS.length:=List.length_pos_iff.2 hc;have hlv:kT (nj x.aA.aS):=h.lS.kS.sz _ (J9 hc);rw[Qg (by omega:(0:Int)<(x.aA.aS.length:Int)),Qg hc,aca h.hZ h.jB hlv]
  obtain⟨q,e,q0,hn⟩:=HT h.hZ h.jB hlv;rw[e];simp only[Qa,q0,decide_true,Qk,No hn.inv hn.seq,Br hn.inv hn.seq];cases decide (x.ab.aQ=1)<;>cases aP x.ab.ax<;>cases decide (nj x.aA.aS=x.ab.bj)<;>rfl
def abL{m:ae}(h:bs m)(hs:fM m){v:ByteArray}(hv:kT v):Yd (kq m v) λq=>q.2.1=0/\DO m m.aa q.1/\q.1.bj=v/\q.1.au=m.au:=by
 obtain⟨q,e,h1,h2⟩:=HT h hs hv;obtain⟨q',e',m2,rfl,ha⟩:=Nh (R:=λ_=>True) (λ_ _ _=>trivial) (λ_ _=>trivial) h hs hv trivial
 rw[e]at e';obtain rfl:=Option.some.inj e';obtain⟨_,_,_,e4,e5,_⟩:=El (gA m v);obtain⟨s,es,_⟩:=Oa m m2;have g1:(gA m v).bj=v:=by unfold gA;split<;>rfl
 have g2:(gA m v).au=m.au:=by unfold gA;split<;>rfl
 refine⟨_,e,h1,h2,?_,?_⟩
 ·show(ux m m2).bj=v;rw[es];exact ha.env.2.2.2.1.trans (e4.trans g1)
 ·show(ux m m2).au=m.au;rw[es];exact ha.env.2.2.2.2.trans (e5.trans g2)
structure Zc (x y:aJ):Prop where
 lS:y.aA=x.aA
 round:y.Round=x.Round
 next:y.Next=x.Next
 timer:y.Timer=x.Timer
 heard:y.ab.au=x.ab.au
 ub:x.aA.aS≠[]->y.ab.aQ=1->aP y.ab.ax=true->y.ab.bj=nj x.aA.aS
def Vs(h:tz nd sl k x):Yd (eS x) λy=>se nd sl k y/\mD x.ab y.ab/\Zc x y:=by
 obtain⟨y,e,h1,h2,_⟩:=u0 h;refine⟨y,e,h1,h2,?_⟩;unfold eS at e;simp only[etas,aR,abi h.lS.kS,df,Qa,Br h.hZ h.jB]at e
 have same:(x.aA.aS≠[]->x.ab.aQ=1->aP x.ab.ax=true->x.ab.bj=nj x.aA.aS)->∀{a:Bool} {b:ByteArray},y=⟨x.aA,x.ab,x.Timer,x.Round,x.Next,a,b⟩->Zc x y:=λhp a b ey=>by subst ey;exact⟨rfl,rfl,rfl,rfl,rfl,hp⟩
 by_cases hc:x.aA.aS=[]
 ·rw[hc]at e;exact same (λhn=>absurd hc hn) (Option.some.inj e).symm
 ·have hlv:kT (nj x.aA.aS):=h.lS.kS.sz _ (J9 hc);rw[Qg hc]at e
  by_cases h3:x.ab.aQ=1
  ·rw[Qg h3]at e
   cases hz:aP x.ab.ax with
   |false=>rw[hz]at e;exact same (λ_ _ e2=>by rw[hz]at e2;cases e2) (Option.some.inj e).symm
   |true=>
    rw[hz]at e
    by_cases hp:nj x.aA.aS=x.ab.bj
    ·rw[Qg hp]at e;exact same (λ_ _ _=>hp.symm) (Option.some.inj e).symm
    ·rw[Qh hp]at e;obtain⟨q,eq,q0,hn,qp,qh⟩:=abL h.hZ h.jB hlv;rw[eq]at e;simp only[Qk,Qp,Qa,q0,decide_true,Br hn.inv hn.seq]at e;obtain rfl:=Option.some.inj e;exact⟨rfl,rfl,rfl,rfl,qh,λ_ _ _=>qp⟩
  ·rw[Qh h3]at e;exact same (λ_ e2=>absurd e2 h3) (Option.some.inj e).symm
end
end
section
def aiw{c:Int}(hc:0<=c)(hc2:c<=1000000):uQ c=lX c:=by
 have h1:∀d:Int,0<=d->d<=1000000->aB .i64 d 1=d+1:=λd a b=>bG (by omega) (by omega)
 unfold uQ lX;have hm:0<=bF (dt c 11) 0/\bF (dt c 11) 0<=11:=by unfold bF dt;split<;>split<;>omega
 rw[h1 _ hm.1 (by omega)]
 by_cases h:12<=c
 ·have:bF (dt c 11) 0=11:=by unfold bF dt;split<;>split<;>omega
  rw[Qg h,this];rfl
 ·have e1:bF (dt c 11) 0=c:=by unfold bF dt;split<;>split<;>omega
  have e2:bF (c+1) 1=c+1:=by unfold bF;split<;>omega
  rw[Qh h,Ql,h1 c hc hc2,e1,e2]
section
variable {m : ae} (h : bs m) (hs : fM m)
 include h hs
end
section
variable {nd sl k : Int} {x : aJ} (h : se nd sl k x) (hk : k <= 999998)
 include h hk
theorem X4{m:az}(hm:wN m)(hne:m.al≠nd):uA x m=fQ x m:=by
 have p:=h.pre;have hsq:1<=x.aA.aH/\x.aA.aH<=1000000:=⟨p.oF.1,by have:=p.oF.2;omega⟩
 have hne2:m.al≠x.aA.al:=by rw[p.rJ];exact hne
 unfold uA xR wR sf fQ;simp only[az.eta,etas,aR,sA h (by omega),Ei h (by omega),OW p,ahT p.lS hsq hm hne2,abg p.lS hsq hm hne2,Qa,Qo,Ql]
 have hs:=M7 (b:=x.aA) (Ik p.lS hm hne2)
 cases vh x.aA.au m with
 |true=>rfl
 |false=>
  have h1:=p.oF;have hp:tz nd sl (k+1) {x with aA:=lH x.aA {x.aA with au:=iB x.aA.au m}}:=⟨p.hZ,p.jB,p.aF,p.aK,hs.ok,by show 1<=(lH x.aA {x.aA with au:=iB x.aA.au m}).aH/\(lH x.aA {x.aA with au:=iB x.aA.au m}).aH<=1+(k+1);rcases hs.seq with e|e<;>rw[e]<;>(try show 1<=x.aA.aH/\x.aA.aH<=1+(k+1))<;>omega,hs.aF.trans p.rJ,hs.aK.trans p.xc,hs.aN.trans p.aN,p.timer,p.round,p.next⟩
  simp only[Qq,Qu,decide_true,Qo,Ql,Qk,Qa,Im hp];obtain⟨y,ey,_⟩:=u0 hp;rw[ey];rfl
theorem aak{e:ak}(he:AJ x.ab e\/(cQ e.aa/\(bc e=false\/e.al=x.ab.al\/e.aL≠x.ab.aL))):vF x e=lf x e:=by
 have p:=h.pre;unfold vF xQ xS uR lf;simp only[etas,aR,sA h (by omega),Ei h (by omega),OW p,Qa,Qo,Ql]
 rcases he with he|⟨ht,hv⟩
 ·rw[ab9 p.hZ p.jB he];obtain⟨q,e1,hq⟩:=VQ p.hZ p.jB he;rw[e1];rcases hq with⟨q0,hn⟩|q9
  ·simp only[Qa,q0,decide_true,Qo,Ql,Qk,Im (p.RO hn)];obtain⟨y,ey,_⟩:=u0 (p.RO hn);rw[ey];rfl
  ·simp only[Qa,q9];rfl
 ·rw[Yr p.hZ p.jB ht hv,afV p.hZ p.jB ht hv];rfl
end
def ajH{nd sl:Int}(hv0:0<=nd)(hv1:nd<10)(hs0:1<=sl)(hs1:sl<=1000000){t:aj}{own:ByteArray}{now:Int}(ht:c5 t)(ho:own.size<=200)(h0:0<=now)(h1:now<=200):uB nd sl t own now=nn nd sl t own now:=by
 unfold uB nn C3;simp only[etas,Qg h0,Qg h1,Qh (by omega:¬now<0),Qh (by omega:¬(200:Int)<now),Ql,Qk,Qo,Qa]
 rw[adb hv0 hv1 hs0 hs1 ht,akz hv0 hv1 hs0 hs1 ht,afT ht hv0 hv1 (by omega) hs1 ho]
 obtain⟨q,eq,q0,g1,g2,g3,g4,g5⟩:=RZ ht hv0 hv1 (show(0:Int)<=sl by omega) hs1 ho
 obtain⟨w,ew,w1,w2⟩:=OH (c:=1) (by omega) (by omega)
 have hadd2:aB .i64 now w=now+w:=bG (by omega) (by omega)
 have ew2:uQ 1=some w:=(aiw (by omega) (by omega)).trans ew
 obtain⟨m1,m2⟩:=R7 (aF:=nd) (aK:=sl) hv0 hv1 hs0 hs1 ht;have ht0:xn ⟨0, -1⟩:=⟨by decide,by decide,by decide,by decide⟩
 have hp:tz nd sl 0 ⟨q.1,Nq nd sl t,⟨0, -1⟩,1,now+w,false,bE⟩:=⟨m1,m2,rfl,rfl,g1,by show 1<=q.1.aH/\q.1.aH<=1+0;rw[g5];decide,g2,g3,g4,ht0,⟨(by decide:(1:Int)<=1),(by decide:(1:Int)<=1000)⟩,by show 0<=now+w/\now+w<=212;omega⟩
 rw[eq];simp only[Qa,decide_true,Qo,Ql,q0,ew,ew2,hadd2,Im hp]
end
section
section
variable {nd sl k : Int} {x : aJ} (h : se nd sl k x) (hk : k <= 999998)
 include h hk
theorem ai9{m:az}(hm:wN m)(hne:m.al≠nd):Yd (fQ x m) λq=>(vh x.aA.au m=false/\q.2.1=0/\se nd sl (k+1) q.1/\mD x.ab q.1.ab/\vh q.1.aA.au m=true/\(q.1.aA.aS≠[]->q.1.ab.aQ=1->aP q.1.ab.ax=true->q.1.ab.bj=nj q.1.aA.aS))\/(vh x.aA.au m=true/\q.2.1=9):=by
 have p:=h.pre;have h1:=p.oF;have hsq:1<=x.aA.aH/\x.aA.aH<=1000000:=⟨p.oF.1,by omega⟩
 have hne2:m.al≠x.aA.al:=by rw[p.rJ];exact hne
 have hno:=Ik p.lS hm hne2;have hs:=M7 (b:=x.aA) hno;have hh:=(My (b:=x.aA) hno).1;unfold fQ;simp only[az.eta,etas,sA h (by omega),abg p.lS hsq hm hne2,Qa,Qo,Ql]
 cases ho:vh x.aA.au m with
 |true=>exact .some (.inr ⟨by trivial,rfl⟩)
 |false=>
  have hq:(lH x.aA {x.aA with au:=iB x.aA.au m}).aH=x.aA.aH\/(lH x.aA {x.aA with au:=iB x.aA.au m}).aH=x.aA.aH+1:=hs.seq
  have hp:tz nd sl (k+1) {x with aA:=lH x.aA {x.aA with au:=iB x.aA.au m}}:=⟨p.hZ,p.jB,p.aF,p.aK,hs.ok,by show 1<=(lH x.aA {x.aA with au:=iB x.aA.au m}).aH/\(lH x.aA {x.aA with au:=iB x.aA.au m}).aH<=1+(k+1);omega,hs.aF.trans p.rJ,hs.aK.trans p.xc,hs.aN.trans p.aN,p.timer,p.round,p.next⟩
  simp only[Qq,Qu,decide_true,Qo,Ql];refine Yd.bind (Vs hp) λy ⟨hy,hst,hq⟩=> .some (.inl ⟨by trivial,rfl,hy,hst,?_,λh1 h2 h3=> ?_⟩)
  ·show vh y.aA.au m=true;rw[hq.lS];show vh (lH x.aA {x.aA with au:=iB x.aA.au m}).au m=true
   rw[hh];exact List.any_eq_true.2 ⟨m,TY.2 (.inl rfl),by simp⟩
  ·have e:=hq.lS;simp only at h1 h2 h3 ⊢;rw[e]at h1 ⊢;exact hq.ub h1 h2 h3
theorem abw:xu x=some ((bif x.zr then[]else[(⟨1,x.ab.aL,vS x.aA,⟨0,0,0,uK,0,⟨0,⟨#[]⟩⟩,⟨0,⟨#[]⟩⟩,⟨0,⟨#[]⟩⟩,0,0⟩⟩:cr)])++(bif aP x.ab.af then[]else[(⟨2,x.ab.aL,⟨0,0,uK,[],[]⟩,cY x.ab⟩:cr)])):=by
 have p:=h.pre;obtain⟨e,he,he2⟩:=adw p.hZ p.jB;have l1:=p.lS.dy.len;have l2:=p.lS.eM.len;unfold xu zo jt;simp only[az.eta,etas,Ei h (by omega),Qa,Qo,Ql,he,aR]
 rw[TJ p.lS.ask.aN.sm (by show x.aA.bm.length<=1000;omega) (by show x.aA.aG.length<=1000;omega)]
 simp only[Qa];rw[VF p.lS.ask.aN.sm (by show x.aA.bm.length<=1000;omega) (by show x.aA.aG.length<=1000;omega)]
 simp only[Qa,List.nil_append];rw[bz (by simp),bz (by simp),bz (by simp)]
 cases hz:aP x.ab.af with
 |true=>cases x.zr<;>rfl
 |false=>have:=he2 hz;subst this;cases x.zr<;>rfl
end
def afA{t:aj}{v aK:Int}{own:ByteArray}(ht:c5 t)(h0:0<=v)(h1:v<10)(h2:0<=aK)(h3:aK<=1000000)(ho:own.size<=200):Yd (mz v aK t own) λq=>q.1.au=[]:=by
 have hn:cO ⟨v,aK,1,1,t,own,[],[],[],[]⟩:=⟨⟨ht,h0,h1,h2,h3,by show(1:Int)<=1;omega,by show(1:Int)<=1000;omega⟩,ho,.nil,.nil,.nil,λx hx=>absurd hx QR,λx hx=>absurd hx QR,List.Pairwise.nil⟩
 unfold mz;simp only[etas,dx ht];rw[Qh (by omega:¬v<0),Qh (by omega:¬(10:Int)<=v),Qh (by omega:¬aK<0),Qh (by omega:¬(1000000:Int)<aK),Qh (by omega:¬(200:Int)<((own.size:Nat):Int))]
 simp only[Ql,Qa,decide_true,Qo];rw[Fq hn.Cg ⟨by show(0:Int)<=1;omega,by show(1:Int)<=1000000;omega⟩ hn,Qa]
 exact .some (My hn).1
def ah8{nd sl:Int}(hv0:0<=nd)(hv1:nd<10)(hs0:1<=sl)(hs1:sl<=1000000){t:aj}{own:ByteArray}{now:Int}(ht:c5 t)(ho:own.size<=200)(h0:0<=now)(h1:now<=200):Yd (nn nd sl t own now) λq=>q.2.1=0/\se nd sl 0 q.1/\q.1.aA.au=[]/\q.1.ab.au=[]/\q.1.Round=1/\∀w,lX 1=some w->q.1.Next=now+w:=by
 unfold nn;simp only[etas];rw[Qh (by omega:¬now<0),Qh (by omega:¬(200:Int)<now)]
 simp only[Ql,Qa];rw[adb hv0 hv1 hs0 hs1 ht];simp only[Qa,decide_true,Qo,Ql];obtain⟨q,eq,q0,g1,g2,g3,g4,g5⟩:=RZ ht hv0 hv1 (show(0:Int)<=sl by omega) hs1 ho
 obtain⟨q',eq',hh⟩:=afA ht hv0 hv1 (show(0:Int)<=sl by omega) hs1 ho
 rw[eq]at eq';obtain rfl:=Option.some.inj eq';rw[eq,Qa,q0];simp only[decide_true,Qo,Ql];obtain⟨w,ew,w1,w2⟩:=OH (c:=1) (by omega) (by omega)
 have hadd2:aB .i64 now w=now+w:=bG (by omega) (by omega)
 rw[ew,Qa,hadd2];obtain⟨m1,m2⟩:=R7 (aF:=nd) (aK:=sl) hv0 hv1 hs0 hs1 ht;have ht0:xn ⟨0, -1⟩:=⟨by decide,by decide,by decide,by decide⟩
 refine Yd.bind (Vs (k:=0) (x:=⟨q.1,Nq nd sl t,⟨0, -1⟩,1,now+w,false,bE⟩) ⟨m1,m2,rfl,rfl,g1,by show 1<=q.1.aH/\q.1.aH<=1+0;rw[g5];decide,g2,g3,g4,ht0,⟨(by decide:(1:Int)<=1),(by decide:(1:Int)<=1000)⟩,by show 0<=now+w/\now+w<=212;omega⟩) λy ⟨hy,_,hsq⟩=> .some ⟨rfl,hy,?_,hsq.heard,hsq.round,λw' hw'=> ?_⟩
 ·show y.aA.au=[];rw[hsq.lS];exact hh
 ·obtain rfl:=Option.some.inj hw';exact hsq.next
end
section
def Yd.is{α:Type}{o:Option α}{x:α}(h:Yd o λr=>r=x):o=Option.some x:=by obtain⟨y,e,rfl⟩:=h;exact e
def abN{α β:Type}{R:α->β->Prop}:∀{l:List α},(∀x∈l,∃y,R x y)->∃ys:List β,ys.length=l.length/\∀(i:Nat) (x:α),l[i]?=some x->∃y,ys[i]?=some y/\R x y
 |[],_=>⟨[],rfl,λi x h=>by simp at h⟩
 |a::l,h=>by
  obtain⟨y,hy⟩:=h a Qx;obtain⟨ys,h1,h2⟩:=abN λx hx=>h x (Qy _ hx)
  refine⟨y::ys,by simp[h1],λi x hx=> ?_⟩
  cases i with
  |zero=>simp only[List.getElem?_cons_zero,Qf]at hx;subst hx;exact⟨y,rfl,hy⟩
  |succ i=>simpa using h2 i x (by simpa using hx)
def Vf{α:Type}{ys l:List α}(h:ys.length=l.length){i:Nat}(hi:i<l.length){y:α}(hy:ys[i]?=some y):(ys.take i++l.drop i).set i y=ys.take (i+1)++l.drop (i+1):=by
 have e:ys.take (i+1)=ys.take i++[y]:=by rw[List.take_add_one,hy];rfl
 rw[e,QM hi,List.set_append_right _ _ (by rw[List.length_take];omega),List.length_take,Nat.min_eq_left (by omega),Nat.sub_self,List.set_cons_zero,QL]
 rfl
def YJ{α:Type}{ys l:List α}(h:ys.length=l.length)(i:Nat):(ys.take i++l.drop i)[i]?=l[i]?:=by
 rcases Nat.lt_or_ge i l.length with hi|hi
 ·rw[List.getElem?_append_right (by rw[List.length_take];omega),List.length_take,Nat.min_eq_left (by omega),Nat.sub_self,List.getElem?_drop]
  rfl
 ·rw[Qq72 hi,Qq72 (by rw[QB,List.length_take,List.length_drop];omega)]
def RH{α:Type}{P:α->Bool}:∀{l:List α} {i:Nat},i<=l.length->(∀j,j<i->∃y,l[j]?=some y/\P y=true)->(∀y,l[i]?=some y->P y=false)->(l.takeWhile P).length=i
 |[],i,h,_,_=>by simp at h;subst h;rfl
 |x::l,0,_,_,h2=>by rw[List.takeWhile_cons,h2 x rfl];rfl
 |x::l,i+1,h,h1,h2=>by
  obtain⟨y,e,hy⟩:=h1 0 (by omega)
  obtain rfl:x=y:=by simpa using e
  rw[List.takeWhile_cons,hy,Qr rfl,QE,RH (by simpa using h) (λj hj=>by simpa using h1 (j+1) (by omega)) λy hy=>h2 y (by simpa using hy)]
def EY(nd k:Int)(x:aJ):Prop:=1<=x.ab.aL/\x.ab.aL<=1000000/\se nd x.ab.aL k x
def EY.le{nd k k':Int}{x:aJ}(h:EY nd k x)(hk:k<=k'):EY nd k' x:=⟨h.1,h.2.1,h.2.2.le hk⟩
def EY.WL{nd k k':Int}{x y:aJ}(h:EY nd k x)(hd:xV nd x.ab.aL k' x y):EY nd k' y/\y.ab.aL=x.ab.aL:=by have e:=hd.1.pre.aK;exact⟨⟨by rw[e];exact h.1,by rw[e];exact h.2.1,by rw[e];exact hd.1⟩,e⟩
structure k7 (nd k:Int) (p:aw):Prop where
 aF:p.al=nd
 n0:0<=nd
 n1:nd<10
 aN:c5 p.aa
 len:p.aC.length<=8
 aK:∀x∈p.aC,EY nd k x
 dn:p.aC.Pairwise λx y=>x.ab.aL<y.ab.aL
 same:∀x∈p.aC,x.ab.aa=p.aa
def k7.le{nd k k':Int}{p:aw}(h:k7 nd k p)(hk:k<=k'):k7 nd k' p:=⟨h.aF,h.n0,h.n1,h.aN,h.len,λx hx=>(h.aK x hx).le hk,h.dn,h.same⟩
def aiB{nd k:Int}{p:aw}(h:k7 nd k p){C:aJ->Option Bool}{S:aj->aj->Option Bool}(hC:∀x∈p.aC,C x=some true)(hS:∀x∈p.aC,S x.ab.aa p.aa=some true):
  aE (λ(v5:Int×Unit)=>
   bif (decide (v5.1<((List.length p.aC:Nat):Int)))then
   Option.bind (idx p.aC v5.1) λx6=>
   aY (λ(v7:Bool×Unit)=>bif v7.1 then Option.map inr (some false)else some (inl ((aB .i64 v5.1 (1:Int)),()))) λj8=>
   Option.bind (C x6) λr9=>
   bif (!r9)then j8 (true,())else
   bif (!decide (x6.ab.al=p.al))then j8 (true,())else
   Option.bind (S x6.ab.aa p.aa) λr10=>
   bif (!r10)then j8 (true,())else
   bif (decide ((0:Int)<v5.1))then
   Option.bind (idx p.aC (cW .i64 v5.1 (1:Int))) λx11=>j8 ((decide (x6.ab.aL<=x11.ab.aL)),())
   else j8 (false,())
   else Option.map inr (some true)) ((0:Int),())=some true:=by
 have hlen:=h.len;refine Yd.eq_true (Yd.list p.aC (by omega) (λi (_:Unit)=>(i,())) (λ_ _=>True) (λi x _ _ _ hx hi hd hw ha=> ?_) (λ_ _ hd=> ?_) (s:=()) trivial)
 ·simp only[hd,Qk,hw,Qa,hC x hx,hS x hx,Qo,Ql,Qg ((h.aK x hx).2.2.pre.aF.trans h.aF.symm),aR]
  by_cases h0:(0:Int)<(i:Int)
  ·obtain⟨m,rfl⟩:∃m:Nat,i=m+1:=⟨i - 1,by omega⟩
   have hlt:=List.pairwise_iff_getElem.1 h.dn m (m+1) (by omega) hi (by omega)
   obtain rfl:p.aC[m+1]=x:=by rw[bd,Qv hi]at hw;exact Option.some.inj hw
   rw[Qg h0,Qk,nY (by omega) (by omega),show(((m+1:Nat):Int)) - 1=(m:Int)by omega,bd,Qv (show m<p.aC.length by omega),Qa,Qh (by omega),Ql,ha]
   exact .some ⟨(),rfl,trivial⟩
  ·rw[Qh h0,Ql,ha];exact .some ⟨(),rfl,trivial⟩
 ·simp only[hd,Ql];exact .some rfl
def G8{nd k:Int}{p:aw}(h:k7 nd k p)(hk:k<=999999):mw p=some true:=by
 have hlen:=h.len;unfold mw;simp only[aJ.eta,ar.eta,ae.eta,etas,Bn h.aN.sm,vQ h.aN,Qa,decide_true,Qo];rw[Qh (show¬p.al<0 by rw[h.aF];have:=h.n0;omega),Qh (show¬(9:Int)<p.al by rw[h.aF];have:=h.n1;omega),Qh (show¬(8:Int)<(p.aC.length:Int)by omega)]
 simp only[Ql,Qa];refine aiB h (λx hx=>sA (h.aK x hx).2.2 hk) λx hx=> ?_
 obtain⟨r,hr,hb⟩:=NV (a:=x.ab.aa) (b:=p.aa) (h.aK x hx).2.2.pre.hZ.aN.sm;rw[hr,hb.2 (h.same x hx)]
def mo(l:List aJ)(n:Int):Nat:=(l.takeWhile λx=>decide (x.ab.aL<n)).length
def vr(l:List aJ)(n:Int):Bool:=match l[mo l n]? with|some x=>decide (x.ab.aL=n)|none=>false
def Oe(l:List aJ)(n:Int):mo l n<=l.length:=M3 _ _
def ahk{l:List aJ}{n:Int}{x:aJ}(hx:x∈l.take (mo l n)):x.ab.aL<n:=by
 obtain⟨j,hj,rfl⟩:=List.getElem_of_mem hx;rw[List.length_take]at hj;obtain⟨y,e,hy⟩:=(Cm (λx:aJ=>decide (x.ab.aL<n)) l).1 j (by show j<mo l n;omega)
 rw[List.getElem_take];rw[Qv (by omega)]at e
 obtain rfl:=Option.some.inj e;exact of_decide_eq_true hy
def ahl{l:List aJ}(hs:l.Pairwise λx y=>x.ab.aL<y.ab.aL){n:Int}(ht:vr l n=false){x:aJ}(hx:x∈l.drop (mo l n)):n<x.ab.aL:=by
 obtain⟨j,hj,rfl⟩:=List.getElem_of_mem hx;rw[List.length_drop]at hj;have hw:mo l n<l.length:=by omega
 have e:=Qv hw;have h1:=of_decide_eq_false ((Cm (λx:aJ=>decide (x.ab.aL<n)) l).2 _ e)
 have h2:¬l[mo l n].ab.aL=n:=by unfold vr at ht;rw[e]at ht;exact of_decide_eq_false ht
 rw[List.getElem_drop];rcases Nat.eq_zero_or_pos j with rfl|hp
 ·show n<(l[mo l n]).ab.aL;omega
 ·have:=List.pairwise_iff_getElem.1 hs (mo l n) (mo l n+j) hw (by omega) (by omega)
  omega
def acT{l:List aJ}{n:Int}(h:vr l n=true):∃x,l[mo l n]?=some x/\x.ab.aL=n:=by
 unfold vr at h;split at h
 ·rename_i x hx;exact⟨x,hx,of_decide_eq_true h⟩
 ·cases h
def aaX{l:List aJ}(hs:l.Pairwise λx y=>x.ab.aL<y.ab.aL){i:Nat}{x:aJ}(hx:l[i]?=some x):mo l x.ab.aL=i:=by
 obtain⟨hi,rfl⟩:=Qw.1 hx;refine RH (by omega) (λj hj=>⟨_,Qv (show j<l.length by omega),?_⟩) λy hy=> ?_
 ·exact Qg (List.pairwise_iff_getElem.1 hs j i (by omega) hi hj)
 ·rw[hx]at hy;obtain rfl:=Option.some.inj hy;exact Qh (by omega)
def ahp{l:List aJ}(hs:l.Pairwise λx y=>x.ab.aL<y.ab.aL){i:Nat}{x:aJ}(hx:l[i]?=some x):vr l x.ab.aL=true:=by unfold vr;rw[aaX hs hx,hx];exact Qg rfl
def aaE{p:aw}(hl:p.aC.length<=8)(n:Int):AK p n=some (((mo p.aC n:Nat):Int),vr p.aC n,()):=by
 obtain⟨i,h1,h2,h3,h4⟩:=U2 p.aC (by omega) (λx=>decide (x.ab.aL<n)) (r:=λi=>some ((i:Int),(match p.aC[i]? with|some x=>decide (x.ab.aL=n)|none=>false),()))
  (step:=λ(v1:Int×Unit)=>
   Option.bind (bif (decide (v1.1<((List.length p.aC:Nat):Int)))then Option.bind (idx p.aC v1.1) λx2=>some (decide (x2.ab.aL<n))else some false) λb3=>
   bif b3 then some (inl ((aB .i64 v1.1 (1:Int)),()))
   else Option.map inr (aY (λ(v4:Int×Bool×Unit)=>some (v4.1,v4.2.1,())) λj5=>bif (decide (v1.1<((List.length p.aC:Nat):Int)))then Option.bind (idx p.aC v1.1) λx6=>j5 (v1.1,(decide (x6.ab.aL=n)),())else j5 (v1.1,false,())))
  (λi y hy hd hx hP ha=>by simp only[hd,Qk,hx,Qa,hP,ha])
  (λi y hy hd hx hP=>by simp only[hd,Qk,hx,Qa,hP,Ql,aR,hy])
  (λhd=>by simp only[hd,Ql,Qa,aR];rw[Qq72 (QI _)])
 have e:mo p.aC n=i:=RH h1 h2 h3;unfold vr;rw[e];exact h4
def zP:aw:=⟨0,false,⟨0,[],[]⟩,[]⟩
structure KX (nd k n:Int) (p:aw) (own:ByteArray) (now:Int) (s:aJ):Prop where
 e:nn nd n p.aa own now=some (s,0,())
 ok:EY nd k s
 aK:s.ab.aL=n
 aN:s.ab.aa=p.aa
def Kq(p:aw)(n:Int)(s:aJ):aw:={p with aC:=p.aC.take (mo p.aC n)++[s]++p.aC.drop (mo p.aC n)}
def Hc(p:aw)(n:Int)(s:aJ):aw×Int×Unit:=if vr p.aC n=true then(zP,6,())else if p.aC.length=8 then(zP,3,())else(Kq p n s,0,())
def mq(p:aw)(n:Int)(s:aJ):aw:=if vr p.aC n=true then p else Kq p n s
def Nc(p:aw)(i:Nat)(s:aJ):aw:={p with aC:=p.aC.set i s}
def yD(p:aw)(n:Int)(s:aJ)(g:aJ->Option (aJ×Int×Unit)):Option (aw×Int×Unit):=
 if vr p.aC n=false/\p.aC.length=8 then some (zP,3,())else
 Option.bind (mq p n s).aC[mo (mq p n s).aC n]? λx=>Option.bind (g x) λr=>some (if r.2.1=0 then(Nc (mq p n s) (mo (mq p n s).aC n) r.1,0,())else(zP,r.2.1,()))
section
variable {nd k : Int} {p : aw} (h : k7 nd k p)
 include h
theorem Z0{n:Int}(hn0:1<=n)(hn1:n<=1000000){own:ByteArray}(ho:own.size<=200){now:Int}(h0:0<=now)(h1:now<=200)(hk0:0<=k):∃s,KX nd k n p own now s:=by obtain⟨⟨s,e,u⟩,e1,e2,e3,e4⟩:=ajq h.n0 h.n1 hn0 hn1 h.aN ho h0 h1;obtain rfl:e=0:=e2;have hs:s.ab.aL=n:=e3.pre.aK;exact⟨s,e1,⟨by omega,by omega,by rw[hs];exact e3.le hk0⟩,hs,e4⟩
section
variable {n : Int} {own : ByteArray} {now : Int} {s : aJ} (hs : KX nd k n p own now s)
 include hs
theorem SD(ht:vr p.aC n=false)(h8:p.aC.length≠8):k7 nd k (Kq p n s):=by
 have hlen:=h.len;have hw:=Oe p.aC n
 have e:∀x,x∈(Kq p n s).aC↔x∈p.aC\/x=s:=λx=>by
  show x∈p.aC.take _++[s]++p.aC.drop _↔_
  conv=>rhs;rw[<-List.take_append_drop (mo p.aC n) p.aC]
  simp only[Qz,Q5]
  grind
 refine⟨h.aF,h.n0,h.n1,h.aN,?_,λx hx=> ?_,?_,λx hx=> ?_⟩
 ·show(p.aC.take _++[s]++p.aC.drop _).length<=8;simp only[QB,List.length_take,List.length_drop,QE,QZ];omega
 ·rcases(e x).1 hx with hx|rfl
  ·exact h.aK x hx
  ·exact hs.ok
 ·show(p.aC.take (mo p.aC n)++[s]++p.aC.drop (mo p.aC n)).Pairwise _;have hp:=h.dn;rw[<-List.take_append_drop (mo p.aC n) p.aC,Qq69]at hp;rw[QL,Qq69];refine⟨hp.1,Q4.2 ⟨λy hy=> ?_,hp.2.1⟩,λx hx y hy=> ?_⟩
  ·rw[hs.aK];exact ahl h.dn ht hy
  ·rcases QA.1 hy with rfl|hy
   ·rw[hs.aK];exact ahk hx
   ·exact hp.2.2 x hx y hy
 ·rcases(e x).1 hx with hx|rfl
  ·exact h.same x hx
  ·exact hs.aN
theorem agk(ht:vr p.aC n=false)(h8:p.aC.length≠8):(Kq p n s).aC[mo p.aC n]?=some s:=by
 have hw:=Oe p.aC n;show(p.aC.take _++[s]++p.aC.drop _)[_]?=_;rw[QL,List.getElem?_append_right (by rw[List.length_take];omega),List.length_take,Nat.min_eq_left hw,Nat.sub_self]
 rfl
theorem UN(hb:¬(vr p.aC n=false/\p.aC.length=8)):k7 nd k (mq p n s)/\vr (mq p n s).aC n=true/\∃x,(mq p n s).aC[mo (mq p n s).aC n]?=some x/\x.ab.aL=n/\x∈(mq p n s).aC:=by
 have key:k7 nd k (mq p n s)/\vr (mq p n s).aC n=true:=by
  unfold mq
  cases ht:vr p.aC n with
  |true=>exact⟨h,ht⟩
  |false=>
   have h8:p.aC.length≠8:=λe=>hb ⟨ht,e⟩
   have hi:=SD h hs ht h8;refine⟨hi,?_⟩;have:=ahp hi.dn (agk h hs ht h8);rw[hs.aK]at this;exact this
 obtain⟨x,h1,h2⟩:=acT key.2;exact⟨key.1,key.2,x,h1,h2,Q8 h1⟩
theorem Y8:uT p n own now=some (Hc p n s):=by
 have hlen:=h.len;have hw:=Oe p.aC n;unfold uT Hc Kq;simp only[aJ.eta,ar.eta,ae.eta,etas,aw.eta,aaE h.len,Qa]
 cases vr p.aC n with
 |true=>rfl
 |false=>
  simp only[Ql,Qq,Qu]
  by_cases h8:p.aC.length=8
  ·rw[Qr h8,Qg (by omega)];rfl
  ·rw[Qs h8,Qh (by omega),Ql,h.aF,hs.e,Qa,Qg rfl]
   simp only[Qo,Ql,ua,yL];have hlt:=List.length_take_le (mo p.aC n) p.aC;rw[D9 hw,Qk,bz (by omega),Qk,bz (by simp;omega),Qk,Ea hw,Qk,bz (by simp;omega),Qk]
theorem afu:ru p n own now=some (if vr p.aC n=false/\p.aC.length=8 then(zP,0,3,())else(mq p n s,((mo (mq p n s).aC n:Nat):Int),0,())):=by
 have hlen:=h.len;unfold ru;simp only[etas,aw.eta,aaE h.len,Qa,Y8 h hs]
 cases ht:vr p.aC n with
 |true=>
  rw[Qk,Qs (by rintro⟨e,_⟩;cases e)]
  unfold mq;rw[Qr ht]
 |false=>
  rw[Ql];unfold Hc;rw[Qs (by rw[ht];simp)]
  by_cases h8:p.aC.length=8
  ·rw[Qr h8,Qr ⟨rfl,h8⟩,aaE (show zP.aC.length<=8 by decide),Qa]
   rfl
  ·rw[Qs h8,Qs λe=>h8 e.2,aaE (SD h hs ht h8).len,Qa]
   unfold mq;rw[Qs (by rw[ht];simp)]
end
theorem ahj{i:Nat}(hi:i<p.aC.length){s:aJ}{e:Int}:gI p (i:Int) s e=some (if e=0 then(Nc p i s,0,())else(zP,e,())):=by
 have hlen:=h.len;unfold gI;simp only[etas]
 by_cases he:e=0
 ·rw[Qr he,Qg he,Qo,Ql,bz (by omega),Qk,bd,Qv hi,Qa,QV,Qv hi]
  rfl
 ·rw[Qs he,Qh he];rfl
theorem afs{k':Int}(hk:k<=k'){i:Nat}{x y:aJ}(hx:p.aC[i]?=some x)(hy:EY nd k' y)(hs:y.ab.aL=x.ab.aL)(ht:y.ab.aa=x.ab.aa):k7 nd k' (Nc p i y):=by
 have hm:=Q8 hx;obtain⟨hi,rfl⟩:=Qw.1 hx;refine⟨h.aF,h.n0,h.n1,h.aN,by show(p.aC.set i y).length<=8;rw[QY];exact h.len,λz hz=> ?_,?_,λz hz=> ?_⟩
 ·rcases List.mem_or_eq_of_mem_set (show z∈p.aC.set i y from hz)with hz|rfl
  ·exact(h.aK z hz).le hk
  ·exact hy
 ·show(p.aC.set i y).Pairwise _;rw[List.pairwise_iff_getElem];intro a b ha hb hab;rw[QY]at ha hb;have:=List.pairwise_iff_getElem.1 h.dn a b ha hb hab;rw[List.getElem_set,List.getElem_set]
  grind
 ·rcases List.mem_or_eq_of_mem_set (show z∈p.aC.set i y from hz)with hz|rfl
  ·exact h.same z hz
  ·exact ht.trans (h.same _ hm)
end
structure pE (p q:aw):Prop where
 len:p.aC.length<=q.aC.length
 has:∀x∈p.aC,∃y∈q.aC,y.ab.aL=x.ab.aL/\mD x.ab y.ab
def pE.refl(p:aw):pE p p:=⟨QI _,λx hx=>⟨x,hx,rfl,λe=>⟨e,rfl⟩⟩⟩
def Zm{a b c:ae}(h:mD a b)(h':mD b c):mD a c:=λe=>(let e1:=h e;let e2:=h' e1.1;⟨e2.1,e2.2.trans e1.2⟩)
def pE.trans{p q r:aw}(h:pE p q)(h':pE q r):pE p r:=⟨QK h.len h'.len,λx hx=>by
 obtain⟨y,hy,e1,e2⟩:=h.has x hx;obtain⟨z,hz,e3,e4⟩:=h'.has y hy
 exact⟨z,hz,e3.trans e1,Zm e2 e4⟩⟩
def Pq(nd k:Int)(p:aw)(q:aw×Int×Unit):Prop:=(q.2.1=0/\k7 nd k q.1/\pE p q.1/\q.1.bM=p.bM)\/q.2.1≠0
section
variable {nd k : Int} {p : aw} (h : k7 nd k p) {n : Int} {own : ByteArray} {now : Int} {s : aJ} (hs : KX nd k n p own now s)
 include h hs
theorem aef:Pq nd k p (Hc p n s):=by
 unfold Hc;split
 ·exact .inr (by decide)
 ·rename_i ht;split
  ·exact .inr (by decide)
  ·rename_i h8;refine .inl ⟨rfl,SD h hs (by simpa using ht) h8,⟨?_,λx hx=>⟨x,?_,rfl,λe=>⟨e,rfl⟩⟩⟩,rfl⟩
   ·show _<=(p.aC.take _++[s]++p.aC.drop _).length;simp only[QB,List.length_take,List.length_drop,QE,QZ];omega
   ·show x∈p.aC.take _++[s]++p.aC.drop _;rw[<-List.take_append_drop (mo p.aC n) p.aC]at hx;simp only[Qz,Q5]at hx ⊢
    grind
theorem Ym:pE p (mq p n s)/\(∀x∈p.aC,x∈(mq p n s).aC)/\∀x∈(mq p n s).aC,x∈p.aC\/x=s:=by
 unfold mq;split
 ·exact⟨pE.refl p,λx hx=>hx,λx hx=> .inl hx⟩
 ·have e:∀x,x∈(Kq p n s).aC↔x∈p.aC\/x=s:=λx=>by
   show x∈p.aC.take _++[s]++p.aC.drop _↔_
   conv=>rhs;rw[<-List.take_append_drop (mo p.aC n) p.aC]
   simp only[Qz,Q5]
   grind
  refine⟨⟨?_,λx hx=>⟨x,(e x).2 (.inl hx),rfl,λe=>⟨e,rfl⟩⟩⟩,λx hx=>(e x).2 (.inl hx),λx hx=>(e x).1 hx⟩
  show _<=(p.aC.take _++[s]++p.aC.drop _).length;simp only[QB,List.length_take,List.length_drop,QE,QZ];omega
theorem SR{k':Int}(hk:k<=k'){g:aJ->Option (aJ×Int×Unit)}(hg:∀x,EY nd k x->x.ab.aL=n->Yd (g x) λq=>(q.2.1=0/\xV nd x.ab.aL k' x q.1/\q.1.ab.aa=x.ab.aa)\/q.2.1≠0):
  Yd (yD p n s g) λq=>Pq nd k' p q/\(q.2.1=0->(∀x∈p.aC,x.ab.aL≠n->x∈q.1.aC)/\(∀y∈q.1.aC,y∈p.aC\/y.ab.aL=n)/\∃y∈q.1.aC,y.ab.aL=n):=by
 unfold yD;split
 ·exact .some ⟨.inr (by decide),λe=>by cases e⟩
 ·rename_i hb;obtain⟨hi,ht,x,hx,hxn,hxm⟩:=UN h hs hb;obtain⟨g1,g2,g3⟩:=Ym h hs;rw[hx,Qa];refine(hg x (hi.aK x hxm) hxn).bind λr hr=> .some ?_
  rcases hr with⟨r0,hd,hrt⟩|r0
  ·rw[Qr r0];obtain⟨d1,d2⟩:=(hi.aK x hxm).WL hd;have hw:=(Qw.1 hx).1;have hwx:=(Qw.1 hx).2
   have hmem:∀z,z∈(mq p n s).aC->z.ab.aL≠n->z∈(mq p n s).aC.set (mo (mq p n s).aC n) r.1:=λz hz hne=>by
    obtain⟨j,hj,rfl⟩:=List.getElem_of_mem hz;have hjw:mo (mq p n s).aC n≠j:=λe=>hne (by subst e;rw[hwx];exact hxn)
    have:=Q0 (l:=(mq p n s).aC.set (mo (mq p n s).aC n) r.1) (n:=j) (by rw[QY];exact hj)
    rw[List.getElem_set_ne hjw]at this;exact this
   have hin:r.1∈(mq p n s).aC.set (mo (mq p n s).aC n) r.1:=List.mem_set hw _;refine⟨.inl ⟨rfl,afs hi hk hx d1 d2 hrt,⟨by show _<=((mq p n s).aC.set _ _).length;rw[QY];exact g1.len,λz hz=> ?_⟩,?_⟩,λ_=>⟨λz hz hne=>hmem z (g2 z hz) hne,λz hz=> ?_,r.1,hin,d2.trans hxn⟩⟩
   ·by_cases hzn:z.ab.aL=n
    ·refine⟨r.1,hin,by rw[d2,hxn,hzn],?_⟩
     have hzx:z=x:=by obtain⟨j,hj⟩:=List.getElem?_of_mem (g2 z hz);have:=aaX hi.dn hj;rw[hzn]at this;rw[this,hj]at hx;exact Option.some.inj hx
     rw[hzx];exact hd.2
    ·exact⟨z,hmem z (g2 z hz) hzn,rfl,λe=>⟨e,rfl⟩⟩
   ·show(mq p n s).bM=p.bM;unfold mq;split<;>rfl
   ·rcases List.mem_or_eq_of_mem_set (show z∈(mq p n s).aC.set _ _ from hz)with hz|rfl
    ·rcases g3 z hz with hz|rfl
     ·exact .inl hz
     ·exact .inr hs.aK
    ·exact .inr (d2.trans hxn)
  ·rw[Qs r0];exact⟨.inr r0,λe=>absurd e r0⟩
theorem R1{g:aJ->Option (aJ×Int×Unit)}{F:Option (aw×Int×Unit)}(hF:F=Option.bind (ru p n own now) λq=>bif (!decide (q.2.2.1=(0:Int)))then some (zP,q.2.2.1,())else
   Option.bind (idx q.1.aC q.2.1) λx=>Option.bind (g x) λr=>Option.bind (gI q.1 q.2.1 r.1 r.2.1) λw=>some (w.1,w.2.1,())):F=yD p n s g:=by
 rw[hF,afu h hs,Qa];unfold yD;split
 ·rfl
 ·rename_i hb;obtain⟨hi,ht,x,hx,hxn,hxm⟩:=UN h hs hb;simp only[decide_true,Qo,Ql,bd,hx,Qa];congr 1
  funext r
  rw[ahj hi (Qw.1 hx).1,Qa]
end
section
variable {nd k : Int} {p : aw} (h : k7 nd k p) (hk0 : 0 <= k) (hk : k <= 999998)
 include h hk0 hk
section
variable {n : Int} {own : ByteArray} {now : Int} {s : aJ} (hs : KX nd k n p own now s)
 include hs
theorem ah4:yI p n own now=some (if p.bM=true then(p,0,())else Hc p n s):=by
 unfold yI;simp only[etas,aw.eta,G8 h (by omega),Qa,Qo,Ql,Y8 h hs]
 cases p.bM<;>rfl
theorem adp:xw p n own now=if p.bM=true then some (p,0,())else yD p n s λx=>pT x own:=by
 unfold xw;simp only[aJ.eta,ar.eta,ae.eta,etas,aw.eta,G8 h (by omega),Qa,Qo,Ql]
 cases p.bM with
 |true=>rfl
 |false=>exact R1 h hs rfl
end
end
def EP(l:cr):Bool:= !(decide (l.bu=1)||(decide (l.bu=2)&&decide (l.aL=l.ay.aL)))
 def lz(l:cr)(x:aJ):Option (aJ×Int×Unit):=bif decide (l.bu=1)then fQ x l.aU else lf x l.ay
def aih{nd k:Int}{p:aw}(h:k7 nd k p)(hk:k<=999998){now:Int}{l:cr}{s:aJ}(hs:KX nd k l.aL p (ByteArray.mk #[48]) now s):
  AM p l now=if p.bM=true then some (p,0,())else if EP l=true then some (zP,1,())else yD p l.aL s (lz l):=by
 unfold AM EP;simp only[aJ.eta,ar.eta,ae.eta,az.eta,ak.eta,etas,aw.eta,G8 h (by omega),Qa,Qo,Ql]
 cases p.bM with
 |true=>rfl
 |false=>
  rw[Ql,Qs (by simp)]
  by_cases k1:l.bu=1
  ·rw[<-R1 h hs (g:=lz l) rfl];simp[lz,k1,zP]
  ·by_cases k2:l.bu=2
   ·by_cases k3:l.aL=l.ay.aL
    ·rw[<-R1 h hs (g:=lz l) rfl];simp[lz,k2,<-k3,zP]
    ·simp[k2,k3,zP]
   ·simp[k1,k2,zP]
structure RB (nd:Int) (l:cr):Prop where
 lS:l.bu=1->wN l.aU/\l.aU.al=nd
 env:l.bu=2->cQ l.ay.aa/\(bc l.ay=true->c5 l.ay.aa/\l.ay.al=nd)
 s0:1<=l.aL
 s1:l.aL<=1000000
def PU{nd k:Int}(hk:k<=999998){l:cr}{src:Int}(hl:RB src l)(hne:src≠nd)(hb:EP l=false){x:aJ}(hx:EY nd k x)(hs:x.ab.aL=l.aL):
  Yd (lz l x) λq=>(q.2.1=0/\xV nd x.ab.aL (k+1) x q.1/\q.1.ab.aa=x.ab.aa)\/q.2.1≠0:=by
 unfold lz;refine Yd.cond (λk1=> ?_) (λk1=> ?_)
 ·obtain⟨g1,g2⟩:=hl.lS (of_decide_eq_true k1);exact ZE hx.2.2 hk g1 (by rw[g2];exact hne)
 ·have k1:=of_decide_eq_false k1;simp only[EP,Bool.not_eq_false',Qn,Qi,Qm]at hb;have hb:=hb.resolve_left k1;obtain⟨g1,g2⟩:=hl.env hb.1;refine(abj hx.2.2 hk ?_).mono λy hy=>hy.imp (λhy=>⟨hy.1,⟨hy.2.1.1.le (by omega),hy.2.1.2⟩,hy.2.2⟩) id
  cases hv:bc l.ay with
  |true=>obtain⟨g3,g4⟩:=g2 hv;exact .inl ⟨hv,g3,by rw[hs,hb.2],by rw[g4,hx.2.2.pre.aF];exact hne⟩
  |false=>exact .inr ⟨g1,rfl⟩
structure S8 (g:aJ->Option (aJ×Int×Unit)) (l ys:List aJ):Prop where
 len:ys.length=l.length
 at_:∀(i:Nat) (x:aJ),l[i]?=some x->∃y,ys[i]?=some y/\g x=some (y,0,())
def q7(p:aw)(t:aj)(ys:List aJ):aw:={p with aa:=t,aC:=ys}
def ach{p:aw}{g:aJ->Option (aJ×Int×Unit)}(hlen:p.aC.length<=8){ys:List aJ}(hy:S8 g p.aC ys)(t:aj)(z:aw)
  (hw:∀(q:aw) (i:Nat) (y:aJ),q.aC.length<=8->i<q.aC.length->gI q (i:Int) y 0=some (Nc q i y,0,())):
  aE (λ(v2:Int×aw×aw×Unit)=>
   bif (decide (v2.1<((List.length p.aC:Nat):Int)))then
    Option.bind (idx v2.2.1.aC v2.1) λx3=>Option.bind (g x3) λr4=>Option.bind (gI v2.2.1 v2.1 r4.1 r4.2.1) λr5=>
    bif (!decide (r5.2.1=(0:Int)))then Option.map inr (some (z,r5.2.1,()))else some (inl ((aB .i64 v2.1 (1:Int)),r5.1,v2.2.2.1,()))
   else Option.map inr (some (v2.2.1,(0:Int),()))) ((0:Int),{p with aa:=t},z,())=some (q7 p t ys,0,()):=by
 refine Yd.is (Yd.list p.aC (by omega) (λi (s:aw×aw)=>(i,s.1,s.2,())) (λi s=>s.1=q7 p t (ys.take i++p.aC.drop i)) (λi x s g1 _ hx hi hd hw' ha=> ?_) (λs g1 hd=> ?_) (s:=({p with aa:=t},z)) ?_)
 ·have hx':p.aC[i]?=some x:=by rw[<-hw',bd]
  obtain⟨y,e1,e2⟩:=hy.at_ i x hx'
  have hl':(ys.take i++p.aC.drop i).length=p.aC.length:=by have:=hy.len;simp only[QB,List.length_take,List.length_drop];omega
  simp only[hd,Qk,g1];rw[bd,show(q7 p t (ys.take i++p.aC.drop i)).aC=ys.take i++p.aC.drop i from rfl,YJ hy.len,hx',Qa,e2,Qa,hw _ i y (by show(ys.take i++p.aC.drop i).length<=8;omega) (by show i<(ys.take i++p.aC.drop i).length;omega),Qa,ha]
  refine .some ⟨(Nc (q7 p t (ys.take i++p.aC.drop i)) i y,s.2),rfl,?_⟩;show q7 p t ((ys.take i++p.aC.drop i).set i y)=_;rw[Vf hy.len hi e1]
 ·simp only[hd,Ql,g1];refine .some ?_;show(q7 p t (ys.take p.aC.length++p.aC.drop p.aC.length),(0:Int),())=_;rw[<-hy.len,Qq62,hy.len,Qq66,List.append_nil]
 ·rfl
def aeH(q:aw)(i:Nat)(y:aJ)(hl:q.aC.length<=8)(hi:i<q.aC.length):gI q (i:Int) y 0=some (Nc q i y,0,()):=by
 unfold gI;simp only[aJ.eta,ar.eta,ae.eta,etas,decide_true,Qo,Ql];rw[bz (by omega),Qk,bd,Qv hi,Qa,QV,Qv hi]
 rfl
section
variable {nd k : Int} {p : aw} (h : k7 nd k p) (hk0 : 0 <= k) (hk : k <= 999998)
 include h hk0 hk
theorem YK{g:aJ->Option (aJ×Int×Unit)}{t:aj}(ht:c5 t)(hg:∀x,EY nd k x->x∈p.aC->Yd (g x) λq=>q.2.1=0/\xV nd x.ab.aL (k+1) x q.1/\q.1.ab.aa=t):
  ∃ys,S8 g p.aC ys/\k7 nd (k+1) (q7 p t ys)/\pE p (q7 p t ys):=by
 obtain⟨ys,h1,h2⟩:=abN (R:=λx y=>g x=some (y,0,())/\xV nd x.ab.aL (k+1) x y/\y.ab.aa=t) (l:=p.aC) λx hx=>by obtain⟨⟨y,e,u⟩,e1,e2,e3⟩:=hg x (h.aK x hx) hx;obtain rfl:e=0:=e2;exact⟨y,e1,e3⟩
 have back:∀(i:Nat) (hi:i<ys.length),∃hi':i<p.aC.length,xV nd (p.aC[i]).ab.aL (k+1) p.aC[i] ys[i]/\(ys[i]).ab.aa=t/\EY nd k p.aC[i]:=λi hi=>by
  have hi':i<p.aC.length:=by omega
  obtain⟨y,e1,_,e2,e3⟩:=h2 i _ (Qv hi');rw[Qv hi]at e1;obtain rfl:=Option.some.inj e1;exact⟨hi',e2,e3,h.aK _ (Q0 hi')⟩
 refine⟨ys,⟨h1,λi x hx=> ?_⟩,⟨h.aF,h.n0,h.n1,ht,by show ys.length<=8;rw[h1];exact h.len,λy hy=> ?_,?_,λy hy=> ?_⟩,⟨by show _<=ys.length;omega,λx hx=> ?_⟩⟩
 ·obtain⟨y,e1,e2,_⟩:=h2 i x hx;exact⟨y,e1,e2⟩
 ·obtain⟨i,hi,rfl⟩:=List.getElem_of_mem (show y∈ys from hy)
  obtain⟨_,e1,_,e3⟩:=back i hi;exact(e3.WL e1).1
 ·show ys.Pairwise _;rw[List.pairwise_iff_getElem];intro a b ha hb hab;obtain⟨ha',e1,_,e3⟩:=back a ha;obtain⟨hb',e4,_,e6⟩:=back b hb;rw[(e3.WL e1).2,(e6.WL e4).2];exact List.pairwise_iff_getElem.1 h.dn a b ha' hb' hab
 ·obtain⟨i,hi,rfl⟩:=List.getElem_of_mem (show y∈ys from hy)
  obtain⟨_,_,e,_⟩:=back i hi;exact e
 ·obtain⟨i,hi⟩:=List.getElem?_of_mem hx;obtain⟨y,e1,_,e2,_⟩:=h2 i x hi;exact⟨y,Q8 e1,((h.aK x hx).WL e2).2,e2.2⟩
theorem aho{now:Int}(h0:0<=now)(h1:now<=200):∃ys,S8 (λx=>tE x now) p.aC ys/\k7 nd (k+1) (q7 p p.aa ys)/\pE p (q7 p p.aa ys)/\AL p now=some (if p.bM=true then(p,0,())else(q7 p p.aa ys,0,())):=by
 obtain⟨ys,hy,hi,hq⟩:=YK h hk0 hk (g:=λx=>tE x now) h.aN λx hx hm=>(afy hx.2.2 hk h0 h1).mono λq hq=>⟨hq.1,hq.2.1,hq.2.2.trans (h.same x hm)⟩
 refine⟨ys,hy,hi,hq,?_⟩;unfold AL;simp only[aJ.eta,ar.eta,ae.eta,etas,aw.eta,G8 h (by omega),Qa,Qo,Ql]
 cases p.bM with
 |true=>rfl
 |false=>exact ach h.len hy p.aa _ aeH
theorem aci{t:aj}(ht:c5 t):∃ys,S8 (λx=>gO x t) p.aC ys/\k7 nd (k+1) (q7 p t ys)/\pE p (q7 p t ys)/\vG p t=some (if p.bM=true then(p,0,())else(q7 p t ys,0,())):=by
 obtain⟨ys,hy,hi,hq⟩:=YK h hk0 hk (g:=λx=>gO x t) ht λx hx _=>ZG hx.2.2 hk ht
 refine⟨ys,hy,hi,hq,?_⟩;unfold vG;simp only[aJ.eta,ar.eta,ae.eta,etas,aw.eta,G8 h (by omega),Qa,Qo,Ql,Bn ht.sm,vQ ht,decide_true]
 rw[Bool.cond_eq_ite]
 by_cases hst:p.bM=true
 ·rw[Qr hst,Qr hst]
 ·rw[Qs hst,Qs hst];exact ach h.len hy t _ aeH
end
end
section
def BT{α β:Type}(o:Option (α×β×Unit)):(o.bind λr=>some (r.1,r.2.1,()))=o:=by cases o<;>rfl
section
variable {m : ae} (h : bs m) (hs : fM m)
 include h hs
theorem YW{t:aj}(ht:c5 t):ph m t=oh m t:=by
 have hi:=NY h ht;obtain⟨q',e2,h2⟩:=Vv Lh Lg h hs ht (Bj.self hi)
 have hdo:qU ⟨m⟩ t=some ((0:Int),⟨Cd m t⟩):=by unfold qU;simp only[ae.eta,aM.eta,etas,de ht,jm ht.sm,Qa,decide_true,Qo,Ql];rfl
 have h1:Yd (ph m t) (Hi (Bj (Cd m t)) m (Cd m t)):=by
  unfold ph tO;simp only[ae.eta,etas,ak.eta,aM.eta,BO h hs,EN h,hdo,Qa,Qo,Ql,decide_true];refine Yd.bind (N7 Lh Lg h hs hi hs.zero (λe=>e) rfl rfl (Bj.self hi)) λq hq=> ?_
  obtain⟨m2,rfl,ha⟩:=hq;exact .some ⟨m2,rfl,ha⟩
 obtain⟨q,e1,h1⟩:=h1;rw[e1,e2,JX (wc hi).seq.1 h1 h2]
end
def adR{nd sl k:Int}{x:aJ}(h:se nd sl k x)(hk:k<=999998){t:aj}(ht:c5 t):xv x t=gO x t:=by
 have p:=h.pre;have hsq:1<=x.aA.aH/\x.aA.aH<=1000000:=⟨p.oF.1,by have:=p.oF.2;omega⟩
 unfold xv wQ zm sf uR gO;simp only[aJ.eta,ar.eta,ae.eta,etas,aR,sA h (by omega),Ei h (by omega),OW p,ahW p.lS hsq ht,YW p.hZ p.jB ht,Qa,Qo,Ql]
 obtain⟨q,e1,h0,g1,g2,g3,g4,g5⟩:=abh p.lS hsq ht;obtain⟨r,e2,r0,hr⟩:=VR p.hZ p.jB ht;simp only[e1,e2,YW p.hZ p.jB ht,Qa,h0,r0,decide_true,Qo,Ql,Qk];have h1:=p.oF;have hp:tz nd sl (k+1) {x with aA:=q.1,ab:=r.1}:=⟨hr.inv,hr.seq,hr.aF.trans p.aF,hr.aK.trans p.aK,g1,by show 1<=q.1.aH/\q.1.aH<=1+(k+1);rcases g5 with e|e<;>rw[e]<;>omega,g2.trans p.rJ,g3.trans p.xc,g4.trans hr.aN.symm,p.timer,p.round,p.next⟩
 rw[Im hp];exact BT _
def aeR{nd k:Int}{l:List aJ}(hlen:l.length<=8)(h:∀x∈l,EY nd k x):iA l=some l:=by
 unfold iA;refine Yd.is (Yd.list l (by omega) (λi (s:List aJ)=>(i,s,())) (λi s=>s=l.take i) (λi x s e _ hx hi hd hw ha=> ?_) (λs e hd=> ?_) (s:=[]) rfl)
 ·subst e;simp only[hd,Qk,hw,Qa,aJ.eta,ar.eta,ae.eta,etas,OW (h x hx).2.2.pre,ha];rw[bz (by simp;omega),Qk]
  refine .some ⟨_,rfl,?_⟩;rw[bd]at hw;rw[List.take_add_one,hw];rfl
 ·subst e;simp only[hd,Ql,Qq62];exact .some rfl
section
variable {nd k : Int} {p : aw} (h : k7 nd k p) (hk : k <= 999998)
 include h hk
theorem Ll:iQ p=some true:=by
 have hlen:=h.len;have h0:=h.n0;have h1:=h.n1;have hn:=h.aF;unfold iQ nO;simp only[aJ.eta,ar.eta,ae.eta,etas,K6 h.aN.sm,vQ h.aN,Qa,decide_true,Qo];rw[Qg (show(0:Int)<=p.al by omega),Qg (show p.al<10 by omega),Qh (show¬(8:Int)<(p.aC.length:Int)by omega)]
 simp only[Ql,Qk,Qa,Qo];refine aiB h (λx hx=>Ei (h.aK x hx).2.2 (by omega)) λx hx=> ?_
 obtain⟨r,hr,hb⟩:=eqT (a:=x.ab.aa) (b:=p.aa) (h.aK x hx).2.2.pre.hZ.aN.sm;rw[hr,hb.2 (h.same x hx)]
 omit hk in
theorem abt{n:Int}(hn0:0<=n)(hn1:n<=1000000):bD p.aC n=some (((mo p.aC n:Nat):Int),vr p.aC n,()):=by
  have hlen:=h.len
  have hsub:∀y∈p.aC,cW .i64 y.ab.aL n=y.ab.aL - n:=λy hy=>by have h1:=(h.aK y hy).1;have h2:=(h.aK y hy).2.1;exact nY (by omega) (by omega)
  unfold bD;refine(Iz p.aC (by omega) (λy=>decide (y.ab.aL<n)) (h.dn.imp λ{x y} hxy hy=>by simp only[Qi]at hy ⊢;omega) (fin:=λk=>some (((k:Nat):Int),(match p.aC[k]? with|some y=>decide (y.ab.aL=n)|none=>false),())) (λi j m y hd hj hm hadd hx=> ?_) (λi hd hi=> ?_)).trans rfl
  ·have hy:y∈p.aC:=by rw[bd]at hx;exact Q8 hx
   have hc:decide (y.ab.aL - n<0)=decide (y.ab.aL<n):=by rw[decide_eq_decide];omega
   simp only[hd,hm,hadd,hx,aJ.eta,ar.eta,ae.eta,etas,lB,hsub y hy,hc,Qa,Qk];cases decide (y.ab.aL<n)<;>rfl
  ·simp only[hd,Ql]
   by_cases hi2:i<p.aC.length
   ·have hc:decide (p.aC[i].ab.aL - n=0)=decide (p.aC[i].ab.aL=n):=by rw[decide_eq_decide];omega
    rw[Qg (by omega:(i:Int)<(p.aC.length:Int))]
    simp only[Qk,bd,Qv hi2,Qa,aJ.eta,ar.eta,ae.eta,etas,lB,hsub _ (Q0 hi2),hc,Qe]
   ·rw[Qh (by omega:¬(i:Int)<(p.aC.length:Int)),Qq72 (by omega)]
    rfl
section
variable {n : Int} {own : ByteArray} {now : Int} {s : aJ} (hs : KX nd k n p own now s) (ho : own.size <= 200) (h0 : 0 <= now) (h1 : now <= 200)
 include hs
 omit hk in
theorem akB(h8:p.aC.length≠8):eD p.aC ((mo p.aC n:Nat):Int) [s]=some (Kq p n s).aC:=by
  have hlen:=h.len;have hw:=Oe p.aC n;unfold eD C1;rw[Qg (by omega:(0:Int)<=((mo p.aC n:Nat):Int)),Qg (by omega:((mo p.aC n:Nat):Int)<=(p.aC.length:Int)),bz (by simp;omega)]
  rfl
  include ho h0 h1
 omit hk in
theorem ajh:uB p.al n p.aa own now=some (s,0,()):=by have h2:=hs.aK;have h3:=hs.ok.1;have h4:=hs.ok.2.1;rw[<-hs.e,h.aF];exact ajH h.n0 h.n1 (by omega) (by omega) h.aN ho h0 h1
end
 def UZ(g:aJ->Option (aJ×Int×Unit))(n:Int)(v4:Int×aw×(List aJ)×Unit):Option (aw×Int×Unit):=
 Option.bind (bif (!decide (v4.1=(0:Int)))then some (!decide (v4.1=(6:Int)))else some false) λb6=>
 bif b6 then
 bif (!decide (v4.1=(0:Int)))then some (zP,v4.1,())else some ((aw.mk v4.2.1.al v4.2.1.bM v4.2.1.aa v4.2.2.1),(0:Int),())
 else
 Option.bind (bD v4.2.2.1 n) λr7=>
 Option.bind (idx v4.2.2.1 r7.1) λx8=>
 Option.bind (v4.2.2.1[(toNat r7.1)]?) λx9=>
 Option.bind (g x9) λr10=>
 aY (λ(v11:aw×(List aJ)×Unit)=>
 bif (!decide (r10.2.1=(0:Int)))then some (zP,r10.2.1,())else some ((aw.mk v11.1.al v11.1.bM v11.1.aa v11.2.1),(0:Int),())) λj12=>
 bif (decide (r10.2.1=(0:Int)))then
 Option.bind (idx v4.2.2.1 r7.1) λx13=>
 Option.bind (v4.2.2.1[(toNat r7.1)]?) λx14=>
 j12 ((aw.mk v4.2.1.al v4.2.1.bM v4.2.1.aa ([]:List aJ)),(v4.2.2.1.set (toNat r7.1) r10.1),())
 else
 j12 ((aw.mk v4.2.1.al v4.2.1.bM v4.2.1.aa ([]:List aJ)),v4.2.2.1,())
 omit hk in
theorem acg{n:Int}(hn0:0<=n)(hn1:n<=1000000){x:aJ}(hx:p.aC[mo p.aC n]?=some x){e:Int}(he:e=0\/e=6)(g:aJ->Option (aJ×Int×Unit)):
   UZ g n (e,⟨p.al,p.bM,p.aa,[]⟩,p.aC,())=Option.bind (g x) λr=>some (if r.2.1=0 then(Nc p (mo p.aC n) r.1,0,())else(zP,r.2.1,())):=by
  have hb:(Option.bind (bif (!decide (e=(0:Int)))then some (!decide (e=(6:Int)))else some false) λb6=>(some b6:Option Bool))=some false:=by rcases he with rfl|rfl<;>rfl
  unfold UZ;simp only[abt h hn0 hn1,Qa,bd,hx,QV,aR];rcases he with rfl|rfl
  all_goals
   simp only[decide_true,Qo,Ql,Qa,Qk,Qp,show decide ((6:Int)=0)=false from rfl]
   congr 1
   funext r
   by_cases hr:r.2.1=0
   ·rw[Qg hr,Qr hr];rfl
   ·rw[Qh hr,Qs hr];rfl
section
variable {n : Int} {own : ByteArray} {now : Int} {s : aJ} (hs : KX nd k n p own now s) (ho : own.size <= 200) (h0 : 0 <= now) (h1 : now <= 200)
 include hs ho h0 h1
 omit hk in
theorem aeQ{g g':aJ->Option (aJ×Int×Unit)}(hg:∀x,EY nd k x->x.ab.aL=n->g x=g' x):
   (aY (UZ g n) λj5=>
    Option.bind (bD p.aC n) λr15=>
    bif r15.2.1 then j5 ((6:Int),(aw.mk p.al p.bM p.aa ([]:List aJ)),p.aC,())else
    bif (decide (((List.length p.aC:Nat):Int)=(8:Int)))then j5 ((3:Int),(aw.mk p.al p.bM p.aa ([]:List aJ)),p.aC,())else
    Option.bind (uB p.al n p.aa own now) λr16=>
    aY (λ(v17:aw×(List aJ)×Unit)=>j5 (r16.2.1,(aw.mk v17.1.al v17.1.bM v17.1.aa ([]:List aJ)),v17.2.1,())) λj18=>
    bif (decide (r16.2.1=(0:Int)))then
    Option.bind (eD p.aC r15.1 [r16.1]) λr19=>j18 ((aw.mk p.al p.bM p.aa ([]:List aJ)),r19,())
    else j18 ((aw.mk p.al p.bM p.aa ([]:List aJ)),p.aC,()))=yD p n s g':=by
  have h2:=hs.aK;have h3:=hs.ok.1;have h4:=hs.ok.2.1
  have fin:¬(vr p.aC n=false/\p.aC.length=8)->∀e:Int,e=0\/e=6->UZ g n (e,⟨(mq p n s).al,(mq p n s).bM,(mq p n s).aa,[]⟩,(mq p n s).aC,())=yD p n s g':=λhb e he=>by
   obtain⟨hi,ht,x,hx,hxn,hxm⟩:=UN h hs hb;rw[acg hi (by omega) (by omega) hx he,hg x (hi.aK x hxm) hxn]
   unfold yD;rw[Qs hb,hx];rfl
  rw[aR,abt h (by omega) (by omega),Qa,ajh h hs ho h0 h1]
  cases ht:vr p.aC n with
  |true=>
   have:=fin (λe=>by rw[ht]at e;cases e.1) 6 (.inr rfl)
   unfold mq at this;rw[Qr ht]at this;exact this
  |false=>
   by_cases h8:p.aC.length=8
   ·rw[Qg (by omega)]
    unfold yD;rw[Qr ⟨ht,h8⟩];rfl
   ·have:=fin (λe=>h8 e.2) 0 (.inl rfl)
    unfold mq at this;rw[Qs (by rw[ht];simp)]at this
    rw[Qh (by omega)]
    simp only[Ql,Qk,Qa,decide_true,akB h hs h8,aR,<-this];rfl
end
theorem aji{l:cr}{src:Int}(hl:RB src l)(hne:src≠nd){now:Int}(h0:0<=now)(h1:now<=200){s:aJ}(hs:KX nd k l.aL p (ByteArray.mk #[48]) now s):
  nP p l now=if p.bM=true then some (p,0,())else if EP l=true then some (zP,1,())else yD p l.aL s (lz l):=by
 unfold nP qG EP;simp only[aJ.eta,ar.eta,ae.eta,az.eta,ak.eta,cr.eta,etas,aw.eta,Ll h hk,jm h.aN.sm,aeR h.len h.aK,Qa,Qo,Ql];rw[BT,Bool.cond_eq_ite]
 by_cases hst:p.bM=true
 ·rw[Qr hst,Qr hst]
 ·rw[Qs hst,Qs hst]
  by_cases k1:l.bu=1
  ·have h1':=hl.lS k1;rw[Qg k1,Qk,Bool.true_or,Qo,Qs (by simp)]
   refine aeQ h hs (by decide) h0 h1 (g:=λx=>kL x l) (g':=lz l) λx hx hxs=> ?_
   show kL x l=lz l x;unfold kL lz;simp only[aJ.eta,ar.eta,ae.eta,az.eta,etas,X4 hx.2.2 hk h1'.1 (by rw[h1'.2];exact hne),Qg k1,Qk]
   exact BT _
  ·rw[Qh k1,Ql,Bool.false_or]
   by_cases k2:l.bu=2
   ·by_cases k3:l.aL=l.ay.aL
    ·obtain⟨g1,g2⟩:=hl.env k2;rw[Qg k2,Qg k3,Qk,Qa,Qk,Bool.and_self,Qo,Qs (by simp)]
     refine aeQ h hs (by decide) h0 h1 (g:=λx=>kK x l) (g':=lz l) λx hx hxs=> ?_
     show kK x l=lz l x;unfold kK lz
     have he:AJ x.ab l.ay\/(cQ l.ay.aa/\(bc l.ay=false\/l.ay.al=x.ab.al\/l.ay.aL≠x.ab.aL)):=by
      cases hv:bc l.ay with
      |true=>obtain⟨g3,g4⟩:=g2 hv;exact .inl ⟨hv,g3,by rw[hxs,k3],by rw[g4,hx.2.2.pre.aF];exact hne⟩
      |false=>exact .inr ⟨g1,.inl rfl⟩
     simp only[aJ.eta,ar.eta,ae.eta,ak.eta,etas,aak hx.2.2 hk he,Qh k1,Ql];exact BT _
    ·rw[Qg k2,Qh k3];rfl
   ·rw[Qh k2];rfl
 omit hk in
theorem akA{g g':aJ->Option (aJ×Int×Unit)}(hg:∀x∈p.aC,g x=g' x){ys:List aJ}(hy:S8 g' p.aC ys)(t:aj){z:Int->List aJ->aw->Option (aw×Int×Unit)}:
   aE (λ(v6:Int×(List aJ)×aw×Unit)=>
    bif (decide (v6.1<((List.length p.aC:Nat):Int)))then
    Option.bind (idx v6.2.1 v6.1) λx7=>
    Option.bind (v6.2.1[(toNat v6.1)]?) λx8=>
    Option.bind (g x8) λr9=>
    bif (!decide (r9.2.1=(0:Int)))then Option.map inr (z r9.2.1 v6.2.1 v6.2.2.1)else
    Option.bind (idx v6.2.1 v6.1) λx10=>
    Option.bind (v6.2.1[(toNat v6.1)]?) λx11=>
    some (inl ((aB .i64 v6.1 (1:Int)),(v6.2.1.set (toNat v6.1) r9.1),(aw.mk v6.2.2.1.al v6.2.2.1.bM v6.2.2.1.aa ([]:List aJ)),()))
    else
    Option.map inr (some ((aw.mk v6.2.2.1.al v6.2.2.1.bM v6.2.2.1.aa v6.2.1),(0:Int),()))) ((0:Int),p.aC,(aw.mk p.al p.bM t ([]:List aJ)),())=some (q7 p t ys,0,()):=by
  have hlen:=h.len;refine Yd.is (Yd.list p.aC (by omega) (λi (s:List aJ)=>(i,s,(aw.mk p.al p.bM t ([]:List aJ)),())) (λi s=>s=ys.take i++p.aC.drop i) (λi x s g1 _ hx hi hd hw' ha=> ?_) (λs g1 hd=> ?_) (s:=p.aC) rfl)
  ·have hx':p.aC[i]?=some x:=by rw[<-hw',bd]
   obtain⟨y,e1,e2⟩:=hy.at_ i x hx'
   subst g1;simp only[hd,Qk,bd,QV,YJ hy.len,hx',Qa,hg x hx,e2,decide_true,Qo,Ql,ha];exact .some ⟨_,rfl,Vf hy.len hi e1⟩
  ·subst g1;simp only[hd,Ql];refine .some ?_;show((aw.mk p.al p.bM t (ys.take p.aC.length++p.aC.drop p.aC.length)),(0:Int),())=_;rw[<-hy.len,Qq62,hy.len,Qq66,List.append_nil];rfl
theorem ajm{t:aj}(ht:c5 t){ys:List aJ}(hy:S8 (λx=>gO x t) p.aC ys):ox p t=some (if p.bM=true then(p,0,())else(q7 p t ys,0,())):=by
 unfold ox qF;simp only[aJ.eta,ar.eta,ae.eta,etas,aw.eta,Ll h hk,jm h.aN.sm,jm ht.sm,de ht,aeR h.len h.aK,Qa,Qo,Ql,decide_true];rw[Bool.cond_eq_ite]
 by_cases hst:p.bM=true
 ·rw[Qr hst,Qr hst];rfl
 ·rw[Qs hst,Qs hst,BT];refine akA h (g:=λx=>iV x t) (λx hx=> ?_) hy t (z:=λe l q=>bif (!decide (e=(0:Int)))then some (zP,e,())else some ((aw.mk q.al q.bM q.aa l),(0:Int),()))
  show iV x t=gO x t;unfold iV;simp only[aJ.eta,ar.eta,ae.eta,etas,adR (h.aK x hx).2.2 hk ht];exact BT _
end
end
section
def ajp{t:aj}(ht:c5 t):Ch 0 t=some (⟨0,false,t,[]⟩,0,()):=by unfold Ch;simp only[etas,Bn ht.sm,vQ ht,Qa];rfl
def aeY{t:aj}(ht:c5 t):k7 0 0 ⟨0,false,t,[]⟩:=⟨rfl,by decide,by decide,ht,QS _,(λx hx=>by cases hx),List.Pairwise.nil,λx hx=>by cases hx⟩
def vl1{v:ByteArray}(h:kT v):VL [v]:=⟨λx hx=>by rw[Q5.1 hx];exact h,List.pairwise_singleton _ _,by simp⟩
def adG{s:dX}(hO:nK s){v:Int}(h0:0<=v)(h1:v<10):Yd (xA s v) λq=>nK q.2/\RB v q.1/\EP q.1=false:=by
 unfold xA;refine Yd.bind (mQ hO (by omega) (by omega) (by omega)) λp1 ⟨hO1,s0,s1,_⟩=> ?_
 have s1:=s1 (by omega)
 refine Yd.bind (sJ hO1 (by omega)) λp2 ⟨hO2,_,_,_⟩=> ?_
 simp only[etas,az.eta];refine Yd.cond (λ_=> ?_) (λ_=> ?_)
 ·refine Yd.bind (mQ hO2 (by omega) (by omega) (by omega)) λp3 ⟨hO3,q0,_,_⟩=> ?_
  refine Yd.bind (EX hO3 (n:=4) (by omega) (by omega)) λp4 ⟨hO4,ht,_,_⟩=> ?_
  refine Yd.bind (BV hO4) λp5 ⟨hO5,hv⟩=> ?_
  refine Yd.join (λw=>nK w.1/\wN w.2.1/\w.2.1.al=v) (λw ⟨g1,g2,g3⟩=> .some ⟨g1,⟨λ_=>⟨g2,g3⟩,λe=>(by cases e),by show 1<=p1.1;omega,by show p1.1<=1000000;omega⟩,rfl⟩) (λj' hj=> ?_)
  refine Yd.bind (sJ hO5 (by omega)) λp8 ⟨hO8,_,_,_⟩=> ?_
  refine Yd.cond (λ_=> ?_) (λ_=>hj _ ⟨hO8,⟨h0,h1,q0,ht,vl1 (Gu hv),VL.nil⟩,rfl⟩)
  exact Yd.bind (BV hO8) λp9 ⟨hO9,hv'⟩=>hj _ ⟨hO9,⟨h0,h1,q0,ht,vl1 (Gu hv),vl1 (Gu hv')⟩,rfl⟩
 ·refine Yd.bind (Ye hO2 h0 h1 (by omega) (by omega) (n:=4) (by omega) (by omega)) λp10 ⟨hO10,he⟩=> ?_
  refine Yd.bind (sJ hO10 (by omega)) λp11 ⟨hO11,_,_,_⟩=> ?_
  refine .some ⟨hO11,⟨λe=>(by cases e),λ_=>⟨he.aN.sm,λ_=>⟨he.aN,he.aF⟩⟩,by show 1<=p1.1;omega,by show p1.1<=1000000;omega⟩,?_⟩
  show EP _=false;simp only[EP,he.aK];simp
def RM{nd k:Int}{p:aw}(h:k7 nd k p){q:aw×Int×Unit}(hq:Pq nd k p q):Pq nd k p (if p.bM=true then(p,0,())else q):=by
 split
 ·exact .inl ⟨rfl,h,pE.refl p,rfl⟩
 ·exact hq
def ahs{k:Int}{p:aw}(h:k7 0 k p)(hk0:0<=k)(hk:k<=999998){s:dX}(hO:nK s){now:Int}(h0:0<=now)(h1:now<=200):Yd (AW s p now) λq=>nK q.2/\k7 0 (k+1) q.1/\pE p q.1/\q.1.bM=p.bM:=by
 unfold AW;simp only[aJ.eta,ar.eta,ae.eta,etas,aw.eta];have out:∀{q:aw×Int×Unit} {k':Int},k'<=k+1->Pq 0 k' p q->q.2.1=0->k7 0 (k+1) q.1/\pE p q.1/\q.1.bM=p.bM:=λ{q k'} hk' hq e=>hq.elim (λg=>⟨g.2.1.le hk',g.2.2.1,g.2.2.2⟩) λg=>absurd e g
 have self:k7 0 (k+1) p:=h.le (by omega)
 refine Yd.join (λv=>nK v.2.1/\(v.1=0->k7 0 (k+1) v.2.2.1/\pE p v.2.2.1/\v.2.2.1.bM=p.bM)) (λv ⟨v1,v2⟩=> ?_) (λj' hj=> ?_)
 ·by_cases e:v.1=0
  ·rw[Qg e];exact .some ⟨v1,v2 e⟩
  ·rw[Qh e];exact .some ⟨v1,self,pE.refl p,rfl⟩
 ·refine Yd.bind (sJ hO (by omega)) λp3 ⟨hO3,_,_,_⟩=> ?_
  refine Yd.cond (λ_=> ?_) (λ_=>Yd.cond (λ_=> ?_) (λ_=>Yd.cond (λ_=> ?_) (λ_=>Yd.cond (λ_=> ?_) (λ_=> ?_))))
  ·refine Yd.bind (mQ hO3 (by omega) (by omega) (by omega)) λp4 ⟨hO4,n0,n1,_⟩=> ?_
   have n1:=n1 (by omega)
   refine Yd.bind (BV hO4) λp5 ⟨hO5,hv⟩=> ?_
   obtain⟨x,hs⟩:=Z0 h (n:=p4.1) n0 (by omega) (Gu hv).2 h0 h1 hk0
   rw[ah4 h hk0 hk hs,Qa];exact hj _ ⟨hO5,out (by omega) (RM h (aef h hs))⟩
  ·refine Yd.bind (mQ hO3 (by omega) (by omega) (by omega)) λp4 ⟨hO4,n0,n1,_⟩=> ?_
   have n1:=n1 (by omega)
   refine Yd.bind (BV hO4) λp5 ⟨hO5,hv⟩=> ?_
   obtain⟨x,hs⟩:=Z0 h (n:=p4.1) n0 (by omega) (Gu hv).2 h0 h1 hk0
   rw[adp h hk0 hk hs];split
   ·exact hj _ ⟨hO5,λ_=>⟨self,pE.refl p,rfl⟩⟩
   ·refine(SR h hs (Int.le_refl k) (g:=λx=>pT x p5.1) λy hy _=>abe hy.2.2 hk (Gu hv)).bind λq hq=> ?_
    exact hj _ ⟨hO5,out (by omega) hq.1⟩
  ·obtain⟨ys,_,hi,hq,e⟩:=aho h hk0 hk h0 h1;rw[e,Qa];exact hj _ ⟨hO3,out (Int.le_refl _) (RM self (.inl ⟨rfl,hi,hq,rfl⟩))⟩
  ·refine Yd.bind (EX hO3 (n:=4) (by omega) (by omega)) λp11 ⟨hO11,ht,_,_⟩=> ?_
   obtain⟨ys,_,hi,hq,e⟩:=aci h hk0 hk ht;rw[e,Qa];exact hj _ ⟨hO11,out (Int.le_refl _) (RM self (.inl ⟨rfl,hi,hq,rfl⟩))⟩
  ·refine Yd.bind (mQ hO3 (by omega) (by omega) (by omega)) λp13 ⟨hO13,n0,n1,_⟩=> ?_
   have n1:=n1 (by omega)
   refine Yd.bind (adG hO13 (by omega) (by omega)) λp14 ⟨hO14,hl,hb⟩=> ?_
   simp only[az.eta,ak.eta,cr.eta,etas];obtain⟨x,hs⟩:=Z0 h hl.s0 hl.s1 (own:=ByteArray.mk #[48]) (by decide) h0 h1 hk0
   rw[aih h hk hs,hb];split
   ·exact hj _ ⟨hO14,λ_=>⟨self,pE.refl p,rfl⟩⟩
   ·rw[Qs (by simp)]
    refine(SR h hs (show k<=k+1 by omega) λy hy hys=>PU hk hl (by omega) hb hy hys).bind λq hq=> ?_
    exact hj _ ⟨hO14,out (Int.le_refl _) hq.1⟩
def aib{s:dX}(hO:nK s):Yd (AY s) λq=>nK q.2/\k7 0 10 q.1/\q.1.bM=false:=by
 unfold AY;refine Yd.bind (EX hO (n:=4) (by omega) (by omega)) λp1 ⟨hO1,ht,_,_⟩=> ?_
 simp only[etas,aw.eta,ajp ht,Qa];refine Yd.bind (sJ hO1 (by omega)) λp3 ⟨hO3,g0,g1,_⟩=> ?_
 have g1:=g1 (by omega)
 refine Yd.FG (λ(v:Int×dX×aw×Unit)=>0<=v.1/\v.1<=9/\nK v.2.1/\k7 0 (9 - v.1) v.2.2.1/\v.2.2.1.bM=false) (λv=>v.1.toNat) ?_ ⟨g0,by show p3.1<=9;omega,hO3,(aeY ht).le (by show(0:Int)<=9 - p3.1;omega),rfl⟩
 rintro⟨k,s',x,u⟩ ⟨a1,a2,a3,a4,a5⟩;simp only at a1 a2 a3 a4 a5;simp only
 by_cases hk:0<k
 ·rw[Qg hk,Qk,nY (by omega) (by omega),nY (by omega) (by omega)]
  refine Yd.bind (ahs a4 (by omega) (by omega) a3 (by omega) (by omega)) λq ⟨b1,b2,_,b3⟩=> ?_
  exact .some ⟨⟨by show 0<=k - 1;omega,by show k - 1<=9;omega,b1,b2.le (by show 9 - k+1<=9 - (k - 1);omega),b3.trans a5⟩,by show(k - 1).toNat<k.toNat;omega⟩
 ·rw[Qh hk,Ql];exact .some ⟨a3,a4.le (by omega),a5⟩
def ady{nd k n:Int}{q:aw}(h:k7 nd k q)(h1:∀y∈q.aC,y.ab.aL=n)(h2:∃y∈q.aC,y.ab.aL=n):∃y,q.aC=[y]/\y.ab.aL=n:=by
 obtain⟨y,hy,hn⟩:=h2;have hs:=h.dn
 cases hl:q.aC with
 |nil=>rw[hl]at hy;cases hy
 |cons a l=>
  cases l with
  |nil=>exact⟨a,rfl,h1 a (by rw[hl];exact Qx)⟩
  |cons b l=>
   rw[hl,Q4]at hs;have e1:=h1 a (by rw[hl];exact Qx)
   have e2:=h1 b (by rw[hl];exact Qy _ Qx)
   have:=hs.1 b Qx;omega
def agA{t:aj}(ht:c5 t){l:cr}{src:Int}(hl:RB src l)(hne:src≠0)(hb:EP l=false){now:Int}(h0:0<=now)(h1:now<=200):
  Yd (nP ⟨0,false,t,[]⟩ l now) λq=>(q.2.1=0->∃y,q.1.aC=[y]/\y.ab.aL=l.aL/\k7 0 1 q.1)/\(∀m,l.bu=1->m=l.aU->q.2.1=0):=by
 have h:=aeY ht;obtain⟨x,hs⟩:=Z0 h hl.s0 hl.s1 (own:=ByteArray.mk #[48]) (by decide) h0 h1 (Int.le_refl 0)
 rw[aji h (by omega) hl hne h0 h1 hs,hb]
 simp only[Qq,Qu];obtain⟨q,e,hq1,hq2⟩:=SR h hs (show(0:Int)<=0+1 by omega) (g:=lz l) λy hy hys=>PU (by omega) hl hne hb hy hys
 refine⟨q,e,λq0=> ?_,λm k1 _=> ?_⟩
 ·rcases hq1 with⟨_,hi,_⟩|hq1
  ·obtain⟨_,g2,g3⟩:=hq2 q0;obtain⟨y,e1,e2⟩:=ady hi (λy hy=>(g2 y hy).resolve_left λe=>(by cases e)) g3
   exact⟨y,e1,e2,hi⟩
  ·exact absurd q0 hq1
 ·have hb2:¬(vr ([]:List aJ) l.aL=false/\([]:List aJ).length=8):=λe=>by cases e.2
  unfold yD at e;rw[Qs hb2]at e;obtain⟨hi,_,y,hy,hyn,hym⟩:=UN h hs hb2;have hyx:y=x:=((Ym h hs).2.2 y hym).resolve_left λe=>(by cases e)
  rw[hy,Qa,hyx]at e;obtain⟨g1,g2⟩:=hl.lS k1;obtain⟨z,ez,_,_,hz,_⟩:=ah8 (nd:=0) (sl:=l.aL) (by omega) (by omega) hl.s0 hl.s1 ht (own:=ByteArray.mk #[48]) (by decide) h0 h1
  have hx0:=hs.e;rw[ez]at hx0;obtain rfl:=Option.some.inj hx0;obtain⟨r,er,hr⟩:=ai9 hs.ok.2.2 (by omega) g1 (by rw[g2];exact hne)
  rw[show lz l x=fQ x l.aU from by unfold lz;rw[Qg k1];rfl,er,Qa]at e
  rcases hr with⟨_,r0,_⟩|⟨hr,_⟩
  ·rw[Qr r0]at e;rw[<-Option.some.inj e]
  ·rw[show x.aA.au=[]from hz]at hr
   cases hr
def ahw:AX=some true:=by
 have ht:c5 ⟨2,xY 2,[]⟩:=T3 2 (by omega) 2 (by omega) (by omega)
 have hF:ve 2 2=some ⟨2,xY 2,[]⟩:=ahf 2 (by omega) 2
 have hN:sV 0 ⟨2,xY 2,[]⟩=some (⟨0,false,⟨2,xY 2,[]⟩,[]⟩,0,()):=by unfold sV nO;simp only[etas,K6 ht.sm,vQ ht,jm ht.sm,Qa];rfl
 unfold AX;refine Yd.eq_true ?_;simp only[hF,Qa,etas,aw.eta,hN];generalize hL:(cr.mk (1:Int) (3:Int) _ _)=L
 have hl:RB 1 L:=by subst hL;exact⟨λ_=>⟨⟨by decide,by decide,by decide,ht,vl1 (by decide),VL.nil⟩,rfl⟩,λe=>(by cases e),by decide,by decide⟩
 have hk1:L.bu=1/\L.aL=3:=by subst hL;exact⟨rfl,rfl⟩
 refine Yd.bind (agA ht hl (by decide) (by simp[EP,hk1.1]) (now:=4) (by decide) (by decide)) λq ⟨q1,q2⟩=> ?_
 have q0:=q2 _ hk1.1 rfl;obtain⟨y,e1,e2,hi⟩:=q1 q0;have hyi:idx q.1.aC (0:Int)=some y:=by rw[e1];rfl
 simp only[q0,decide_true,Qk,Qa,e2,hk1.2,hyi,aJ.eta,ar.eta,ae.eta,etas,aw.eta,Ll hi (by omega)]
 rw[show decide (((List.length q.1.aC:Nat):Int)=1)=true by rw[e1];rfl]
 exact .some rfl
end
section
structure afe (t:aj) (q:aw) (y:cr):Prop where
 aK:∃x∈q.aC,x.ab.aL=y.aL
 lS:y.bu=1->y.aU.al=0/\y.aU.aa=t
 env:y.bu=2->y.ay.al=0/\y.ay.aa=t
def abv{k:Int}{p:aw}(h:k7 0 k p)(hk:k<=999998)(hs:p.bM=false):Yd (ow p) λl=>l.length<=16/\∀y∈l,afe p.aa p y:=by
 have hlen:=h.len;unfold ow;simp only[aJ.eta,ar.eta,ae.eta,etas,aw.eta,Ll h hk,Qa,Qo];rw[hs,Ql,Qa,Ql];refine Yd.list p.aC (by omega) (λi (l:List cr)=>(i,l,())) (λi l=>l.length<=2*i/\∀y∈l,afe p.aa p y) (λi x l ⟨g1,g2⟩ _ hx hi hd hw ha=> ?_) (λl ⟨g1,g2⟩ hd=> ?_) (s:=[]) ⟨QS _,λy hy=>by cases hy⟩
 ·have hS:=(h.aK x hx).2.2;simp only[hd,Qk,hw,Qa,abw hS (by omega),ha]
  generalize hL:((bif x.zr then[]else[(⟨1,x.ab.aL,vS x.aA,⟨0,0,0,uK,0,⟨0,⟨#[]⟩⟩,⟨0,⟨#[]⟩⟩,⟨0,⟨#[]⟩⟩,0,0⟩⟩:cr)])++(bif aP x.ab.af then[]else[(⟨2,x.ab.aL,⟨0,0,uK,[],[]⟩,cY x.ab⟩:cr)]))=L
  have hll:L.length<=2:=by rw[<-hL];cases x.zr<;>cases aP x.ab.af<;>simp
  rw[bz (by omega),Qk]
  refine .some ⟨l++L,rfl,by rw[QB];omega,λy hy=> ?_⟩
  rcases Qz.1 hy with hy|hy
  ·exact g2 y hy
  ·rw[<-hL]at hy;rcases Qz.1 hy with hy|hy
   ·cases hd:x.zr with
    |true=>rw[hd]at hy;cases hy
    |false=>rw[hd]at hy;rw[Q5.1 hy];exact⟨⟨x,hx,rfl⟩,λ_=>⟨hS.pre.rJ,hS.pre.aN.trans (h.same x hx)⟩,λe=>by cases e⟩
   ·cases hz:aP x.ab.af with
    |true=>rw[hz]at hy;cases hy
    |false=>rw[hz]at hy;rw[Q5.1 hy];exact⟨⟨x,hx,rfl⟩,λe=>(by cases e),λ_=>⟨(wB _).trans hS.pre.aF,(rU _).trans (h.same x hx)⟩⟩
 ·simp only[hd,Ql];exact .some ⟨by omega,g2⟩
def aje(l:List Int):q8 l=some true:=by
 unfold q8;refine Yd.eq_true ?_;refine Yd.bind (aiL l) λs hO=> ?_
 refine Yd.bind (aib hO) λp2 ⟨hO2,h,hst⟩=> ?_
 refine Yd.bind (EX hO2 (n:=4) (by omega) (by omega)) λp3 ⟨hO3,ht,_,_⟩=> ?_
 obtain⟨ys,hy,hi,hkp,_⟩:=aci h (by decide) (by decide) ht
 simp only[aJ.eta,ar.eta,ae.eta,az.eta,ak.eta,cr.eta,etas,aw.eta,ahw,ajm h (by decide) ht hy,Qa]
 simp only[hst,Qq,Qu,Qa,decide_true,Qo,Ql];refine Yd.bind (abv hi (by decide) hst) λL ⟨hL,hall⟩=> ?_
 have hlen:=hi.len;have hyl:=hy.len;have hsame:∀u:aj,u=(q7 p2.1 p3.1 ys).aa->iz u p3.1=some true:=λu e=>by rw[e];exact ahz ht.sm
 refine Yd.list L (by omega) (λi (_:Unit)=>(i,())) (λ_ _=>True) (λi y _ _ _ hyL hil hd hw ha=> ?_) (λ_ _ hd=> ?_) (s:=()) trivial
 ·obtain⟨⟨x,hx,hxs⟩,h1,h2⟩:=hall y hyL;simp only[hd,Qk,hw,Qa,ha];refine Yd.list (q7 p2.1 p3.1 ys).aC (by omega) (λi (b:Bool)=>(b,i,())) (λi b=>∀j,j<i->(q7 p2.1 p3.1 ys).aC[j]?=some x->b=true) (λj z b hinv _ hz hjl hd' hw' ha'=> ?_) (λb hinv hd'=> ?_) (s:=false) (λj hj=>absurd hj (Nat.not_lt_zero _))
  ·have hzj:(q7 p2.1 p3.1 ys).aC[j]?=some z:=by rw[<-hw',bd]
   simp only[hd',Qk,hw',Qa,kY,ha'];refine .some ⟨_,rfl,λi' hi' he=> ?_⟩
   rcases Nat.lt_or_ge i' j with g1|g1
   ·rw[hinv i' g1 he];rfl
   ·obtain rfl:i'=j:=by omega
    rw[hzj]at he;rw[Option.some.inj he,Qg hxs];cases b<;>rfl
  ·obtain⟨j,hj⟩:=List.getElem?_of_mem hx;rw[hinv j (Qw.1 hj).1 hj];simp only[hd',Ql,Qo]
   by_cases k1:y.bu=1
   ·obtain⟨e1,e2⟩:=h1 k1;simp only[k1,e1,hsame _ e2,decide_true,Qk,Qo,Ql,Qa,show decide ((1:Int)=2)=false from rfl]
    exact .some ⟨(),rfl,trivial⟩
   ·by_cases k2:y.bu=2
    ·obtain⟨e1,e2⟩:=h2 k2;simp only[k2,e1,hsame _ e2,decide_true,Qk,Qo,Ql,Qa,show decide ((2:Int)=1)=false from rfl]
     exact .some ⟨(),rfl,trivial⟩
    ·simp only[Qh k1,Qh k2,Ql,Qa];exact .some ⟨(),rfl,trivial⟩
 ·simp only[hd,Ql,show decide (((List.length (q7 p2.1 p3.1 ys).aC:Nat):Int)=((List.length p2.1.aC:Nat):Int))=true from Qg (by rw[show(q7 p2.1 p3.1 ys).aC.length=p2.1.aC.length from hyl]),Qk,Qa]
  exact .some rfl
end
end Go.Proofs.YtofedieniojipaaGreat
end
noncomputable section
namespace Go.TQ
open Go.RowKit
def ac4{w:World}{M:Nat->Prop}{G:Gh}{a:Option Addr}{len cap:Nat}{zs:List Int}(hM:∀b,¬M b)
  (h:(a=none/\len=0/\cap=0/\zs=[])\/∃x,a=some x/\len<=cap/\cap<=maxLen/\zs.length=cap/\(∀i,i<zs.length->w.cell? (x.add i)=some (.int .i64 (zs.getD i 0)))/\∀n∈zs,(Lit.int .i64 n).wf=true):
  bp w M G (.sl ((zs.take len).map λn=>[.int .i64 n])) (.slice a len cap):=by
 rcases h with⟨rfl,rfl,rfl,rfl⟩|⟨x,rfl,h1,h2,h3,h4,_⟩
 ·exact .slnil
 ·have hfl:∀l:List Int,(l.map λn=>[PV.int .i64 n]).flatten=l.map λn=> .int .i64 n:=by
   intro l
   induction l with
   |nil=>rfl
   |cons n l ih=>simp only[QD,List.flatten_cons,ih];rfl
  have hlen:((zs.take len).map λn=>[PV.int .i64 n]).length=len:=by simp;omega
  have:=bp.sl (w:=w) (M:=M) (G:=G) ((zs.take len).map λn=>[.int .i64 n]) x cap 1 ((zs.take len).map λn=> .int .i64 n) (λe he=>by obtain⟨n,_,rfl⟩:=QP.1 he;rfl) (by rw[hfl];simp)
   (λi v hv=> ?_) (λi y v hy hv=> ?_) (by rw[hlen];exact h1) h2
  ·rw[hlen]at this;exact this
  ·refine⟨?_,hM _⟩;rw[QT,Qb]at hv;obtain⟨n,hn,rfl⟩:=hv;rw[Qq68]at hn;split at hn
   ·have hi:i<zs.length:=(Qw.1 hn).1;rw[h4 i hi,List.getD_eq_getElem?_getD,hn];rfl
   ·cases hn
  ·rw[hfl]at hy;rw[QT]at hy hv;rw[Qb]at hy hv;obtain⟨n,hn,rfl⟩:=hy;obtain⟨n',hn',rfl⟩:=hv;rw[hn]at hn';injection hn' with e
   subst e;exact .int _ _
def abT{P:Program}{f:FuncId}{args:List PV}{vs:List Value}{w:World}(hG:GI w)(h:Con P f false [] args (.bool true) [])(hr:bo w (λ_=>False) ed args vs):
  Calls P f vs.toArray w λe w'=>e= .returned (.bool true)/\Below w.heap.size w w':=by
 refine(h w (λ_=>False) (.nil hG) 0 0 [] vs (λhq=>by cases hq) ?_).mono ?_
 ·exact⟨hr.1,λi x v hx hv=>(hr.2 i x v hx hv).mono (cZ.of λ_ _=>λhq=>by rcases hq with⟨hq,_⟩|hq;cases hq;exact hq) (Gh.le.refl _)⟩
 ·rintro e w' ⟨v,_,rfl,hv,_,hF⟩;refine⟨by rw[hv.oJ],hF.os,hF.tape,hF.output,hF.size,λk hk=>hF.block k hk (by simp)⟩
end Go.TQ
end
