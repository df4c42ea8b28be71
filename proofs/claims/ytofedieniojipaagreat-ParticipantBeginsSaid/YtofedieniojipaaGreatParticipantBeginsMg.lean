/-
  Texts made small by a program (see NOTES). Conditions: those that each theorem names.
-/
import Derived.Test.YtofedieniojipaaGreatParticipantBeginsMf
set_option linter.unusedVariables false
set_option linter.defProp false
set_option linter.unusedSimpArgs false
set_option linter.unusedSectionVars false
set_option maxHeartbeats 2000000
noncomputable section
namespace Go.Proofs.YtofedieniojipaaGreat
open Go.TQ
section
structure uY (m:ay):Prop where
 n0:0<=m.al
 n1:m.al<10
 seq:1<=m.aG
 aO:dO m.aa
 dE:VL m.bm
 eV:VL m.aE
structure c5 (n:av):Prop where
 ask:B3 n.aa n.al n.aK n.Round
 own:n.me.size<=200
 dE:VL n.bm
 eV:VL n.aE
 lG:VL n.aR
 sub:∀x∈n.aR,x∈n.aE
 heard:∀m∈n.ar,uY m/\m.al≠n.al
 dn:n.ar.Pairwise (λa b=>a.al<b.al)
def Yy:∀(l:List ay) (k:Nat),k<=10->(∀e∈l,(k:Int)<=e.al/\e.al<10)->l.Pairwise (λa b=>a.al<b.al)->l.length+k<=10
 |[],k,hk,_,_=>by simp;omega
 |e::l,k,hk,h,hp=>by
  rw[Q4]at hp;have h1:=h e Qx;have h2:=Yy l (k+1) (by omega) (λx hx=>⟨by have:=hp.1 x hx;omega,(h x (Qy _ hx)).2⟩) hp.2
  rw[QE];omega
def c5.len{n:av}(h:c5 n):n.ar.length<=10:=by
 have:=Yy n.ar 0 (by omega) (λe he=>⟨by have:=(h.heard e he).1.n0;omega,(h.heard e he).1.n1⟩) h.dn
 omega
def LS{n:av}(h:c5 n):∀m∈n.ar++[(⟨n.al,n.aG,n.aa,n.bm,n.aE⟩:ay)],0<=m.al/\m.al<10/\VL m.bm/\VL m.aE:=by
 intro m hm;rcases Qz.1 hm with hm|hm
 ·have:=(h.heard m hm).1;exact⟨this.n0,this.n1,this.dE,this.eV⟩
 ·rw[Q5.1 hm];exact⟨h.ask.v0,h.ask.v1,h.dE,h.eV⟩
def Vs{α:Type}{l:List α}{i:Nat}{x:α}(h:idx l (i:Int)=some x):l[Int.toNat (i:Int)]?=some x:=by
 rw[bg]at h;exact h
def X6{n:av}(h:c5 n)(x:ByteArray):Yd (lD n x) λq=>∃a b:Nat,q.1=a/\q.2.1=b/\a<1024/\b<1024:=by
 have hlen:=h.len;have hall:=LS h;unfold lD Ez;simp only[etas,Qa,aQ];rw[bK (by simp;omega),Qk,bK (by simp;omega),Qk]
 simp only[List.nil_append];have hl2:(n.ar++[(⟨n.al,n.aG,n.aa,n.bm,n.aE⟩:ay)]).length<=1000000:=by simp;omega
 refine Yd.list (n.ar++[(⟨n.al,n.aG,n.aa,n.bm,n.aE⟩:ay)]) hl2 (λi (s:Int×Int)=>(s.1,s.2,i,())) (λ_ s=>∃a b:Nat,s.1=a/\s.2=b/\a<1024/\b<1024) ?_ ?_ (s:=(0,0)) ⟨0,0,rfl,rfl,by omega,by omega⟩
 ·rintro i y ⟨s1,s2⟩ ⟨a,b,e1,e2,ha,hb⟩ hd hy hi hdec hx hadd;simp only at e1 e2;subst e1 e2;obtain⟨g0,g1,gv,ga⟩:=hall y hy;simp only;rw[hdec,Qk,hx,Qa,Vs hx,Qa,hadd,HF _ gv.uA,Qa]
  have fin:∀c:Nat,c<1024->Yd (Option.bind (ow y.aE x) λr9=>
    bif r9 then
     if y.al<0 then none else
     some (Sum.inl ((c:Int),(qY .i64 (b:Int) (bV .i64 (1:Int) y.al)),((i+1:Nat):Int),()))
    else
     some (Sum.inl ((c:Int),(b:Int),((i+1:Nat):Int),())):Option ((Int×Int×Int×Unit)⊕(Int×Int×Unit))) (Lp (λt=>∃s':Int×Int,t=(s'.1,s'.2,((i+1:Nat):Int),())/\(∃a b:Nat,s'.1=a/\s'.2=b/\a<1024/\b<1024)) (λr=>∃a b:Nat,r.1=a/\r.2.1=b/\a<1024/\b<1024)):=by
   intro c hc;rw[HF _ ga.uA,Qa]
   cases decide (x∈y.aE)with
   |false=>exact .some ⟨((c:Int),(b:Int)),rfl,c,b,rfl,rfl,hc,hb⟩
   |true=>
    rw[Qk,Qs (by omega),pL hb g0 g1]
    exact .some ⟨((c:Int),_),rfl,c,_,rfl,rfl,hc,Ad hb g1⟩
  cases decide (x∈y.bm)with
  |false=>exact fin a ha
  |true=>
   rw[Qk,Qs (by omega),pL ha g0 g1]
   exact fin _ (Ad ha g1)
 ·rintro⟨s1,s2⟩ ⟨a,b,e1,e2,ha,hb⟩ hdec;simp only at e1 e2;simp only;rw[hdec,Ql];exact .some ⟨a,b,e1,e2,ha,hb⟩
def TI:Yd (pU []) λ_=>True:=by
 unfold pU;refine Yd.list ([]:List lK) (by simp) (λi (_:Unit)=>(i,())) (λ_ _=>True) (λi x s _ _ hx=>absurd hx QR) (λs _ hdec=> ?_) (s:=()) trivial
 simp only;rw[hdec,Ql];exact .some trivial
def XF(m:cy):Prop:=0<=m.al/\m.al<10/\cQ m.aa/\m.bm=[]/\m.aE=[]
def acy{m:cy}(h:XF m):Yd (ti m) λ_=>True:=by
 obtain⟨h0,h1,ht,hv,ha⟩:=h;unfold ti;simp only[etas];refine Yd.bind (p:=λ_=>True) (Yd.cond (λ_=> .some trivial) λ_=> .some trivial) λb1 _=> ?_
 refine Yd.bind (p:=λ_=>True) (Yd.cond (λ_=> .some trivial) λ_=> .some trivial) λb2 _=> ?_
 refine Yd.bind (p:=λ_=>True) (Yd.cond (λ_=>by rw[Fx ht];exact .some trivial) λ_=> .some trivial) λb4 _=> ?_
 rw[hv,ha];refine Yd.bind (p:=λ_=>True) (Yd.cond (λ_=>Yd.bind TI λ_ _=> .some trivial) λ_=> .some trivial) λb6 _=> ?_
 exact Yd.bind (p:=λ_=>True) (Yd.cond (λ_=>Yd.bind TI λ_ _=> .some trivial) λ_=> .some trivial) λb8 _=> .some trivial
def wH:ak:=⟨0,[],[]⟩
def MC:cQ wH:= .mk _ (by simp[wH]) (by simp[wH]) (λu hu=>by cases hu)
structure rN (l:List bf):Prop where
 len:l.length=10
 sm:∀m∈l,cQ m.aa
def rN.set{l:List bf}(h:rN l)(k:Nat){m:bf}(hm:cQ m.aa):rN (l.set k m):=
 ⟨by rw[QY];exact h.len,λx hx=>(List.mem_or_eq_of_mem_set hx).elim (h.sm x) λe=>by rw[e];exact hm⟩
def rN.get{l:List bf}(h:rN l){v:Int}(h0:0<=v)(h1:v<10):∃x,idx l v=some x/\l[v.toNat]?=some x:=by
 have hl:=h.len;have hv:v.toNat<l.length:=by omega
 exact⟨l[v.toNat],by rw[M3 _ h0];exact Qv hv,Qv hv⟩
def rN.sc{l:List bf}(h:rN l):zo ⟨l⟩:=⟨by show l.length<=1000000;rw[h.len];omega,h.sm⟩
def ad7{v:Int}{t:ak}(hv0:0<=v)(hv1:v<10)(ht:cQ t){l:List cy}(hl:l.length<=1000000)(hm:∀m∈l,XF m):Yd (rY v t l) zo:=by
 unfold rY
 have h1:(decide ((10:Int)<=(10:Int))&&decide (0<=(10:Int))&&bl 64 (Int.toNat (10:Int)))=true:=by
  rw[bK (by decide)];rfl
 rw[h1,Qk];simp only[etas,aQ]
 have h0:rN (List.replicate (Int.toNat (10:Int)) (bf.mk false (ak.mk (0:Int) ([]:List Int) ([]:List ak)))):=
  ⟨by rw[List.length_replicate];rfl,λm hm=>by rw[(List.mem_replicate.1 hm).2];exact MC⟩
 refine Yd.list l hl (λi (s:List bf)=>(i,bd.mk [],s,())) (λ_ s=>rN s) ?_ ?_ h0
 ·intro i y s hs hd hy hi hdec hx hadd;have hmy:=hm y hy;simp only;rw[hdec,Qk,hx,Qa,hadd];simp only[cy.eta];refine Yd.bind (acy hmy) λr _=> ?_
  cases r with
  |false=>exact .some ⟨s,rfl,hs⟩
  |true=>
   obtain⟨x,g1,g2⟩:=hs.get hmy.1 hmy.2.1;rw[Qk,g1,Qa,g2,Qa];exact .some ⟨_,rfl,hs.set _ hmy.2.2.1⟩
 ·intro s hs hdec;simp only;rw[hdec,Ql,Qg hv0,Qg hv1];simp only[Qk,Qa];obtain⟨x,g1,g2⟩:=hs.get hv0 hv1;have hs2:=hs.set v.toNat (m:=⟨false,⟨0,[],[]⟩⟩) MC;obtain⟨x2,k1,k2⟩:=hs2.get hv0 hv1;rw[g1,g2,Fx ht];simp only[Qa]
  cases decide (Fy t=0)with
  |false=>exact .some hs2.sc
  |true=>
   simp only[Qk];rw[k1,k2];exact .some (hs2.set _ ht).sc
def U1{n:av}(h:c5 n):Yd (mG n) zo:=by
 have hlen:=h.len;unfold mG;simp only[etas];refine Yd.list n.ar (by omega) (λi (s:List cy)=>(i,s,())) (λi s=>s.length<=i/\∀m∈s,XF m) ?_ ?_ (s:=[]) ⟨by simp,λm hm=>absurd hm QR⟩
 ·intro i y s ⟨hs1,hs2⟩ hd hy hi hdec hx hadd;have hmy:=(h.heard y hy).1;simp only;rw[hdec,Qk,hx,Qa,hadd,bK ⟨by simp only[Q6];omega,by simp only[Q6];omega⟩,Qk]
  refine .some ⟨_,rfl,by simp only[QB,Q6];omega,λm hm=> ?_⟩
  rcases Qz.1 hm with hm|hm
  ·exact hs2 m hm
  ·rw[Q5.1 hm];exact⟨hmy.n0,hmy.n1,hmy.aO.sm,rfl,rfl⟩
 ·intro s ⟨hs1,hs2⟩ hdec;simp only;rw[hdec,Ql];exact Yd.map (Yd.bind (ad7 h.ask.v0 h.ask.v1 h.ask.aO.sm (by omega) hs2) λc hc=> .some hc)
def zI{n:av}(h:c5 n):n.al=((n.al.toNat:Nat):Int)/\n.al.toNat<10:=by
 have h0:=h.ask.v0;have h1:=h.ask.v1;omega
def ag3{n:av}(h:c5 n)(x:ByteArray):Yd (tu n x) λb=>b=true->x∉n.aE/\n.aE.length<40:=by
 obtain⟨hn,hn10⟩:=zI h;unfold tu;simp only[etas,aQ];refine Yd.bind (X6 h x) λq ⟨a,b,e1,e2,ha,hb⟩=> ?_
 rw[e1,e2,HF _ h.eV.uA,Qa]
 by_cases hx:x∈n.aE
 ·rw[Qg hx];exact .some λe=>by cases e
 ·rw[Qh hx];simp only[Qp,Qk]
  by_cases hl:n.aE.length<40
  ·rw[Qg (by omega:(n.aE.length:Int)<40),Qk]
   refine Yd.bind (U1 h) λc hc=> ?_
   rw[hn,vn hc hn10 ha hb];exact .some λ_=>⟨hx,hl⟩
  ·rw[Qh (by omega:¬(n.aE.length:Int)<40)]
   exact .some λe=>by cases e
def aen{n:av}(h:c5 n):Yd (pT n) λr=>r.length<=1000/\∀x∈r,kP x:=by
 have hlen:=h.len;have l1:=h.dE.len;have l2:=h.eV.len;unfold pT;refine Yd.bind (Mb (n:=80) (by omega) (by omega)) λr1 ⟨k1,k2⟩=> ?_
 refine Yd.list n.ar (by omega) (λi (s:List ByteArray)=>(s,i,())) (λi s=>s.length<=80+80*i/\∀x∈s,kP x) ?_ ?_ ⟨by omega,λx hx=>(k2 x hx).elim (h.dE.qJ x) (h.eV.qJ x)⟩
 ·intro i y s ⟨hs1,hs2⟩ hd hy hi hdec hx hadd;have hmy:=(h.heard y hy).1;have l3:=hmy.dE.len;have l4:=hmy.eV.len;simp only;rw[hdec,Qk,hx,Qa,hadd];refine Yd.bind (Mb (n:=80) (by omega) (by omega)) λr4 ⟨g1,g2⟩=> ?_
  refine Yd.bind (Mb (n:=80+80*(i+1)) (by omega) (by omega)) λr5 ⟨g3,g4⟩=> ?_
  exact .some ⟨r5,rfl,g3,λx hx=>(g4 x hx).elim (hs2 x) λhx=>(g2 x hx).elim (hmy.dE.qJ x) (hmy.eV.qJ x)⟩
 ·intro s ⟨hs1,hs2⟩ hdec;simp only;rw[hdec,Ql];exact .some ⟨by omega,hs2⟩
def c5.Hq{n:av}(h:c5 n){v:List ByteArray}(hv:VL v):c5 {n with bm:=v}:=⟨h.ask,h.own,hv,h.eV,h.lG,h.sub,h.heard,h.dn⟩
def c5.aed{n:av}(h:c5 n){a:List ByteArray}(ha:VL a)(hs:∀y∈n.aE,y∈a):c5 {n with aE:=a}:=⟨h.ask,h.own,h.dE,ha,h.lG,λx hx=>hs x (h.sub x hx),h.heard,h.dn⟩
def c5.ZI{n:av}(h:c5 n){c:List ByteArray}(hc:VL c)(hs:∀y∈c,y∈n.aE):c5 {n with aR:=c}:=⟨h.ask,h.own,h.dE,h.eV,hc,hs,h.heard,h.dn⟩
structure q8 (n r:av):Prop where
 ok:c5 r
 aD:r.al=n.al
 aI:r.aK=n.aK
 round:r.Round=n.Round
 seq:r.aG=n.aG
 aO:r.aa=n.aa
 own:r.me=n.me
 heard:r.ar=n.ar
def q8.refl{n:av}(h:c5 n):q8 n n:=⟨h,rfl,rfl,rfl,rfl,rfl,rfl,rfl⟩
def q8.Hq{n r:av}(h:q8 n r){v:List ByteArray}(hv:VL v):q8 n {r with bm:=v}:=⟨h.ok.Hq hv,h.aD,h.aI,h.round,h.seq,h.aO,h.own,h.heard⟩
def acp{n:av}(h:c5 n):Yd (rX n) (q8 n):=by
 unfold rX;simp only[etas,aQ];refine Yd.bind (ZW h.ask) λq ⟨s,e1,hs⟩=> ?_
 rw[e1,HE hs,Qa];have hl:=yr s;refine Yd.list (nG s) (by omega) (λi (r:av)=>(i,r,())) (λ_ r=>q8 n r) ?_ ?_ (.refl h)
 ·intro i y r hr hd hy hi hdec hx hadd;simp only;rw[hdec,Qk,hx,Qa,hadd];have hlen:=hr.ok.len
  by_cases hyn:y=r.al
  ·rw[Qg hyn,Qk]
   by_cases hown:r.me=bE
   ·rw[Qg hown];exact .some ⟨r,rfl,hr⟩
   ·rw[Qh hown];simp only[Qp,Qk]
    have hv:kP r.me:=by
     refine⟨?_,hr.ok.own⟩;rcases Nat.eq_zero_or_pos r.me.size with h0|h0
     ·exact absurd (ByteArray.ext (Array.eq_empty_of_size_eq_zero h0)) hown
     ·exact h0
    rw[HC hr.ok.dE,Qa];exact .some ⟨_,rfl,hr.Hq (tl hr.ok.dE hv).1⟩
  ·rw[Qh hyn,Ql];refine Yd.list r.ar (by omega) (λi (r:av)=>(i,r,())) (λ_ r=>q8 n r) ?_ ?_ hr
   ·intro j m r2 hr2 hd2 hm hj hdec2 hx2 hadd2;simp only;rw[hdec2,Qk,hx2,Qa,hadd2];have hmy:=(hr.ok.heard m hm).1;have l3:=hmy.dE.len;have l4:=hmy.eV.len
    cases decide (m.al=y)with
    |false=>exact .some ⟨r2,rfl,hr2⟩
    |true=>
     simp only[Qo,Ql];refine Yd.bind (Mb (n:=80) (by omega) (by omega)) λu ⟨g1,g2⟩=> ?_
     refine Yd.list u (by omega) (λi (r:av)=>(i,r,())) (λ_ r=>q8 n r) ?_ ?_ hr2
     ·intro k x r3 hr3 hd3 hxu hk hdec3 hx3 hadd3;simp only;rw[hdec3,Qk,hx3,Qa,hadd3,HC hr3.ok.dE,Qa];have hv:kP x:=(g2 x hxu).elim (hmy.dE.qJ x) (hmy.eV.qJ x);exact .some ⟨_,rfl,hr3.Hq (tl hr3.ok.dE hv).1⟩
     ·intro r3 hr3 hdec3;simp only;rw[hdec3,Ql];exact .some ⟨r3,rfl,hr3⟩
   ·intro r2 hr2 hdec2;simp only;rw[hdec2,Ql];exact .some ⟨r2,rfl,hr2⟩
 ·intro r hr hdec;simp only;rw[hdec,Ql];exact .some hr
structure T6 (b n r:av):Prop where
 ok:c5 r
 aD:r.al=n.al
 aI:r.aK=n.aK
 round:r.Round=n.Round
 aO:r.aa=n.aa
 seq:r.aG=n.aG\/r.aG=b.aG+1
def Sh{b n:av}(hb:cQ b.aa/\b.bm.length<=1000000/\b.aE.length<=1000000)(hs:0<=b.aG/\b.aG<=1000000)(h:c5 n):Yd (jK b n) (T6 b n):=by
 unfold jK;simp only[etas];refine Yd.join (λv=>q8 n v.1) (λv hv=> ?_) (λj' hj=> ?_)
 ·refine Yd.DR (λ(s:Bool×av×Unit)=>q8 n s.2.1) (λs=>(if s.1=true then 1 else 0)+2*(40 - s.2.1.aE.length)) ?_ hv
  rintro⟨again,r,u⟩ hr;simp only at hr;simp only
  cases again with
  |true=>
   rw[Qk];refine Yd.bind (aen hr.ok) λl ⟨hl,hvals⟩=> ?_
   refine Yd.list l (by omega) (λi (s:av)=>(false,i,s,())) (λ_ s=>s=r) ?_ ?_ rfl
   ·rintro i x s rfl hd hx' hi hdec hx hadd;simp only;rw[hdec,Qk,hx,Qa,hadd];refine Yd.bind (ag3 hr.ok x) λc hc=> ?_
    cases c with
    |false=>exact .some ⟨s,rfl,rfl⟩
    |true=>
     obtain⟨hc1,hc2⟩:=hc rfl;obtain⟨p1,p2,p3,p4⟩:=tl hr.ok.eV (hvals x hx');rw[Qk,HC hr.ok.eV,Qa];refine .some ⟨⟨hr.ok.aed p1 p2,hr.aD,hr.aI,hr.round,hr.seq,hr.aO,hr.own,hr.heard⟩,?_⟩;have:=p4 hc1 hc2;show(if true=true then 1 else 0)+2*(40 - (lQ s.aE x).length)<(if true=true then 1 else 0)+2*(40 - s.aE.length)
     rw[this];omega
   ·rintro s rfl hdec;simp only;rw[hdec,Ql];refine .some ⟨hr,?_⟩;show(if false=true then 1 else 0)+2*(40 - s.aE.length)<(if true=true then 1 else 0)+2*(40 - s.aE.length)
    simp
  |false=>
   rw[Ql];refine Yd.map ?_;have hl:=hr.ok.eV.len;refine Yd.list r.aE (by omega) (λi (s:av)=>(i,s,())) (λ_ s=>q8 n s/\s.aE=r.aE) ?_ ?_ ⟨hr,rfl⟩
   ·rintro i x s ⟨hs',hsa⟩ hd hx' hi hdec hx hadd;obtain⟨hn,hn10⟩:=zI hs'.ok;simp only[aQ];rw[hdec,Qk,hx,Qa,hadd];refine Yd.bind (X6 hs'.ok x) λq ⟨a,c,e1,e2,ha,hc⟩=> ?_
    refine Yd.bind (U1 hs'.ok) λcf hcf=> ?_
    have hfc:=tT hcf hn10 hc;rw[<-hn]at hfc;rw[e2,hfc,Qa]
    cases (gq cf.bn c).testBit s.al.toNat with
    |false=>exact .some ⟨s,rfl,hs',hsa⟩
    |true=>
     rw[Qk,HC hs'.ok.lG,Qa];obtain⟨p1,p2,p3,p4⟩:=tl hs'.ok.lG (hr.ok.eV.qJ x hx');refine .some ⟨_,rfl,⟨hs'.ok.ZI p1 (λy hy=> ?_),hs'.aD,hs'.aI,hs'.round,hs'.seq,hs'.aO,hs'.own,hs'.heard⟩,hsa⟩
     rcases p3 y hy with rfl|hy
     ·rw[hsa];exact hx'
     ·exact hs'.ok.sub y hy
   ·rintro s ⟨hs',hsa⟩ hdec;simp only[aQ];rw[hdec,Ql];obtain⟨b1,f1,_⟩:=Md (s:=b.bm) (t:=s.bm) hb.2.1;obtain⟨b2,f2,_⟩:=Md (s:=b.aE) (t:=s.aE) hb.2.2;obtain⟨b3,f3,_⟩:=Xe (a:=b.aa) (b:=s.aa) hb.1;rw[f1,f2,f3];simp only[Qa];refine Yd.map (Yd.bind (p:=λ_=>True) (Yd.cond (λ_=> .some trivial) λ_=> .some trivial) λc1 _=> ?_)
    refine Yd.bind (p:=λ_=>True) (Yd.cond (λ_=> .some trivial) λ_=> .some trivial) λc2 _=> ?_
    cases c2 with
    |false=>exact .some ⟨hs'.ok,hs'.aD,hs'.aI,hs'.round,hs'.aO,.inl hs'.seq⟩
    |true=>
     have hadd:aA .i64 b.aG 1=b.aG+1:=bH (by omega) (by omega)
     rw[Qk,hadd];exact .some ⟨⟨hs'.ok.ask,hs'.ok.own,hs'.ok.dE,hs'.ok.eV,hs'.ok.lG,hs'.ok.sub,hs'.ok.heard,hs'.ok.dn⟩,hs'.aD,hs'.aI,hs'.round,hs'.aO,.inr rfl⟩
 ·cases decide (((List.length n.aR:Nat):Int)=(0:Int))with
  |true=>
   rw[Qk];refine Yd.bind (acp h) λr hr=> ?_
   exact hj (r,()) hr
  |false=>exact hj (n,()) (.refl h)
end
section
def Oa{m:ay}(h:uY m):xb m=some true:=by
 have e1:=h.n0;have e2:=h.n1;have e3:=h.seq;unfold xb;simp only[etas,eH h.aO,HD h.dE,HD h.eV];rw[Qg e1,Qg e2,Qg e3];rfl
def N8{n:av}(h:c5 n)(hs:1<=n.aG/\n.aG<=1000000):xa n=some true:=by
 have hlen:=h.len;have e1:=h.ask.v0;have e2:=h.ask.v1;have e3:=h.ask.s0;have e4:=h.ask.s1;have e5:=h.ask.r1;have e6:=h.ask.r2;have e7:=h.own;unfold xa;simp only[etas,eH h.ask.aO,HD h.dE,HD h.eV,HD h.lG];rw[Qh (by omega:¬n.al<0),Qh (by omega:¬(10:Int)<=n.al),Qh (by omega:¬n.aK<0),Qh (by omega:¬(1000000:Int)<n.aK),Qh (by omega:¬n.Round<1),Qh (by omega:¬(1000:Int)<n.Round),Qh (by omega:¬n.aG<1),Qh (by omega:¬(1000000:Int)<n.aG),Qh (by omega:¬(200:Int)<((n.me.size:Nat):Int))]
 simp only[Ql,Qa,decide_true,Qo];refine Yd.eq_true ?_;refine Yd.list n.aR h.lG.uA (λi (_:Unit)=>(i,())) (λ_ _=>True) ?_ ?_ (s:=()) trivial
 ·intro i x s _ hd hx' hi hdec hx hadd;simp only;rw[hdec,Qk,hx,Qa,hadd,HF _ h.eV.uA,Qg (h.sub x hx')];exact .some ⟨(),rfl,trivial⟩
 ·intro s _ hdec;simp only;rw[hdec,Ql];refine Yd.map ?_;refine Yd.list n.ar (by omega) (λi (_:Unit)=>(i,())) (λ_ _=>True) ?_ ?_ (s:=()) trivial
  ·intro i m s _ hd hm hi hdec hx hadd;obtain⟨hm1,hm2⟩:=h.heard m hm;simp only[aQ];rw[hdec,Qk,hx,Qa,hadd];simp only[ay.eta];rw[Oa hm1,Qa,Qh hm2];simp only[Qo,Ql]
   by_cases h0:i=0
   ·subst h0;rw[Qh (by omega:¬(0:Int)<((0:Nat):Int))]
    exact .some ⟨(),rfl,trivial⟩
   ·rw[Qg (by omega:(0:Int)<(i:Int))]
    simp only[Qk];have hsub:cU .i64 (i:Int) 1=((i - 1:Nat):Int):=by rw[pz (by omega) (by omega)];omega
    have hi1:i - 1<n.ar.length:=by omega
    rw[hsub,bg,Qv hi1,Qa]
    have hyi:m=n.ar[i]:=by
     rw[bg,Qv hi]at hx;exact(Option.some.inj hx).symm
    have hlt:n.ar[i - 1].al<m.al:=by
     rw[hyi];exact List.pairwise_iff_getElem.1 h.dn (i - 1) i hi1 hi (by omega)
    rw[Qh (by omega:¬m.al<=n.ar[i - 1].al)]
    exact .some ⟨(),rfl,trivial⟩
  ·intro s _ hdec;simp only;rw[hdec,Ql];exact .some rfl
def c5.Jl{n:av}(h:c5 n):cQ n.aa/\n.bm.length<=1000000/\n.aE.length<=1000000:=⟨h.ask.aO.sm,h.dE.uA,h.eV.uA⟩
def Dr:av:=⟨0,0,0,0,⟨0,[],[]⟩,⟨#[]⟩,[],[],[],[]⟩
def afJ{n:av}{m:ay}(h:c5 n)(hs:1<=n.aG/\n.aG<=1000000)(hm:uY m)(hne:m.al≠n.al):Yd (vb n m) λq=>(q.2.1=0/\T6 n n q.1)\/q.2.1=9:=by
 have hlen:=h.len;unfold vb;simp only[etas,ay.eta,N8 h hs,Oa hm,Qa,Qo,Ql];rw[Qh hne];simp only[Ql,aQ];have kk:∀(a:List ay) (x:ay),a.length<=100->bl 120 (a.length+[x].length)=true:=λa x ha=>bK ⟨by simp only[Q6];omega,by simp only[Q6];omega⟩
 have setl:∀l:List ay,(∀y∈l,uY y/\y.al≠n.al)->l.Pairwise (λa b=>a.al<b.al)->Yd (Option.bind (jK n {n with ar:=l}) λr14=>some (r14,(0:Int),())) λq=>(q.2.1=0/\T6 n n q.1)\/q.2.1=9:=by
  intro l h1 h2;refine Yd.bind (Sh h.Jl (by omega) (n:={n with ar:=l}) ⟨h.ask,h.own,h.dE,h.eV,h.lG,h.sub,h1,h2⟩) λr hr=> .some (.inl ⟨rfl,hr.ok,hr.aD,hr.aI,hr.round,hr.aO,hr.seq⟩)
 refine Yd.list n.ar (by omega) (λi (s:Bool×List ay)=>(s.1,i,Dr,{n with ar:=[]},s.2,()))
  (λi s=>s.2.length<=2*i/\(∀y∈s.2,uY y/\y.al≠n.al)/\s.2.Pairwise (λa b=>a.al<b.al)/\(∀y∈s.2,∀z∈n.ar.drop i,y.al<z.al)/\(s.1=false->∀y∈s.2,y.al<m.al)) ?_ ?_ (s:=(false,[]))
  ⟨by simp,λy hy=>absurd hy QR,List.Pairwise.nil,λy hy=>absurd hy QR,λ_ y hy=>absurd hy QR⟩
 ·rintro i x ⟨d,acc⟩ ⟨a1,a2,a3,a4,a5⟩ hd hx' hi hdec hx hadd;simp only at a1 a2 a3 a4 a5;have hxx:=h.heard x hx'
  have hsort:∀z∈n.ar.drop (i+1),x.al<z.al:=by
   have:=h.dn.sublist (List.drop_sublist i n.ar);rw[hd,Q4]at this;exact this.1
  have a4x:∀y∈acc,y.al<x.al:=λy hy=>a4 y hy x (by rw[hd];exact Qx)
  have a4r:∀y∈acc,∀z∈n.ar.drop (i+1),y.al<z.al:=λy hy z hz=>a4 y hy z (by rw[hd];exact Qy _ hz)
  simp only;rw[hdec,Qk,hx,Qa,hadd];have k1:=kk acc m (by omega)
  have k2:=kk acc x (by omega)
  have k3:=kk (acc++[m]) x (by simp only[QB,Q6];omega)
  by_cases hn:x.al=m.al
  ·rw[Qg hn,Qk]
   cases decide (m.aG<=x.aG)with
   |true=>exact .some (.inr rfl)
   |false=>exact .some ⟨(d,acc),rfl,by show acc.length<=2*(i+1);omega,a2,a3,a4r,a5⟩
  ·rw[Qh hn,Ql,k1,k2,k3]
   have plain:(d=false->x.al<m.al)->Yd (some (Sum.inl (d,((i+1:Nat):Int),Dr,{n with ar:=([]:List ay)},(acc++[x]),())):Option ((Bool×Int×av×av×(List ay)×Unit)⊕(av×Int×Unit))) (Lp (λt=>∃s':Bool×List ay,t=(s'.1,((i+1:Nat):Int),Dr,{n with ar:=[]},s'.2,())/\(s'.2.length<=2*(i+1)/\(∀y∈s'.2,uY y/\y.al≠n.al)/\s'.2.Pairwise (λa b=>a.al<b.al)/\(∀y∈s'.2,∀z∈n.ar.drop (i+1),y.al<z.al)/\(s'.1=false->∀y∈s'.2,y.al<m.al))) (λr=>(r.2.1=0/\T6 n n r.1)\/r.2.1=9)):=by
    intro hdm;refine .some ⟨(d,acc++[x]),rfl,by simp only[QB,Q6];omega,λy hy=> ?_,?_,λy hy z hz=> ?_,λe y hy=> ?_⟩
    ·rcases Qz.1 hy with hy|hy
     ·exact a2 y hy
     ·rw[Q5.1 hy];exact hxx
    ·rw[Qq69];exact⟨a3,List.pairwise_singleton _ _,λy hy z hz=>by rw[Q5.1 hz];exact a4x y hy⟩
    ·rcases Qz.1 hy with hy|hy
     ·exact a4r y hy z hz
     ·rw[Q5.1 hy];exact hsort z hz
    ·rcases Qz.1 hy with hy|hy
     ·exact a5 e y hy
     ·rw[Q5.1 hy];exact hdm e
   by_cases hlt:m.al<x.al
   ·rw[Qg hlt]
    cases d with
    |true=>exact plain λe=>by cases e
    |false=>
     have a5:=a5 rfl;simp only[Qp,Qk,Qa];refine .some ⟨(true,(acc++[m])++[x]),rfl,by simp only[QB,Q6];omega,λy hy=> ?_,?_,λy hy z hz=> ?_,λe=>by cases e⟩
     ·rcases Qz.1 hy with hy|hy
      ·rcases Qz.1 hy with hy|hy
       ·exact a2 y hy
       ·rw[Q5.1 hy];exact⟨hm,hne⟩
      ·rw[Q5.1 hy];exact hxx
     ·rw[Qq69,Qq69];refine⟨⟨a3,List.pairwise_singleton _ _,λy hy z hz=>by rw[Q5.1 hz];exact a5 y hy⟩,List.pairwise_singleton _ _,λy hy z hz=> ?_⟩
      rw[Q5.1 hz];rcases Qz.1 hy with hy|hy
      ·exact a4x y hy
      ·rw[Q5.1 hy];exact hlt
     ·rcases Qz.1 hy with hy|hy
      ·rcases Qz.1 hy with hy|hy
       ·exact a4r y hy z hz
       ·rw[Q5.1 hy];exact Int.lt_trans hlt (hsort z hz)
      ·rw[Q5.1 hy];exact hsort z hz
   ·rw[Qh hlt];exact plain λ_=>by omega
 ·rintro⟨d,acc⟩ ⟨a1,a2,a3,a4,a5⟩ hdec;simp only at a1 a2 a3 a4 a5;simp only;rw[hdec,Ql];refine Yd.map ?_;have k1:=kk acc m (by omega)
  rw[k1]
  cases d with
  |true=>exact setl acc a2 a3
  |false=>
   simp only[Qp,Qk];refine setl (acc++[m]) (λy hy=> ?_) ?_
   ·rcases Qz.1 hy with hy|hy
    ·exact a2 y hy
    ·rw[Q5.1 hy];exact⟨hm,hne⟩
   ·rw[Qq69];exact⟨a3,List.pairwise_singleton _ _,λy hy z hz=>by rw[Q5.1 hz];exact a5 rfl y hy⟩
def N9{t:ak}{v aI:Int}{own:ByteArray}(ht:dO t)(h0:0<=v)(h1:v<10)(h2:0<=aI)(h3:aI<=1000000)(ho:own.size<=200):Yd (nu v aI t own) λq=>q.2.1=0/\c5 q.1/\q.1.al=v/\q.1.aK=aI/\q.1.aa=t/\q.1.aG=1:=by
 unfold nu;simp only[etas,eH ht];rw[Qh (by omega:¬v<0),Qh (by omega:¬(10:Int)<=v),Qh (by omega:¬aI<0),Qh (by omega:¬(1000000:Int)<aI),Qh (by omega:¬(200:Int)<((own.size:Nat):Int))]
 simp only[Ql,Qa,decide_true,Qo];have hn:c5 ⟨v,aI,1,1,t,own,[],[],[],[]⟩:=⟨⟨ht,h0,h1,h2,h3,by show(1:Int)<=1;omega,by show(1:Int)<=1000;omega⟩,ho,.nil,.nil,.nil,λx hx=>absurd hx QR,λx hx=>absurd hx QR,List.Pairwise.nil⟩
 refine Yd.bind (Sh hn.Jl ⟨by show(0:Int)<=1;omega,by show(1:Int)<=1000000;omega⟩ hn) λr hr=> .some ⟨rfl,⟨hr.ok.ask,hr.ok.own,hr.ok.dE,hr.ok.eV,hr.ok.lG,hr.ok.sub,hr.ok.heard,hr.ok.dn⟩,hr.aD,hr.aI,hr.aO,rfl⟩
end
section
def aeb{m:af}(h:m.aP=3):c6 m=m:=by
 have h1:cW m=m:=by unfold cW;rw[Qr (.inl h)]
 have h2:gl m=m:=by unfold gl;rw[Qr (.inl (by rw[h];decide))]
 have h3:fP m=m:=by unfold fP;rw[Qs (by rw[h];decide),Qs (by rw[h];decide)]
 have h4:iL m=m:=by unfold iL;rw[Qs (by rw[h];rintro⟨e,_⟩;exact absurd e (by decide))]
 have h5:fK m=m:=by unfold fK;rw[Qr (.inl h)]
 unfold c6;rw[Qr h1,Qr h2,Qr h3,Qr h4];exact h5
structure GJ (m:af) (t:ak) (x:af):Prop where
 inv:br x
 seq:fL x
 aD:x.al=m.al
 aI:x.aK=m.aK
 aO:x.aa=t
 ext:m.aP=3->x.aP=3/\x.ab.Value=m.ab.Value
def GJ.refl{m:af}(h:br m)(hs:fL m):GJ m m.aa m:=⟨h,hs,rfl,rfl,rfl,λe=>⟨e,rfl⟩⟩
def pA(m x:af):Prop:=m.aP=3->x.aP=3/\x.ab.Value=m.ab.Value
def UU{m:af}:∀x,br x->pA m x->pA m (c6 x):=λx _ h e=>by
 have h2:=h e;rw[aeb h2.1];exact h2
def UT{m:af}:∀x,pA m x->pA m (dy x):=λx h e=>by
 have h2:=h e;unfold dy;split
 ·exact h2
 ·exact h2
def Nz{m m1:af}(h:br m)(hb:IP m m1):pA m m1:=by
 intro e;rcases hb with⟨v,hv,rfl⟩|⟨x,hx,rfl⟩|⟨h3,hv,hc,rfl⟩|⟨t,ht,rfl⟩
 ·have hz:aM m.ab=false:=by
   rcases h.body with k|k|k|k
   ·exact absurd (k.aW.symm.trans e) (by decide)
   ·exact k.aZ.nz
   ·exact k.aZ.nz
   ·exact k.aZ.nz
  unfold gk;rw[Qs (by rw[hz];decide)]
  exact⟨e,rfl⟩
 ·exact⟨e,rfl⟩
 ·exact absurd e h3
 ·exact⟨e,rfl⟩
def Vh{m m1:af}(h:br m)(hb:IP m m1){q:af×Int×Unit}(hq:NO (pA m) m m1 q):q.2.1=0/\GJ m m1.aa q.1:=by
 obtain⟨m2,rfl,ha⟩:=hq;have hf:=aaV h hb;obtain⟨f1,f2,f3,f4,f5,f6⟩:=Cz m1;obtain⟨s,e,_⟩:=Lv m m2;refine⟨rfl,aaT ha.inv,adI ha.inv ha.seq (λhz=>ha.nz (by rw[f6];exact hf.nz hz)),?_,?_,?_,?_⟩
 ·rw[e];exact ha.env.1.trans (f1.trans hf.aD)
 ·rw[e];exact ha.env.2.1.trans (f2.trans hf.aI)
 ·rw[e];exact ha.env.2.2.1.trans f3
 ·rw[e];exact ha.rel
section
variable {m : af} (h : br m) (hs : fL m)
 include h hs
theorem KO{v:ByteArray}(hv:kP v):Yd (na m v) λq=>q.2.1=0/\GJ m m.aa q.1:=by
 have hb:IP m (gk m v):= .inl ⟨v,hv,rfl⟩;refine(KE (R:=pA m) UU UT h hs hv (Nz h hb)).mono λq hq=> ?_
 have e:(gk m v).aa=m.aa:=by unfold gk;split<;>rfl
 exact e▸Vh h hb hq
theorem SL{e:aj}(he:yQ m e):Yd (lg m e) λq=>(q.2.1=0/\GJ m m.aa q.1)\/q.2.1=9:=by
 have hb:IP m (Ah m e):= .inr (.inl ⟨e,he,rfl⟩);refine(Sj (R:=pA m) UU UT h hs he (Nz h hb)).mono λq hq=> ?_
 rcases hq with⟨hq,_⟩|⟨rfl,_⟩
 ·exact .inl (Vh h hb hq)
 ·exact .inr rfl
theorem zx:tZ m=some (bif decide (m.aP=3)then m.ab.Value else gC,decide (m.aP=3),()):=by
 unfold tZ;simp only[etas,Cg h hs,Qa,Qo,Ql];cases decide (m.aP=3)<;>rfl
def Ci(t:fJ):Prop:=0<=t.ai/\t.ai<=1000000/\ -1<=t.IN/\t.IN<=212
 omit h hs in
theorem X5{t:fJ}(ht:Ci t):Bj t=some true:=by
  obtain⟨h1,h2,h3,h4⟩:=ht;unfold Bj;rw[Qg h1,Qg h2,Qg h3,Qg h4];rfl
 omit h hs in
theorem Wi{c:Int}(hc:0<=c)(hc2:c<=1000000):Yd (rR c) λw=>1<=w/\w<=12:=by
  unfold rR
  by_cases h:12<=c
  ·rw[Qg h];exact .some ⟨by decide,by decide⟩
  ·have hadd:aA .i64 c 1=c+1:=bH (by omega) (by omega)
   rw[Qh h,Ql,hadd];refine .some ?_;unfold bD;split<;>omega
end
end
section
structure wc (nd sl:Int) (k:Int) (x:aS):Prop where
 lR:br x.ah
 oP:fL x.ah
 aD:x.ah.al=nd
 aI:x.ah.aK=sl
 qZ:c5 x.aC
 vT:1<=x.aC.aG/\x.aC.aG<=1+k
 yt:x.aC.al=nd
 DF:x.aC.aK=sl
 aO:x.aC.aa=x.ah.aa
 timer:Ci x.Timer
 round:1<=x.Round/\x.Round<=1000
 next:0<=x.Next/\x.Next<=212
structure ra (nd sl:Int) (k:Int) (x:aS):Prop where
 pre:wc nd sl k x
 done:x.OX=decide (x.ah.aP=3)
 value:x.Value=bif decide (x.ah.aP=3)then x.ah.ab.Value else gC
def wc.le{nd sl k k':Int}{x:aS}(h:wc nd sl k x)(hk:k<=k'):wc nd sl k' x:=⟨h.lR,h.oP,h.aD,h.aI,h.qZ,⟨h.vT.1,by have:=h.vT.2;omega⟩,h.yt,h.DF,h.aO,h.timer,h.round,h.next⟩
def ra.le{nd sl k k':Int}{x:aS}(h:ra nd sl k x)(hk:k<=k'):ra nd sl k' x:=⟨h.pre.le hk,h.done,h.value⟩
def wc.V6{nd sl k:Int}{x:aS}(h:wc nd sl k x){m:af}(hm:GJ x.ah x.ah.aa m):wc nd sl k {x with ah:=m}:=⟨hm.inv,hm.seq,hm.aD.trans h.aD,hm.aI.trans h.aI,h.qZ,h.vT,h.yt,h.DF,h.aO.trans hm.aO.symm,h.timer,h.round,h.next⟩
def B6{nd sl k:Int}{x:aS}(h:wc nd sl k x):Yd (jm x) λy=>ra nd sl k y/\pA x.ah y.ah/\y.ah.aa=x.ah.aa:=by
 unfold jm;simp only[etas];refine Yd.join (λv=>wc nd sl k v.1/\pA x.ah v.1.ah/\v.1.ah.aa=x.ah.aa) (λv ⟨hv,hst⟩=> ?_) (λj' hj=> ?_)
 ·rw[zx hv.lR hv.oP,Qa];exact .some ⟨⟨⟨hv.lR,hv.oP,hv.aD,hv.aI,hv.qZ,hv.vT,hv.yt,hv.DF,hv.aO,hv.timer,hv.round,hv.next⟩,rfl,rfl⟩,hst⟩
 ·have same:wc nd sl k x/\pA x.ah x.ah/\x.ah.aa=x.ah.aa:=⟨h,λe=>⟨e,rfl⟩,rfl⟩
  refine Yd.bind (Wp h.qZ.lG.uA) λc hc=> ?_
  rw[dg];simp only[Qa]
  have go:c.2.1=false\/kP c.1:=by
   cases e:c.2.1 with
   |false=>exact .inl rfl
   |true=>exact .inr (hc e)
  have hcond:∀b1 b2 b3:Bool,Yd (Option.bind (bif b1 then some b2 else some false) λb5=>Option.bind (bif b5 then some b3 else some false) λb7=>Option.bind (bif b7 then some (!decide (c.1=x.ah.bh))else some false) λb8=>(some b8:Option Bool)) λb=>b=true->b1=true:=λb1 b2 b3=>by
   cases b1 with
   |true=>cases b2<;>cases b3<;>exact .some λ_=>rfl
   |false=>exact .some λe=>e
  obtain⟨b8,hb8,hb8'⟩:=hcond c.2.1 (decide (x.ah.aP=1)) (aM x.ah.aw)
  have key:∀K:Bool->Option aS,(Option.bind (bif c.2.1 then some (decide (x.ah.aP=1))else some false) λb5=>Option.bind (bif b5 then some (aM x.ah.aw)else some false) λb7=>Option.bind (bif b7 then some (!decide (c.1=x.ah.bh))else some false) K)=K b8:=by
   intro K;revert hb8
   cases c.2.1 with
   |false=>intro e;cases e;rfl
   |true=>
    cases decide (x.ah.aP=1)with
    |false=>intro e;cases e;rfl
    |true=>
     cases aM x.ah.aw with
     |false|true=>intro e;cases e;rfl
  rw[key]
  cases b8 with
  |false=>exact hj (x,()) same
  |true=>
   rw[Qk];have hv:=hc (hb8' rfl);refine Yd.bind (KO h.lR h.oP hv) λq ⟨h0,hn⟩=> ?_
   rw[h0];exact hj (_,()) ⟨h.V6 hn,hn.ext,hn.aO⟩
def Ct{nd sl k:Int}{x:aS}(h:ra nd sl k x)(hk:k<=999999):w7 x=some true:=by
 have p:=h.pre;obtain⟨b,f,hb⟩:=Xe (a:=x.aC.aa) (b:=x.ah.aa) p.qZ.ask.aO.sm;have hbt:=hb.2 p.aO;subst hbt;unfold w7;simp only[etas,Cg p.lR p.oP,N8 p.qZ ⟨p.vT.1,by have:=p.vT.2;omega⟩,f,X5 p.timer,zx p.lR p.oP,Qa,Qo,Ql]
 rw[Qg (p.yt.trans p.aD.symm),Qg (p.DF.trans p.aI.symm),Qg p.round.1,Qg p.round.2,Qg p.next.1,Qg p.next.2,Qg h.done,Qg h.value]
 rfl
def LB(nd sl:Int)(k:Int)(x y:aS):Prop:=ra nd sl k y/\pA x.ah y.ah
def LB.self{nd sl k k':Int}{x:aS}(h:ra nd sl k x)(hk:k<=k'):LB nd sl k' x x:=⟨h.le hk,λe=>⟨e,rfl⟩⟩
section
variable {nd sl k : Int} {x : aS} (h : ra nd sl k x) (hk : k <= 999998)
 include h hk
theorem Wn{m:ay}(hm:uY m)(hne:m.al≠nd):Yd (iq x m) λq=>(q.2.1=0/\LB nd sl (k+1) x q.1/\q.1.ah.aa=x.ah.aa)\/q.2.1≠0:=by
 have p:=h.pre;unfold iq;simp only[ay.eta,etas,Ct h (by omega),Qa,Qo,Ql]
 refine Yd.bind (afJ p.qZ ⟨p.vT.1,by have:=p.vT.2;omega⟩ hm (by rw[p.yt];exact hne)) λq hq=> ?_
 rcases hq with⟨h0,hq⟩|h9
 ·rw[h0];simp only[decide_true,Qo,Ql];have h1:=p.vT;refine Yd.bind (B6 (k:=k+1) (x:={x with aC:=q.1}) ⟨p.lR,p.oP,p.aD,p.aI,hq.ok,?_,hq.aD.trans p.yt,hq.aI.trans p.DF,hq.aO.trans p.aO,p.timer,p.round,p.next⟩) λy hy=> .some (.inl ⟨rfl,⟨hy.1,hy.2.1⟩,hy.2.2⟩)
  show 1<=q.1.aG/\q.1.aG<=1+(k+1);rcases hq.seq with e|e<;>rw[e]<;>omega
 ·rw[h9];exact .some (.inr (by show(9:Int)≠0;decide))
theorem Ya{e:aj}(he:yQ x.ah e\/(cQ e.aa/\bc e=false)):Yd (oZ x e) λq=>(q.2.1=0/\LB nd sl k x q.1/\q.1.ah.aa=x.ah.aa)\/q.2.1≠0:=by
 have p:=h.pre;unfold oZ;simp only[etas,Ct h (by omega),Qa,Qo,Ql]
 rcases he with he|⟨ht,hv⟩
 ·refine Yd.bind (SL p.lR p.oP he) λq hq=> ?_
  rcases hq with⟨h0,hq⟩|h9
  ·rw[h0];simp only[decide_true,Qo,Ql];refine Yd.bind (B6 (p.V6 hq)) λy hy=> .some (.inl ⟨rfl,⟨hy.1,λe=> ?_⟩,hy.2.2.trans hq.aO⟩)
   have e1:=hq.ext e;have e2:=hy.2.1 e1.1;exact⟨e2.1,e2.2.trans e1.2⟩
  ·rw[h9];exact .some (.inr (by show(9:Int)≠0;decide))
 ·rw[U3 p.lR p.oP ht (.inl hv)];exact .some (.inr (by show(61:Int)≠0;decide))
end
def afV{nd sl:Int}(hv0:0<=nd)(hv1:nd<10)(hs0:1<=sl)(hs1:sl<=1000000){t:ak}{own:ByteArray}{now:Int}(ht:dO t)(ho:own.size<=200)(h0:0<=now)(h1:now<=200):Yd (qV nd sl t own now) λq=>q.2.1=0/\ra nd sl 0 q.1/\q.1.ah.aa=t:=by
 unfold qV;simp only[etas];rw[Qh (by omega:¬now<0),Qh (by omega:¬(200:Int)<now)]
 simp only[Ql,Qa];rw[ZV hv0 hv1 hs0 hs1 ht];simp only[Qa,decide_true,Qo,Ql];refine Yd.bind (N9 ht hv0 hv1 (by omega) hs1 ho) λq ⟨q0,g1,g2,g3,g4,g5⟩=> ?_
 rw[q0];simp only[decide_true,Qo,Ql];refine Yd.bind (Wi (by omega) (by omega)) λw ⟨w1,w2⟩=> ?_
 have hadd2:aA .i64 now w=now+w:=bH (by omega) (by omega)
 rw[hadd2];obtain⟨m1,m2⟩:=Oh (aD:=nd) (aI:=sl) hv0 hv1 hs0 hs1 ht;have ht0:Ci ⟨0, -1⟩:=⟨by decide,by decide,by decide,by decide⟩
 refine Yd.bind (B6 (k:=0) (x:=⟨q.1,KN nd sl t,⟨0, -1⟩,1,now+w,false,bE⟩) ⟨m1,m2,rfl,rfl,g1,by show 1<=q.1.aG/\q.1.aG<=1+0;rw[g5];decide,g2,g3,g4,ht0,⟨(by decide:(1:Int)<=1),(by decide:(1:Int)<=1000)⟩,by show 0<=now+w/\now+w<=212;omega⟩) λy hy=> .some ⟨rfl,hy.1,hy.2.2⟩
end
section
def Cw(a b:ByteArray):fj a b=some (wb a b):=by
 simp[fj,wb]
def Za{a b:ByteArray}:decide (0<=wb a b)= !bO a b:=by
 rw[<-uQ]
 by_cases h:wb a b<0
 ·rw[Qg h,Qh (by omega)];rfl
 ·rw[Qh h,Qg (by omega)];rfl
def Yj(x:ByteArray):qB x=some (decide (kP x)):=Ma x
def Mn{l:List ByteArray}(h:VL l):ir l=some true:=by
 unfold ir;refine Yd.eq_true (Yd.list l h.uA (λi (_:Unit)=>(i,())) (λ_ _=>True) ?_ ?_ (s:=()) trivial)
 ·intro i y s hs hd hy hi hdec hx hadd;simp only;rw[hdec,Qk,hx,Qa,Yj,Qa,Qg (h.qJ y hy),hadd];simp only[Qo,Ql]
  by_cases h0:i=0
  ·subst h0;rw[Qh (by omega:¬(0:Int)<((0:Nat):Int))]
   exact .some ⟨(),rfl,trivial⟩
  ·rw[Qg (by omega:(0:Int)<(i:Int))]
   simp only[Qk];have hsub:cU .i64 (i:Int) 1=((i - 1:Nat):Int):=by rw[pz (by omega) (by have:=h.len;omega)];omega
   have hi1:i - 1<l.length:=by omega
   rw[hsub,bg,Qv hi1,Qa,Cw,Qa,Za]
   have hyi:y=l[i]:=by
    rw[bg,Qv hi]at hx;exact(Option.some.inj hx).symm
   have hlt:bO l[i - 1] y=true:=by
    rw[hyi];exact List.pairwise_iff_getElem.1 h.Ff (i - 1) i hi1 hi (by omega)
   rw[hlt];exact .some ⟨(),rfl,trivial⟩
 ·intro s hs hdec;simp only;rw[hdec,Ql,Qg (by have:=h.len;omega:(l.length:Int)<=(40:Int))]
  exact .some rfl
def aex(l:List ByteArray)(hl:l.length<=1000000)(x:ByteArray):Yd (jl l x) λr=>decide (0<=r)=decide (x∈l):=by
 unfold jl;refine Yd.list l hl (λi (_:Unit)=>(i,())) (λi _=>x∉l.take i) ?_ ?_ (s:=()) (by simp)
 ·intro i y s hs hd hy hi hdec hx hadd;simp only;rw[hdec,Qk,hx,Qa,hadd]
  by_cases hxy:x=y
  ·rw[Qg hxy,Qk];refine .some ?_;show decide ((0:Int)<=(i:Int))=decide (x∈l);rw[Qg (by omega:(0:Int)<=(i:Int))]
   exact(Qg (by rw[hxy];exact hy)).symm
  ·rw[Qh hxy,Ql];refine .some ⟨(),rfl,?_⟩
   have hi2:l[i]?=some y:=by
    rw[bg]at hx;exact hx
   rw[List.take_add_one,hi2];simp only[Option.toList_some,Qz,Q5];exact λh=>h.elim hs hxy
 ·intro s hs hdec;simp only;rw[hdec,Ql];rw[Qq62]at hs;refine .some ?_;show decide ((0:Int)<= -1)=decide (x∈l);rw[Qh hs];rfl
def WE(l:List ByteArray)(hl:l.length<=1000000)(x:ByteArray):ku l x=some (decide (x∈l)):=by
 obtain⟨r,h1,h2⟩:=aex l hl x;unfold ku kW;rw[h1,Qa,Qa,h2]
def WD{v:Int}(h0:0<=v)(h1:v<10):lA v=some true:=by
 unfold lA;rw[Qg h0,Qg h1];rfl
def Ve{m:ay}(h:uY m):mL m=some true:=by
 unfold mL;simp only[etas,WD h.n0 h.n1,eC h.aO,Mn h.dE,Mn h.eV];rw[Qg h.seq];rfl
def Yo{n:av}(h:c5 n):fg n.aR n=some false:=by
 unfold fg iH;simp only[etas]
 have:=Yd.list (p:=λr:Int=>r= -1) (step:=λ(v1:Int×Unit)=>
   bif (decide (v1.1<((List.length n.aR:Nat):Int)))then
   Option.bind (idx n.aR v1.1) λx2=>
   Option.bind (oe x2 n) λr3=>
   bif r3 then
   Option.map Sum.inr (some v1.1)
   else
   some (Sum.inl ((aA .i64 v1.1 (1:Int)),()))
   else
   Option.map Sum.inr (some (-1:Int))) n.aR h.lG.uA (λi (_:Unit)=>(i,())) (λ_ _=>True) ?_ ?_ (s:=()) trivial
 ·obtain⟨r,h1,rfl⟩:=this;rw[h1];rfl
 ·intro i x s _ hd hx' hi hdec hx hadd;simp only;unfold oe;rw[hdec,Qk,hx,Qa,hadd,WE _ h.eV.uA,Qg (h.sub x hx')];exact .some ⟨(),rfl,trivial⟩
 ·intro s _ hdec;simp only;rw[hdec,Ql];exact .some rfl
def Vb{n:av}(h:c5 n)(hs:1<=n.aG/\n.aG<=1000000):mK n=some true:=by
 have hlen:=h.len;unfold mK sX;simp only[etas,WD h.ask.v0 h.ask.v1,eC h.ask.aO,Mn h.dE,Mn h.eV,Mn h.lG,Yo h];rw[Qg h.ask.s0,Qg h.ask.s1,Qg h.ask.r1,Qg h.ask.r2,Qg hs.1,Qg hs.2,Qh (by have:=h.own;omega:¬(200:Int)<((n.me.size:Nat):Int))]
 simp only[Ql,Qk,Qa,decide_true,Qo];refine Yd.eq_true ?_;refine Yd.list n.ar (by omega) (λi (_:Unit)=>(i,())) (λ_ _=>True) ?_ ?_ (s:=()) trivial
 ·intro i m s _ hd hm hi hdec hx hadd;obtain⟨hm1,hm2⟩:=h.heard m hm;simp only[aQ];rw[hdec,Qk,hx,Qa,hadd];simp only[ay.eta];rw[Ve hm1,Qa,Qh hm2];simp only[Qo,Ql]
  by_cases h0:i=0
  ·subst h0;rw[Qh (by omega:¬(0:Int)<((0:Nat):Int))]
   exact .some ⟨(),rfl,trivial⟩
  ·rw[Qg (by omega:(0:Int)<(i:Int))]
   simp only[Qk];have hsub:cU .i64 (i:Int) 1=((i - 1:Nat):Int):=by rw[pz (by omega) (by omega)];omega
   have hi1:i - 1<n.ar.length:=by omega
   rw[hsub,bg,Qv hi1,Qa]
   have hyi:m=n.ar[i]:=by
    rw[bg,Qv hi]at hx;exact(Option.some.inj hx).symm
   have hlt:n.ar[i - 1].al<m.al:=by
    rw[hyi];exact List.pairwise_iff_getElem.1 h.dn (i - 1) i hi1 hi (by omega)
   rw[Qh (by omega:¬m.al<=n.ar[i - 1].al)]
   exact .some ⟨(),rfl,trivial⟩
 ·intro s _ hdec;simp only;rw[hdec,Ql];exact .some rfl
def aeu{t:fJ}(ht:Ci t):zZ t=some true:=X5 ht
def KL{nd sl k:Int}{x:aS}(h:ra nd sl k x)(hk:k<=999999):rQ x=some true:=by
 have p:=h.pre;obtain⟨b,f,hb⟩:=eqT (a:=x.aC.aa) (b:=x.ah.aa) p.qZ.ask.aO.sm;have hbt:=hb.2 p.aO;subst hbt;unfold rQ;simp only[etas,Fa p.lR p.oP,Vb p.qZ ⟨p.vT.1,by have:=p.vT.2;omega⟩,f,aeu p.timer,KJ p.lR p.oP,Qa,Qk]
 rw[Qg (p.yt.trans p.aD.symm),Qg (p.DF.trans p.aI.symm),Qg p.round.1,Qg p.round.2,Qg p.next.1,Qg p.next.2,Qg h.done,Qg h.value]
 rfl
def uT(l:List ByteArray)(h:l.length<=1000):bP l=some l:=by
 unfold bP;have hk:bl 16 (([]:List ByteArray).length+l.length)=true:=bK ⟨by simp;omega,by simp;omega⟩
 rw[hk]
 cases l with
 |nil|cons x l=>simp
def Vc{t:ak}(h:cQ t):mI t=some t:=(show mI t=eL t from rfl).trans (kF h)
def Yl{m:ay}(ht:cQ m.aa)(hv:m.bm.length<=1000)(ha:m.aE.length<=1000):ob m=some m:=by
 unfold ob;simp only[etas,Vc ht,uT _ hv,uT _ ha,Qa]
def aad{m:ay}(ht:cQ m.aa)(hv:m.bm.length<=1000)(ha:m.aE.length<=1000):pF m=some m:=by
 unfold pF;simp only[etas,kF ht,uT _ hv,uT _ ha,Qa]
end
section
def afs{rec:(ak×Unit)->Option ak}{t:ak}(hm:cQ t)(hr:∀u∈t.aL,rec (u,())=some u):mR rec t=some t:=by
 have hn:=hm.nodes;have hi:=hm.len;unfold mR;rw[bK ⟨by omega,by omega⟩,Qk]
 simp only[etas]
 have:=Yd.list (p:=λr=>r=t) (step:=λ(v1:Int×ak×(List Int)×(List ak)×Unit)=>
   bif (decide (v1.1<((List.length t.aL:Nat):Int)))then
   Option.bind (idx t.aL v1.1) λx2=>
   Option.bind (rec (x2,())) λr3=>
   bif bl 56 (List.length v1.2.2.2.1+List.length [r3])then
   some (Sum.inl ((aA .i64 v1.1 (1:Int)),(ak.mk v1.2.1.aH ([]:List Int) ([]:List ak)),v1.2.2.1,(v1.2.2.2.1++[r3]),()))
   else none
   else
   Option.map Sum.inr (some (ak.mk v1.2.1.aH v1.2.2.1 v1.2.2.2.1))) t.aL hi (λi (s:List ak)=>(i,(ak.mk t.aH [] []),t.aX,s,())) (λi s=>s=t.aL.take i) ?_ ?_ (s:=[]) (by simp)
 ·obtain⟨r,h1,rfl⟩:=this;exact h1
 ·rintro i x s rfl hd hx' hi' hdec hx hadd;have hi2:t.aL[i]?=some x:=by rw[bg]at hx;exact hx
  simp only;rw[hdec,Qk,hx,Qa,hr x hx',Qa,hadd,bK ⟨by simp;omega,by simp;omega⟩,Qk]
  refine .some ⟨_,rfl,?_⟩;rw[List.take_add_one,hi2];rfl
 ·rintro s rfl hdec;simp only;rw[hdec,Ql,Qq62];exact .some (ak.eta t)
def afn{n:Nat}:∀{t:ak},SizeOf.sizeOf t<n->cQ t->u0 n (t,())=some t:=by
 induction n with
 |zero=>intro t h;omega
 |succ n ih=>
  intro t hz hm;show mR (u0 n) t=some t;exact afs hm λu hu=>ih (t:=u) (by have:=qM hu;omega) (hm.inner u hu)
def Sz{t:ak}(h:cQ t):qE t=some t:=afn (by omega) h
end
section
def age{n:Nat}(h:n<4611686018427387904):bx .u64 (n:Int)=n:=by
 unfold bx IntKind.wrap;simp[IntKind.signed,IntKind.bits];omega
def aeN{i j:Nat}(hi:i<=1000000)(hj:j<=1000000):bx .i64 (kg .u64 (bx .u64 (aA .i64 (i:Int) (j:Int))) (1:Int))=(((i+j) / 2:Nat):Int):=by
 have h1:aA .i64 (i:Int) (j:Int)=((i+j:Nat):Int):=bH (by omega) (by omega)
 have h4:kg .u64 (((i+j:Nat)):Int) (1:Int)=(((i+j) / 2:Nat):Int):=by
  show(((i+j:Nat)):Int).fdiv 2=_;rw[Int.fdiv_eq_ediv_of_nonneg _ (by decide)]
  exact(Int.natCast_ediv (i+j) 2).symm
 rw[h1,age (by omega),h4]
 exact Ck _ (by omega)
def Gw{α ρ:Type}(l:List α)(hl:l.length<=1000000)(P:α->Bool)(hp:l.Pairwise λa b=>P b=true->P a=true){step:Int×Int×Unit->Option ((Int×Int×Unit)⊕ρ)}{fin:Nat->Option ρ}
  (h1:∀(i j m:Nat) (x:α),decide ((i:Int)<(j:Int))=true->j<=l.length->bx .i64 (kg .u64 (bx .u64 (aA .i64 (i:Int) (j:Int))) (1:Int))=(m:Int)->aA .i64 (m:Int) 1=((m+1:Nat):Int)->idx l (m:Int)=some x->step ((i:Int),(j:Int),())=some (.inl (bif P x then(((m+1:Nat):Int),(j:Int),())else((i:Int),(m:Int),()))))
  (h2:∀i:Nat,decide ((i:Int)<(i:Int))=false->i<=l.length->step ((i:Int),(i:Int),())=Option.map Sum.inr (fin i)):
  aB step ((0:Int),(l.length:Int),())=fin (l.takeWhile P).length:=by
 have htw:∀(l:List α),(l.Pairwise λa b=>P b=true->P a=true)->∀i x,l[i]?=some x->(P x=true↔i<(l.takeWhile P).length):=by
  intro l
  induction l with
  |nil=>intro _ i x h;simp at h
  |cons y l ih=>
   intro hp i x h;rw[Q4]at hp
   cases hy:P y with
   |false=>
    rw[List.takeWhile_cons,hy];simp only[Qq,Qu,QZ,Nat.not_lt_zero,iff_false]
    cases i with
    |zero=>simp only[List.getElem?_cons_zero,Qf]at h;rw[<-h,hy];simp
    |succ i=>
     intro hx;have:=hp.1 x (Q8 (by simpa using h)) hx
     rw[hy]at this;cases this
   |true=>
    rw[List.takeWhile_cons,hy];simp only[Qt,QE]
    cases i with
    |zero=>simp only[List.getElem?_cons_zero,Qf]at h;rw[<-h,hy];simp
    |succ i=>
     rw[ih hp.2 i x (by simpa using h)]
     omega
 have hk:(l.takeWhile P).length<=l.length:=(List.takeWhile_sublist P).length_le
 suffices key:∀(d i j:Nat),j=i+d->j<=l.length->i<=(l.takeWhile P).length->(l.takeWhile P).length<=j->aB step ((i:Int),(j:Int),())=fin (l.takeWhile P).length from key l.length 0 l.length (by omega) (QI _) (by omega) hk
 intro d
 induction d using Nat.strongRecOn with
 |_ d ih=>
  intro i j hij hjl hi hj
  by_cases h0:d=0
  ·obtain rfl:j=i:=by omega
   obtain rfl:(l.takeWhile P).length=j:=by omega
   rw[fb,h2 _ (Qh (Qq64 _)) hjl];cases fin (l.takeWhile P).length<;>rfl
  ·have hm:(i+j) / 2<l.length:=by omega
   have hs:=h1 i j ((i+j) / 2) l[(i+j) / 2] (Qg (by omega)) hjl (aeN (by omega) (by omega)) (bH (by omega) (by omega)) (by rw[bg];exact Qv hm)
   have ht:=htw l hp _ _ (Qv hm)
   cases hP:P l[(i+j) / 2]with
   |true=>
    rw[hP]at hs;have:=ht.1 hP;exact(bw hs).trans (ih (j - ((i+j) / 2+1)) (by omega) _ _ (by omega) hjl (by omega) hj)
   |false=>
    rw[hP]at hs;have:¬(i+j) / 2<(l.takeWhile P).length:=λe=>by rw[ht.2 e]at hP;cases hP
    exact(bw hs).trans (ih ((i+j) / 2 - i) (by omega) _ _ (by omega) (by omega) hi (by omega))
def Iy{a b:ByteArray}:decide (wb a b=0)=decide (a=b):=by
 rw[decide_eq_decide];constructor
 ·intro h;have h1:bO a b=false:=by rw[<-uQ,h];rfl
  refine jd.total a b h1 ?_;unfold wb at h;unfold bO
  by_cases hs:a.size=b.size
  ·rw[Qr ((uR _ _).2 (by rw[hs]))]at h
   rw[Qr hs.symm];unfold Ls at h;split at h
   ·cases h
   ·split at h
    ·rename_i h2 h3;simp only[Qn,Qi]at h3;rcases h3 with h3|rfl
     ·exact absurd h3 h2
     ·exact Cn _
    ·cases h
  ·rw[Qs (λe=>hs (by have:=(uR _ _).1 e;omega))]at h
   exact absurd ((uR _ _).1 h) (by omega)
 ·rintro rfl;unfold wb;rw[Qr ((uR _ _).2 rfl)];unfold Ls;rw[Qs (by rw[Cn];simp)]
  simp
def YL{l:List ByteArray}{a:Nat}(ha:a<=l.length)(h:l.length<=1000)(x:ByteArray):iM l (a:Int) [x]=some (l.take a++[x]++l.drop a):=by
 unfold iM Bf;rw[Qg (by omega:(0:Int)<=(a:Int)),Qg (by omega:(a:Int)<=(l.length:Int)),lu (by omega) (by simp;omega)]
 rfl
def Ap{α:Type}(P:α->Bool):∀(l:List α),(∀j,j<(l.takeWhile P).length->∃y,l[j]?=some y/\P y=true)/\(∀y,l[(l.takeWhile P).length]?=some y->P y=false)
 |[]=>⟨λj h=>by simp at h,λy h=>by simp at h⟩
 |x::l=>by
  obtain⟨h1,h2⟩:=Ap P l
  cases hx:P x with
  |false=>
   rw[List.takeWhile_cons,hx];simp only[Qq,Qu,QZ];exact⟨λj h=>by omega,λy h=>by simp only[List.getElem?_cons_zero,Qf]at h;rw[<-h];exact hx⟩
  |true=>
   rw[List.takeWhile_cons,hx];simp only[Qt,QE];refine⟨λj h=> ?_,λy h=>h2 y (by simpa using h)⟩
   cases j with
   |zero=>exact⟨x,rfl,hx⟩
   |succ j=>obtain⟨y,g1,g2⟩:=h1 j (by omega);exact⟨y,by simpa using g1,g2⟩
def Ks{α:Type}(P:α->Bool)(l:List α):(l.takeWhile P).length<=l.length:=(List.takeWhile_sublist P).length_le
def afQ{l:List ByteArray}(h:VL l)(x:ByteArray):dq l x=some ((((l.takeWhile λy=>bO y x).length:Nat):Int),decide (x∈l),()):=by
 have hl:=h.len;unfold dq;refine(Gw l h.uA (λy=>bO y x) (h.Ff.imp λ{a b} hab hb=>jd.trans _ _ _ hab hb) (fin:=λk=>some (((k:Nat):Int),decide (l[k]?=some x),())) (λi j m y hd hj hm hadd hx=> ?_) (λi hd hi=> ?_)).trans ?_
 ·simp only[hd,hm,hadd,hx,Cw,uQ,Qa,Qk];cases bO y x<;>rfl
 ·simp only[hd,Ql]
  by_cases hi2:i<l.length
  ·rw[Qg (by omega:(i:Int)<(l.length:Int))]
   simp only[Qk,bg,Qv hi2,Qa,Cw,Iy,Qe,Qf]
  ·rw[Qh (by omega:¬(i:Int)<(l.length:Int)),Qq72 (by omega)]
   rfl
 ·obtain⟨h1,h2⟩:=Ap (λy=>bO y x) l
  congr 3;rw[decide_eq_decide];constructor
  ·exact Q8
  ·intro hm;obtain⟨i,hi⟩:=List.getElem?_of_mem hm;have hi':i<l.length:=(Qw.1 hi).1
   have hk:(l.takeWhile λy=>bO y x).length=i:=by
    rcases Nat.lt_trichotomy (l.takeWhile λy=>bO y x).length i with g|g|g
    ·have hk:(l.takeWhile λy=>bO y x).length<l.length:=by omega
     have:=h2 _ (Qv hk);have h3:=List.pairwise_iff_getElem.1 h.Ff _ i hk hi' g;rw[(Qw.1 hi).2,this]at h3;cases h3
    ·exact g
    ·obtain⟨y,g1,g2⟩:=h1 i g;rw[hi]at g1;cases g1;rw[jd.irrefl]at g2;cases g2
   rw[hk];exact hi
def WC{l:List ByteArray}(h:VL l)(x:ByteArray):gV l x=some (lQ l x):=by
 have hl:=h.len;unfold gV lQ;rw[afQ h x,Qa]
 by_cases hx:x∈l
 ·rw[Qg hx,Qr (.inl hx)];rfl
 by_cases h40:40<=l.length
 ·rw[Qh hx,Qg (by omega:(40:Int)<=(l.length:Int)),Qr (.inr h40)];rfl
 rw[Qh hx,Qh (by omega:¬(40:Int)<=(l.length:Int)),Qs (λe=>e.elim hx h40)]
 simp only[Ql,Qa,uT l (by omega)]
 rw[YL (Ks _ _) (by omega),Qa]
 obtain⟨h1,h2⟩:=Ap (λy=>bO y x) l
 rw[OB x l _ h1 h2,Qs (λe=>hx (Q8 e))]
 simp
def VZ(a b:List ByteArray):List ByteArray:=b.foldl (λl x=>dL bO x l) a
def ab6{a:List ByteArray}(ha:a.Pairwise (λx y=>bO x y=true))(b:List ByteArray):(VZ a b).Pairwise (λx y=>bO x y=true)/\∀x,x∈VZ a b↔x∈b\/x∈a:=Ie jd b a ha
def ZC(a b:List ByteArray):(VZ a b).length<=a.length+b.length:=MZ b a
def D1(m:ay):List ByteArray:=m.bm++m.aE
def pY(L:List ay):List ByteArray:=VZ [] (L.flatMap D1)
def Ft(L:List ay):(pY L).Pairwise (λx y=>bO x y=true)/\∀x,x∈pY L↔∃m∈L,x∈m.bm\/x∈m.aE:=by
 obtain⟨h1,h2⟩:=ab6 (a:=[]) List.Pairwise.nil (L.flatMap D1);refine⟨h1,λx=> ?_⟩
 rw[pY,h2];simp[D1]
def Ku{l:List ByteArray}(L:List ay)(h1:l.Pairwise (λx y=>bO x y=true))(h2:∀x,x∈l↔∃m∈L,x∈m.bm\/x∈m.aE):l=pY L:=
 jd.unique h1 (Ft L).1 λx=>by rw[h2,(Ft L).2]
def OI{L:List ay}(h:∀m∈L,VL m.bm/\VL m.aE):(L.flatMap D1).length<=80*L.length:=by
 induction L with
 |nil=>simp
 |cons m L ih=>
  have h1:=ih λx hx=>h x (Qy _ hx)
  have h2:=(h m Qx).1.len;have h3:=(h m Qx).2.len;simp only[List.flatMap_cons,QB,D1,QE]at h1 ⊢;omega
def O2{L:List ay}(h:∀m∈L,VL m.bm/\VL m.aE):(pY L).length<=80*L.length:=by
 have h1:=ZC [] (L.flatMap D1);have h2:=OI h;rw[pY];simp only[QZ]at h1;omega
def aeE{L:List ay}(h:∀m∈L,VL m.bm/\VL m.aE)(hl:L.length<=100):l0 L=some (pY L):=by
 have hf:=OI h
 have hsort:∀s:List ByteArray,s.length<1000000->(∀x,x∈s↔∃m∈L,x∈m.bm\/x∈m.aE)->(Option.bind (fS s) λp3=>Option.bind (eK p3.2) λr4=>some r4)=some (pY L):=by
  intro s hs hmem;obtain⟨t,h1,h2,h3,h4⟩:=jd.V3 (cmp:=λx y=>fj x y) Cw (λx y=>uQ x y) s (by omega)
  have hc:=BY (eq:=λx y:ByteArray=>decide (x=y)) (ne:=λx y=> !decide (x=y)) (z:=bE) (λ_ _=>rfl) (λ_ _=>rfl) t (by omega)
  have h1':fS s=some ((),t):=h1;have hc':eK t=some (dd t):=hc;rw[h1',Qa,hc',Qa,Ku L h3 (λx=>by rw[h4,hmem])]
 unfold l0
 suffices key:Yd (aB _ ((0:Int),([]:List ByteArray),())) λr=>r=pY L by
  obtain⟨r,h1,rfl⟩:=key;exact h1
 refine Yd.list L (by omega) (λi (s:List ByteArray)=>(i,s,())) (λi s=>s=(L.take i).flatMap D1) ?_ ?_ (s:=[]) (by simp)
 ·rintro i m s rfl hd hm hi hdec hx hadd;have hi2:L[i]?=some m:=by rw[bg]at hx;exact hx
  have e:L.take (i+1)=L.take i++[m]:=by rw[List.take_add_one,hi2];rfl
  have hlen:((L.take i).flatMap D1).length<=80*100:=QK (OI λx hx=>h x (Q1 hx)) (Nat.mul_le_mul_left _ (by rw[List.length_take];omega))
  have l1:=(h m hm).1.len;have l2:=(h m hm).2.len;simp only;rw[hdec,Qk,hx,Qa,hadd,lu (by omega) (by omega),Qk,lu (by omega) (by rw[QB];omega),Qk]
  refine .some ⟨_,rfl,?_⟩;rw[e,List.flatMap_append];simp[D1]
 ·rintro s rfl hdec;rw[Qq62];simp only;rw[hdec,Ql,hsort _ (by omega) (λx=>by simp[D1])]
  exact .some rfl
def I1{a b:List ByteArray}(ha:a.Pairwise (λx y=>bO x y=true))(hb:b.Pairwise (λx y=>bO x y=true))(h:a.length+b.length<=100000):
  Yd (kc a b) λr=>r.Pairwise (λx y=>bO x y=true)/\(∀x,x∈r↔x∈a\/x∈b)/\r.length<=a.length+b.length:=by
 unfold kc;simp only[aQ];refine Yd.DR (λ(v:Int×Int×List ByteArray×Unit)=>∃i k:Nat,v.1=i/\v.2.1=k/\i<=a.length/\k<=b.length/\v.2.2.1.length<=i+k/\v.2.2.1.Pairwise (λx y=>bO x y=true)/\(∀x,x∈v.2.2.1↔x∈a.take i\/x∈b.take k)/\(∀x∈v.2.2.1,(∀y∈a.drop i,bO x y=true)/\∀y∈b.drop k,bO x y=true)) (λv=>a.length+b.length - (v.1.toNat+v.2.1.toNat)) ?_ ⟨0,0,rfl,rfl,by omega,by omega,by simp,List.Pairwise.nil,by simp,λx hx=>absurd hx QR⟩
 rintro⟨i',k',out,u⟩ ⟨i,k,e1,e2,hi,hk,hlen,hpw,hmem,hlt⟩;simp only at e1 e2 hlen hpw hmem hlt;subst e1 e2;have kk:∀x:ByteArray,bl 16 (out.length+[x].length)=true:=λx=>bK ⟨by simp only[Q6];omega,by simp only[Q6];omega⟩
 have hi1:aA .i64 (i:Int) 1=((i+1:Nat):Int):=bH (by omega) (by omega)
 have hk1:aA .i64 (k:Int) 1=((k+1:Nat):Int):=bH (by omega) (by omega)
 have ga:∀h:i<a.length,idx a (i:Int)=some a[i]:=λh=>by rw[bg];exact Qv h
 have gb:∀h:k<b.length,idx b (k:Int)=some b[k]:=λh=>by rw[bg];exact Qv h
 have tail:∀{l:List ByteArray} (hp:l.Pairwise (λx y=>bO x y=true)) {j:Nat} (hj:j<l.length),∀y∈l.drop (j+1),bO l[j] y=true:=by
  intro l hp j hj;have:=hp.sublist (List.drop_sublist j l);rw[QM hj,Q4]at this;exact this.1
 have fin1:∀(x:ByteArray) (j1 j2:Nat),j1<=a.length->j2<=b.length->i<=j1->k<=j2->i+k<j1+j2->(∀y,(y∈a.take j1\/y∈b.take j2)↔y=x\/y∈a.take i\/y∈b.take k)->(x∈a.drop i\/x∈b.drop k)->(∀y∈a.drop j1,bO x y=true)->(∀y∈b.drop j2,bO x y=true)->Yd (bif bl 16 (out.length+[x].length)then some (Sum.inl (((j1:Nat):Int),((j2:Nat):Int),(out++[x]),()))else(none:Option ((Int×Int×List ByteArray×Unit)⊕List ByteArray)))
   (Lp (λs'=>(∃i k:Nat,s'.1=i/\s'.2.1=k/\i<=a.length/\k<=b.length/\s'.2.2.1.length<=i+k/\s'.2.2.1.Pairwise (λx y=>bO x y=true)/\(∀x,x∈s'.2.2.1↔x∈a.take i\/x∈b.take k)/\(∀x∈s'.2.2.1,(∀y∈a.drop i,bO x y=true)/\∀y∈b.drop k,bO x y=true))/\a.length+b.length - (s'.1.toNat+s'.2.1.toNat)<a.length+b.length - ((i:Int).toNat+(k:Int).toNat)) (λr=>r.Pairwise (λx y=>bO x y=true)/\(∀x,x∈r↔x∈a\/x∈b)/\r.length<=a.length+b.length)):=by
  intro x j1 j2 h1 h2 h3 h4 h5 hm hxi hx1 hx2;rw[kk x,Qk];refine .some ⟨⟨j1,j2,rfl,rfl,h1,h2,?_,?_,λy=> ?_,λy hy=> ?_⟩,?_⟩
  ·simp only[QB,Q6];omega
  ·rw[Qq69];refine⟨hpw,List.pairwise_singleton _ _,λy hy z hz=> ?_⟩
   rw[Q5.1 hz];exact hxi.elim ((hlt y hy).1 x) ((hlt y hy).2 x)
  ·rw[Qz,Q5,hmem,hm];exact or_comm
  ·rcases Qz.1 hy with hy|hy
   ·refine⟨λz hz=>(hlt y hy).1 z ?_,λz hz=>(hlt y hy).2 z ?_⟩
    ·rw[show j1=i+(j1 - i)by omega,<-List.drop_drop]at hz
     exact Q2 hz
    ·rw[show j2=k+(j2 - k)by omega,<-List.drop_drop]at hz
     exact Q2 hz
   ·rw[Q5.1 hy];exact⟨hx1,hx2⟩
  ·simp only[QV];omega
 have ta:∀(h:i<a.length) (y:ByteArray),y∈a.take (i+1)↔y=a[i]\/y∈a.take i:=λh y=>by
  rw[Q7 h,Qz,Q5];exact or_comm
 have tb:∀(h:k<b.length) (y:ByteArray),y∈b.take (k+1)↔y=b[k]\/y∈b.take k:=λh y=>by
  rw[Q7 h,Qz,Q5];exact or_comm
 have da:∀h:i<a.length,a[i]∈a.drop i:=λh=>by rw[QM h];exact Qx
 have db:∀h:k<b.length,b[k]∈b.drop k:=λh=>by rw[QM h];exact Qx
 simp only
 by_cases c1:i<a.length
 ·rw[Qg (by omega:(i:Int)<(a.length:Int))]
  simp only[Qk,Qa]
  by_cases c2:k=b.length
  ·rw[Qg (by omega:(k:Int)=(b.length:Int)),ga c1,hi1]
   simp only[Qk,Qa];refine fin1 a[i] (i+1) k (by omega) hk (by omega) (by omega) (by omega) (λy=>by rw[ta c1,or_assoc]) (.inl (da c1)) (tail ha c1) ?_
   rw[c2,Qq66];exact λy hy=>absurd hy QR
  ·have c3:k<b.length:=by omega
   rw[Qh (by omega:¬(k:Int)=(b.length:Int)),ga c1,gb c3,Qh (by omega:¬(i:Int)=(a.length:Int))]
   simp only[Ql,Qa,zy,DT,Iz,hi1,hk1]
   cases hxy:bO a[i] b[k]with
   |true=>
    refine fin1 a[i] (i+1) k (by omega) hk (by omega) (by omega) (by omega) (λy=>by rw[ta c1,or_assoc]) (.inl (da c1)) (tail ha c1) λy hy=> ?_
    rw[QM c3]at hy;rcases QA.1 hy with rfl|hy
    ·exact hxy
    ·exact jd.trans _ _ _ hxy (tail hb c3 y hy)
   |false=>
    cases hyx:bO b[k] a[i]with
    |true=>
     refine fin1 b[k] i (k+1) hi (by omega) (by omega) (by omega) (by omega) (λy=>by rw[tb c3,or_left_comm]) (.inr (db c3)) (λy hy=> ?_) (tail hb c3)
     rw[QM c1]at hy;rcases QA.1 hy with rfl|hy
     ·exact hyx
     ·exact jd.trans _ _ _ hyx (tail ha c1 y hy)
    |false=>
     have he:a[i]=b[k]:=jd.total _ _ hxy hyx;refine fin1 a[i] (i+1) (k+1) (by omega) (by omega) (by omega) (by omega) (by omega) (λy=> ?_) (.inl (da c1)) (tail ha c1) (by rw[he];exact tail hb c3)
     rw[ta c1,tb c3,<-he];constructor
     ·rintro((h|h)|(h|h))
      ·exact .inl h
      ·exact .inr (.inl h)
      ·exact .inl h
      ·exact .inr (.inr h)
     ·rintro(h|h|h)
      ·exact .inl (.inl h)
      ·exact .inl (.inr h)
      ·exact .inr (.inr h)
 ·rw[Qh (by omega:¬(i:Int)<(a.length:Int))]
  simp only[Ql];have ci:i=a.length:=by omega
  by_cases c2:k<b.length
  ·rw[Qg (by omega:(k:Int)<(b.length:Int)),Qh (by omega:¬(k:Int)=(b.length:Int)),gb c2,Qg (by omega:(i:Int)=(a.length:Int))]
   simp only[Ql,Qk,Qa,hk1];refine fin1 b[k] i (k+1) hi (by omega) (by omega) (by omega) (by omega) (λy=>by rw[tb c2,or_left_comm]) (.inr (db c2)) (λy hy=> ?_) (tail hb c2)
   rw[ci,Qq66]at hy;exact absurd hy QR
  ·rw[Qh (by omega:¬(k:Int)<(b.length:Int))]
   simp only[Ql,Qa];refine .some ⟨hpw,λx=> ?_,by omega⟩
   rw[hmem,ci,Qq62,show k=b.length by omega,Qq62]
def ach{m:ay}(h:VL m.bm/\VL m.aE):kc m.bm m.aE=some (pY [m]):=by
 have l1:=h.1.len;have l2:=h.2.len;obtain⟨r,h1,h2,h3,_⟩:=I1 h.1.Ff h.2.Ff (by omega)
 rw[h1,Ku [m] h2 (λx=>by rw[h3];simp)]
end
section
def xf(n:av):ay:=⟨n.al,n.aG,n.aa,n.bm,n.aE⟩
def Vg(b:Bool)(s:Nat)(k:Int):Nat:=if b then s|||2 ^ k.toNat else s
def Yp{b:Bool}{s:Nat}{k:Int}(h:s<1024)(hk:k<10):Vg b s k<1024:=by
 unfold Vg;split
 ·exact Ad h hk
 ·exact h
def FC(x:ByteArray)(s:Nat×Nat)(m:ay):Nat×Nat:=(Vg (decide (x∈m.bm)) s.1 m.al,Vg (decide (x∈m.aE)) s.2 m.al)
def ky(L:List ay)(x:ByteArray):Nat×Nat:=L.foldl (FC x) (0,0)
def NN(L:List ay):Prop:=L.length<=100/\∀m∈L,0<=m.al/\m.al<10/\VL m.bm/\VL m.aE
def O7{x:ByteArray}:∀{L:List ay} (h:∀m∈L,0<=m.al/\m.al<10/\VL m.bm/\VL m.aE) {s:Nat×Nat},s.1<1024->s.2<1024->(L.foldl (FC x) s).1<1024/\(L.foldl (FC x) s).2<1024
 |[],_,s,h1,h2=>⟨h1,h2⟩
 |m::L,h,s,h1,h2=>by
  obtain⟨_,g,_⟩:=h m Qx;exact O7 (L:=L) (λy hy=>h y (Qy _ hy)) (Yp h1 g) (Yp h2 g)
def Ar{L:List ay}(h:NN L)(x:ByteArray):(ky L x).1<1024/\(ky L x).2<1024:=O7 h.2 (by decide) (by decide)
def LQ{L:List ay}(h:NN L)(x:ByteArray){step:Int×Int×Int×Unit->Option ((Int×Int×Int×Unit)⊕(Int×Int×Unit))}
  (h1:∀(i a b:Nat) (m:ay),decide ((i:Int)<(L.length:Int))=true->idx L (i:Int)=some m->L[Int.toNat (i:Int)]?=some m->aA .i64 (i:Int) 1=((i+1:Nat):Int)->0<=m.al->m.al<10->VL m.bm->VL m.aE->a<1024->b<1024->step ((a:Int),(b:Int),(i:Int),())=some (.inl (((FC x (a,b) m).1:Int),((FC x (a,b) m).2:Int),((i+1:Nat):Int),())))
  (h2:∀a b:Nat,decide ((L.length:Int)<(L.length:Int))=false->step ((a:Int),(b:Int),(L.length:Int),())=Option.map Sum.inr (some ((a:Int),(b:Int),()))):
  aB step ((0:Int),(0:Int),(0:Int),())=some (((ky L x).1:Int),((ky L x).2:Int),()):=by
 suffices key:Yd (aB step ((0:Int),(0:Int),(0:Int),())) λr=>r=(((ky L x).1:Int),((ky L x).2:Int),())by
  obtain⟨r,g,rfl⟩:=key;exact g
 refine Yd.list L (by have:=h.1;omega) (λi (s:Int×Int)=>(s.1,s.2,i,())) (λi s=>s=(((ky (L.take i) x).1:Int),((ky (L.take i) x).2:Int))) ?_ ?_ (s:=(0,0)) rfl
 ·rintro i m s rfl hd hm hi hdec hx hadd;obtain⟨g0,g1,gv,ga⟩:=h.2 m hm;have hlt:=Ar (L:=L.take i) ⟨by rw[List.length_take];have:=h.1;omega,λy hy=>h.2 y (Q1 hy)⟩ x
  have e:L.take (i+1)=L.take i++[m]:=by rw[List.take_add_one,show L[i]?=some m by rw[bg]at hx;exact hx];rfl
  refine .of_eq (h1 i _ _ m hdec hx (Vs hx) hadd g0 g1 gv ga hlt.1 hlt.2) ⟨(_,_),rfl,?_⟩;rw[e];simp only[ky,List.foldl_append,QU,List.foldl_nil]
 ·rintro s rfl hdec;rw[Qq62];exact .of_eq (h2 _ _ hdec) rfl
def Nw{b:Bool}{s:Nat}{k:Int}(h:s<1024)(h0:0<=k)(h1:k<10):(if b then qY .i64 (s:Int) (bV .i64 (1:Int) k)else(s:Int))=((Vg b s k:Nat):Int):=by
 cases b with
 |true=>simp only[Qt,Vg];exact pL h h0 h1
 |false=>rfl
def Vd{L:List ay}(h:NN L)(x:ByteArray):gg L x=some (((ky L x).1:Int),((ky L x).2:Int),()):=by
 unfold gg;refine LQ h x (λi a b m hd hx hx2 hadd g0 g1 gv ga ha hb=> ?_) (λa b hd=> ?_)
 ·have e1:=Nw (b:=decide (x∈m.bm)) ha g0 g1;have e2:=Nw (b:=decide (x∈m.aE)) hb g0 g1;simp only[hd,hx,hadd,Qk,Qa,aQ,WE _ gv.uA,WE _ ga.uA,FC,<-e1,<-e2,Qs (show¬m.al<0 by omega)]
  cases decide (x∈m.bm)<;>cases decide (x∈m.aE)<;>rfl
 ·simp only[hd,Ql]
def c5.said{n:av}(h:c5 n):NN (n.ar++[xf n]):=⟨by have:=h.len;simp;omega,LS h⟩
def U2{n:av}(h:c5 n)(x:ByteArray):lD n x=some (((ky (n.ar++[xf n]) x).1:Int),((ky (n.ar++[xf n]) x).2:Int),()):=by
 have hlen:=h.len;unfold lD Ez;simp only[etas,Qa,aQ];rw[lu (by omega) (by simp;omega),Qk,lu (by omega) (by simp;omega),Qk]
 simp only[List.nil_append];refine LQ h.said x (λi a b m hd hx hx2 hadd g0 g1 gv ga ha hb=> ?_) (λa b hd=> ?_)
 ·have e1:=Nw (b:=decide (x∈m.bm)) ha g0 g1;have e2:=Nw (b:=decide (x∈m.aE)) hb g0 g1;show(λ_=>_) _=_
  unfold xf at hd hx hx2;simp only[hd,hx,hx2,hadd,Qk,Qa,HF _ gv.uA,HF _ ga.uA,FC,<-e1,<-e2,Qs (show¬m.al<0 by omega)]
  cases decide (x∈m.bm)<;>cases decide (x∈m.aE)<;>rfl
 ·unfold xf at hd ⊢;simp only[hd,Ql]
def FW(m:ay):cy:=⟨m.al,m.aG,m.aa,[],[]⟩
def FE(l:List bf)(m:cy):List bf:=l.set m.al.toNat ⟨true,m.aa⟩
def nC(n:av):List bf:=((n.ar.map FW).foldl FE (List.replicate 10 ⟨false,wH⟩)).set n.al.toNat ⟨true,n.aa⟩
structure AW (m:cy):Prop where
 n0:0<=m.al
 n1:m.al<10
 seq:1<=m.aG
 aO:dO m.aa
 dE:m.bm=[]
 eV:m.aE=[]
def uY.msg{m:ay}(h:uY m):AW (FW m):=⟨h.n0,h.n1,h.seq,h.aO,rfl,rfl⟩
def ack{m:cy}(h:AW m):ti m=some true:=by
 have hc:pU []=some true:=by
  unfold pU;exact bM rfl
 unfold ti;simp only[etas,h.dE,h.eV,hc,eH h.aO];rw[Qg h.n0,Qg h.n1,Qg h.seq];rfl
def acH{m:cy}(h:AW m):rn m=some true:=by
 have hc:sk []=some true:=by
  unfold sk;exact bM rfl
 unfold rn pn;simp only[etas,h.dE,h.eV,hc,eC h.aO];rw[Qg h.n0,Qg h.n1,Qg h.seq];rfl
def FD:∀{l:List cy} (h:∀m∈l,AW m) {r:List bf},rN r->rN (l.foldl FE r)
 |[],_,r,hr=>hr
 |m::l,h,r,hr=>FD (l:=l) (λy hy=>h y (Qy _ hy)) (hr.set _ (h m Qx).aO.sm)
def Wa:rN (List.replicate 10 ⟨false,wH⟩):=⟨by rw[List.length_replicate],λm hm=>by rw[(List.mem_replicate.1 hm).2];exact MC⟩
def R6{l:List cy}(h:∀m∈l,AW m)(hl:l.length<=1000){fin:List bf->Option bd}{step:Int×bd×List bf×Unit->Option ((Int×bd×List bf×Unit)⊕bd)}
  (h1:∀(i:Nat) (m:cy) (s:List bf) (y:bf),decide ((i:Int)<(l.length:Int))=true->idx l (i:Int)=some m->aA .i64 (i:Int) 1=((i+1:Nat):Int)->m∈l->AW m->idx s m.al=some y->s[m.al.toNat]?=some y->step ((i:Int),bd.mk [],s,())=some (.inl (((i+1:Nat):Int),bd.mk [],FE s m,())))
  (h2:∀s,decide ((l.length:Int)<(l.length:Int))=false->rN s->step ((l.length:Int),bd.mk [],s,())=Option.map Sum.inr (fin s)):
  aB step ((0:Int),bd.mk [],List.replicate 10 ⟨false,wH⟩,())=fin (l.foldl FE (List.replicate 10 ⟨false,wH⟩)):=by
 suffices key:∀(k i:Nat),i+k=l.length->aB step ((i:Int),bd.mk [],(l.take i).foldl FE (List.replicate 10 ⟨false,wH⟩),())=fin (l.foldl FE (List.replicate 10 ⟨false,wH⟩))from key l.length 0 (by omega)
 intro k
 induction k with
 |zero=>
  intro i hi;obtain rfl:i=l.length:=by omega
  rw[Qq62,fb,h2 _ (Qh (Qq64 _)) (FD h Wa)];cases fin (l.foldl FE (List.replicate 10 ⟨false,wH⟩))<;>rfl
 |succ k ih=>
  intro i hi;have hlt:i<l.length:=by omega
  have hm:=h l[i] (Q0 hlt);obtain⟨y,g1,g2⟩:=(FD (l:=l.take i) (λz hz=>h z (Q1 hz)) Wa).get hm.n0 hm.n1
  have hs:=h1 i l[i] _ y (Qg (by omega)) (by rw[bg];exact Qv hlt) (bH (by omega) (by omega)) (Q0 hlt) hm g1 g2
  refine(bw hs).trans ?_;have:=ih (i+1) (by omega)
  rw[Q7 hlt,List.foldl_append]at this;exact this
def RT:(decide ((10:Int)<=(10:Int))&&decide (0<=(10:Int))&&bl 64 (Int.toNat (10:Int)))=true:=by
 rw[bK (by decide)];rfl
section
variable {v : Int} {t : ak} (h0 : 0 <= v) (h1 : v < 10) (ht : dO t) {l : List cy} (hl : l.length <= 1000) (h : ∀ m ∈ l, AW m)
 include h0 h1 ht hl h
theorem ZU:rY v t l=some ⟨(l.foldl FE (List.replicate 10 ⟨false,wH⟩)).set v.toNat ⟨true,t⟩⟩:=by
 unfold rY;rw[RT,Qk];simp only[etas,aQ];refine(R6 h hl (fin:=λs=>some ⟨s.set v.toNat ⟨true,t⟩⟩) (λi m s y hd hx hadd hm hmo g1 g2=> ?_) (λs hd hr=> ?_)).trans rfl
 ·simp only[hd,hx,hadd,Qk,Qa,cy.eta,ack hmo,g1,g2];rfl
 ·obtain⟨x,g1,g2⟩:=hr.get h0 h1;have hr2:=hr.set v.toNat (m:=⟨false,⟨0,[],[]⟩⟩) MC;obtain⟨x2,k1,k2⟩:=hr2.get h0 h1;simp only[hd,Ql,Qg h0,Qg h1,Qk,Qa,g1,g2,eH ht,decide_true,k1,k2,List.set_set]
theorem Z9(hne:∀m∈l,m.al≠v):po v t l=some ⟨(l.foldl FE (List.replicate 10 ⟨false,wH⟩)).set v.toNat ⟨true,t⟩⟩:=by
 unfold po pn;rw[RT,Qk];simp only[etas,aQ];refine(R6 h hl (fin:=λs=>some ⟨s.set v.toNat ⟨true,t⟩⟩) (λi m s y hd hx hadd hm hmo g1 g2=> ?_) (λs hd hr=> ?_)).trans rfl
 ·simp only[hd,hx,hadd,Qk,Qa,cy.eta,Qh (hne m hm),Qp,acH hmo,Sz hmo.aO.sm,g1,g2];rfl
 ·obtain⟨x,g1,g2⟩:=hr.get h0 h1;simp only[hd,Ql,Qg h0,Qg h1,Qk,Qa,g1,g2,eC ht,decide_true,Sz ht.sm]
end
def PD{L:List ay}(hl:L.length<=100){fin:List cy->Option bd}{step:Int×List cy×Unit->Option ((Int×List cy×Unit)⊕bd)}
  (h1:∀(i:Nat) (m:ay) (s:List cy),decide ((i:Int)<(L.length:Int))=true->idx L (i:Int)=some m->aA .i64 (i:Int) 1=((i+1:Nat):Int)->s.length=i->step ((i:Int),s,())=some (.inl (((i+1:Nat):Int),s++[FW m],())))
  (h2:∀s,decide ((L.length:Int)<(L.length:Int))=false->step ((L.length:Int),s,())=Option.map Sum.inr (fin s)):
  aB step ((0:Int),[],())=fin (L.map FW):=by
 suffices key:∀(k i:Nat),i+k=L.length->aB step ((i:Int),(L.take i).map FW,())=fin (L.map FW)from key L.length 0 (by omega)
 intro k
 induction k with
 |zero=>
  intro i hi;obtain rfl:i=L.length:=by omega
  rw[Qq62,fb,h2 _ (Qh (Qq64 _))];cases fin (L.map FW)<;>rfl
 |succ k ih=>
  intro i hi;have hlt:i<L.length:=by omega
  have hs:=h1 i L[i] ((L.take i).map FW) (Qg (by omega)) (by rw[bg];exact Qv hlt) (bH (by omega) (by omega)) (by simp;omega)
  refine(bw hs).trans ?_;have:=ih (i+1) (by omega)
  rw[Q7 hlt,List.map_append]at this;exact this
section
variable {n : av} (h : c5 n)
 include h
theorem c5.aak:∀m∈n.ar.map FW,AW m:=λm hm=>by
 obtain⟨x,hx,rfl⟩:=QP.1 hm;exact(h.heard x hx).1.msg
theorem BB:zo ⟨nC n⟩:=((FD h.aak Wa).set n.al.toNat (m:=⟨true,n.aa⟩) h.ask.aO.sm).sc
theorem X4:mG n=some ⟨nC n⟩:=by
 have hlen:=h.len;unfold mG;simp only[etas];refine(PD (L:=n.ar) (by omega) (fin:=λs=>Option.bind (rY n.al n.aa s) λr3=>some r3) (λi m s hd hx hadd hs=> ?_) (λs hd=> ?_)).trans ?_
 ·simp only[hd,hx,hadd,Qk,Qa];rw[lu (by omega) (by simp only[Q6];have:=of_decide_eq_true hd;omega)]
  rfl
 ·simp only[hd,Ql]
 ·rw[ZU h.ask.v0 h.ask.v1 h.ask.aO (by simp;omega) h.aak]
  rfl
theorem aet:nR n=some ⟨nC n⟩:=by
 have hlen:=h.len;unfold nR;simp only[etas];refine(PD (L:=n.ar) (by omega) (fin:=λs=>Option.bind (po n.al n.aa s) λr3=>some r3) (λi m s hd hx hadd hs=> ?_) (λs hd=> ?_)).trans ?_
 ·simp only[hd,hx,hadd,Qk,Qa];rw[lu (by omega) (by simp only[Q6];have:=of_decide_eq_true hd;omega)]
  rfl
 ·simp only[hd,Ql]
 ·rw[Z9 h.ask.v0 h.ask.v1 h.ask.aO (by simp;omega) h.aak (λm hm=>by
   obtain⟨x,hx,rfl⟩:=QP.1 hm
   exact(h.heard x hx).2)]
  rfl
end
 def qO(n:av)(x:ByteArray):Bool:= !decide (x∈n.aE)&&decide (n.aE.length<40)&&ql (nC n) n.al.toNat (ky (n.ar++[xf n]) x).1 (ky (n.ar++[xf n]) x).2
 def IV(n:av)(x:ByteArray):Bool:=(gq (nC n) (ky (n.ar++[xf n]) x).2).testBit n.al.toNat
def fo(n:av):List ByteArray:=pY (n.ar++[xf n])
section
variable {n : av} (h : c5 n)
 include h
theorem abr(x:ByteArray):tu n x=some (qO n x):=by
 obtain⟨hn,hn10⟩:=zI h;obtain⟨l1,l2⟩:=Ar h.said x;have hf:=vn (BB h) hn10 l1 l2;rw[<-hn]at hf;unfold tu qO;simp only[etas,aQ,U2 h,HF _ h.eV.uA,X4 h,hf,Qa];have hd:decide ((n.aE.length:Int)<40)=decide (n.aE.length<40):=by rw[decide_eq_decide];omega
 rw[hd];cases decide (x∈n.aE)<;>cases decide (n.aE.length<40)<;>rfl
theorem Gf:∀m∈n.ar++[xf n],VL m.bm/\VL m.aE:=λm hm=>⟨(LS h m hm).2.2.1,(LS h m hm).2.2.2⟩
theorem PH:(fo n).length<=880:=by
 have h1:=O2 (Gf h);have:=h.len;rw[QB,Q6]at h1;unfold fo;omega
theorem YI{x:ByteArray}(hx:x∈fo n):kP x:=by
 obtain⟨m,hm,g⟩:=((Ft _).2 x).1 hx;exact g.elim ((Gf h m hm).1.qJ x) ((Gf h m hm).2.qJ x)
theorem acn:pT n=some (fo n):=by
 have hlen:=h.len;have l1:=h.dE.len;have l2:=h.eV.len;unfold pT;obtain⟨r,k0,k1,k2,k3⟩:=I1 h.dE.Ff h.eV.Ff (by omega)
 rw[k0,Qa]
 suffices key:Yd (aB _ (r,(0:Int),())) λq=>q=fo n by
  obtain⟨q,g,rfl⟩:=key;exact g
 refine Yd.list n.ar (by omega) (λi (s:List ByteArray)=>(s,i,())) (λi s=>s.Pairwise (λx y=>bO x y=true)/\s.length<=80+80*i/\∀x,x∈s↔(x∈n.bm\/x∈n.aE)\/∃m∈n.ar.take i,x∈m.bm\/x∈m.aE) ?_ ?_ ⟨k1,by omega,λx=>by rw[k2];simp⟩
 ·rintro i m s ⟨s1,s2,s3⟩ hd hm hi hdec hx hadd;have hmy:=(h.heard m hm).1;have l3:=hmy.dE.len;have l4:=hmy.eV.len;obtain⟨r4,g0,g1,g2,g3⟩:=I1 hmy.dE.Ff hmy.eV.Ff (by omega)
  obtain⟨r5,e0,e1,e2,e3⟩:=I1 s1 g1 (by omega)
  simp only;rw[hdec,Qk,hx,Qa,hadd,g0,Qa,e0];refine .some ⟨r5,rfl,e1,by omega,λx=> ?_⟩
  have e:n.ar.take (i+1)=n.ar.take i++[m]:=by rw[List.take_add_one,show n.ar[i]?=some m by rw[bg]at hx;exact hx];rfl
  rw[e2,s3,g2,e];simp only[Qz,Q5,or_assoc];constructor
  ·rintro(a|a|⟨m',a,b⟩|a)
   ·exact .inl a
   ·exact .inr (.inl a)
   ·exact .inr (.inr ⟨m',.inl a,b⟩)
   ·exact .inr (.inr ⟨m,.inr rfl,a⟩)
  ·rintro(a|a|⟨m',a|rfl,b⟩)
   ·exact .inl a
   ·exact .inr (.inl a)
   ·exact .inr (.inr (.inl ⟨m',a,b⟩))
   ·exact .inr (.inr (.inr b))
 ·rintro s ⟨s1,s2,s3⟩ hdec;rw[Qq62]at s3;simp only;rw[hdec,Ql];refine .some (Ku _ s1 λx=> ?_)
  rw[s3];simp only[Qz,Q5];constructor
  ·rintro(a|⟨m',a,b⟩)
   ·exact⟨xf n,.inr rfl,a⟩
   ·exact⟨m',.inl a,b⟩
  ·rintro⟨m',a|rfl,b⟩
   ·exact .inr ⟨m',a,b⟩
   ·exact .inl b
theorem TH:cj n.ar=some n.ar:=by
 have hlen:=h.len;unfold cj;have hk:bl 120 (([]:List ay).length+n.ar.length)=true:=lu (by omega) (by simp;omega)
 rw[hk]
 cases n.ar with
 |nil|cons x l=>simp
theorem Yk:jx n ⟨nC n⟩=some (match(fo n).find? (qO n)with|some x=>(x,true,())|none=>(⟨#[]⟩,false,())):=by
 have hlen:=h.len;obtain⟨hn,hn10⟩:=zI h;have hkl:=PH h;unfold jx lZ;simp only[etas,TH h,Qa];rw[lu (by omega) (by simp;omega),Qk]
 have hall:l0 (n.ar++[(⟨n.al,n.aG,n.aa,n.bm,n.aE⟩:ay)])=some (fo n):=aeE (Gf h) h.said.1;rw[hall,Qa];refine(yo (fo n) (by omega) (qO n) (f:=λ_ x=>some (x,true,())) (fin:=some (⟨#[]⟩,false,())) (λi x hi hx0 hd hx hadd=> ?_) (λ_ hd=> ?_)).trans ?_
 ·obtain⟨l1,l2⟩:=Ar h.said x;have hf:=Bg (BB h) hn10 l1 l2;rw[<-hn]at hf;have hsay:gg (n.ar++[(⟨n.al,n.aG,n.aa,n.bm,n.aE⟩:ay)]) x=_:=Vd h.said x;have hd4:decide ((n.aE.length:Int)<40)=decide (n.aE.length<40):=by rw[decide_eq_decide];omega
  simp only[hd,hx,hadd,Qk,Qa,hsay,WE _ h.eV.uA,hf,hd4,qO];cases decide (x∈n.aE)<;>cases decide (n.aE.length<40)<;>cases ql (nC n) n.al.toNat (ky (n.ar++[xf n]) x).1 (ky (n.ar++[xf n]) x).2<;>rfl
 ·simp only[hd,Ql]
 ·cases hf:(fo n).findIdx? (qO n)with
  |none=>
   have:(fo n).find? (qO n)=none:=List.find?_eq_none.2 λx hx=>by rw[List.findIdx?_eq_none_iff.1 hf x hx];simp
   rw[this]
  |some i=>
   obtain⟨hi,hp,hpre⟩:=List.findIdx?_eq_some_iff_getElem.1 hf;have:(fo n).find? (qO n)=some (fo n)[i]:=List.find?_eq_some_iff_getElem.2 ⟨hp,i,hi,rfl,λj hj=>by simpa using hpre j hj⟩
   rw[this];simp only[Qv hi,Qa]
end
end
section
def OE(x:Int):List ak->Bool
 |[]=>false
 |u::_=>decide (x∈u.aX)
def S8(t:ak)(x:Int):Bool:=decide (x∈t.aX)||OE x t.aL
def sJ(t:ak):Int:=((t.aX.length+t.aL.length:Nat):Int)
def GO(t:ak)(x:Int):eQ×Bool×Unit:=if S8 t x then(⟨t.aH,sJ t⟩,true,())else(⟨0,0⟩,false,())
def den_add(t:ak)(h:t.aX.length+t.aL.length<=1000):aA .i64 (t.aX.length:Int) (t.aL.length:Int)=sJ t:=by
 rw[bH (by omega) (by omega)]
 unfold sJ;omega
def abD{a b:Int}(h0:0<=a*b)(h:a*b<=9223372036854775807):oO .i64 a b=a*b:=wrap64 (by omega) h
def aeC(l:List Int)(hl:l.length<=1000000)(x:Int):kQ l x=some (decide (x∈l)):=by
 unfold kQ qT
 have:=Yd.list (p:=λr=>decide (0<=r)=decide (x∈l)) (step:=λ(v1:Int×Unit)=>
   bif (decide (v1.1<((List.length l:Nat):Int)))then
   Option.bind (idx l v1.1) λx2=>
   bif (decide (x=x2))then
   Option.map Sum.inr (some v1.1)
   else
   some (Sum.inl ((aA .i64 v1.1 (1:Int)),()))
   else
   Option.map Sum.inr (some (-1:Int))) l hl (λi (_:Unit)=>(i,())) (λi _=>x∉l.take i) ?_ ?_ (s:=()) (by simp)
 ·obtain⟨r,h1,h2⟩:=this;rw[h1,Qa,h2]
 ·intro i y s hs hd hy hi hdec hx hadd;simp only;rw[hdec,Qk,hx,Qa,hadd]
  by_cases hxy:x=y
  ·rw[Qg hxy,Qk];refine .some ?_;show decide ((0:Int)<=(i:Int))=decide (x∈l);rw[Qg (by omega:(0:Int)<=(i:Int))]
   exact(Qg (by rw[hxy];exact hy)).symm
  ·rw[Qh hxy,Ql];refine .some ⟨(),rfl,?_⟩;rw[List.take_add_one,show l[i]?=some y by rw[bg]at hx;exact hx]
   simp only[Option.toList_some,Qz,Q5];exact λh=>h.elim hs hxy
 ·intro s hs hdec;simp only;rw[hdec,Ql];rw[Qq62]at hs;refine .some ?_;show decide ((0:Int)<= -1)=decide (x∈l);rw[Qh hs];rfl
def Yw{ρ:Type}(l:List Int)(hl:l.length<=1000000)(x:Int)(z:eQ){hit:Option ρ}{fin:Option ρ}{step:Int×eQ×Unit->Option ((Int×eQ×Unit)⊕ρ)}
  (h1:∀(i:Nat) (y:Int),decide ((i:Int)<(l.length:Int))=true->idx l (i:Int)=some y->aA .i64 (i:Int) 1=((i+1:Nat):Int)->step ((i:Int),z,())=bif decide (y=x)then Option.map Sum.inr hit else some (.inl (((i+1:Nat):Int),z,())))
  (h2:decide ((l.length:Int)<(l.length:Int))=false->step ((l.length:Int),z,())=Option.map Sum.inr fin):
  aB step ((0:Int),z,())=if x∈l then hit else fin:=by
 suffices key:∀(k i:Nat),i+k=l.length->aB step ((i:Int),z,())=if x∈l.drop i then hit else fin from by
  have:=key l.length 0 (by omega)
  rw[List.drop_zero]at this;exact this
 intro k
 induction k with
 |zero=>
  intro i hi;obtain rfl:i=l.length:=by omega
  rw[fb,h2 (Qh (Qq64 _)),Qq66,Qs QR];cases fin<;>rfl
 |succ k ih=>
  intro i hi;have hlt:i<l.length:=by omega
  have hs:=h1 i l[i] (Qg (by omega)) (by rw[bg];exact Qv hlt) (bH (by omega) (by omega))
  rw[QM hlt]
  by_cases hy:l[i]=x
  ·rw[Qg hy,Qk]at hs;rw[fb,hs,Qr (by rw[<-hy];exact Qx)]
   cases hit<;>rfl
  ·rw[Qh hy,Ql]at hs;rw[bw hs,ih (i+1) (by omega)]
   by_cases hm:x∈l.drop (i+1)
   ·rw[Qr hm,Qr (Qy _ hm)]
   ·rw[Qs hm,Qs (λe=>(QA.1 e).elim (λe=>hy e.symm) hm)]
def M1{l:List ak}(hl:l=[]\/∃y,l=[⟨1,[y],[]⟩]){x:Int}{th n:Int}(hth:1<=th/\th<=1000)(hn:1<=n/\n<=1000)(z:eQ){rec:ak->Option (eQ×Bool×Unit)}
  (hr:∀y,l=[⟨1,[y],[]⟩]->rec ⟨1,[y],[]⟩=some (GO ⟨1,[y],[]⟩ x)) {step:Int×eQ×Unit->Option ((Int×eQ×Unit)⊕(eQ×Bool×Unit))}
  (h1:∀(i:Nat) (u:ak),decide ((i:Int)<(l.length:Int))=true->idx l (i:Int)=some u->aA .i64 (i:Int) 1=((i+1:Nat):Int)->step ((i:Int),z,())=Option.bind (rec u) λr=>bif r.2.1 then Option.map Sum.inr (some (⟨oO .i64 th r.1.Rf,oO .i64 n r.1.Rg⟩,true,()))else some (.inl (((i+1:Nat):Int),z,())))
  (h2:decide ((l.length:Int)<(l.length:Int))=false->step ((l.length:Int),z,())=Option.map Sum.inr (some (⟨0,0⟩,false,()))):
  aB step ((0:Int),z,())=some (if OE x l then(⟨th,n⟩,true,())else(⟨0,0⟩,false,())):=by
 rcases hl with rfl|⟨y,rfl⟩
 ·exact bM (h2 (by decide))
 ·have g:=h1 0 _ (by simp) rfl rfl
  rw[hr y rfl]at g;simp only[Qa,GO,S8,OE,Bool.or_false,sJ,Q6,QZ]at g
  by_cases hx:x∈[y]
  ·simp only[Qg hx,Qt,Qk]at g;rw[abD (by omega) (by omega),abD (by simp;omega) (by simp;omega)]at g
   refine bM (g.trans ?_);simp only[OE,Qg hx,Qt,Int.mul_one];simp
  ·simp only[Qh hx,Qq,Qu,Ql]at g;refine(bw g).trans ((bM (h2 (by simp))).trans ?_)
   simp only[OE,Qh hx,Qq,Qu]
def dO.YM{t:ak}(h:dO t):t.aL=[]\/∃y,t.aL=[⟨1,[y],[]⟩]:=h.inner.elim .inl λ⟨x,_,_,e⟩=> .inr ⟨x,e⟩
def dO.total{t:ak}(h:dO t):t.aX.length+t.aL.length<=11/\1<=t.aX.length+t.aL.length:=by
 have h1:=h.len;have h2:=h.th;rcases h.inner with e|⟨_,_,_,e⟩<;>rw[e]at h2 ⊢<;>simp only[QZ,Q6]at h2 ⊢<;>omega
def Va{rec:(ak×Int×Unit)->Option (eQ×Bool×Unit)}{t:ak}{x:Int}(h1:t.aL=[]\/∃y,t.aL=[⟨1,[y],[]⟩])(hn:t.aX.length<=100)(hth:1<=t.aH/\t.aH<=1000)(hd:1<=t.aX.length+t.aL.length)
  (hr:∀y,t.aL=[⟨1,[y],[]⟩]->rec (⟨1,[y],[]⟩,x,())=some (GO ⟨1,[y],[]⟩ x)):ma rec t x=some (GO t x):=by
 have hl:t.aL.length<=1:=by rcases h1 with e|⟨_,e⟩<;>rw[e]<;>simp
 unfold ma;simp only[aeC t.aX (by omega),den_add t (by omega),Qa]
 unfold GO S8
 cases decide (x∈t.aX)with
 |true=>rfl
 |false=>
  simp only[Ql,Bool.false_or];rcases h1 with e|⟨y,e⟩
  ·rw[e];exact bM rfl
  ·refine(M1 (l:=t.aL) (.inr ⟨y,e⟩) (th:=t.aH) (n:=sJ t) hth (by unfold sJ;omega) ⟨0,0⟩ (rec:=λu=>rec (u,x,())) hr (λi u hdc hx hadd=> ?_) (λhdc=> ?_)).trans rfl
   ·simp only[hdc,hx,hadd,Qk,Qa,etas]
   ·simp only[hdc,Ql]
def U0{rec:(ak×Int×Unit)->Option (eQ×Bool×Unit)}{t:ak}{x:Int}(h1:t.aL=[]\/∃y,t.aL=[⟨1,[y],[]⟩])(hn:t.aX.length<=100)(hth:1<=t.aH/\t.aH<=1000)(hd:1<=t.aX.length+t.aL.length)
  (hr:∀y,t.aL=[⟨1,[y],[]⟩]->rec (⟨1,[y],[]⟩,x,())=some (GO ⟨1,[y],[]⟩ x)):kM rec t x=some (GO t x):=by
 have hl:t.aL.length<=1:=by rcases h1 with e|⟨_,e⟩<;>rw[e]<;>simp
 unfold kM;refine(Yw t.aX (by omega) x ⟨0,0⟩ (hit:=some (⟨t.aH,sJ t⟩,true,())) (fin:=some (if OE x t.aL then(⟨t.aH,sJ t⟩,true,())else(⟨0,0⟩,false,()))) (λi y hdc hx hadd=> ?_) (λhdc=> ?_)).trans ?_
 ·simp only[hdc,hx,hadd,Qk,Qa,den_add t (by omega)]
 ·simp only[hdc,Ql,den_add t (by omega)]
  congr 1;rcases h1 with e|⟨y,e⟩
  ·rw[e];exact bM rfl
  ·refine(M1 (l:=t.aL) (.inr ⟨y,e⟩) (th:=t.aH) (n:=sJ t) hth (by unfold sJ;omega) ⟨0,0⟩ (rec:=λu=>rec (u,x,())) hr (λi u hdc hx hadd=> ?_) (λhdc=> ?_)).trans rfl
   ·simp only[hdc,hx,hadd,Qk,Qa,etas]
   ·simp only[hdc,Ql]
 ·unfold GO S8
  by_cases hx:x∈t.aX
  ·rw[Qr hx,Qg hx];rfl
  ·rw[Qs hx,Qh hx,Bool.false_or]
def pW{t:ak}(h:dO t)(x:Int):xE t x=some (GO t x):=by
 have h1:=h.total;have h2:=h.th;have h3:=h.len;show ma (xA (SizeOf.sizeOf t+SizeOf.sizeOf x)) t x=_;refine Va h.YM (by omega) (by omega) h1.2 λy e=> ?_
 obtain⟨n,hn⟩:∃n,SizeOf.sizeOf t+SizeOf.sizeOf x=n+1:=by
  obtain⟨n,hn⟩:=EE t;exact⟨n+SizeOf.sizeOf x,by omega⟩
 rw[hn];show ma (xA n) ⟨1,[y],[]⟩ x=_;exact Va (.inl rfl) (by simp) (by simp) (by simp) λy e=>by cases e
def rW{t:ak}(h:dO t)(x:Int):z7 t x=some (GO t x):=by
 have h1:=h.total;have h2:=h.th;have h3:=h.len;show kM (rP (SizeOf.sizeOf t+SizeOf.sizeOf x)) t x=_;refine U0 h.YM (by omega) (by omega) h1.2 λy e=> ?_
 obtain⟨n,hn⟩:∃n,SizeOf.sizeOf t+SizeOf.sizeOf x=n+1:=by
  obtain⟨n,hn⟩:=EE t;exact⟨n+SizeOf.sizeOf x,by omega⟩
 rw[hn];show kM (rP n) ⟨1,[y],[]⟩ x=_;exact U0 (.inl rfl) (by simp) (by simp) (by simp) λy e=>by cases e
def Jc(a b c d:Int):∃r,pc a b c d=some r/\oF a b c d=some r/\0<=r/\r<4294967296:=by
 have key:∀n:Int,0<=bx .u32 n/\bx .u32 n<4294967296:=λn=>by
  unfold bx IntKind.wrap;simp[IntKind.signed,IntKind.bits];omega
 unfold pc oF;exact⟨_,rfl,rfl,key _⟩
 def mV(a b c d:Int):Int:=Classical.choose (Jc a b c d)
def Sk(a b c d:Int):pc a b c d=some (mV a b c d):=(Classical.choose_spec (Jc a b c d)).1
def Yn(a b c d:Int):oF a b c d=some (mV a b c d):=(Classical.choose_spec (Jc a b c d)).2.1
def Tc(a b c d:Int):0<=mV a b c d/\mV a b c d<4294967296:=(Classical.choose_spec (Jc a b c d)).2.2
 def wI(t:ak)(v aI round k:Int):Bool:=decide (k=v)||(S8 t k&&decide (mV 1 aI round k*sJ t<t.aH*4294967296))
section
variable {t : ak} {v aI round : Int} (h : B3 t v aI round)
 include h
theorem Vm(k:Int):oO .u64 (bx .u64 (mV 1 aI round k)) (bx .u64 (sJ t))=mV 1 aI round k*sJ t/\bV .u64 (bx .u64 t.aH) (32:Int)=t.aH*4294967296/\oO .i64 (bx .i64 (mV 1 aI round k)) (sJ t)=mV 1 aI round k*sJ t/\bV .i64 t.aH (32:Int)=t.aH*4294967296:=by
 obtain⟨h1,h2⟩:=Tc 1 aI round k;have h3:=h.aO.total;have h4:=h.aO.th;generalize mV 1 aI round k=a at h1 h2;have hd:1<=sJ t/\sJ t<=11:=by unfold sJ;omega
 generalize sJ t=d at hd;have ht:1<=t.aH/\t.aH<=11:=by omega
 generalize t.aH=th at ht;have hm:0<=a*d/\a*d<=4294967296*11:=⟨Int.mul_nonneg h1 (by omega),Int.mul_le_mul (by omega) hd.2 (by omega) (by omega)⟩
 have u64:∀n:Int,0<=n->n<9223372036854775808->IntKind.u64.wrap n=n:=λn a b=>by
  unfold IntKind.wrap;simp[IntKind.signed,IntKind.bits];omega
 have c1:bx .u64 a=a:=u64 a h1 (by omega)
 have c2:bx .u64 d=d:=u64 d (by omega) (by omega)
 have c3:bx .u64 th=th:=u64 th (by omega) (by omega)
 have c4:bx .i64 a=a:=wrap64 (by omega) (by omega)
 rw[c1,c2,c3,c4];refine⟨u64 _ hm.1 (by omega),?_,wrap64 (by omega) (by omega),?_⟩
 ·exact u64 (th*2 ^ 32) (by omega) (by omega)
 ·exact wrap64 (n:=th*2 ^ 32) (by omega) (by omega)
theorem pNb(k:Int):pE t v aI round k=some (wI t v aI round k):=by
 obtain⟨c1,c2,_,_⟩:=Vm h k;unfold pE wI;simp only[etas,pW h.aO,Yn,Qa,aQ]
 cases decide (k=v)with
 |true=>rfl
 |false=>
  unfold GO
  cases S8 t k with
  |true=>
   simp only[Qt,Qk,Ql,c1,c2];rfl
  |false=>rfl
theorem rNb(k:Int)(h0:0<=k)(h1:k<10):nP t v aI round k=some (wI t v aI round k):=by
 obtain⟨_,_,c1,c2⟩:=Vm h k;unfold nP wI;simp only[etas,Mf h,rW h.aO,Sk,Qa,aQ,decide_true,Qo,Ql];rw[Qh (by omega:¬k<0),Qh (by omega:¬(10:Int)<=k)]
 simp only[Ql,Qa]
 cases decide (k=v)with
 |true=>rfl
 |false=>
  unfold GO
  cases S8 t k with
  |true=>
   simp only[Qt,Qk,Ql,c1,c2];rfl
  |false=>rfl
def w6(aI round j b:Int):Prop:=mV 2 aI round j<mV 2 aI round b\/mV 2 aI round j=mV 2 aI round b/\j<=b
structure AX (t:ak) (v aI round b:Int):Prop where
 b0:0<=b
 b1:b<10
 nb:wI t v aI round b=true
 top:∀j,0<=j->j<10->wI t v aI round j=true->w6 aI round j b
 omit h in
theorem AX.unique{a b:Int}(ha:AX t v aI round a)(hb:AX t v aI round b):a=b:=by
  have h1:=ha.top b hb.b0 hb.b1 hb.nb;have h2:=hb.top a ha.b0 ha.b1 ha.nb;unfold w6 at h1 h2;omega
theorem aae:Yd (l9 t v aI round) (AX t v aI round):=by
 have hv0:=h.v0;have hv1:=h.v1;unfold l9;simp only[etas,aQ];refine Yd.DR (λ(s:Int×Int×Int×Unit)=>0<=s.2.2.1/\s.2.2.1<=10/\((s.2.1=0/\(∀j,0<=j->j<s.2.2.1->wI t v aI round j=false))\/(0<=s.1/\s.1<s.2.2.1/\wI t v aI round s.1=true/\s.2.1=mV 2 aI round s.1/\∀j,0<=j->j<s.2.2.1->wI t v aI round j=true->w6 aI round j s.1))) (λs=>(10 - s.2.2.1).toNat) ?_ ⟨Int.le_refl _,by show(0:Int)<=10;omega,.inl ⟨rfl,λj h0 h1=>by simp only at h1;omega⟩⟩
 rintro⟨b,m,k,u⟩ ⟨h1,h2,h3⟩;simp only at h1 h2 h3;simp only
 by_cases hk:k<10
 ·rw[Qg hk];have hadd:aA .i64 k 1=k+1:=bH (by omega) (by omega)
  simp only[Qk];rw[hadd,pNb h,Qa];have hm:(10 - (k+1)).toNat<(10 - k).toNat:=by omega
  have split1:∀j,j<k+1->j<k\/j=k:=λj hj=>by omega
  cases hn:wI t v aI round k with
  |false=>
   refine .some ⟨⟨by show 0<=k+1;omega,by show k+1<=10;omega,?_⟩,hm⟩
   rcases h3 with⟨h4,h5⟩|⟨h4,h5,h6,h7,h8⟩
   ·refine .inl ⟨h4,λj j0 j1=> ?_⟩
    rcases split1 j j1 with j1|rfl
    ·exact h5 j j0 j1
    ·exact hn
   ·refine .inr ⟨h4,by show b<k+1;omega,h6,h7,λj j0 j1 hj=> ?_⟩
    rcases split1 j j1 with j1|rfl
    ·exact h8 j j0 j1 hj
    ·rw[hn]at hj;cases hj
  |true=>
   rw[Yn];simp only[Qo,Ql,Qa]
   by_cases hle:m<=mV 2 aI round k
   ·rw[Qg hle,Qk];refine .some ⟨⟨by show 0<=k+1;omega,by show k+1<=10;omega,.inr ⟨h1,by show k<k+1;omega,hn,rfl,λj j0 j1 hj=> ?_⟩⟩,hm⟩
    show w6 aI round j k;rcases split1 j j1 with j1|rfl
    ·rcases h3 with⟨h4,h5⟩|⟨h4,h5,h6,h7,h8⟩
     ·have:=h5 j j0 j1;rw[this]at hj;cases hj
     ·have:=h8 j j0 j1 hj;unfold w6 at this ⊢;omega
    ·exact .inr ⟨rfl,Int.le_refl _⟩
   ·rw[Qh hle,Ql];refine .some ⟨⟨by show 0<=k+1;omega,by show k+1<=10;omega,?_⟩,hm⟩
    have hr:=Tc 2 aI round k;rcases h3 with⟨h4,h5⟩|⟨h4,h5,h6,h7,h8⟩
    ·omega
    ·refine .inr ⟨h4,by show b<k+1;omega,h6,h7,λj j0 j1 hj=> ?_⟩
     rcases split1 j j1 with j1|rfl
     ·exact h8 j j0 j1 hj
     ·show w6 aI round j b;unfold w6;omega
 ·rw[Qh hk];have hself:wI t v aI round v=true:=by unfold wI;simp
  rcases h3 with⟨h4,h5⟩|⟨h4,h5,h6,h7,h8⟩
  ·have:=h5 v hv0 (by omega)
   rw[hself]at this;cases this
  ·exact .some ⟨h4,by omega,h6,λj j0 j1 hj=>h8 j j0 (by omega) hj⟩
theorem Z1:Yd (lW t v aI round) λq=>AX t v aI round q.1/\q.2.1=0:=by
 have hv0:=h.v0;have hv1:=h.v1;have hself:wI t v aI round v=true:=by unfold wI;simp
 unfold lW;simp only[etas,Mf h,Qa,aQ];simp only[decide_true,Qo,Ql];refine Yd.DR (λ(s:Int×Int×Unit)=>0<=s.2.1/\s.2.1<=10/\0<=s.1/\s.1<10/\wI t v aI round s.1=true/\∀j,0<=j->j<s.2.1->wI t v aI round j=true->w6 aI round j s.1) (λs=>(10 - s.2.1).toNat) ?_ ⟨Int.le_refl _,by show(0:Int)<=10;omega,hv0,hv1,hself,λj h0 h1=>by simp only at h1;omega⟩
 rintro⟨b,k,u⟩ ⟨h1,h2,h3,h4,h5,h6⟩;simp only at h1 h2 h3 h4 h5 h6;simp only
 by_cases hk:k<10
 ·rw[Qg hk];have hadd:aA .i64 k 1=k+1:=bH (by omega) (by omega)
  simp only[Qk];rw[hadd,rNb h k h1 hk,Qa];have hm:(10 - (k+1)).toNat<(10 - k).toNat:=by omega
  have split1:∀j,j<k+1->j<k\/j=k:=λj hj=>by omega
  have fin:∀x:Int,0<=x->x<10->wI t v aI round x=true->(∀j,0<=j->j<k+1->wI t v aI round j=true->w6 aI round j x)->Yd (some (Sum.inl (x,k+1,())):Option ((Int×Int×Unit)⊕(Int×Int×Unit))) (Lp (λs'=>(0<=s'.2.1/\s'.2.1<=10/\0<=s'.1/\s'.1<10/\wI t v aI round s'.1=true/\∀j,0<=j->j<s'.2.1->wI t v aI round j=true->w6 aI round j s'.1)/\(10 - s'.2.1).toNat<(10 - k).toNat) (λq=>AX t v aI round q.1/\q.2.1=0)):=
   λx g1 g2 g3 g4=> .some ⟨⟨by show 0<=k+1;omega,by show k+1<=10;omega,g1,g2,g3,g4⟩,hm⟩
  cases hn:wI t v aI round k with
  |false=>
   refine fin b h3 h4 h5 λj j0 j1 hj=> ?_
   rcases split1 j j1 with j1|rfl
   ·exact h6 j j0 j1 hj
   ·rw[hn]at hj;cases hj
  |true=>
   rw[Sk,Sk];simp only[Qo,Ql,Qa]
   by_cases hlt:mV 2 aI round b<mV 2 aI round k
   ·rw[Qg hlt];refine fin k h1 hk hn λj j0 j1 hj=> ?_
    rcases split1 j j1 with j1|rfl
    ·have:=h6 j j0 j1 hj;unfold w6 at this ⊢;omega
    ·exact .inr ⟨rfl,Int.le_refl _⟩
   ·rw[Qh hlt];simp only[Ql]
    by_cases heq:mV 2 aI round k=mV 2 aI round b
    ·rw[Qg heq];simp only[Qk,Qa]
     by_cases hbk:b<k
     ·rw[Qg hbk];refine fin k h1 hk hn λj j0 j1 hj=> ?_
      rcases split1 j j1 with j1|rfl
      ·have:=h6 j j0 j1 hj;unfold w6 at this ⊢;omega
      ·exact .inr ⟨rfl,Int.le_refl _⟩
     ·rw[Qh hbk];refine fin b h3 h4 h5 λj j0 j1 hj=> ?_
      rcases split1 j j1 with j1|rfl
      ·exact h6 j j0 j1 hj
      ·exact .inr ⟨heq,by omega⟩
    ·rw[Qh heq];refine fin b h3 h4 h5 λj j0 j1 hj=> ?_
     rcases split1 j j1 with j1|rfl
     ·exact h6 j j0 j1 hj
     ·exact .inl (by omega)
 ·rw[Qh hk];exact .some ⟨⟨h3,h4,h5,λj j0 j1 hj=>h6 j j0 (by omega) hj⟩,rfl⟩
end
 def vt(t:ak)(v aI round:Int):Int:=(l9 t v aI round).getD 0
 def jE(t:ak)(v aI:Int):Nat->Nat
 |0=>0
 |k+1=>jE t v aI k|||2 ^ (vt t v aI ((k+1:Nat):Int)).toNat
section
variable {t : ak} {v aI round : Int} (h : B3 t v aI round)
 include h
theorem B3.at{r:Int}(h1:1<=r)(h2:r<=round):B3 t v aI r:=⟨h.aO,h.v0,h.v1,h.s0,h.s1,h1,by have:=h.r2;omega⟩
theorem RD:l9 t v aI round=some (vt t v aI round)/\AX t v aI round (vt t v aI round):=by
 obtain⟨b,h1,h2⟩:=aae h;unfold vt;rw[h1];exact⟨rfl,h2⟩
theorem abp:lW t v aI round=some (vt t v aI round,0,()):=by
 obtain⟨⟨b,e,u⟩,h1,h2,h3⟩:=Z1 h;simp only at h3;subst h3;have h4:AX t v aI round b:=h2;rw[h1,h4.unique (RD h).2]
theorem F1:∀k:Nat,(k:Int)<=round->jE t v aI k<1024
 |0,_=>by unfold jE;omega
 |k+1,hk=>by
  have h1:=F1 k (by omega)
  have h2:=(RD (h.at (r:=((k+1:Nat):Int)) (by omega) hk)).2
  unfold jE;exact Ad h1 h2.b1
theorem Ym:rl t v aI round=some (((jE t v aI round.toNat:Nat):Int),0,()):=by
 have e1:=h.v0;have e2:=h.v1;have e3:=h.s0;have e4:=h.s1;have e5:=h.r1;have e6:=h.r2;unfold rl ze;simp only[etas,eC h.aO,Qa,decide_true,Qo,Ql];rw[Qh (by omega:¬v<0),Qh (by omega:¬(10:Int)<=v),Qh (by omega:¬aI<0),Qh (by omega:¬(1000000:Int)<aI),Qh (by omega:¬round<1),Qh (by omega:¬(1000:Int)<round)]
 simp only[Ql,Qa,decide_true,Qo]
 suffices key:∀(d k:Nat),k+d=round.toNat->aB _ (((jE t v aI k:Nat):Int),(k:Int),())=some (((jE t v aI round.toNat:Nat):Int),(0:Int),())from key round.toNat 0 (by omega)
 intro d
 induction d with
 |zero=>
  intro k hk;obtain rfl:k=round.toNat:=by omega
  refine bM ?_;rw[Qh (by omega:¬((round.toNat:Nat):Int)<round)]
  rfl
 |succ d ih=>
  intro k hk;have hadd:aA .i64 (k:Int) 1=((k+1:Nat):Int):=bH (by omega) (by omega)
  obtain⟨g1,g2⟩:=RD (h.at (r:=((k+1:Nat):Int)) (by omega) (by omega))
  refine(bw ?_).trans (ih (k+1) (by omega))
  rw[Qg (by omega:(k:Int)<round)]
  simp only[hadd,g1,Qk,Qa];rw[Qs (by have:=g2.b0;omega),pL (F1 h k (by omega)) g2.b0 g2.b1]
  rfl
theorem X7:qy t v aI round=some (((jE t v aI round.toNat:Nat):Int),0,()):=by
 have e5:=h.r1;have e6:=h.r2;unfold qy;simp only[etas,aQ,abp h,Qa,decide_true,Qo,Ql]
 suffices key:∀(d k:Nat),k+d=round.toNat->aB _ (((jE t v aI k:Nat):Int),((k+1:Nat):Int),())=some (((jE t v aI round.toNat:Nat):Int),(0:Int),())from key round.toNat 0 (by omega)
 intro d
 induction d with
 |zero=>
  intro k hk;obtain rfl:k=round.toNat:=by omega
  refine bM ?_;rw[Qh (by omega:¬((round.toNat+1:Nat):Int)<=round)]
  rfl
 |succ d ih=>
  intro k hk;have hadd:aA .i64 ((k+1:Nat):Int) 1=((k+1+1:Nat):Int):=bH (by omega) (by omega)
  have ha:=h.at (r:=((k+1:Nat):Int)) (by omega) (by omega)
  have g1:=abp ha;have g2:=(RD ha).2;have hlt:=F1 h k (by omega)
  refine(bw ?_).trans (ih (k+1) (by omega))
  rw[Qg (by omega:((k+1:Nat):Int)<=round)]
  have hh:jT ((jE t v aI k:Nat):Int) (vt t v aI ((k+1:Nat):Int))=some (wa ((jE t v aI k:Nat):Int) (vt t v aI ((k+1:Nat):Int))):=lX _ _
  have hs:wa ((jE t v aI k:Nat):Int) (vt t v aI ((k+1:Nat):Int))=(jE t v aI k).testBit (vt t v aI ((k+1:Nat):Int)).toNat:=by
   unfold wa fI;rw[Qg (by omega:(0:Int)<=((jE t v aI k:Nat):Int)),Qg (by omega:((jE t v aI k:Nat):Int)<1024),Qg g2.b0,Qg g2.b1]
   simp
  simp only[hadd,g1,hh,hs,Qk,Qa];show _=some (Sum.inl (((jE t v aI k|||2 ^ (vt t v aI ((k+1:Nat):Int)).toNat:Nat):Int),((k+1+1:Nat):Int),()))
  cases hb:(jE t v aI k).testBit (vt t v aI ((k+1:Nat):Int)).toNat with
  |true=>
   have:jE t v aI k|||2 ^ (vt t v aI ((k+1:Nat):Int)).toNat=jE t v aI k:=by
    refine Nat.eq_of_testBit_eq λi=> ?_
    rw[Nat.testBit_or,Nat.testBit_two_pow]
    by_cases hi:(vt t v aI ((k+1:Nat):Int)).toNat=i
    ·rw[<-hi,hb];rfl
    ·rw[Qh hi,Bool.or_false]
   rw[this];rfl
  |false=>
   simp only[Qp,Qk];rw[Qs (by have:=g2.b0;omega),pL hlt g2.b0 g2.b1]
theorem MM:jE t v aI round.toNat<1024:=F1 h round.toNat (by have:=h.r1;omega)
end
end
section
def fold_eq{α σ τ ρ:Type}(l:List α)(hl:l.length<=1000000)(f:σ->α->σ)(mk:Int->σ->τ)(Inv:σ->Prop)(hI:∀s x,x∈l->Inv s->Inv (f s x)){step:τ->Option (τ⊕ρ)}{fin:σ->Option ρ}
  (h1:∀(i:Nat) (x:α) (s:σ),Inv s->x∈l->decide ((i:Int)<(l.length:Int))=true->idx l (i:Int)=some x->aA .i64 (i:Int) 1=((i+1:Nat):Int)->step (mk (i:Int) s)=some (.inl (mk ((i+1:Nat):Int) (f s x))))
  (h2:∀s,Inv s->decide ((l.length:Int)<(l.length:Int))=false->step (mk (l.length:Int) s)=Option.map Sum.inr (fin s))
  {s:σ} (h0:Inv s):aB step (mk 0 s)=fin (l.foldl f s):=by
 suffices key:∀(k i:Nat) (s:σ),i+k=l.length->Inv s->aB step (mk (i:Int) s)=fin ((l.drop i).foldl f s)from key l.length 0 s (by omega) h0
 intro k
 induction k with
 |zero=>
  intro i s hi hs;obtain rfl:i=l.length:=by omega
  rw[fb,h2 s hs (Qh (Qq64 _)),Qq66,List.foldl_nil];cases fin s<;>rfl
 |succ k ih=>
  intro i s hi hs;have hlt:i<l.length:=by omega
  have hx:=Q0 hlt;refine(bw (h1 i l[i] s hs hx (Qg (by omega)) (by rw[bg];exact Qv hlt) (bH (by omega) (by omega)))).trans ((ih (i+1) _ (by omega) (hI s _ hx hs)).trans ?_)
  rw[QM hlt,QU]
def CV{α σ:Type}{f:σ->α->σ}{Inv:σ->Prop}:∀(l:List α) (hI:∀s x,x∈l->Inv s->Inv (f s x)) {s:σ},Inv s->Inv (l.foldl f s)
 |[],_,_,h=>h
 |x::l,hI,s,h=>CV l (λs y hy=>hI s y (Qy _ hy)) (hI s x Qx h)
def SE(n:av)(l:List ByteArray):List ByteArray:=if n.me=bE then l else lQ l n.me
def Gi(u:Int)(l:List ByteArray)(m:ay):List ByteArray:=if m.al=u then(pY [m]).foldl lQ l else l
def Fs(n:av)(l:List ByteArray)(u:Int):List ByteArray:=if u=n.al then SE n l else n.ar.foldl (Gi u) l
 def ya(n:av):List ByteArray:=(nG (jE n.aa n.al n.aK n.Round.toNat)).foldl (Fs n) n.bm
def aeG{x:ByteArray}(h:x.size<=200)(hx:x≠bE):kP x:=by
 refine⟨?_,h⟩;rcases Nat.eq_zero_or_pos x.size with h0|h0
 ·exact absurd (ByteArray.ext (Array.eq_empty_of_size_eq_zero h0)) hx
 ·exact h0
def VX{m:ay}(h:VL m.bm/\VL m.aE):(pY [m]).length<=80/\∀x∈pY [m],kP x:=by
 refine⟨O2 (L:=[m]) (λy hy=>by rw[Q5.1 hy];exact h),λx hx=> ?_⟩
 obtain⟨y,hy,hxy⟩:=((Ft _).2 x).1 hx;rw[Q5.1 hy]at hxy;exact hxy.elim (h.1.qJ x) (h.2.qJ x)
section
variable {n : av} (h : c5 n)
 include h
theorem acN{l:List ByteArray}(hl:VL l):VL (SE n l):=by
 unfold SE;split
 ·exact hl
 ·rename_i hx;exact(tl hl (aeG h.own hx)).1
theorem Ih{m:ay}(hm:m∈n.ar):VL m.bm/\VL m.aE:=⟨(h.heard m hm).1.dE,(h.heard m hm).1.eV⟩
theorem K8{u:Int}{l:List ByteArray}(hl:VL l){m:ay}(hm:m∈n.ar):VL (Gi u l m):=by
 unfold Gi;split
 ·exact CV (Inv:=VL) (pY [m]) (λs x hx hs=>(tl hs ((VX (Ih h hm)).2 x hx)).1) hl
 ·exact hl
theorem Kt{u:Int}{l:List ByteArray}(hl:VL l):VL (Fs n l u):=by
 unfold Fs;split
 ·exact acN h hl
 ·exact CV (Inv:=VL) n.ar (λs m hm hs=>K8 h hs hm) hl
theorem Ds:VL (ya n):=CV (Inv:=VL) _ (λs u _ hs=>Kt h hs) h.dE
theorem acD:qA n=some (ya n):=by
 have hlen:=h.len;have hlt:=MM h.ask;have hnl:=yr (jE n.aa n.al n.aK n.Round.toNat);unfold qA;simp only[etas,Ym h.ask,T7 hlt,Qa,aQ];refine fold_eq (nG (jE n.aa n.al n.aK n.Round.toNat)) (by omega) (Fs n) (λi s=>(s,i,())) VL (λs u _ hs=>Kt h hs) (λi u s hs hu hd hx hadd=> ?_) (λs hs hd=> ?_) h.dE
 ·simp only[hd,hx,hadd,Qk,Qa];unfold Fs
  by_cases hun:u=n.al
  ·rw[Qr hun,Qg hun];unfold SE
   by_cases ho:n.me=bE
   ·rw[Qr ho,Qg ho];rfl
   ·rw[Qs ho,Qh ho];simp only[Qk,Qp,WC hs,Qa]
  ·rw[Qs hun,Qh hun,Ql];refine fold_eq n.ar (by omega) (Gi u) (λi s=>(s,i,())) VL (λs m hm hs=>K8 h hs hm) (fin:=λs=>some (Sum.inl (s,((i+1:Nat):Int),()))) (λj m s2 hs2 hm hd2 hx2 hadd2=> ?_) (λs2 hs2 hd2=> ?_) hs
   ·simp only[hd2,hx2,hadd2,Qk,Qa,ay.eta];unfold Gi
    by_cases hmu:m.al=u
    ·obtain⟨v1,v2⟩:=VX (Ih h hm);rw[Qr hmu,Qg hmu];simp only[Qo,Ql,aeE (L:=[m]) (λy hy=>by rw[Q5.1 hy];exact Ih h hm) (by simp),Qa]
     refine fold_eq (pY [m]) (by omega) lQ (λi s=>(s,i,())) VL (λs x hx hs=>(tl hs (v2 x hx)).1) (fin:=λs=>some (Sum.inl (s,((j+1:Nat):Int),()))) (λk x s3 hs3 hxm hd3 hx3 hadd3=> ?_) (λs3 hs3 hd3=> ?_) hs2
     ·simp only[hd3,hx3,hadd3,Qk,Qa,WC hs3]
     ·simp only[hd3,Ql]
    ·rw[Qs hmu,Qh hmu];rfl
   ·simp only[hd2,Ql]
 ·simp only[hd,Ql]
theorem ZX:rX n=some {n with bm:=ya n}:=by
 have hlen:=h.len;have hlt:=MM h.ask;have hnl:=yr (jE n.aa n.al n.aK n.Round.toNat);unfold rX;simp only[etas,X7 h.ask,HE hlt,Qa,aQ];refine(fold_eq (nG (jE n.aa n.al n.aK n.Round.toNat)) (by omega) (Fs n) (λi s=>(i,{n with bm:=s},())) VL (λs u _ hs=>Kt h hs) (fin:=λs=>some {n with bm:=s}) (λi u s hs hu hd hx hadd=> ?_) (λs hs hd=> ?_) h.dE).trans rfl
 ·simp only[hd,hx,hadd,Qk,Qa];unfold Fs
  by_cases hun:u=n.al
  ·rw[Qr hun,Qg hun];unfold SE
   by_cases ho:n.me=bE
   ·rw[Qr ho,Qg ho];rfl
   ·rw[Qs ho,Qh ho];simp only[Qk,Qp,HC hs,Qa]
  ·rw[Qs hun,Qh hun,Ql];refine fold_eq n.ar (by omega) (Gi u) (λi s=>(i,{n with bm:=s},())) VL (λs m hm hs=>K8 h hs hm) (fin:=λs=>some (Sum.inl (((i+1:Nat):Int),{n with bm:=s},()))) (λj m s2 hs2 hm hd2 hx2 hadd2=> ?_) (λs2 hs2 hd2=> ?_) hs
   ·simp only[hd2,hx2,hadd2,Qk,Qa];unfold Gi
    by_cases hmu:m.al=u
    ·obtain⟨v1,v2⟩:=VX (Ih h hm);rw[Qr hmu,Qg hmu];simp only[Qo,Ql,ach (Ih h hm),Qa];refine fold_eq (pY [m]) (by omega) lQ (λi s=>(i,{n with bm:=s},())) VL (λs x hx hs=>(tl hs (v2 x hx)).1) (fin:=λs=>some (Sum.inl (((j+1:Nat):Int),{n with bm:=s},()))) (λk x s3 hs3 hxm hd3 hx3 hadd3=> ?_) (λs3 hs3 hd3=> ?_) hs2
     ·simp only[hd3,hx3,hadd3,Qk,Qa,HC hs3]
     ·simp only[hd3,Ql]
    ·rw[Qs hmu,Qh hmu];rfl
   ·simp only[hd2,Ql]
 ·simp only[hd,Ql]
end
 def nZ:Nat->av->av
 |0,n=>n
 |k+1,n=>match(fo n).find? (qO n)with
  |none=>n
  |some x=>nZ k {n with aE:=lQ n.aE x}
def Lu{n:av}(h:c5 n){x:ByteArray}(hf:(fo n).find? (qO n)=some x):c5 {n with aE:=lQ n.aE x}/\(lQ n.aE x).length=n.aE.length+1:=by
 have hc:=List.find?_some hf;have hm:=List.mem_of_find?_eq_some hf;unfold qO at hc;simp only[Qm,Bool.not_eq_true',Qj,Qi]at hc;obtain⟨p1,p2,p3,p4⟩:=tl h.eV (YI h hm);exact⟨h.aed p1 p2,p4 hc.1.1 hc.1.2⟩
def Nc:∀(k:Nat) {n:av},c5 n->q8 n (nZ k n)/\(nZ k n).bm=n.bm/\(nZ k n).aR=n.aR
 |0,n,h=>⟨.refl h,rfl,rfl⟩
 |k+1,n,h=>by
  unfold nZ
  cases hf:(fo n).find? (qO n)with
  |none=>exact⟨.refl h,rfl,rfl⟩
  |some x=>
   obtain⟨h1,h2,h3⟩:=Nc k (Lu h hf).1;exact⟨⟨h1.ok,h1.aD,h1.aI,h1.round,h1.seq,h1.aO,h1.own,h1.heard⟩,h2,h3⟩
def abq{fin:av->Option av}{step:Bool×av×Unit->Option ((Bool×av×Unit)⊕av)}
  (h1:∀n,c5 n->step (true,n,())=some (.inl (match(fo n).find? (qO n)with|some x=>(true,{n with aE:=lQ n.aE x},())|none=>(false,n,()))))
  (h2:∀n,c5 n->step (false,n,())=Option.map Sum.inr (fin n)):∀(k:Nat) {n:av},c5 n->41<=k+n.aE.length->aB step (true,n,())=fin (nZ k n)
 |0,n,h,hk=>by have:=h.eV.len;omega
 |k+1,n,h,hk=>by
  have g:=h1 n h;unfold nZ
  cases hf:(fo n).find? (qO n)with
  |none=>
   rw[hf]at g;rw[bw g,fb,h2 n h];cases fin n<;>rfl
  |some x=>
   rw[hf]at g;obtain⟨g1,g2⟩:=Lu h hf;exact(bw g).trans (abq h1 h2 k g1 (by show 41<=k+(lQ n.aE x).length;omega))
 def PC(n:av):ByteArray×Bool×Unit:=match(fo n).find? (qO n)with|some x=>(x,true,())|none=>(⟨#[]⟩,false,())
def abw{fin:av->Option av}{step:ByteArray×Bool×av×Unit->Option ((ByteArray×Bool×av×Unit)⊕av)}{c:List bf}
  (h1:∀n x,c5 n->nC n=c->c5 {n with aE:=lQ n.aE x}->step (x,true,n,())=some (.inl ((PC {n with aE:=lQ n.aE x}).1,(PC {n with aE:=lQ n.aE x}).2.1,{n with aE:=lQ n.aE x},())))
  (h2:∀n x,c5 n->nC n=c->step (x,false,n,())=Option.map Sum.inr (fin n)):∀(k:Nat) {n:av},c5 n->nC n=c->41<=k+n.aE.length->aB step ((PC n).1,(PC n).2.1,n,())=fin (nZ k n)
 |0,n,h,_,hk=>by have:=h.eV.len;omega
 |k+1,n,h,hv,hk=>by
  unfold nZ
  cases hf:(fo n).find? (qO n)with
  |none=>
   have e:PC n=(⟨#[]⟩,false,()):=by unfold PC;rw[hf]
   rw[e,fb,h2 n _ h hv];cases fin n<;>rfl
  |some x=>
   have e:PC n=(x,true,()):=by unfold PC;rw[hf]
   obtain⟨g1,g2⟩:=Lu h hf;rw[e];exact(bw (h1 n x h hv g1)).trans (abw h1 h2 k g1 hv (by show 41<=k+(lQ n.aE x).length;omega))
 def Fz(n:av)(c:List ByteArray)(x:ByteArray):List ByteArray:=if IV n x then lQ c x else c
 def An(n:av):List ByteArray:=n.aE.foldl (Fz n) n.aR
 def tx(n:av):av:={nZ 41 (if n.aR.length=0 then{n with bm:=ya n}else n)with aR:=An (nZ 41 (if n.aR.length=0 then{n with bm:=ya n}else n))}
structure Di (n:av) (c:List ByteArray):Prop where
 vl:VL c
 sub:∀x∈c,x∈n.aE
def Kx{n:av}(h:c5 n){c:List ByteArray}(hc:Di n c){x:ByteArray}(hx:x∈n.aE):Di n (Fz n c x):=by
 unfold Fz;split
 ·obtain⟨p1,_,p3,_⟩:=tl hc.vl (h.eV.qJ x hx);exact⟨p1,λy hy=>(p3 y hy).elim (λe=>by rw[e];exact hx) (hc.sub y)⟩
 ·exact hc
def c5.aaS{n:av}(h:c5 n):Di n n.aR:=⟨h.lG,h.sub⟩
def aaI{n:av}(h:c5 n):Di n (An n):=CV (Inv:=Di n) n.aE (λs x hx hs=>Kx h hs hx) h.aaS
def afO{n:av}(h:c5 n)(x:ByteArray):fl ⟨nC n⟩ n.al (((ky (n.ar++[xf n]) x).2:Nat):Int)=some (IV n x):=by
 obtain⟨hn,hn10⟩:=zI h;have hf:=zQ (BB h) hn10 (Ar h.said x).2;rw[<-hn]at hf;exact hf
def afH{n:av}(h:c5 n)(x:ByteArray):iV ⟨nC n⟩ n.al (((ky (n.ar++[xf n]) x).2:Nat):Int)=some (IV n x):=by
 obtain⟨hn,hn10⟩:=zI h;have hf:=tT (BB h) hn10 (Ar h.said x).2;rw[<-hn]at hf;exact hf
section
variable {n : av} (h : c5 n)
 include h
theorem adK:c5 (if n.aR.length=0 then{n with bm:=ya n}else n)/\q8 n (if n.aR.length=0 then{n with bm:=ya n}else n):=by
 split
 ·exact⟨h.Hq (Ds h),(q8.refl h).Hq (Ds h)⟩
 ·exact⟨h,.refl h⟩
theorem Dx:q8 n (tx n):=by
 obtain⟨h1,h2⟩:=adK h;obtain⟨g,_,_⟩:=Nc 41 h1;obtain⟨c1,c2⟩:=aaI g.ok;exact⟨g.ok.ZI c1 c2,g.aD.trans h2.aD,g.aI.trans h2.aI,g.round.trans h2.round,g.seq.trans h2.seq,g.aO.trans h2.aO,g.own.trans h2.own,g.heard.trans h2.heard⟩
theorem Px:lj n=some (tx n):=by
 have body:∀n:av,c5 n->(Option.bind (nR n) λr3=>
   Option.bind (jx n r3) λr4=>
   aB (λ(v5:ByteArray×Bool×av×Unit)=>
   bif v5.2.1 then
   Option.bind (gV v5.2.2.1.aE v5.1) λr6=>
   Option.bind (jx {v5.2.2.1 with aa:=(aq v5.2.2.1.aa),aE:=r6} r3) λr7=>
   some (Sum.inl (r7.1,r7.2.1,{v5.2.2.1 with aa:=(aq v5.2.2.1.aa),aE:=r6},()))
   else
   Option.map Sum.inr (Option.bind (cj v5.2.2.1.ar) λr8=>
   Option.bind (lZ (eT0 v5.2.2.1)) λr9=>
   bif bl 120 (List.length r8+List.length [{r9 with aa:=(aq r9.aa)}])then
   aB (λ(v10:Int×av×Unit)=>
   bif (decide (v10.1<((List.length v5.2.2.1.aE:Nat):Int)))then
   bb (λ(v11:av×Unit)=>
   some (Sum.inl ((aA .i64 v10.1 (1:Int)),(eT0 v11.1),()))) λj12=>
   Option.bind (idx v5.2.2.1.aE v10.1) λx13=>
   Option.bind (gg (r8++[{r9 with aa:=(aq r9.aa)}]) x13) λr14=>
   Option.bind (fl r3 v10.2.1.al r14.2.1) λr15=>
   bif r15 then
   Option.bind (gV v10.2.1.aR x13) λr16=>
   j12 ({v10.2.1 with aa:=(aq v10.2.1.aa),aR:=r16},())
   else
   j12 ((eT0 v10.2.1),())
   else
   Option.map Sum.inr (some (eT0 v10.2.1))) ((0:Int),(eT0 v5.2.2.1),())
   else none)) (r4.1,r4.2.1,n,()))=some {nZ 41 n with aR:=An (nZ 41 n)}:=by
  intro n h;rw[aet h,Qa,Yk h,Qa];refine abw (c:=nC n) (fin:=λn2=>some {n2 with aR:=An n2}) (λm x hm hv hm2=> ?_) (λm x hm hv=> ?_) 41 h rfl (by omega)
  ·have hx:=Yk hm2;have hv2:nC {m with aE:=lQ m.aE x}=nC n:=hv
   rw[hv2]at hx;simp only[Qk,etas,WC hm.eV,Qa,hx];rfl
  ·have hlen:=hm.len;have hal:=hm.eV.len;simp only[Ql,etas,TH hm,lZ,Qa,aQ];rw[lu (by omega) (by simp;omega),Qk]
   congr 1;refine(fold_eq m.aE (by omega) (Fz m) (λi c=>(i,{m with aR:=c},())) (Di m) (λs x hx hs=>Kx hm hs hx) (fin:=λc=>some {m with aR:=c}) (λi y s hs hy hd hx hadd=> ?_) (λs hs hd=> ?_) hm.aaS).trans rfl
   ·have hsay:gg (m.ar++[(⟨m.al,m.aG,m.aa,m.bm,m.aE⟩:ay)]) y=_:=Vd hm.said y;simp only[hd,hx,hadd,Qk,Qa,hsay,<-hv,afO hm y];unfold Fz
    cases IV m y with
    |true=>simp only[Qk,WC hs.vl,Qa,Qt]
    |false=>rfl
   ·simp only[hd,Ql]
 unfold lj;simp only[etas,aQ,acD h,Qa];unfold tx
 by_cases h0:n.aR.length=0
 ·rw[Qg (by omega:(n.aR.length:Int)=0),Qk,Qr h0]
  have:=body {n with bm:=ya n} (h.Hq (Ds h))
  simp only[etas,aQ]at this;exact this
 ·rw[Qh (by omega:¬(n.aR.length:Int)=0),Ql,Qs h0]
  have:=body n h;simp only[etas,aQ]at this;exact this
end
end
section
open Classical in
 def FF(b r:av):Bool:=decide (b.bm=r.bm/\b.aE=r.aE/\b.aa=r.aa)
open Classical in
def Dy{b r:av}:FF b r=true↔b.bm=r.bm/\b.aE=r.aE/\b.aa=r.aa:=by
 unfold FF;rw[Qi]
 def kN(b n:av):av:=if FF b (tx n)=true then tx n else{tx n with aG:=b.aG+1}
def Kw{b n:av}(h:c5 n):T6 b n (kN b n):=by
 have k:=Dx h;unfold kN;split
 ·exact⟨k.ok,k.aD,k.aI,k.round,k.aO,.inl k.seq⟩
 ·exact⟨⟨k.ok.ask,k.ok.own,k.ok.dE,k.ok.eV,k.ok.lG,k.ok.sub,k.ok.heard,k.ok.dn⟩,k.aD,k.aI,k.round,k.aO,.inr rfl⟩
def JY{b n:av}(h:c5 n):(kN b n).ar=n.ar/\(kN b n).me=n.me:=by
 have k:=Dx h;unfold kN;split<;>exact⟨k.heard,k.own⟩
def aeB{s t:List ByteArray}(h:s.length<=1000000):∃b,gw s t=some b/\(b=true↔s=t):=by
 unfold gw
 by_cases hl:s.length=t.length
 ·rw[Qg (by omega:(s.length:Int)=(t.length:Int)),Qo,Ql]
  refine TY hl h (λi hi hi' hd hx hy hw=> ?_) (λhd=> ?_)
  ·simp only;rw[hd,Qk,hx,hy,Qa,Qa,hw]
   by_cases he:s[i]=t[i]
   ·rw[Qg he];exact⟨true,rfl,by simp[he]⟩
   ·rw[Qh he];exact⟨false,rfl,by simp[he]⟩
  ·simp only;rw[hd,Ql];rfl
 ·rw[Qh (by omega:¬(s.length:Int)=(t.length:Int))]
  exact⟨false,rfl,MK hl⟩
def HA{b n:av}(hb:cQ b.aa/\b.bm.length<=1000000/\b.aE.length<=1000000)(hs:0<=b.aG/\b.aG<=1000000)(h:c5 n):jK b n=some (kN b n):=by
 have body:∀n:av,c5 n->aB (λ(v3:Bool×av×Unit)=>
   bif v3.1 then
   Option.bind (pT (eT0 v3.2.1)) λr4=>
   aB (λ(v5:Bool×Int×av×Unit)=>
   bif (decide (v5.2.1<((List.length r4:Nat):Int)))then
   Option.bind (idx r4 v5.2.1) λx6=>
   Option.bind (tu (eT0 v5.2.2.1) x6) λr7=>
   bif r7 then
   Option.bind (ou v5.2.2.1.aE x6) λr8=>
   Option.map Sum.inr (some (Sum.inl (true,{v5.2.2.1 with aa:=(aq v5.2.2.1.aa),aE:=r8},())))
   else
   some (Sum.inl (v5.1,(aA .i64 v5.2.1 (1:Int)),(eT0 v5.2.2.1),()))
   else
   Option.map Sum.inr (some (Sum.inl (v5.1,(eT0 v5.2.2.1),())))) (false,(0:Int),(eT0 v3.2.1),())
   else
   Option.map Sum.inr (aB (λ(v9:Int×av×Unit)=>
   bif (decide (v9.1<((List.length v3.2.1.aE:Nat):Int)))then
   bb (λ(v10:av×Unit)=>
   some (Sum.inl ((aA .i64 v9.1 (1:Int)),(eT0 v10.1),()))) λj11=>
   Option.bind (idx v3.2.1.aE v9.1) λx12=>
   Option.bind (lD (eT0 v9.2.1) x12) λr13=>
   Option.bind (mG (eT0 v9.2.1)) λr14=>
   Option.bind (iV r14 v9.2.1.al r13.2.1) λr15=>
   bif r15 then
   Option.bind (ou v9.2.1.aR x12) λr16=>
   j11 ({v9.2.1 with aa:=(aq v9.2.1.aa),aR:=r16},())
   else
   j11 ((eT0 v9.2.1),())
   else
   Option.map Sum.inr (bb (λ(v17:av×Unit)=>
   some (eT0 v17.1)) λj18=>
   Option.bind (rV b.bm v9.2.1.bm) λr19=>
   Option.bind (bif (!r19)then some true
   else
   Option.bind (rV b.aE v9.2.1.aE) λr20=>
   some (!r20)) λb21=>
   Option.bind (bif b21 then some true
   else
   Option.bind (vd (aq b.aa) (aq v9.2.1.aa)) λr22=>
   some (!r22)) λb23=>
   bif b23 then
   j18 ({v9.2.1 with aG:=(aA .i64 b.aG (1:Int)),aa:=(aq v9.2.1.aa)},())
   else
   j18 ((eT0 v9.2.1),()))) ((0:Int),(eT0 v3.2.1),()))) (true,n,())=
   some (if FF b {nZ 41 n with aR:=An (nZ 41 n)}=true then{nZ 41 n with aR:=An (nZ 41 n)}else{nZ 41 n with aR:=An (nZ 41 n),aG:=b.aG+1}):=by
  intro n h;refine abq (fin:=λm=>some (if FF b {m with aR:=An m}=true then{m with aR:=An m}else{m with aR:=An m,aG:=b.aG+1})) (λm hm=> ?_) (λm hm=> ?_) 41 h (by omega)
  ·have hkl:=PH hm;simp only[Qk,etas,acn hm,Qa]
   suffices key:∀(k i:Nat),i+k=(fo m).length->(∀x∈(fo m).take i,qO m x=false)->aB _ (false,(i:Int),m,())=some (Sum.inl (match(fo m).find? (qO m)with|some x=>(true,{m with aE:=lQ m.aE x},())|none=>(false,m,())))from key (fo m).length 0 (by omega) (by simp)
   intro k
   induction k with
   |zero=>
    intro i hi hpre;obtain rfl:i=(fo m).length:=by omega
    rw[Qq62]at hpre;have hf:(fo m).find? (qO m)=none:=List.find?_eq_none.2 λx hx=>by rw[hpre x hx];simp
    rw[hf];exact bM (by simp only[Qh (Qq64 _),Ql,Qe])
   |succ k ih=>
    intro i hi hpre;have hlt:i<(fo m).length:=by omega
    have hx:idx (fo m) (i:Int)=some (fo m)[i]:=by rw[bg];exact Qv hlt
    have hadd:aA .i64 (i:Int) 1=((i+1:Nat):Int):=bH (by omega) (by omega)
    have hd:decide ((i:Int)<(((fo m).length:Nat):Int))=true:=Qg (by omega)
    cases hc:qO m (fo m)[i]with
    |true=>
     have hf:(fo m).find? (qO m)=some (fo m)[i]:=by
      rw[List.find?_eq_some_iff_getElem];refine⟨hc,i,hlt,rfl,λj hj=> ?_⟩
      rw[hpre _ (List.mem_take_iff_getElem.2 ⟨j,by omega,rfl⟩)]
      rfl
     rw[hf];refine bM ?_;simp only[hd,hx,Qk,Qa,abr hm,hc,HC hm.eV,Qe]
    |false=>
     refine(bw ?_).trans (ih (i+1) (by omega) λx hx2=> ?_)
     ·simp only[hd,hx,hadd,Qk,Ql,Qa,abr hm,hc]
     ·rw[Q7 hlt,Qz,Q5]at hx2;rcases hx2 with hx2|rfl
      ·exact hpre x hx2
      ·exact hc
  ·have hal:=hm.eV.len;simp only[Ql,etas,aQ];congr 1;refine(fold_eq m.aE (by omega) (Fz m) (λi c=>(i,{m with aR:=c},())) (Di m) (λs x hx hs=>Kx hm hs hx) (fin:=λc=>some (if FF b {m with aR:=c}=true then{m with aR:=c}else{m with aR:=c,aG:=b.aG+1})) (λi y s hs hy hd hx hadd=> ?_) (λs hs hd=> ?_) hm.aaS).trans rfl
   ·have hms:=hm.ZI hs.vl hs.sub;have hsd:lD {m with aR:=s} y=_:=U2 hms y
    have hvw:mG {m with aR:=s}=_:=X4 hms
    have hsu:iV ⟨nC {m with aR:=s}⟩ m.al _=some (IV m y):=afH hms y
    simp only[hd,hx,hadd,Qk,Qa,hsd,hvw,hsu];unfold Fz
    cases IV m y with
    |true=>simp only[Qk,HC hs.vl,Qa,Qt]
    |false=>rfl
   ·obtain⟨b1,f1,g1⟩:=Md (s:=b.bm) (t:=m.bm) hb.2.1;obtain⟨b2,f2,g2⟩:=Md (s:=b.aE) (t:=m.aE) hb.2.2;obtain⟨b3,f3,g3⟩:=Xe (a:=b.aa) (b:=m.aa) hb.1;have hadd:aA .i64 b.aG 1=b.aG+1:=bH (by omega) (by omega)
    simp only[hd,Ql,f1,f2,f3,Qa,hadd]
    by_cases e:b.bm=m.bm/\b.aE=m.aE/\b.aa=m.aa
    ·rw[Qr ((Dy (b:=b) (r:={m with aR:=s})).2 e),g1.2 e.1,g2.2 e.2.1,g3.2 e.2.2]
     rfl
    ·rw[Qs (λe'=>e ((Dy (b:=b) (r:={m with aR:=s})).1 e'))]
     cases b1 with
     |false=>rfl
     |true=>
      cases b2 with
      |false=>rfl
      |true=>
       cases b3 with
       |false=>rfl
       |true=>exact absurd ⟨g1.1 rfl,g2.1 rfl,g3.1 rfl⟩ e
 unfold jK;simp only[etas,aQ,ZX h,Qa];unfold kN tx
 by_cases h0:n.aR.length=0
 ·rw[Qg (by omega:(n.aR.length:Int)=0),Qk]
  simp only[Qr h0];have:=body {n with bm:=ya n} (h.Hq (Ds h))
  simp only[etas,aQ]at this;exact this
 ·rw[Qh (by omega:¬(n.aR.length:Int)=0),Ql]
  simp only[Qs h0];have:=body n h;simp only[etas,aQ]at this;exact this
def HQ{n:av}(h:c5 n):mJ n=some n:=by
 have hlen:=h.len;have hv:=h.dE.len;have ha:=h.eV.len;have hc:=h.lG.len;unfold mJ;simp only[etas,Vc h.ask.aO.sm,uT _ (QK hv (by omega)),uT _ (QK ha (by omega)),uT _ (QK hc (by omega)),Qa]
 suffices key:∀(k i:Nat),i+k=n.ar.length->aB _ ((i:Int),{n with bm:=[],aE:=[],aR:=[],ar:=[]},n.bm,n.aE,n.aR,n.ar.take i,())=some n from key n.ar.length 0 (by omega)
 intro k
 induction k with
 |zero=>
  intro i hi;obtain rfl:i=n.ar.length:=by omega
  refine bM ?_;simp only[Qh (Qq64 _),Ql,Qq62,Qe]
 |succ k ih=>
  intro i hi;have hlt:i<n.ar.length:=by omega
  have hx:idx n.ar (i:Int)=some n.ar[i]:=by rw[bg];exact Qv hlt
  have hm:=(h.heard _ (Q0 hlt)).1;have hvl:=hm.dE.len;have hal:=hm.eV.len;refine(bw ?_).trans (ih (i+1) (by omega))
  simp only[Qg (by omega:(i:Int)<(n.ar.length:Int)),hx,Qk,Qa,ay.eta,Yl hm.aO.sm (QK hvl (by omega)) (QK hal (by omega))]
  rw[lu (by omega) (by simp;omega),bH (by omega) (by omega),Q7 hlt]
  rfl
def aaa{b n:av}(hb:cQ b.aa/\b.bm.length<=1000000/\b.aE.length<=1000000)(hs:0<=b.aG/\b.aG<=1000000)(hq:n.aG=b.aG)(h:c5 n):lO b n=some (kN b n):=by
 have k:=Dx h;have hok:=(Kw (b:=b) h).ok;have hadd:aA .i64 (tx n).aG 1=b.aG+1:=by rw[k.seq,hq];exact bH (by omega) (by omega)
 obtain⟨b1,f1,g1⟩:=aeB (s:=b.bm) (t:=(tx n).bm) hb.2.1;obtain⟨b2,f2,g2⟩:=aeB (s:=b.aE) (t:=(tx n).aE) hb.2.2;obtain⟨b3,f3,g3⟩:=eqT (a:=b.aa) (b:=(tx n).aa) hb.1;unfold lO;simp only[etas,aQ,Px h,f1,f2,f3,Qa,hadd];unfold kN at hok ⊢
 by_cases e':FF b (tx n)=true
 ·have e:=Dy.1 e';rw[Qr e']at hok ⊢;rw[g1.2 e.1,g2.2 e.2.1,g3.2 e.2.2];simp only[Qo,Ql,Qa,HQ hok]
 ·have e:¬(b.bm=(tx n).bm/\b.aE=(tx n).aE/\b.aa=(tx n).aa):=λe=>e' (Dy.2 e)
  rw[Qs e']at hok ⊢
  cases b3 with
  |false=>simp only[Qp,Qk,Qa,HQ hok]
  |true=>
   cases b1 with
   |false=>simp only[Qp,Qo,Qk,Ql,Qa,HQ hok]
   |true=>
    cases b2 with
    |false=>simp only[Qp,Qo,Qk,Ql,Qa,HQ hok]
    |true=>exact absurd ⟨g1.1 rfl,g2.1 rfl,g3.1 rfl⟩ e
end
section
def ib(l:List ay)(m:ay):List ay:=l.filter (λx=>decide (x.al<m.al))++m::l.filter (λx=>decide (m.al<x.al))
def tB(l:List ay)(m:ay):Bool:=l.any λx=>decide (x.al=m.al)&&decide (m.aG<=x.aG)
def PK{l:List ay}{m x:ay}:x∈ib l m↔x=m\/(x∈l/\x.al≠m.al):=by
 unfold ib;simp only[Qz,QA,List.mem_filter,Qi];constructor
 ·rintro(⟨h1,h2⟩|h|⟨h1,h2⟩)
  ·exact .inr ⟨h1,by omega⟩
  ·exact .inl h
  ·exact .inr ⟨h1,by omega⟩
 ·rintro(h|⟨h1,h2⟩)
  ·exact .inr (.inl h)
  ·rcases Int.lt_or_gt_of_ne h2 with h3|h3
   ·exact .inl ⟨h1,h3⟩
   ·exact .inr (.inr ⟨h1,h3⟩)
def Gj{n:av}(h:c5 n){m:ay}(hm:uY m)(hne:m.al≠n.al):c5 {n with ar:=ib n.ar m}:=by
 refine⟨h.ask,h.own,h.dE,h.eV,h.lG,h.sub,λx hx=> ?_,?_⟩
 ·rcases PK.1 hx with rfl|⟨hx,_⟩
  ·exact⟨hm,hne⟩
  ·exact h.heard x hx
 ·show(ib n.ar m).Pairwise _;unfold ib;rw[Qq69,Q4];refine⟨h.dn.filter _,⟨λx hx=>of_decide_eq_true (List.mem_filter.1 hx).2,h.dn.filter _⟩,λx hx y hy=> ?_⟩
  have h1:=of_decide_eq_true (List.mem_filter.1 hx).2;rcases QA.1 hy with rfl|hy
  ·exact h1
  ·have h2:=of_decide_eq_true (List.mem_filter.1 hy).2;omega
def LO{a:Int}:∀{l:List ay},l.Pairwise (λx y=>x.al<y.al)->l.filter (λx=>decide (x.al<a))=l.takeWhile (λx=>decide (x.al<a))/\∀x∈l.drop (l.takeWhile λx=>decide (x.al<a)).length,a<=x.al
 |[],_=>⟨rfl,λx hx=>by simp at hx⟩
 |y::l,hp=>by
  rw[Q4]at hp
  by_cases hy:y.al<a
  ·obtain⟨h1,h2⟩:=LO (a:=a) hp.2;rw[List.filter_cons,List.takeWhile_cons,Qg hy];simp only[Qt,QE,List.drop_succ_cons];exact⟨by rw[h1],h2⟩
  ·rw[List.filter_cons,List.takeWhile_cons,Qh hy];simp only[Qq,Qu,QZ,List.drop_zero];refine⟨List.filter_eq_nil_iff.2 λx hx=> ?_,λx hx=> ?_⟩
   ·have:=hp.1 x hx;rw[Qi];omega
   ·rcases QA.1 hx with rfl|hx
    ·omega
    ·have:=hp.1 x hx;omega
def O5{a:Int}:∀{l:List ay},l.Pairwise (λx y=>x.al<y.al)->l.filter (λx=>decide (a<x.al))=match l.drop (l.takeWhile λx=>decide (x.al<a)).length with|[]=>[]|y::r=>if y.al=a then r else y::r
 |[],_=>rfl
 |y::l,hp=>by
  rw[Q4]at hp
  by_cases hy:y.al<a
  ·have h1:=O5 (a:=a) hp.2;rw[List.filter_cons,List.takeWhile_cons,Qg hy,Qh (by omega:¬a<y.al)]
   simp only[Qt,Qq,Qu,QE,List.drop_succ_cons];exact h1
  ·have hall:∀x∈l,a<x.al:=λx hx=>by have:=hp.1 x hx;omega
   rw[List.filter_cons,List.takeWhile_cons,Qh hy];simp only[Qq,Qu,QZ,List.drop_zero];rw[List.filter_eq_self.2 λx hx=>Qg (hall x hx)]
   by_cases he:y.al=a
   ·rw[Qr he,Qh (by omega:¬a<y.al)];rfl
   ·rw[Qs he,Qg (by omega:a<y.al)];rfl
def abJ(x:ay)(a:Int):lP x a=some (xw x.al a):=by
 unfold lP;simp
section
variable {n : av} (h : c5 n)
 include h
theorem aeA(a:Int):ct n.ar a=some ((((n.ar.takeWhile λx=>decide (x.al<a)).length:Nat):Int),(match n.ar.drop (n.ar.takeWhile λx=>decide (x.al<a)).length with|[]=>false|y::_=>decide (y.al=a)),()):=by
 have hlen:=h.len;unfold ct;refine(Gw n.ar (by omega) (λy=>decide (y.al<a)) (h.dn.imp λ{x y} hxy hy=>by simp only[Qi]at hy ⊢;omega) (fin:=λk=>some (((k:Nat):Int),(match n.ar.drop k with|[]=>false|y::_=>decide (y.al=a)),())) (λi j m y hd hj hm hadd hx=> ?_) (λi hd hi=> ?_)).trans rfl
 ·have hc:decide (xw y.al a<0)=decide (y.al<a):=by rw[decide_eq_decide];exact Gv _ _
  simp only[hd,hm,hadd,hx,ay.eta,etas,abJ,hc,Qa,Qk];cases decide (y.al<a)<;>rfl
 ·simp only[hd,Ql]
  by_cases hi2:i<n.ar.length
  ·have hc:decide (xw n.ar[i].al a=0)=decide (n.ar[i].al=a):=by rw[decide_eq_decide];exact uR _ _
   rw[Qg (by omega:(i:Int)<(n.ar.length:Int)),QM hi2]
   simp only[Qk,bg,Qv hi2,Qa,ay.eta,etas,abJ,hc,Qe]
  ·rw[Qh (by omega:¬(i:Int)<(n.ar.length:Int)),List.drop_eq_nil_of_le (by omega)]
   rfl
theorem aez(hs:1<=n.aG/\n.aG<=1000000){m:ay}(hm:uY m)(hne:m.al≠n.al):rj n m=some (if tB n.ar m then(Dr,9,())else(kN n {n with ar:=ib n.ar m},0,())):=by
 have hlen:=h.len;have hno:=Gj h hm hne;have hk:=Ks (λx:ay=>decide (x.al<m.al)) n.ar
 obtain⟨s1,s2⟩:=LO (a:=m.al) h.dn;have s3:=O5 (a:=m.al) h.dn
 have htake:n.ar.take (n.ar.takeWhile λx=>decide (x.al<m.al)).length=n.ar.takeWhile λx=>decide (x.al<m.al):=by
  conv=>lhs;arg 2;rw[<-List.takeWhile_append_dropWhile (p:=λx=>decide (x.al<m.al)) (l:=n.ar)]
  exact List.take_left
 have hturn:lO n {n with ar:=ib n.ar m}=some (kN n {n with ar:=ib n.ar m}):=aaa h.Jl ⟨by omega,hs.2⟩ rfl hno
 unfold rj;simp only[etas,ay.eta,Vb h hs,Ve hm,aeA h,TH h,Qa,Qo,Ql,Qh hne,aQ]
 have hold:tB n.ar m=match n.ar.drop (n.ar.takeWhile λx=>decide (x.al<m.al)).length with|[]=>false|y::_=>decide (y.al=m.al)&&decide (m.aG<=y.aG):=by
  have hsplit:n.ar=(n.ar.takeWhile λx=>decide (x.al<m.al))++n.ar.drop (n.ar.takeWhile λx=>decide (x.al<m.al)).length:=by
   conv=>lhs;rw[<-List.take_append_drop (n.ar.takeWhile λx=>decide (x.al<m.al)).length n.ar]
   rw[htake]
  have hpre:∀x∈n.ar.takeWhile λx=>decide (x.al<m.al),x.al<m.al:=λx hx=>by
   rw[<-s1]at hx;exact of_decide_eq_true (List.mem_filter.1 hx).2
  have hsd:=h.dn;unfold tB;rw[hsplit]at hsd
  conv=>lhs;rw[hsplit]
  rw[List.any_append,List.any_eq_false.2 λx hx=>by have:=hpre x hx;rw[Qh (by omega:¬x.al=m.al)];simp,Bool.false_or]
  cases hd:n.ar.drop (n.ar.takeWhile λx=>decide (x.al<m.al)).length with
  |nil=>rfl
  |cons y r=>
   rw[hd,Qq69,Q4]at hsd;have hy:m.al<=y.al:=s2 y (by rw[hd];exact Qx)
   rw[List.any_cons,List.any_eq_false.2 λx hx=>by have:=hsd.2.1.1 x hx;rw[Qh (by omega:¬x.al=m.al)];simp,Bool.or_false]
 have hl:ib n.ar m=(n.ar.takeWhile λx=>decide (x.al<m.al))++m::(match n.ar.drop (n.ar.takeWhile λx=>decide (x.al<m.al)).length with|[]=>[]|y::r=>if y.al=m.al then r else y::r):=by
  unfold ib;rw[s1,s3]
 rw[hold];generalize hkk:(n.ar.takeWhile λx=>decide (x.al<m.al)).length=k at*
 cases hd:n.ar.drop k with
 |nil=>
  rw[hd]at hl
  have hkl:k=n.ar.length:=by
   have:=congrArg List.length hd;simp only[List.length_drop,QZ]at this;omega
  have hins:cu n.ar (k:Int) [m]=some (ib n.ar m):=by
   unfold cu Bf;rw[Qg (by omega:(0:Int)<=(k:Int)),Qg (by omega:(k:Int)<=(n.ar.length:Int)),lu (by omega) (by simp;omega),hl]
   simp only[QV,htake,hd];simp
  simp only[Ql,hins,hturn,Qa,Qq,Qu]
 |cons y r=>
  rw[hd]at hl
  have hk1:k<n.ar.length:=by
   have:=congrArg List.length hd;simp only[List.length_drop,QE]at this;omega
  have hyk:n.ar[k]=y:=by
   rw[QM hk1]at hd;exact(List.cons.inj hd).1
  have hr:n.ar.drop (k+1)=r:=by
   rw[QM hk1]at hd;exact(List.cons.inj hd).2
  have hx:idx n.ar (k:Int)=some y:=by rw[bg,Qv hk1,hyk]
  have hx2:n.ar[k]?=some y:=by rw[Qv hk1,hyk]
  by_cases hyn:y.al=m.al
  ·simp only[Qr hyn]at hl;simp only[Qg hyn,Qk,hx,Qa,Bool.true_and,QV,hx2]
   cases decide (m.aG<=y.aG)with
   |true=>rfl
   |false=>
    have hset:n.ar.set k m=ib n.ar m:=by
     rw[hl,List.set_eq_take_append_cons_drop,Qr hk1,htake,hr]
    simp only[Ql,hset,hturn,Qa,Qq,Qu]
  ·simp only[Qs hyn]at hl
   have hins:cu n.ar (k:Int) [m]=some (ib n.ar m):=by
    unfold cu Bf;rw[Qg (by omega:(0:Int)<=(k:Int)),Qg (by omega:(k:Int)<=(n.ar.length:Int)),lu (by omega) (by simp;omega),hl]
    simp only[QV,htake,hd];simp
   simp only[Qh hyn,Ql,hins,hturn,Qa,Bool.false_and,Qq,Qu]
theorem X8(hs:1<=n.aG/\n.aG<=1000000){m:ay}(hm:uY m)(hne:m.al≠n.al):vb n m=some (if tB n.ar m then(Dr,9,())else(kN n {n with ar:=ib n.ar m},0,())):=by
 have hlen:=h.len;have hset:jK n {n with ar:=ib n.ar m}=some (kN n {n with ar:=ib n.ar m}):=HA h.Jl ⟨by omega,hs.2⟩ (Gj h hm hne)
 have kk:∀(a:List ay) (x:ay),a.length<=100->bl 120 (a.length+[x].length)=true:=λa x ha=>bK ⟨by simp only[Q6];omega,by simp only[Q6];omega⟩
 unfold vb;simp only[etas,ay.eta,N8 h hs,Oa hm,Qa,Qo,Ql];rw[Qh hne];simp only[Ql,aQ]
 suffices key:Yd (aB _ (false,(0:Int),Dr,{n with ar:=[]},[],())) λr=>r=if tB n.ar m then(Dr,(9:Int),())else(kN n {n with ar:=ib n.ar m},(0:Int),())by
  obtain⟨r,g,rfl⟩:=key;exact g
 refine Yd.list n.ar (by omega) (λi (s:Bool×List ay)=>(s.1,i,Dr,{n with ar:=[]},s.2,()))
  (λi s=>s.2.length<=i+1/\tB (n.ar.take i) m=false/\s.1=(n.ar.take i).any (λx=>decide (m.al<x.al))/\s.2=(n.ar.take i).filter (λx=>decide (x.al<m.al))++(if s.1 then[m]else[])++(n.ar.take i).filter (λx=>decide (m.al<x.al))) ?_ ?_ (s:=(false,[])) ⟨by simp,rfl,rfl,rfl⟩
 ·rintro i x ⟨d,acc⟩ ⟨a1,a2,a3,a4⟩ hd hx' hi hdec hx hadd;simp only at a1 a2 a3 a4;have e:n.ar.take (i+1)=n.ar.take i++[x]:=by rw[List.take_add_one,show n.ar[i]?=some x by rw[bg]at hx;exact hx];rfl
  have hlt:∀y∈n.ar.take i,y.al<x.al:=by
   have:=h.dn.sublist (List.take_sublist (i+1) n.ar);rw[e,Qq69]at this;exact λy hy=>this.2.2 y hy x (by simp)
  have k1:=kk acc m (by omega)
  have k2:=kk acc x (by omega)
  have k3:=kk (acc++[m]) x (by simp only[QB,Q6];omega)
  simp only;rw[hdec,Qk,hx,Qa,hadd]
  by_cases hn:x.al=m.al
  ·rw[Qg hn,Qk]
   by_cases hq:m.aG<=x.aG
   ·rw[Qg hq];refine .some ?_;have:tB n.ar m=true:=List.any_eq_true.2 ⟨x,hx',by rw[Qg hn,Qg hq];rfl⟩
    show _=_;rw[Qr this];rfl
   ·rw[Qh hq];refine .some ⟨(d,acc),rfl,by show acc.length<=i+1+1;omega,?_,?_,?_⟩
    ·rw[e];unfold tB at a2 ⊢;rw[List.any_append,a2];simp[hq]
    ·rw[e,List.any_append];simp only;rw[<-a3];simp[hn]
    ·rw[e];simp only[List.filter_append,List.filter_cons,List.filter_nil,Qh (by omega:¬x.al<m.al),Qh (by omega:¬m.al<x.al),Qq,Qu,List.append_nil]
     exact a4
  ·rw[Qh hn,Ql,k1,k2,k3]
   have holdx:tB (n.ar.take (i+1)) m=false:=by
    rw[e];unfold tB at a2 ⊢;rw[List.any_append,a2];simp[hn]
   by_cases hlx:m.al<x.al
   ·rw[Qg hlx]
    have hany:(n.ar.take (i+1)).any (λx=>decide (m.al<x.al))=true:=by
     rw[e,List.any_append];simp[hlx]
    have hfl:(n.ar.take (i+1)).filter (λx=>decide (x.al<m.al))=(n.ar.take i).filter (λx=>decide (x.al<m.al)):=by
     rw[e,List.filter_append,List.filter_cons,Qh (by omega:¬x.al<m.al)]
     simp
    have hfg:(n.ar.take (i+1)).filter (λx=>decide (m.al<x.al))=(n.ar.take i).filter (λx=>decide (m.al<x.al))++[x]:=by
     rw[e,List.filter_append,List.filter_cons,Qg hlx];rfl
    cases d with
    |true=>
     simp only[Qo,Ql,Qk,Qa];refine .some ⟨(true,acc++[x]),rfl,by simp only[QB,Q6];omega,holdx,hany.symm,?_⟩
     simp only;rw[hfl,hfg,a4];simp
    |false=>
     simp only[Qp,Qk,Qa]
     have hnil:(n.ar.take i).filter (λx=>decide (m.al<x.al))=[]:=by
      refine List.filter_eq_nil_iff.2 λy hy=> ?_
      have:=List.any_eq_false.1 a3.symm y hy;exact this
     rw[hnil]at a4;refine .some ⟨(true,acc++[m]++[x]),rfl,?_,holdx,hany.symm,?_⟩
     ·have hb:acc.length<=i:=by
       rw[a4];simp only[Qq,Qu,List.append_nil];refine QK (List.length_filter_le _ _) ?_;rw[List.length_take];omega
      simp only[QB,Q6];omega
     ·simp only;rw[hfl,hfg,hnil,a4];simp
   ·have hxm:x.al<m.al:=by omega
    rw[Qh hlx];have hnone:∀y∈n.ar.take i,¬m.al<y.al:=λy hy=>by have:=hlt y hy;omega
    have hd0:d=false:=by
     rw[a3];exact List.any_eq_false.2 λy hy=>by rw[Qh (hnone y hy)];simp
    have hnil:(n.ar.take i).filter (λx=>decide (m.al<x.al))=[]:=List.filter_eq_nil_iff.2 λy hy=>by rw[Qh (hnone y hy)];simp
    subst hd0;rw[hnil]at a4;simp only[Qp,Qk,Ql,Qa];refine .some ⟨(false,acc++[x]),rfl,by simp only[QB,Q6];omega,holdx,?_,?_⟩
    ·rw[e,List.any_append];simp only;rw[<-a3];simp[hlx]
    ·simp only;rw[e,List.filter_append,List.filter_append,hnil,a4];simp[hxm,hlx]
 ·rintro⟨d,acc⟩ ⟨a1,a2,a3,a4⟩ hdec;rw[Qq62]at a2 a3 a4;simp only at a1 a2 a3 a4;simp only;rw[hdec,Ql];have k1:=kk acc m (by omega)
  have hold:tB n.ar m=false:=a2;rw[k1,hold]
  cases d with
  |true=>
   have:acc=ib n.ar m:=by rw[a4];simp[ib]
   rw[this];simp only[Qo,Ql,hset,Qa,Qe];exact .some rfl
  |false=>
   have hnil:n.ar.filter (λx=>decide (m.al<x.al))=[]:=List.filter_eq_nil_iff.2 λy hy=>List.any_eq_false.1 a3.symm y hy
   have:acc++[m]=ib n.ar m:=by
    rw[hnil]at a4;unfold ib;rw[hnil,a4];simp
   simp only[Qp,Qk,this,hset,Qa,Qe];exact .some rfl
end
def acE{t:ak}{v aI:Int}{own:ByteArray}(ht:dO t)(h0:0<=v)(h1:v<10)(h2:0<=aI)(h3:aI<=1000000)(ho:own.size<=200):qC v aI t own=nu v aI t own:=by
 have hn:c5 ⟨v,aI,1,1,t,own,[],[],[],[]⟩:=⟨⟨ht,h0,h1,h2,h3,by show(1:Int)<=1;omega,by show(1:Int)<=1000;omega⟩,ho,.nil,.nil,.nil,λx hx=>absurd hx QR,λx hx=>absurd hx QR,List.Pairwise.nil⟩
 have k:=Dx hn;have hq:(tx ⟨v,aI,1,1,t,own,[],[],[],[]⟩).aG=1:=k.seq;unfold nu qC;simp only[etas,eH ht,eC ht,WD h0 h1];rw[Qh (by omega:¬v<0),Qh (by omega:¬(10:Int)<=v),Qh (by omega:¬aI<0),Qh (by omega:¬(1000000:Int)<aI),Qh (by omega:¬(200:Int)<((own.size:Nat):Int))]
 simp only[Ql,Qa,decide_true,Qo,Px hn,HQ k.ok];rw[HA hn.Jl ⟨by show(0:Int)<=1;omega,by show(1:Int)<=1000000;omega⟩ hn,Qa]
 unfold kN;split
 ·generalize tx ⟨v,aI,1,1,t,own,[],[],[],[]⟩=r at hq;obtain⟨a1,a2,a3,a4,a5,a6,a7,a8,a9,a10⟩:=r;simp only at hq;subst hq;rfl
 ·generalize tx ⟨v,aI,1,1,t,own,[],[],[],[]⟩=r at hq;obtain⟨a1,a2,a3,a4,a5,a6,a7,a8,a9,a10⟩:=r;simp only at hq;subst hq;rfl
end
section
def EL{a b:af}(hq:a.aG=b.aG){s:Int}:({a with aG:=s}:af)={b with aG:=s}↔a=b:=by
 constructor
 ·intro h;cases a;cases b;simp only[af.mk.injEq]at h hq ⊢;obtain⟨h1,h2,_,h3⟩:=h;exact⟨h1,h2,hq,h3⟩
 ·rintro rfl;rfl
def step_seq{m:af}(h:br m){s:Int}(hs:0<=s/\s<=1000000):c6 {m with aG:=s}={c6 m with aG:=s}:=by
 have e1:cW {m with aG:=s}={m with aG:=s}↔cW m=m:=by rw[HM h hs];exact EL (Av m).seq
 have e2:gl {m with aG:=s}={m with aG:=s}↔gl m=m:=by rw[HL h hs];exact EL (xJ m).seq
 have e3:fP {m with aG:=s}={m with aG:=s}↔fP m=m:=by rw[HO h hs];exact EL (xL m).seq
 have e4:iL {m with aG:=s}={m with aG:=s}↔iL m=m:=by rw[HN h hs];exact EL (xK m).seq
 unfold c6
 by_cases hP:cW m=m
 ·rw[Qr (e1.2 hP),Qr hP]
  by_cases hS:gl m=m
  ·rw[Qr (e2.2 hS),Qr hS]
   by_cases hC:fP m=m
   ·rw[Qr (e3.2 hC),Qr hC]
    by_cases hF:iL m=m
    ·rw[Qr (e4.2 hF),Qr hF,Pr h hs]
    ·rw[Qs (mt e4.1 hF),Qs hF,HN h hs]
   ·rw[Qs (mt e3.1 hC),Qs hC,HO h hs]
  ·rw[Qs (mt e2.1 hS),Qs hS,HL h hs]
 ·rw[Qs (mt e1.1 hP),Qs hP,HM h hs]
 def Kd:Nat->af->af
 |0,m=>m
 |k+1,m=>c6 (Kd k m)
def Oy{m:af}(h:c6 m=m):∀k,Kd k m=m
 |0=>rfl
 |k+1=>by rw[Kd,Oy h k,h]
def Oz(m:af)(k:Nat):∀j,Kd (j+k) m=Kd j (Kd k m)
 |0=>by rw[Nat.zero_add];rfl
 |j+1=>by rw[Nat.add_right_comm,Kd,Kd,Oz m k j]
def Db(m1 x:af):Prop:=br x/\∃k,({x with aG:=0}:af)=Kd k {m1 with aG:=0}
def Db.self{m1:af}(h:br m1):Db m1 m1:=⟨h,0,rfl⟩
def RC{m1:af}:∀m,br m->Db m1 m->Db m1 (c6 m):=λm h ⟨_,k,e⟩=>⟨Dw h,k+1,by rw[Kd,<-e,step_seq (s:=0) h ⟨by decide,by decide⟩]⟩
def RB{m1:af}:∀m,Db m1 m->Db m1 (dy m):=λm ⟨h,k,e⟩=>⟨xi h,k,by
 rw[<-e];unfold dy
 split<;>rfl⟩
def XD{m0 m1 a b:af}(ha:GN (Db m1) m0 a)(hb:GN (Db m1) m0 b)(hq:0<=m0.aG):a=b:=by
 have fixed:∀{x:af},GN (Db m1) m0 x->c6 {x with aG:=0}={x with aG:=0}:=λ{x} hx=>by rw[step_seq (s:=0) hx.inv ⟨by decide,by decide⟩,aaw hx.fix]
 obtain⟨_,k,ea⟩:=ha.rel;obtain⟨_,j,eb⟩:=hb.rel
 have core:({a with aG:=0}:af)={b with aG:=0}:=by
  rcases Nat.le_total k j with h|h
  ·have e2:=Oz {m1 with aG:=0} k (j - k)
   rw[show j - k+k=j by omega,<-eb,<-ea,Oy (fixed ha)]at e2
   exact e2.symm
  ·have e2:=Oz {m1 with aG:=0} j (k - j)
   rw[show k - j+j=k by omega,<-eb,<-ea,Oy (fixed hb)]at e2
   exact e2
 have hz:a.ab=b.ab:=by
  have:=congrArg af.ab core;exact this
 have hs:a.aG=b.aG:=by
  have n1:=ha.num;have n2:=hb.num
  cases hc:aM a.ab with
  |true=>
   rw[ha.seq.zero hc,hb.seq.zero (by rw[<-hz];exact hc)]
  |false=>
   have p1:=ha.seq.pos hc;have p2:=hb.seq.pos (by rw[<-hz];exact hc)
   omega
 exact(EL hs).1 core
def PA{m m1:af}{q q':af×Int×Unit}(h1:0<=(dy m1).aG)(h:NO (Db m1) m m1 q)(h':NO (Db m1) m m1 q'):q=q':=by
 obtain⟨a,rfl,ha⟩:=h;obtain⟨b,rfl,hb⟩:=h';rw[XD ha hb h1]
section
variable {m : af} (h : br m) (hs : fL m)
 include h hs
theorem YX{v:ByteArray}(hv:1<=v.size/\v.size<=200):nS m v=na m v:=by
 have hi:=FO h hv;obtain⟨q,e1,h1⟩:=aac RC RB h hs hv (Db.self hi);obtain⟨q',e2,h2⟩:=KE RC RB h hs hv (Db.self hi);rw[e1,e2,PA (xi hi).seq.1 h1 h2]
theorem YW{e:aj}(he:yQ m e):jy m e=lg m e:=by
 have hi:=Gg h he;obtain⟨q,e1,h1⟩:=aab RC RB h hs he (Db.self hi);obtain⟨q',e2,h2⟩:=Sj RC RB h hs he (Db.self hi);rw[e1,e2];rcases h1 with⟨h1,a⟩|⟨rfl,a⟩<;>rcases h2 with⟨h2,b⟩|⟨rfl,b⟩
 ·rw[PA (xi hi).seq.1 h1 h2]
 ·rw[a]at b;cases b
 ·rw[a]at b;cases b
 ·rfl
end
end
section
def aaM{a b:ByteArray}:decide (0<wb a b)=bO b a:=by
 cases h:bO b a with
 |true=>
  have h1:¬wb a b<0:=λe=>by
   have:=uQ a b;rw[Qg e,jd.asymm h]at this;cases this
  have h2:¬wb a b=0:=λe=>by
   have h3:=Iy (a:=a) (b:=b);rw[Qg e]at h3;rw[of_decide_eq_true h3.symm,jd.irrefl]at h;cases h
  exact Qg (by omega)
 |false=>
  refine Qh λe=> ?_
  have h1:bO a b=false:=by rw[<-uQ];exact Qh (by omega)
  have h2:=jd.total _ _ h1 h;have h3:=Iy (a:=a) (b:=b);rw[Qg h2]at h3;have:=of_decide_eq_true h3;omega
def mi(l:List ByteArray):ByteArray:=l.getLast?.getD bE
def H2{l:List ByteArray}(h:l≠[]):mi l∈l:=by
 unfold mi
 cases hl:l.getLast? with
 |none=>exact absurd (List.getLast?_eq_none_iff.1 hl) h
 |some a=>exact List.mem_of_getLast? hl
def aao{x:ByteArray}(h:kP x):bO bE x=true:=by
 have:=h.1;have h0:bE.size=0:=rfl;unfold bO;rw[Qs (by rw[h0];omega),h0]
 exact Qg (by omega)
def F2{l:List ByteArray}{i:Nat}{x:ByteArray}(hx:l[i]?=some x):mi (l.take (i+1))=x:=by
 unfold mi;rw[List.take_add_one,hx];simp
def PF{l:List ByteArray}(h:VL l){i:Nat}{x:ByteArray}(hx:l[i]?=some x):bO (mi (l.take i)) x=true:=by
 have hi:i<l.length:=(Qw.1 hx).1;have hxe:l[i]=x:=(Qw.1 hx).2
 by_cases h0:i=0
 ·subst h0;exact aao (h.qJ x (Q8 hx))
 ·have e:=F2 (l:=l) (i:=i - 1) (Qv (by omega))
  rw[show i - 1+1=i by omega]at e
  rw[e,<-hxe];exact List.pairwise_iff_getElem.1 h.Ff (i - 1) i (by omega) hi (by omega)
def X9{l:List ByteArray}(h:VL l):nO l=some (mi l,decide (l≠[]),()):=by
 unfold nO;simp only[aQ]
 suffices key:Yd (aB _ (bE,false,(0:Int),())) λr=>r=(mi l,decide (l≠[]),())by
  obtain⟨r,g,rfl⟩:=key;exact g
 refine Yd.list l h.uA (λi (s:ByteArray×Bool)=>(s.1,s.2,i,())) (λi s=>s=(mi (l.take i),decide (i≠0))) ?_ ?_ (s:=(_,false)) rfl
 ·rintro i x s rfl hd hx' hi hdec hx hadd;have hx2:l[i]?=some x:=by rw[bg]at hx;exact hx
  have hl:=PF h hx2;simp only;rw[hdec,Qk,hx,Qa,Ma,Qa,hadd,Qg (h.qJ x hx'),zy];simp only[Qk,Qa,Iz,hl];have g:∃s':ByteArray×Bool,((x,true,((i+1:Nat):Int),()):ByteArray×Bool×Int×Unit)=(s'.1,s'.2,((i+1:Nat):Int),())/\s'=(mi (l.take (i+1)),decide (i+1≠0)):=⟨(x,true),rfl,by rw[F2 hx2];rfl⟩
  cases decide (i≠0)<;>exact .some g
 ·rintro s rfl hdec;simp only;rw[hdec,Ql,Qq62];refine .some ?_;show _=_;congr 2;rw[decide_eq_decide];cases l<;>simp
def aeD{l:List ByteArray}(h:VL l):mn l=some (mi l,decide (l≠[]),()):=by
 unfold mn;simp only[aQ]
 suffices key:Yd (aB _ (bE,(0:Int),())) λr=>r=(mi l,decide (l≠[]),())by
  obtain⟨r,g,rfl⟩:=key;exact g
 refine Yd.list l h.uA (λi (s:ByteArray)=>(s,i,())) (λi s=>s=mi (l.take i)) ?_ ?_ rfl
 ·rintro i x s rfl hd hx' hi hdec hx hadd;have hx2:l[i]?=some x:=by rw[bg]at hx;exact hx
  have hl:=PF h hx2;simp only;rw[hdec,Qk,hx,Qa,Yj,Qa,hadd,Qg (h.qJ x hx'),Cw];simp only[Qk,Qa,aaM,hl];exact .some ⟨x,rfl,by rw[F2 hx2]⟩
 ·rintro s rfl hdec;simp only;rw[hdec,Ql,Qq62];refine .some ?_;show _=_;congr 2
  cases hl:l with
  |nil=>rfl
  |cons y r=>
   have hm:mi l∈l:=H2 (by rw[hl];simp)
   have hv:=h.qJ _ hm;rw[<-hl]
   have hne:mi l≠bE:=λe=>by
    rw[e]at hv;exact absurd hv.1 (by decide)
   rw[Qh hne,Qg (by rw[hl];simp)]
   rfl
def afT{l:List ay}(hlen:l.length<=100)(h:∀m∈l,cQ m.aa/\m.bm.length<=1000/\m.aE.length<=1000):fB l=some l:=by
 unfold fB
 suffices key:∀(k i:Nat),i+k=l.length->aB _ ((i:Int),l.take i,())=some l from key l.length 0 (by omega)
 intro k
 induction k with
 |zero=>
  intro i hi;obtain rfl:i=l.length:=by omega
  refine bM ?_;simp only[Qh (Qq64 _),Ql,Qq62,Qe]
 |succ k ih=>
  intro i hi;have hlt:i<l.length:=by omega
  have hx:idx l (i:Int)=some l[i]:=by rw[bg];exact Qv hlt
  obtain⟨h1,h2,h3⟩:=h _ (Q0 hlt);refine(bw ?_).trans (ih (i+1) (by omega))
  simp only[Qg (by omega:(i:Int)<(l.length:Int)),hx,Qk,Qa,etas,ay.eta,aad h1 h2 h3]
  rw[lu (by omega) (by simp;omega),bH (by omega) (by omega),Q7 hlt]
  rfl
section
variable {nd sl k : Int} {x : aS}
def Sy(h:wc nd sl k x):pV x=some x:=by
 have n:=h.qZ;have l1:=n.dE.len;have l2:=n.eV.len;have l3:=n.lG.len;have l4:=n.len;have l5:=h.lR.len;have hN:fB x.aC.ar=some x.aC.ar:=afT (by omega) λm hm=>⟨(n.heard m hm).1.aO.sm,QK (n.heard m hm).1.dE.len (by omega),QK (n.heard m hm).1.eV.len (by omega)⟩
 have hE:dP x.ah.ar=some x.ah.ar:=Ud (λe he=>(h.lR.hv e he).2.1.sm) (by omega)
 unfold pV;simp only[aS.eta,av.eta,af.eta,etas,kF n.ask.aO.sm,kF h.lR.aO.sm,uT _ (QK l1 (by omega)),uT _ (QK l2 (by omega)),uT _ (QK l3 (by omega)),hN,hE,Qa]
def Le(h:wc nd sl k x):pS x=jm x:=by
 unfold pS jm;simp only[etas,aQ,aeD h.qZ.lG,X9 h.qZ.lG,df,dg,Qa,KJ h.lR h.oP,zx h.lR h.oP]
 by_cases hc:x.aC.aR=[]
 ·have e1:decide ((0:Int)<(x.aC.aR.length:Int))=false:=by rw[hc];rfl
  rw[e1,hc];cases decide (x.ah.aP=1)<;>cases aM x.ah.aw<;>rfl
 ·have hpos:0<x.aC.aR.length:=List.length_pos_iff.2 hc;have hlv:kP (mi x.aC.aR):=h.qZ.lG.qJ _ (H2 hc);rw[Qg (by omega:(0:Int)<(x.aC.aR.length:Int)),Qg hc,YX h.lR h.oP hlv]
  obtain⟨q,e,q0,hn⟩:=KO h.lR h.oP hlv;rw[e];simp only[Qa,q0,decide_true,Qk,KJ hn.inv hn.seq,zx hn.inv hn.seq];cases decide (x.ah.aP=1)<;>cases aM x.ah.aw<;>cases decide (mi x.aC.aR=x.ah.bh)<;>rfl
def YA{m:af}(h:br m)(hs:fL m){v:ByteArray}(hv:kP v):Yd (na m v) λq=>q.2.1=0/\GJ m m.aa q.1/\q.1.bh=v/\q.1.ar=m.ar:=by
 obtain⟨q,e,h1,h2⟩:=KO h hs hv;obtain⟨q',e',m2,rfl,ha⟩:=KE (R:=λ_=>True) (λ_ _ _=>trivial) (λ_ _=>trivial) h hs hv trivial
 rw[e]at e';obtain rfl:=Option.some.inj e';obtain⟨_,_,_,e4,e5,_⟩:=Cz (gk m v);obtain⟨s,es,_⟩:=Lv m m2;have g1:(gk m v).bh=v:=by unfold gk;split<;>rfl
 have g2:(gk m v).ar=m.ar:=by unfold gk;split<;>rfl
 refine⟨_,e,h1,h2,?_,?_⟩
 ·show(sM m m2).bh=v;rw[es];exact ha.env.2.2.2.1.trans (e4.trans g1)
 ·show(sM m m2).ar=m.ar;rw[es];exact ha.env.2.2.2.2.trans (e5.trans g2)
structure VR (x y:aS):Prop where
 qZ:y.aC=x.aC
 round:y.Round=x.Round
 next:y.Next=x.Next
 timer:y.Timer=x.Timer
 heard:y.ah.ar=x.ah.ar
 sw:x.aC.aR≠[]->y.ah.aP=1->aM y.ah.aw=true->y.ah.bh=mi x.aC.aR
def Si(h:wc nd sl k x):Yd (jm x) λy=>ra nd sl k y/\pA x.ah y.ah/\VR x y:=by
 obtain⟨y,e,h1,h2,_⟩:=B6 h;refine⟨y,e,h1,h2,?_⟩;unfold jm at e;simp only[etas,aQ,X9 h.qZ.lG,dg,Qa,zx h.lR h.oP]at e
 have same:(x.aC.aR≠[]->x.ah.aP=1->aM x.ah.aw=true->x.ah.bh=mi x.aC.aR)->∀{a:Bool} {b:ByteArray},y=⟨x.aC,x.ah,x.Timer,x.Round,x.Next,a,b⟩->VR x y:=λhp a b ey=>by
  subst ey;exact⟨rfl,rfl,rfl,rfl,rfl,hp⟩
 by_cases hc:x.aC.aR=[]
 ·rw[hc]at e;exact same (λhn=>absurd hc hn) (Option.some.inj e).symm
 ·have hlv:kP (mi x.aC.aR):=h.qZ.lG.qJ _ (H2 hc);rw[Qg hc]at e
  by_cases h3:x.ah.aP=1
  ·rw[Qg h3]at e
   cases hz:aM x.ah.aw with
   |false=>
    rw[hz]at e;exact same (λ_ _ e2=>by rw[hz]at e2;cases e2) (Option.some.inj e).symm
   |true=>
    rw[hz]at e
    by_cases hp:mi x.aC.aR=x.ah.bh
    ·rw[Qg hp]at e;exact same (λ_ _ _=>hp.symm) (Option.some.inj e).symm
    ·rw[Qh hp]at e;obtain⟨q,eq,q0,hn,qp,qh⟩:=YA h.lR h.oP hlv;rw[eq]at e;simp only[Qk,Qp,Qa,q0,decide_true,zx hn.inv hn.seq]at e;obtain rfl:=Option.some.inj e;exact⟨rfl,rfl,rfl,rfl,qh,λ_ _ _=>qp⟩
  ·rw[Qh h3]at e;exact same (λ_ e2=>absurd e2 h3) (Option.some.inj e).symm
end
end
section
def ae7{c:Int}(hc:0<=c)(hc2:c<=1000000):tc c=rR c:=by
 have h1:∀d:Int,0<=d->d<=1000000->aA .i64 d 1=d+1:=λd a b=>bH (by omega) (by omega)
 unfold tc rR;have hm:0<=bD (dJ c 11) 0/\bD (dJ c 11) 0<=11:=by unfold bD dJ;split<;>split<;>omega
 rw[h1 _ hm.1 (by omega)]
 by_cases h:12<=c
 ·have:bD (dJ c 11) 0=11:=by unfold bD dJ;split<;>split<;>omega
  rw[Qg h,this];rfl
 ·have e1:bD (dJ c 11) 0=c:=by unfold bD dJ;split<;>split<;>omega
  have e2:bD (c+1) 1=c+1:=by unfold bD;split<;>omega
  rw[Qh h,Ql,h1 c hc hc2,e1,e2]
section
variable {m : af} (h : br m) (hs : fL m)
 include h hs
end
section
variable {nd sl k : Int} {x : aS} (h : ra nd sl k x) (hk : k <= 999998)
 include h hk
theorem UD{m:ay}(hm:uY m)(hne:m.al≠nd):sQ x m=iq x m:=by
 have p:=h.pre;have hsq:1<=x.aC.aG/\x.aC.aG<=1000000:=⟨p.vT.1,by have:=p.vT.2;omega⟩
 have hne2:m.al≠x.aC.al:=by rw[p.yt];exact hne
 unfold sQ wh u7 yR iq;simp only[ay.eta,etas,aQ,Ct h (by omega),KL h (by omega),Sy p,aez p.qZ hsq hm hne2,X8 p.qZ hsq hm hne2,Qa,Qo,Ql]
 have hs:=Kw (b:=x.aC) (Gj p.qZ hm hne2)
 cases tB x.aC.ar m with
 |true=>rfl
 |false=>
  have h1:=p.vT;have hp:wc nd sl (k+1) {x with aC:=kN x.aC {x.aC with ar:=ib x.aC.ar m}}:=⟨p.lR,p.oP,p.aD,p.aI,hs.ok,by show 1<=(kN x.aC {x.aC with ar:=ib x.aC.ar m}).aG/\(kN x.aC {x.aC with ar:=ib x.aC.ar m}).aG<=1+(k+1);rcases hs.seq with e|e<;>rw[e]<;>(try show 1<=x.aC.aG/\x.aC.aG<=1+(k+1))<;>omega,hs.aD.trans p.yt,hs.aI.trans p.DF,hs.aO.trans p.aO,p.timer,p.round,p.next⟩
  simp only[Qq,Qu,decide_true,Qo,Ql,Qk,Qa,Le hp];obtain⟨y,ey,_⟩:=B6 hp;rw[ey];rfl
theorem Xd{e:aj}(he:yQ x.ah e\/(cQ e.aa/\(bc e=false\/e.al=x.ah.al\/e.aK≠x.ah.aK))):tY x e=oZ x e:=by
 have p:=h.pre;unfold tY wg wi Bi oZ;simp only[etas,aQ,Ct h (by omega),KL h (by omega),Sy p,Qa,Qo,Ql]
 rcases he with he|⟨ht,hv⟩
 ·rw[YW p.lR p.oP he];obtain⟨q,e1,hq⟩:=SL p.lR p.oP he;rw[e1];rcases hq with⟨q0,hn⟩|q9
  ·simp only[Qa,q0,decide_true,Qo,Ql,Qk,Le (p.V6 hn)];obtain⟨y,ey,_⟩:=B6 (p.V6 hn);rw[ey];rfl
  ·simp only[Qa,q9];rfl
 ·rw[U3 p.lR p.oP ht hv,acG p.lR p.oP ht hv];rfl
end
def agc{nd sl:Int}(hv0:0<=nd)(hv1:nd<10)(hs0:1<=sl)(hs1:sl<=1000000){t:ak}{own:ByteArray}{now:Int}(ht:dO t)(ho:own.size<=200)(h0:0<=now)(h1:now<=200):qv nd sl t own now=qV nd sl t own now:=by
 unfold qv qV Bh;simp only[etas,Qg h0,Qg h1,Qh (by omega:¬now<0),Qh (by omega:¬(200:Int)<now),Ql,Qk,Qo,Qa]
 rw[ZV hv0 hv1 hs0 hs1 ht,ag6 hv0 hv1 hs0 hs1 ht,acE ht hv0 hv1 (by omega) hs1 ho]
 obtain⟨q,eq,q0,g1,g2,g3,g4,g5⟩:=N9 ht hv0 hv1 (show(0:Int)<=sl by omega) hs1 ho
 obtain⟨w,ew,w1,w2⟩:=Wi (c:=1) (by omega) (by omega)
 have hadd2:aA .i64 now w=now+w:=bH (by omega) (by omega)
 have ew2:tc 1=some w:=(ae7 (by omega) (by omega)).trans ew
 obtain⟨m1,m2⟩:=Oh (aD:=nd) (aI:=sl) hv0 hv1 hs0 hs1 ht;have ht0:Ci ⟨0, -1⟩:=⟨by decide,by decide,by decide,by decide⟩
 have hp:wc nd sl 0 ⟨q.1,KN nd sl t,⟨0, -1⟩,1,now+w,false,bE⟩:=⟨m1,m2,rfl,rfl,g1,by show 1<=q.1.aG/\q.1.aG<=1+0;rw[g5];decide,g2,g3,g4,ht0,⟨(by decide:(1:Int)<=1),(by decide:(1:Int)<=1000)⟩,by show 0<=now+w/\now+w<=212;omega⟩
 rw[eq];simp only[Qa,decide_true,Qo,Ql,q0,ew,ew2,hadd2,Le hp]
end
section
section
variable {nd sl k : Int} {x : aS} (h : ra nd sl k x) (hk : k <= 999998)
 include h hk
theorem afI{m:ay}(hm:uY m)(hne:m.al≠nd):Yd (iq x m) λq=>(tB x.aC.ar m=false/\q.2.1=0/\ra nd sl (k+1) q.1/\pA x.ah q.1.ah/\tB q.1.aC.ar m=true/\(q.1.aC.aR≠[]->q.1.ah.aP=1->aM q.1.ah.aw=true->q.1.ah.bh=mi q.1.aC.aR))\/(tB x.aC.ar m=true/\q.2.1=9):=by
 have p:=h.pre;have h1:=p.vT;have hsq:1<=x.aC.aG/\x.aC.aG<=1000000:=⟨p.vT.1,by omega⟩
 have hne2:m.al≠x.aC.al:=by rw[p.yt];exact hne
 have hno:=Gj p.qZ hm hne2;have hs:=Kw (b:=x.aC) hno;have hh:=(JY (b:=x.aC) hno).1;unfold iq;simp only[ay.eta,etas,Ct h (by omega),X8 p.qZ hsq hm hne2,Qa,Qo,Ql]
 cases ho:tB x.aC.ar m with
 |true=>exact .some (.inr ⟨by trivial,rfl⟩)
 |false=>
  have hq:(kN x.aC {x.aC with ar:=ib x.aC.ar m}).aG=x.aC.aG\/(kN x.aC {x.aC with ar:=ib x.aC.ar m}).aG=x.aC.aG+1:=hs.seq
  have hp:wc nd sl (k+1) {x with aC:=kN x.aC {x.aC with ar:=ib x.aC.ar m}}:=⟨p.lR,p.oP,p.aD,p.aI,hs.ok,by show 1<=(kN x.aC {x.aC with ar:=ib x.aC.ar m}).aG/\(kN x.aC {x.aC with ar:=ib x.aC.ar m}).aG<=1+(k+1);omega,hs.aD.trans p.yt,hs.aI.trans p.DF,hs.aO.trans p.aO,p.timer,p.round,p.next⟩
  simp only[Qq,Qu,decide_true,Qo,Ql];refine Yd.bind (Si hp) λy ⟨hy,hst,hq⟩=> .some (.inl ⟨by trivial,rfl,hy,hst,?_,λh1 h2 h3=> ?_⟩)
  ·show tB y.aC.ar m=true;rw[hq.qZ];show tB (kN x.aC {x.aC with ar:=ib x.aC.ar m}).ar m=true
   rw[hh];exact List.any_eq_true.2 ⟨m,PK.2 (.inl rfl),by simp⟩
  ·have e:=hq.qZ;simp only at h1 h2 h3 ⊢;rw[e]at h1 ⊢;exact hq.sw h1 h2 h3
end
def aci{t:ak}{v aI:Int}{own:ByteArray}(ht:dO t)(h0:0<=v)(h1:v<10)(h2:0<=aI)(h3:aI<=1000000)(ho:own.size<=200):Yd (nu v aI t own) λq=>q.1.ar=[]:=by
 have hn:c5 ⟨v,aI,1,1,t,own,[],[],[],[]⟩:=⟨⟨ht,h0,h1,h2,h3,by show(1:Int)<=1;omega,by show(1:Int)<=1000;omega⟩,ho,.nil,.nil,.nil,λx hx=>absurd hx QR,λx hx=>absurd hx QR,List.Pairwise.nil⟩
 unfold nu;simp only[etas,eH ht];rw[Qh (by omega:¬v<0),Qh (by omega:¬(10:Int)<=v),Qh (by omega:¬aI<0),Qh (by omega:¬(1000000:Int)<aI),Qh (by omega:¬(200:Int)<((own.size:Nat):Int))]
 simp only[Ql,Qa,decide_true,Qo];rw[HA hn.Jl ⟨by show(0:Int)<=1;omega,by show(1:Int)<=1000000;omega⟩ hn,Qa]
 exact .some (JY hn).1
def aeM{nd sl:Int}(hv0:0<=nd)(hv1:nd<10)(hs0:1<=sl)(hs1:sl<=1000000){t:ak}{own:ByteArray}{now:Int}(ht:dO t)(ho:own.size<=200)(h0:0<=now)(h1:now<=200):Yd (qV nd sl t own now) λq=>q.2.1=0/\ra nd sl 0 q.1/\q.1.aC.ar=[]/\q.1.ah.ar=[]/\q.1.Round=1/\∀w,rR 1=some w->q.1.Next=now+w:=by
 unfold qV;simp only[etas];rw[Qh (by omega:¬now<0),Qh (by omega:¬(200:Int)<now)]
 simp only[Ql,Qa];rw[ZV hv0 hv1 hs0 hs1 ht];simp only[Qa,decide_true,Qo,Ql];obtain⟨q,eq,q0,g1,g2,g3,g4,g5⟩:=N9 ht hv0 hv1 (show(0:Int)<=sl by omega) hs1 ho
 obtain⟨q',eq',hh⟩:=aci ht hv0 hv1 (show(0:Int)<=sl by omega) hs1 ho
 rw[eq]at eq';obtain rfl:=Option.some.inj eq';rw[eq,Qa,q0];simp only[decide_true,Qo,Ql];obtain⟨w,ew,w1,w2⟩:=Wi (c:=1) (by omega) (by omega)
 have hadd2:aA .i64 now w=now+w:=bH (by omega) (by omega)
 rw[ew,Qa,hadd2];obtain⟨m1,m2⟩:=Oh (aD:=nd) (aI:=sl) hv0 hv1 hs0 hs1 ht;have ht0:Ci ⟨0, -1⟩:=⟨by decide,by decide,by decide,by decide⟩
 refine Yd.bind (Si (k:=0) (x:=⟨q.1,KN nd sl t,⟨0, -1⟩,1,now+w,false,bE⟩) ⟨m1,m2,rfl,rfl,g1,by show 1<=q.1.aG/\q.1.aG<=1+0;rw[g5];decide,g2,g3,g4,ht0,⟨(by decide:(1:Int)<=1),(by decide:(1:Int)<=1000)⟩,by show 0<=now+w/\now+w<=212;omega⟩) λy ⟨hy,_,hsq⟩=> .some ⟨rfl,hy,?_,hsq.heard,hsq.round,λw' hw'=> ?_⟩
 ·show y.aC.ar=[];rw[hsq.qZ];exact hh
 ·obtain rfl:=Option.some.inj hw';exact hsq.next
end
section
def Yd.is{α:Type}{o:Option α}{x:α}(h:Yd o λr=>r=x):o=Option.some x:=by
 obtain⟨y,e,rfl⟩:=h;exact e
def UP{α:Type}{P:α->Bool}:∀{l:List α} {i:Nat},i<=l.length->(∀j,j<i->∃y,l[j]?=some y/\P y=true)->(∀y,l[i]?=some y->P y=false)->(l.takeWhile P).length=i
 |[],i,h,_,_=>by simp at h;subst h;rfl
 |x::l,0,_,_,h2=>by rw[List.takeWhile_cons,h2 x rfl];rfl
 |x::l,i+1,h,h1,h2=>by
  obtain⟨y,e,hy⟩:=h1 0 (by omega)
  obtain rfl:x=y:=by simpa using e
  rw[List.takeWhile_cons,hy,Qr rfl,QE,UP (by simpa using h) (λj hj=>by simpa using h1 (j+1) (by omega)) λy hy=>h2 y (by simpa using hy)]
def Fk(nd k:Int)(x:aS):Prop:=1<=x.ah.aK/\x.ah.aK<=1000000/\ra nd x.ah.aK k x
def Fk.le{nd k k':Int}{x:aS}(h:Fk nd k x)(hk:k<=k'):Fk nd k' x:=⟨h.1,h.2.1,h.2.2.le hk⟩
def Fk.ahc{nd k k':Int}{x y:aS}(h:Fk nd k x)(hd:LB nd x.ah.aK k' x y):Fk nd k' y/\y.ah.aK=x.ah.aK:=by
 have e:=hd.1.pre.aI;exact⟨⟨by rw[e];exact h.1,by rw[e];exact h.2.1,by rw[e];exact hd.1⟩,e⟩
structure tH (nd k:Int) (p:aF):Prop where
 aD:p.al=nd
 n0:0<=nd
 n1:nd<10
 aO:dO p.aa
 len:p.aN.length<=8
 aI:∀x∈p.aN,Fk nd k x
 dn:p.aN.Pairwise λx y=>x.ah.aK<y.ah.aK
 same:∀x∈p.aN,x.ah.aa=p.aa
def tH.le{nd k k':Int}{p:aF}(h:tH nd k p)(hk:k<=k'):tH nd k' p:=⟨h.aD,h.n0,h.n1,h.aO,h.len,λx hx=>(h.aI x hx).le hk,h.dn,h.same⟩
def ahi{nd k:Int}{p:aF}(h:tH nd k p){C:aS->Option Bool}{S:ak->ak->Option Bool}(hC:∀x∈p.aN,C x=some true)(hS:∀x∈p.aN,S x.ah.aa p.aa=some true):
  aB (λ(v5:Int×Unit)=>
   bif (decide (v5.1<((List.length p.aN:Nat):Int)))then
   Option.bind (idx p.aN v5.1) λx6=>
   bb (λ(v7:Bool×Unit)=>bif v7.1 then Option.map Sum.inr (some false)else some (Sum.inl ((aA .i64 v5.1 (1:Int)),()))) λj8=>
   Option.bind (C x6) λr9=>
   bif (!r9)then j8 (true,())else
   bif (!decide (x6.ah.al=p.al))then j8 (true,())else
   Option.bind (S x6.ah.aa p.aa) λr10=>
   bif (!r10)then j8 (true,())else
   bif (decide ((0:Int)<v5.1))then
   Option.bind (idx p.aN (cU .i64 v5.1 (1:Int))) λx11=>j8 ((decide (x6.ah.aK<=x11.ah.aK)),())
   else j8 (false,())
   else Option.map Sum.inr (some true)) ((0:Int),())=some true:=by
 have hlen:=h.len;refine Yd.eq_true (Yd.list p.aN (by omega) (λi (_:Unit)=>(i,())) (λ_ _=>True) (λi x _ _ _ hx hi hd hw ha=> ?_) (λ_ _ hd=> ?_) (s:=()) trivial)
 ·simp only[hd,Qk,hw,Qa,hC x hx,hS x hx,Qo,Ql,Qg ((h.aI x hx).2.2.pre.aD.trans h.aD.symm),aQ]
  by_cases h0:(0:Int)<(i:Int)
  ·obtain⟨m,rfl⟩:∃m:Nat,i=m+1:=⟨i - 1,by omega⟩
   have hlt:=List.pairwise_iff_getElem.1 h.dn m (m+1) (by omega) hi (by omega)
   obtain rfl:p.aN[m+1]=x:=by rw[bg,Qv hi]at hw;exact Option.some.inj hw
   rw[Qg h0,Qk,pz (by omega) (by omega),show(((m+1:Nat):Int)) - 1=(m:Int)by omega,bg,Qv (show m<p.aN.length by omega),Qa,Qh (by omega),Ql,ha]
   exact .some ⟨(),rfl,trivial⟩
  ·rw[Qh h0,Ql,ha];exact .some ⟨(),rfl,trivial⟩
 ·simp only[hd,Ql];exact .some rfl
def nB(l:List aS)(n:Int):Nat:=(l.takeWhile λx=>decide (x.ah.aK<n)).length
def uk(l:List aS)(n:Int):Bool:=match l[nB l n]? with|some x=>decide (x.ah.aK=n)|none=>false
def LD(l:List aS)(n:Int):nB l n<=l.length:=Ks _ _
def ad5{l:List aS}{n:Int}{x:aS}(hx:x∈l.take (nB l n)):x.ah.aK<n:=by
 obtain⟨j,hj,rfl⟩:=List.getElem_of_mem hx;rw[List.length_take]at hj;obtain⟨y,e,hy⟩:=(Ap (λx:aS=>decide (x.ah.aK<n)) l).1 j (by show j<nB l n;omega)
 rw[List.getElem_take];rw[Qv (by omega)]at e
 obtain rfl:=Option.some.inj e;exact of_decide_eq_true hy
def ad6{l:List aS}(hs:l.Pairwise λx y=>x.ah.aK<y.ah.aK){n:Int}(ht:uk l n=false){x:aS}(hx:x∈l.drop (nB l n)):n<x.ah.aK:=by
 obtain⟨j,hj,rfl⟩:=List.getElem_of_mem hx;rw[List.length_drop]at hj;have hw:nB l n<l.length:=by omega
 have e:=Qv hw;have h1:=of_decide_eq_false ((Ap (λx:aS=>decide (x.ah.aK<n)) l).2 _ e)
 have h2:¬l[nB l n].ah.aK=n:=by
  unfold uk at ht;rw[e]at ht;exact of_decide_eq_false ht
 rw[List.getElem_drop];rcases Nat.eq_zero_or_pos j with rfl|hp
 ·show n<(l[nB l n]).ah.aK;omega
 ·have:=List.pairwise_iff_getElem.1 hs (nB l n) (nB l n+j) hw (by omega) (by omega)
  omega
def R2{l:List aS}{n:Int}(h:uk l n=true):∃x,l[nB l n]?=some x/\x.ah.aK=n:=by
 unfold uk at h;split at h
 ·rename_i x hx;exact⟨x,hx,of_decide_eq_true h⟩
 ·cases h
def XP{l:List aS}(hs:l.Pairwise λx y=>x.ah.aK<y.ah.aK){i:Nat}{x:aS}(hx:l[i]?=some x):nB l x.ah.aK=i:=by
 obtain⟨hi,rfl⟩:=Qw.1 hx;refine UP (by omega) (λj hj=>⟨_,Qv (show j<l.length by omega),?_⟩) λy hy=> ?_
 ·exact Qg (List.pairwise_iff_getElem.1 hs j i (by omega) hi hj)
 ·rw[hx]at hy;obtain rfl:=Option.some.inj hy;exact Qh (by omega)
def XX{l:List aS}(hs:l.Pairwise λx y=>x.ah.aK<y.ah.aK){i:Nat}{x:aS}(hx:l[i]?=some x):uk l x.ah.aK=true:=by
 unfold uk;rw[XP hs hx,hx];exact Qg rfl
def zP:aF:=⟨0,false,⟨0,[],[]⟩,[]⟩
structure Ly (nd k n:Int) (p:aF) (own:ByteArray) (now:Int) (s:aS):Prop where
 e:qV nd n p.aa own now=some (s,0,())
 ok:Fk nd k s
 aI:s.ah.aK=n
 aO:s.ah.aa=p.aa
def Gd(p:aF)(n:Int)(s:aS):aF:={p with aN:=p.aN.take (nB p.aN n)++[s]++p.aN.drop (nB p.aN n)}
def NA(p:aF)(n:Int)(s:aS):aF×Int×Unit:=if uk p.aN n=true then(zP,6,())else if p.aN.length=8 then(zP,3,())else(Gd p n s,0,())
def mw(p:aF)(n:Int)(s:aS):aF:=if uk p.aN n=true then p else Gd p n s
def ZH(p:aF)(i:Nat)(s:aS):aF:={p with aN:=p.aN.set i s}
def DQ(p:aF)(n:Int)(s:aS)(g:aS->Option (aS×Int×Unit)):Option (aF×Int×Unit):=
 if uk p.aN n=false/\p.aN.length=8 then some (zP,3,())else
 Option.bind (mw p n s).aN[nB (mw p n s).aN n]? λx=>Option.bind (g x) λr=>some (if r.2.1=0 then(ZH (mw p n s) (nB (mw p n s).aN n) r.1,0,())else(zP,r.2.1,()))
section
variable {nd k : Int} {p : aF} (h : tH nd k p)
 include h
theorem aaj{n:Int}(hn0:1<=n)(hn1:n<=1000000){own:ByteArray}(ho:own.size<=200){now:Int}(h0:0<=now)(h1:now<=200)(hk0:0<=k):∃s,Ly nd k n p own now s:=by
 obtain⟨⟨s,e,u⟩,e1,e2,e3,e4⟩:=afV h.n0 h.n1 hn0 hn1 h.aO ho h0 h1;obtain rfl:e=0:=e2;have hs:s.ah.aK=n:=e3.pre.aI;exact⟨s,e1,⟨by omega,by omega,by rw[hs];exact e3.le hk0⟩,hs,e4⟩
section
variable {n : Int} {own : ByteArray} {now : Int} {s : aS} (hs : Ly nd k n p own now s)
 include hs
theorem Vq(ht:uk p.aN n=false)(h8:p.aN.length≠8):tH nd k (Gd p n s):=by
 have hlen:=h.len;have hw:=LD p.aN n
 have e:∀x,x∈(Gd p n s).aN↔x∈p.aN\/x=s:=λx=>by
  show x∈p.aN.take _++[s]++p.aN.drop _↔_
  conv=>rhs;rw[<-List.take_append_drop (nB p.aN n) p.aN]
  simp only[Qz,Q5]
  grind
 refine⟨h.aD,h.n0,h.n1,h.aO,?_,λx hx=> ?_,?_,λx hx=> ?_⟩
 ·show(p.aN.take _++[s]++p.aN.drop _).length<=8;simp only[QB,List.length_take,List.length_drop,QE,QZ];omega
 ·rcases(e x).1 hx with hx|rfl
  ·exact h.aI x hx
  ·exact hs.ok
 ·show(p.aN.take (nB p.aN n)++[s]++p.aN.drop (nB p.aN n)).Pairwise _;have hp:=h.dn;rw[<-List.take_append_drop (nB p.aN n) p.aN,Qq69]at hp;rw[QL,Qq69];refine⟨hp.1,Q4.2 ⟨λy hy=> ?_,hp.2.1⟩,λx hx y hy=> ?_⟩
  ·rw[hs.aI];exact ad6 h.dn ht hy
  ·rcases QA.1 hy with rfl|hy
   ·rw[hs.aI];exact ad5 hx
   ·exact hp.2.2 x hx y hy
 ·rcases(e x).1 hx with hx|rfl
  ·exact h.same x hx
  ·exact hs.aO
theorem Vr(ht:uk p.aN n=false)(h8:p.aN.length≠8):(Gd p n s).aN[nB p.aN n]?=some s:=by
 have hw:=LD p.aN n;show(p.aN.take _++[s]++p.aN.drop _)[_]?=_;rw[QL,List.getElem?_append_right (by rw[List.length_take];omega),List.length_take,Nat.min_eq_left hw,Nat.sub_self]
 rfl
theorem Wg(hb:¬(uk p.aN n=false/\p.aN.length=8)):tH nd k (mw p n s)/\uk (mw p n s).aN n=true/\∃x,(mw p n s).aN[nB (mw p n s).aN n]?=some x/\x.ah.aK=n/\x∈(mw p n s).aN:=by
 have key:tH nd k (mw p n s)/\uk (mw p n s).aN n=true:=by
  unfold mw
  cases ht:uk p.aN n with
  |true=>exact⟨h,ht⟩
  |false=>
   have h8:p.aN.length≠8:=λe=>hb ⟨ht,e⟩
   have hi:=Vq h hs ht h8;refine⟨hi,?_⟩;have:=XX hi.dn (Vr h hs ht h8);rw[hs.aI]at this;exact this
 obtain⟨x,h1,h2⟩:=R2 key.2;exact⟨key.1,key.2,x,h1,h2,Q8 h1⟩
end
theorem acd{k':Int}(hk:k<=k'){i:Nat}{x y:aS}(hx:p.aN[i]?=some x)(hy:Fk nd k' y)(hs:y.ah.aK=x.ah.aK)(ht:y.ah.aa=x.ah.aa):tH nd k' (ZH p i y):=by
 have hm:=Q8 hx;obtain⟨hi,rfl⟩:=Qw.1 hx;refine⟨h.aD,h.n0,h.n1,h.aO,by show(p.aN.set i y).length<=8;rw[QY];exact h.len,λz hz=> ?_,?_,λz hz=> ?_⟩
 ·rcases List.mem_or_eq_of_mem_set (show z∈p.aN.set i y from hz)with hz|rfl
  ·exact(h.aI z hz).le hk
  ·exact hy
 ·show(p.aN.set i y).Pairwise _;rw[List.pairwise_iff_getElem];intro a b ha hb hab;rw[QY]at ha hb;have:=List.pairwise_iff_getElem.1 h.dn a b ha hb hab;rw[List.getElem_set,List.getElem_set]
  grind
 ·rcases List.mem_or_eq_of_mem_set (show z∈p.aN.set i y from hz)with hz|rfl
  ·exact h.same z hz
  ·exact ht.trans (h.same _ hm)
end
structure B1 (p q:aF):Prop where
 len:p.aN.length<=q.aN.length
 has:∀x∈p.aN,∃y∈q.aN,y.ah.aK=x.ah.aK/\pA x.ah y.ah
def B1.refl(p:aF):B1 p p:=⟨QI _,λx hx=>⟨x,hx,rfl,λe=>⟨e,rfl⟩⟩⟩
def V2{a b c:af}(h:pA a b)(h':pA b c):pA a c:=λe=>(let e1:=h e;let e2:=h' e1.1;⟨e2.1,e2.2.trans e1.2⟩)
def B1.trans{p q r:aF}(h:B1 p q)(h':B1 q r):B1 p r:=⟨QK h.len h'.len,λx hx=>by
 obtain⟨y,hy,e1,e2⟩:=h.has x hx;obtain⟨z,hz,e3,e4⟩:=h'.has y hy
 exact⟨z,hz,e3.trans e1,V2 e2 e4⟩⟩
def Pq(nd k:Int)(p:aF)(q:aF×Int×Unit):Prop:=(q.2.1=0/\tH nd k q.1/\B1 p q.1/\q.1.dF=p.dF)\/q.2.1≠0
section
variable {nd k : Int} {p : aF} (h : tH nd k p) {n : Int} {own : ByteArray} {now : Int} {s : aS} (hs : Ly nd k n p own now s)
 include h hs
theorem N7:B1 p (mw p n s)/\(∀x∈p.aN,x∈(mw p n s).aN)/\∀x∈(mw p n s).aN,x∈p.aN\/x=s:=by
 unfold mw;split
 ·exact⟨B1.refl p,λx hx=>hx,λx hx=> .inl hx⟩
 ·have e:∀x,x∈(Gd p n s).aN↔x∈p.aN\/x=s:=λx=>by
   show x∈p.aN.take _++[s]++p.aN.drop _↔_
   conv=>rhs;rw[<-List.take_append_drop (nB p.aN n) p.aN]
   simp only[Qz,Q5]
   grind
  refine⟨⟨?_,λx hx=>⟨x,(e x).2 (.inl hx),rfl,λe=>⟨e,rfl⟩⟩⟩,λx hx=>(e x).2 (.inl hx),λx hx=>(e x).1 hx⟩
  show _<=(p.aN.take _++[s]++p.aN.drop _).length;simp only[QB,List.length_take,List.length_drop,QE,QZ];omega
theorem adr{k':Int}(hk:k<=k'){g:aS->Option (aS×Int×Unit)}(hg:∀x,Fk nd k x->x.ah.aK=n->Yd (g x) λq=>(q.2.1=0/\LB nd x.ah.aK k' x q.1/\q.1.ah.aa=x.ah.aa)\/q.2.1≠0):
  Yd (DQ p n s g) λq=>Pq nd k' p q/\(q.2.1=0->(∀x∈p.aN,x.ah.aK≠n->x∈q.1.aN)/\(∀y∈q.1.aN,y∈p.aN\/y.ah.aK=n)/\∃y∈q.1.aN,y.ah.aK=n):=by
 unfold DQ;split
 ·exact .some ⟨.inr (by decide),λe=>by cases e⟩
 ·rename_i hb;obtain⟨hi,ht,x,hx,hxn,hxm⟩:=Wg h hs hb;obtain⟨g1,g2,g3⟩:=N7 h hs;rw[hx,Qa];refine(hg x (hi.aI x hxm) hxn).bind λr hr=> .some ?_
  rcases hr with⟨r0,hd,hrt⟩|r0
  ·rw[Qr r0];obtain⟨d1,d2⟩:=(hi.aI x hxm).ahc hd;have hw:=(Qw.1 hx).1;have hwx:=(Qw.1 hx).2
   have hmem:∀z,z∈(mw p n s).aN->z.ah.aK≠n->z∈(mw p n s).aN.set (nB (mw p n s).aN n) r.1:=λz hz hne=>by
    obtain⟨j,hj,rfl⟩:=List.getElem_of_mem hz;have hjw:nB (mw p n s).aN n≠j:=λe=>hne (by subst e;rw[hwx];exact hxn)
    have:=Q0 (l:=(mw p n s).aN.set (nB (mw p n s).aN n) r.1) (n:=j) (by rw[QY];exact hj)
    rw[List.getElem_set_ne hjw]at this;exact this
   have hin:r.1∈(mw p n s).aN.set (nB (mw p n s).aN n) r.1:=List.mem_set hw _;refine⟨.inl ⟨rfl,acd hi hk hx d1 d2 hrt,⟨by show _<=((mw p n s).aN.set _ _).length;rw[QY];exact g1.len,λz hz=> ?_⟩,?_⟩,λ_=>⟨λz hz hne=>hmem z (g2 z hz) hne,λz hz=> ?_,r.1,hin,d2.trans hxn⟩⟩
   ·by_cases hzn:z.ah.aK=n
    ·refine⟨r.1,hin,by rw[d2,hxn,hzn],?_⟩
     have hzx:z=x:=by
      obtain⟨j,hj⟩:=List.getElem?_of_mem (g2 z hz);have:=XP hi.dn hj;rw[hzn]at this;rw[this,hj]at hx;exact Option.some.inj hx
     rw[hzx];exact hd.2
    ·exact⟨z,hmem z (g2 z hz) hzn,rfl,λe=>⟨e,rfl⟩⟩
   ·show(mw p n s).dF=p.dF;unfold mw;split<;>rfl
   ·rcases List.mem_or_eq_of_mem_set (show z∈(mw p n s).aN.set _ _ from hz)with hz|rfl
    ·rcases g3 z hz with hz|rfl
     ·exact .inl hz
     ·exact .inr hs.aI
    ·exact .inr (d2.trans hxn)
  ·rw[Qs r0];exact⟨.inr r0,λe=>absurd e r0⟩
end
section
variable {nd k : Int} {p : aF} (h : tH nd k p) (hk0 : 0 <= k) (hk : k <= 999998)
 include h hk0 hk
section
variable {n : Int} {own : ByteArray} {now : Int} {s : aS} (hs : Ly nd k n p own now s)
 include hs
end
end
def Gz(l:eY):Bool:= !(decide (l.bC=1)||(decide (l.bC=2)&&decide (l.aK=l.ax.aK)))
 def pN(l:eY)(x:aS):Option (aS×Int×Unit):=bif decide (l.bC=1)then iq x l.ba else oZ x l.ax
structure NP (nd:Int) (l:eY):Prop where
 qZ:l.bC=1->uY l.ba/\l.ba.al=nd
 env:l.bC=2->cQ l.ax.aa/\(bc l.ax=true->dO l.ax.aa/\l.ax.al=nd)
 s0:1<=l.aK
 s1:l.aK<=1000000
def WT{nd k:Int}(hk:k<=999998){l:eY}{src:Int}(hl:NP src l)(hne:src≠nd)(hb:Gz l=false){x:aS}(hx:Fk nd k x)(hs:x.ah.aK=l.aK):
  Yd (pN l x) λq=>(q.2.1=0/\LB nd x.ah.aK (k+1) x q.1/\q.1.ah.aa=x.ah.aa)\/q.2.1≠0:=by
 unfold pN;refine Yd.cond (λk1=> ?_) (λk1=> ?_)
 ·obtain⟨g1,g2⟩:=hl.qZ (of_decide_eq_true k1);exact Wn hx.2.2 hk g1 (by rw[g2];exact hne)
 ·have k1:=of_decide_eq_false k1;simp only[Gz,Bool.not_eq_false',Qn,Qi,Qm]at hb;have hb:=hb.resolve_left k1;obtain⟨g1,g2⟩:=hl.env hb.1;refine(Ya hx.2.2 hk ?_).mono λy hy=>hy.imp (λhy=>⟨hy.1,⟨hy.2.1.1.le (by omega),hy.2.1.2⟩,hy.2.2⟩) id
  cases hv:bc l.ax with
  |true=>
   obtain⟨g3,g4⟩:=g2 hv;exact .inl ⟨hv,g3,by rw[hs,hb.2],by rw[g4,hx.2.2.pre.aD];exact hne⟩
  |false=>exact .inr ⟨g1,rfl⟩
structure ahz (g:aS->Option (aS×Int×Unit)) (l ys:List aS):Prop where
 len:ys.length=l.length
 at_:∀(i:Nat) (x:aS),l[i]?=some x->∃y,ys[i]?=some y/\g x=some (y,0,())
section
variable {nd k : Int} {p : aF} (h : tH nd k p) (hk0 : 0 <= k) (hk : k <= 999998)
 include h hk0 hk
end
end
section
def Lw{α β:Type}(o:Option (α×β×Unit)):(o.bind λr=>some (r.1,r.2.1,()))=o:=by cases o<;>rfl
section
variable {m : af} (h : br m) (hs : fL m)
 include h hs
end
def aby{nd k:Int}{l:List aS}(hlen:l.length<=8)(h:∀x∈l,Fk nd k x):hZ l=some l:=by
 unfold hZ;refine Yd.is (Yd.list l (by omega) (λi (s:List aS)=>(i,s,())) (λi s=>s=l.take i) (λi x s e _ hx hi hd hw ha=> ?_) (λs e hd=> ?_) (s:=[]) rfl)
 ·subst e;simp only[hd,Qk,hw,Qa,aS.eta,av.eta,af.eta,etas,Sy (h x hx).2.2.pre,ha];rw[bK (by simp;omega),Qk]
  refine .some ⟨_,rfl,?_⟩;rw[bg]at hw;rw[List.take_add_one,hw];rfl
 ·subst e;simp only[hd,Ql,Qq62];exact .some rfl
section
variable {nd k : Int} {p : aF} (h : tH nd k p) (hk : k <= 999998)
 include h hk
theorem Of:jN p=some true:=by
 have hlen:=h.len;have h0:=h.n0;have h1:=h.n1;have hn:=h.aD;unfold jN mH;simp only[aS.eta,av.eta,af.eta,etas,IU h.aO.sm,Aq h.aO,Qa,decide_true,Qo];rw[Qg (show(0:Int)<=p.al by omega),Qg (show p.al<10 by omega),Qh (show¬(8:Int)<(p.aN.length:Int)by omega)]
 simp only[Ql,Qk,Qa,Qo];refine ahi h (λx hx=>KL (h.aI x hx).2.2 (by omega)) λx hx=> ?_
 obtain⟨r,hr,hb⟩:=eqT (a:=x.ah.aa) (b:=p.aa) (h.aI x hx).2.2.pre.lR.aO.sm;rw[hr,hb.2 (h.same x hx)]
 omit hk in
theorem Sw{n:Int}(hn0:0<=n)(hn1:n<=1000000):bu p.aN n=some (((nB p.aN n:Nat):Int),uk p.aN n,()):=by
  have hlen:=h.len
  have hsub:∀y∈p.aN,cU .i64 y.ah.aK n=y.ah.aK - n:=λy hy=>by
   have h1:=(h.aI y hy).1;have h2:=(h.aI y hy).2.1;exact pz (by omega) (by omega)
  unfold bu;refine(Gw p.aN (by omega) (λy=>decide (y.ah.aK<n)) (h.dn.imp λ{x y} hxy hy=>by simp only[Qi]at hy ⊢;omega) (fin:=λk=>some (((k:Nat):Int),(match p.aN[k]? with|some y=>decide (y.ah.aK=n)|none=>false),())) (λi j m y hd hj hm hadd hx=> ?_) (λi hd hi=> ?_)).trans rfl
  ·have hy:y∈p.aN:=by rw[bg]at hx;exact Q8 hx
   have hc:decide (y.ah.aK - n<0)=decide (y.ah.aK<n):=by rw[decide_eq_decide];omega
   simp only[hd,hm,hadd,hx,aS.eta,av.eta,af.eta,etas,kH,hsub y hy,hc,Qa,Qk];cases decide (y.ah.aK<n)<;>rfl
  ·simp only[hd,Ql]
   by_cases hi2:i<p.aN.length
   ·have hc:decide (p.aN[i].ah.aK - n=0)=decide (p.aN[i].ah.aK=n):=by rw[decide_eq_decide];omega
    rw[Qg (by omega:(i:Int)<(p.aN.length:Int))]
    simp only[Qk,bg,Qv hi2,Qa,aS.eta,av.eta,af.eta,etas,kH,hsub _ (Q0 hi2),hc,Qe]
   ·rw[Qh (by omega:¬(i:Int)<(p.aN.length:Int)),Qq72 (by omega)]
    rfl
section
variable {n : Int} {own : ByteArray} {now : Int} {s : aS} (hs : Ly nd k n p own now s) (ho : own.size <= 200) (h0 : 0 <= now) (h1 : now <= 200)
 include hs
 omit hk in
theorem aew(h8:p.aN.length≠8):dh p.aN ((nB p.aN n:Nat):Int) [s]=some (Gd p n s).aN:=by
  have hlen:=h.len;have hw:=LD p.aN n;unfold dh Bf;rw[Qg (by omega:(0:Int)<=((nB p.aN n:Nat):Int)),Qg (by omega:((nB p.aN n:Nat):Int)<=(p.aN.length:Int)),bK (by simp;omega)]
  rfl
  include ho h0 h1
 omit hk in
theorem abv:qv p.al n p.aa own now=some (s,0,()):=by
  have h2:=hs.aI;have h3:=hs.ok.1;have h4:=hs.ok.2.1;rw[<-hs.e,h.aD];exact agc h.n0 h.n1 (by omega) (by omega) h.aO ho h0 h1
theorem abu:lN p n own now=some (if p.dF=true then(p,0,())else NA p n s):=by
 have h2:=hs.aI;have h3:=hs.ok.1;have h4:=hs.ok.2.1;unfold lN pf NA;simp only[aS.eta,av.eta,af.eta,etas,aF.eta,aQ,Of h hk,kF h.aO.sm,aby h.len h.aI,Qa,Qo,Ql,Sw h (n:=n) (by omega) (by omega),abv h hs ho h0 h1]
 rw[Bool.cond_eq_ite]
 by_cases hst:p.dF=true
 ·rw[Qr hst,Qr hst];rfl
 ·rw[Qs hst,Qs hst]
  cases uk p.aN n with
  |true=>rfl
  |false=>
   by_cases h8:p.aN.length=8
   ·simp[h8,zP]
   ·rw[Qh (by omega)]
    simp only[Ql,Qk,Qa,decide_true,Qo,aew h hs h8,Qq,Qu,Qs h8];rfl
end
 def RP(g:aS->Option (aS×Int×Unit))(n:Int)(v4:Int×aF×(List aS)×Unit):Option (aF×Int×Unit):=
 Option.bind (bif (!decide (v4.1=(0:Int)))then some (!decide (v4.1=(6:Int)))else some false) λb6=>
 bif b6 then
 bif (!decide (v4.1=(0:Int)))then some (zP,v4.1,())else some ((aF.mk v4.2.1.al v4.2.1.dF v4.2.1.aa v4.2.2.1),(0:Int),())
 else
 Option.bind (bu v4.2.2.1 n) λr7=>
 Option.bind (idx v4.2.2.1 r7.1) λx8=>
 Option.bind (v4.2.2.1[(Int.toNat r7.1)]?) λx9=>
 Option.bind (g x9) λr10=>
 bb (λ(v11:aF×(List aS)×Unit)=>
 bif (!decide (r10.2.1=(0:Int)))then some (zP,r10.2.1,())else some ((aF.mk v11.1.al v11.1.dF v11.1.aa v11.2.1),(0:Int),())) λj12=>
 bif (decide (r10.2.1=(0:Int)))then
 Option.bind (idx v4.2.2.1 r7.1) λx13=>
 Option.bind (v4.2.2.1[(Int.toNat r7.1)]?) λx14=>
 j12 ((aF.mk v4.2.1.al v4.2.1.dF v4.2.1.aa ([]:List aS)),(v4.2.2.1.set (Int.toNat r7.1) r10.1),())
 else
 j12 ((aF.mk v4.2.1.al v4.2.1.dF v4.2.1.aa ([]:List aS)),v4.2.2.1,())
 omit hk in
theorem Y2{n:Int}(hn0:0<=n)(hn1:n<=1000000){x:aS}(hx:p.aN[nB p.aN n]?=some x){e:Int}(he:e=0\/e=6)(g:aS->Option (aS×Int×Unit)):
   RP g n (e,⟨p.al,p.dF,p.aa,[]⟩,p.aN,())=Option.bind (g x) λr=>some (if r.2.1=0 then(ZH p (nB p.aN n) r.1,0,())else(zP,r.2.1,())):=by
  have hb:(Option.bind (bif (!decide (e=(0:Int)))then some (!decide (e=(6:Int)))else some false) λb6=>(some b6:Option Bool))=some false:=by rcases he with rfl|rfl<;>rfl
  unfold RP;simp only[Sw h hn0 hn1,Qa,bg,hx,QV,aQ];rcases he with rfl|rfl
  all_goals
   simp only[decide_true,Qo,Ql,Qa,Qk,Qp,show decide ((6:Int)=0)=false from rfl]
   congr 1
   funext r
   by_cases hr:r.2.1=0
   ·rw[Qg hr,Qr hr];rfl
   ·rw[Qh hr,Qs hr];rfl
section
variable {n : Int} {own : ByteArray} {now : Int} {s : aS} (hs : Ly nd k n p own now s) (ho : own.size <= 200) (h0 : 0 <= now) (h1 : now <= 200)
 include hs ho h0 h1
 omit hk in
theorem abx{g g':aS->Option (aS×Int×Unit)}(hg:∀x,Fk nd k x->x.ah.aK=n->g x=g' x):
   (bb (RP g n) λj5=>
    Option.bind (bu p.aN n) λr15=>
    bif r15.2.1 then j5 ((6:Int),(aF.mk p.al p.dF p.aa ([]:List aS)),p.aN,())else
    bif (decide (((List.length p.aN:Nat):Int)=(8:Int)))then j5 ((3:Int),(aF.mk p.al p.dF p.aa ([]:List aS)),p.aN,())else
    Option.bind (qv p.al n p.aa own now) λr16=>
    bb (λ(v17:aF×(List aS)×Unit)=>j5 (r16.2.1,(aF.mk v17.1.al v17.1.dF v17.1.aa ([]:List aS)),v17.2.1,())) λj18=>
    bif (decide (r16.2.1=(0:Int)))then
    Option.bind (dh p.aN r15.1 [r16.1]) λr19=>j18 ((aF.mk p.al p.dF p.aa ([]:List aS)),r19,())
    else j18 ((aF.mk p.al p.dF p.aa ([]:List aS)),p.aN,()))=DQ p n s g':=by
  have h2:=hs.aI;have h3:=hs.ok.1;have h4:=hs.ok.2.1
  have fin:¬(uk p.aN n=false/\p.aN.length=8)->∀e:Int,e=0\/e=6->RP g n (e,⟨(mw p n s).al,(mw p n s).dF,(mw p n s).aa,[]⟩,(mw p n s).aN,())=DQ p n s g':=λhb e he=>by
   obtain⟨hi,ht,x,hx,hxn,hxm⟩:=Wg h hs hb;rw[Y2 hi (by omega) (by omega) hx he,hg x (hi.aI x hxm) hxn]
   unfold DQ;rw[Qs hb,hx];rfl
  rw[aQ,Sw h (by omega) (by omega),Qa,abv h hs ho h0 h1]
  cases ht:uk p.aN n with
  |true=>
   have:=fin (λe=>by rw[ht]at e;cases e.1) 6 (.inr rfl)
   unfold mw at this;rw[Qr ht]at this;exact this
  |false=>
   by_cases h8:p.aN.length=8
   ·rw[Qg (by omega)]
    unfold DQ;rw[Qr ⟨ht,h8⟩];rfl
   ·have:=fin (λe=>h8 e.2) 0 (.inl rfl)
    unfold mw at this;rw[Qs (by rw[ht];simp)]at this
    rw[Qh (by omega)]
    simp only[Ql,Qk,Qa,decide_true,aew h hs h8,aQ,<-this];rfl
end
theorem afP{l:eY}{src:Int}(hl:NP src l)(hne:src≠nd){now:Int}(h0:0<=now)(h1:now<=200){s:aS}(hs:Ly nd k l.aK p (ByteArray.mk #[48]) now s):
  kI p l now=if p.dF=true then some (p,0,())else if Gz l=true then some (zP,1,())else DQ p l.aK s (pN l):=by
 unfold kI ph Gz;simp only[aS.eta,av.eta,af.eta,ay.eta,aj.eta,eY.eta,etas,aF.eta,Of h hk,kF h.aO.sm,aby h.len h.aI,Qa,Qo,Ql];rw[Lw,Bool.cond_eq_ite]
 by_cases hst:p.dF=true
 ·rw[Qr hst,Qr hst]
 ·rw[Qs hst,Qs hst]
  by_cases k1:l.bC=1
  ·have h1':=hl.qZ k1;rw[Qg k1,Qk,Bool.true_or,Qo,Qs (by simp)]
   refine abx h hs (by decide) h0 h1 (g:=λx=>jV x l) (g':=pN l) λx hx hxs=> ?_
   show jV x l=pN l x;unfold jV pN;simp only[aS.eta,av.eta,af.eta,ay.eta,etas,UD hx.2.2 hk h1'.1 (by rw[h1'.2];exact hne),Qg k1,Qk]
   exact Lw _
  ·rw[Qh k1,Ql,Bool.false_or]
   by_cases k2:l.bC=2
   ·by_cases k3:l.aK=l.ax.aK
    ·obtain⟨g1,g2⟩:=hl.env k2;rw[Qg k2,Qg k3,Qk,Qa,Qk,Bool.and_self,Qo,Qs (by simp)]
     refine abx h hs (by decide) h0 h1 (g:=λx=>jU x l) (g':=pN l) λx hx hxs=> ?_
     show jU x l=pN l x;unfold jU pN
     have he:yQ x.ah l.ax\/(cQ l.ax.aa/\(bc l.ax=false\/l.ax.al=x.ah.al\/l.ax.aK≠x.ah.aK)):=by
      cases hv:bc l.ax with
      |true=>
       obtain⟨g3,g4⟩:=g2 hv;exact .inl ⟨hv,g3,by rw[hxs,k3],by rw[g4,hx.2.2.pre.aD];exact hne⟩
      |false=>exact .inr ⟨g1,.inl rfl⟩
     simp only[aS.eta,av.eta,af.eta,aj.eta,etas,Xd hx.2.2 hk he,Qh k1,Ql];exact Lw _
    ·rw[Qg k2,Qh k3];rfl
   ·rw[Qh k2];rfl
end
end
section
def abC{t:ak}(ht:dO t):wT 0 t=some (⟨0,false,t,[]⟩,0,()):=by
 unfold wT;simp only[etas,Fx ht.sm,Aq ht,Qa];rfl
def abH{t:ak}(ht:dO t):tH 0 0 ⟨0,false,t,[]⟩:=⟨rfl,by decide,by decide,ht,QS _,(λx hx=>by cases hx),List.Pairwise.nil,λx hx=>by cases hx⟩
def vl1{v:ByteArray}(h:kP v):VL [v]:=⟨λx hx=>by rw[Q5.1 hx];exact h,List.pairwise_singleton _ _,by simp⟩
def aan{s:eG}(hO:oW s){v:Int}(h0:0<=v)(h1:v<10):Yd (vM s v) λq=>oW q.2/\NP v q.1/\Gz q.1=false:=by
 unfold vM;refine Yd.bind (qS hO (by omega) (by omega) (by omega)) λp1 ⟨hO1,s0,s1,_⟩=> ?_
 have s1:=s1 (by omega)
 refine Yd.bind (sO hO1 (by omega)) λp2 ⟨hO2,_,_,_⟩=> ?_
 simp only[etas,ay.eta];refine Yd.cond (λ_=> ?_) (λ_=> ?_)
 ·refine Yd.bind (qS hO2 (by omega) (by omega) (by omega)) λp3 ⟨hO3,q0,_,_⟩=> ?_
  refine Yd.bind (GD hO3 (n:=4) (by omega) (by omega)) λp4 ⟨hO4,ht,_,_⟩=> ?_
  refine Yd.bind (C9 hO4) λp5 ⟨hO5,hv⟩=> ?_
  refine Yd.join (λw=>oW w.1/\uY w.2.1/\w.2.1.al=v) (λw ⟨g1,g2,g3⟩=> .some ⟨g1,⟨λ_=>⟨g2,g3⟩,λe=>(by cases e),by show 1<=p1.1;omega,by show p1.1<=1000000;omega⟩,rfl⟩) (λj' hj=> ?_)
  refine Yd.bind (sO hO5 (by omega)) λp8 ⟨hO8,_,_,_⟩=> ?_
  refine Yd.cond (λ_=> ?_) (λ_=>hj _ ⟨hO8,⟨h0,h1,q0,ht,vl1 (Hk hv),VL.nil⟩,rfl⟩)
  exact Yd.bind (C9 hO8) λp9 ⟨hO9,hv'⟩=>hj _ ⟨hO9,⟨h0,h1,q0,ht,vl1 (Hk hv),vl1 (Hk hv')⟩,rfl⟩
 ·refine Yd.bind (UM hO2 h0 h1 (by omega) (by omega) (n:=4) (by omega) (by omega)) λp10 ⟨hO10,he⟩=> ?_
  refine Yd.bind (sO hO10 (by omega)) λp11 ⟨hO11,_,_,_⟩=> ?_
  refine .some ⟨hO11,⟨λe=>(by cases e),λ_=>⟨he.aO.sm,λ_=>⟨he.aO,he.aD⟩⟩,by show 1<=p1.1;omega,by show p1.1<=1000000;omega⟩,?_⟩
  show Gz _=false;simp only[Gz,he.aI];simp
def aaf{nd k n:Int}{q:aF}(h:tH nd k q)(h1:∀y∈q.aN,y.ah.aK=n)(h2:∃y∈q.aN,y.ah.aK=n):∃y,q.aN=[y]/\y.ah.aK=n:=by
 obtain⟨y,hy,hn⟩:=h2;have hs:=h.dn
 cases hl:q.aN with
 |nil=>rw[hl]at hy;cases hy
 |cons a l=>
  cases l with
  |nil=>exact⟨a,rfl,h1 a (by rw[hl];exact Qx)⟩
  |cons b l=>
   rw[hl,Q4]at hs;have e1:=h1 a (by rw[hl];exact Qx)
   have e2:=h1 b (by rw[hl];exact Qy _ Qx)
   have:=hs.1 b Qx;omega
def Vy{t:ak}(ht:dO t){l:eY}{src:Int}(hl:NP src l)(hne:src≠0)(hb:Gz l=false){now:Int}(h0:0<=now)(h1:now<=200):
  Yd (kI ⟨0,false,t,[]⟩ l now) λq=>(q.2.1=0->∃y,q.1.aN=[y]/\y.ah.aK=l.aK/\tH 0 1 q.1)/\(∀m,l.bC=1->m=l.ba->q.2.1=0):=by
 have h:=abH ht;obtain⟨x,hs⟩:=aaj h hl.s0 hl.s1 (own:=ByteArray.mk #[48]) (by decide) h0 h1 (Int.le_refl 0)
 rw[afP h (by omega) hl hne h0 h1 hs,hb]
 simp only[Qq,Qu];obtain⟨q,e,hq1,hq2⟩:=adr h hs (show(0:Int)<=0+1 by omega) (g:=pN l) λy hy hys=>WT (by omega) hl hne hb hy hys
 refine⟨q,e,λq0=> ?_,λm k1 _=> ?_⟩
 ·rcases hq1 with⟨_,hi,_⟩|hq1
  ·obtain⟨_,g2,g3⟩:=hq2 q0;obtain⟨y,e1,e2⟩:=aaf hi (λy hy=>(g2 y hy).resolve_left λe=>(by cases e)) g3
   exact⟨y,e1,e2,hi⟩
  ·exact absurd q0 hq1
 ·have hb2:¬(uk ([]:List aS) l.aK=false/\([]:List aS).length=8):=λe=>by cases e.2
  unfold DQ at e;rw[Qs hb2]at e;obtain⟨hi,_,y,hy,hyn,hym⟩:=Wg h hs hb2;have hyx:y=x:=((N7 h hs).2.2 y hym).resolve_left λe=>(by cases e)
  rw[hy,Qa,hyx]at e;obtain⟨g1,g2⟩:=hl.qZ k1;obtain⟨z,ez,_,_,hz,_⟩:=aeM (nd:=0) (sl:=l.aK) (by omega) (by omega) hl.s0 hl.s1 ht (own:=ByteArray.mk #[48]) (by decide) h0 h1
  have hx0:=hs.e;rw[ez]at hx0;obtain rfl:=Option.some.inj hx0;obtain⟨r,er,hr⟩:=afI hs.ok.2.2 (by omega) g1 (by rw[g2];exact hne)
  rw[show pN l x=iq x l.ba from by unfold pN;rw[Qg k1];rfl,er,Qa]at e
  rcases hr with⟨_,r0,_⟩|⟨hr,_⟩
  ·rw[Qr r0]at e;rw[<-Option.some.inj e]
  ·rw[show x.aC.ar=[]from hz]at hr
   cases hr
def aee:ve=some true:=by
 have ht:dO ⟨2,wy 2,[]⟩:=PO 2 (by omega) 2 (by omega) (by omega)
 have hF:tw 2 2=some ⟨2,wy 2,[]⟩:=ad1 2 (by omega) 2
 have hN:ri 0 ⟨2,wy 2,[]⟩=some (⟨0,false,⟨2,wy 2,[]⟩,[]⟩,0,()):=by
  unfold ri mH;simp only[etas,IU ht.sm,Aq ht,kF ht.sm,Qa];rfl
 unfold ve;refine Yd.eq_true ?_;simp only[hF,Qa,etas,aF.eta,hN];generalize hL:(eY.mk (1:Int) (3:Int) _ _)=L
 have hl:NP 1 L:=by
  subst hL;exact⟨λ_=>⟨⟨by decide,by decide,by decide,ht,vl1 (by decide),VL.nil⟩,rfl⟩,λe=>(by cases e),by decide,by decide⟩
 have hk1:L.bC=1/\L.aK=3:=by subst hL;exact⟨rfl,rfl⟩
 refine Yd.bind (Vy ht hl (by decide) (by simp[Gz,hk1.1]) (now:=4) (by decide) (by decide)) λq ⟨q1,q2⟩=> ?_
 have q0:=q2 _ hk1.1 rfl;obtain⟨y,e1,e2,hi⟩:=q1 q0;have hyi:idx q.1.aN (0:Int)=some y:=by rw[e1];rfl
 simp only[q0,decide_true,Qk,Qa,e2,hk1.2,hyi,aS.eta,av.eta,af.eta,etas,aF.eta,Of hi (by omega)]
 rw[show decide (((List.length q.1.aN:Nat):Int)=1)=true by rw[e1];rfl]
 exact .some rfl
end
section
def acA(l:List Int):og l=some true:=by
 unfold og;refine Yd.eq_true ?_;refine Yd.bind (afl l) λs hO=> ?_
 refine Yd.bind (GD hO (n:=4) (by omega) (by omega)) λp2 ⟨hO2,ht,_,_⟩=> ?_
 simp only[aS.eta,av.eta,af.eta,ay.eta,aj.eta,eY.eta,etas,aF.eta,aee,abC ht,Qa];refine Yd.join (λv=>oW v.1/\v.2.1.aN.length=8) (λv ⟨v1,v2⟩=> ?_) (λj5 hj5=> ?_)
 ·refine Yd.bind (aan v1 (by omega) (by omega)) λp6 ⟨hO6,hl,hb⟩=> ?_
  refine Yd.bind (GD hO6 (n:=4) (by omega) (by omega)) λp7 ⟨hO7,ht7,_,_⟩=> ?_
  rw[abC ht7,Qa];refine Yd.bind (Vy ht7 hl (by decide) hb (now:=3) (by decide) (by decide)) λq ⟨q1,_⟩=> ?_
  simp only[aQ,show decide (((List.length v.2.1.aN:Nat):Int)=8)=true from Qg (by omega),Qk,Qa]
  refine Yd.cond (λ_=> .some rfl) (λq0=> ?_)
  simp only[Bool.not_eq_false',Qi]at q0;obtain⟨y,e1,e2,_⟩:=q1 q0;rw[e1,show decide (((List.length [y]:Nat):Int)=1)=true from rfl,Qk,show idx [y] (0:Int)=some y from rfl,Qa,Qg e2,Qk]
  exact .some rfl
 ·refine Yd.DR (λ(v:Int×eG×aF×Unit)=>1<=v.1/\v.1<=9/\oW v.2.1/\tH 0 0 v.2.2.1/\v.2.2.1.dF=false/\(v.2.2.1.aN.length:Int)=v.1 - 1/\∀x∈v.2.2.1.aN,x.ah.aK<v.1) (λv=>(10 - v.1).toNat) ?_ ⟨by show(1:Int)<=1;decide,by show(1:Int)<=9;decide,hO2,abH ht,rfl,rfl,λx hx=>by cases hx⟩
  rintro⟨k,s',p,u⟩ ⟨a1,a2,a3,a4,a5,a6,a7⟩;simp only at a1 a2 a3 a4 a5 a6 a7;simp only;rw[Qg a2,Qk];refine Yd.bind (C9 a3) λp16 ⟨hO16,hv⟩=> ?_
  obtain⟨x,hs⟩:=aaj a4 a1 (show k<=1000000 by omega) (Hk hv).2 (now:=k) (by omega) (by omega) (Int.le_refl 0)
  have hth:uk p.aN k=false:=by
   cases hc:uk p.aN k with
   |false=>rfl
   |true=>
    obtain⟨y,hy,e⟩:=R2 hc;have:=a7 y (Q8 hy);omega
  rw[abu a4 (by omega) hs (Hk hv).2 (by omega) (by omega),a5,Qa]
  simp only[Qq,Qu];unfold NA;rw[hth];simp only[Qq,Qu]
  by_cases h8:p.aN.length=8
  ·rw[Qr h8,Qh (show¬k<=8 by omega),Qg (show 8<k by omega)]
   exact Yd.inr (o:=j5 (p16.2,p,())) (hj5 (p16.2,p,()) ⟨hO16,h8⟩)
  ·rw[Qs h8,Qg (show k<=8 by omega),Qh (show¬8<k by omega)]
   have hi:=Vq a4 hs hth h8;have hg:=Vr a4 hs hth h8
   have hth2:uk (Gd p k x).aN k=true:=by
    have:=XX hi.dn hg;rw[hs.aI]at this;exact this
   obtain⟨x2,hs2⟩:=aaj hi a1 (show k<=1000000 by omega) (own:=ByteArray.mk #[97]) (by decide) (now:=k) (by omega) (by omega) (Int.le_refl 0)
   have ha:aA .i64 k 1=k+1:=bH (by omega) (by omega)
   have hst:(Gd p k x).dF=false:=a5;have hw:=LD p.aN k;simp only[decide_true,Bool.xor_true,Qo,Ql,Qa,abu hi (by omega) hs2 (by decide) (by omega) (by omega),hst,Qq,Qu,NA,hth2,Qt,ha]
   refine .some ⟨⟨by show 1<=k+1;omega,by show k+1<=9;omega,hO16,hi,hst,?_,λy hy=> ?_⟩,by show(10 - (k+1)).toNat<(10 - k).toNat;omega⟩
   ·show(((p.aN.take _++[x]++p.aN.drop _).length:Nat):Int)=k+1 - 1;simp only[QB,List.length_take,List.length_drop,QE,QZ];omega
   ·have hr:=(N7 a4 hs).2.2 y;unfold mw at hr;rw[Qs (by rw[hth];simp)]at hr
    show y.ah.aK<k+1;rcases hr hy with hy|rfl
    ·have:=a7 y hy;omega
    ·have:=hs.aI;omega
end
end Go.Proofs.YtofedieniojipaaGreat
end
noncomputable section
namespace Go.TQ
open Go.RowKit
def ZP{w:World}{M:Nat->Prop}{G:Gh}{a:Option Addr}{len cap:Nat}{zs:List Int}(hM:∀b,¬M b)
  (h:(a=none/\len=0/\cap=0/\zs=[])\/∃x,a=some x/\len<=cap/\cap<=maxLen/\zs.length=cap/\(∀i,i<zs.length->w.cell? (x.add i)=some (.int .i64 (zs.getD i 0)))/\∀n∈zs,(Lit.int .i64 n).wf=true):
  bp w M G (.sl ((zs.take len).map λn=>[.int .i64 n])) (.slice a len cap):=by
 rcases h with⟨rfl,rfl,rfl,rfl⟩|⟨x,rfl,h1,h2,h3,h4,_⟩
 ·exact .slnil
 ·have hfl:∀l:List Int,(l.map λn=>[PV.int .i64 n]).flatten=l.map λn=> .int .i64 n:=by
   intro l
   induction l with
   |nil=>rfl
   |cons n l ih=>simp only[QD,List.flatten_cons,ih];rfl
  have hlen:((zs.take len).map λn=>[PV.int .i64 n]).length=len:=by simp;omega
  have:=bp.sl (w:=w) (M:=M) (G:=G) ((zs.take len).map λn=>[.int .i64 n]) x cap 1 ((zs.take len).map λn=> .int .i64 n) (λe he=>by obtain⟨n,_,rfl⟩:=QP.1 he;rfl) (by rw[hfl];simp)
   (λi v hv=> ?_) (λi y v hy hv=> ?_) (by rw[hlen];exact h1) h2
  ·rw[hlen]at this;exact this
  ·refine⟨?_,hM _⟩;rw[QT,Qb]at hv;obtain⟨n,hn,rfl⟩:=hv;rw[Qq68]at hn;split at hn
   ·have hi:i<zs.length:=(Qw.1 hn).1;rw[h4 i hi,List.getD_eq_getElem?_getD,hn];rfl
   ·cases hn
  ·rw[hfl]at hy;rw[QT]at hy hv;rw[Qb]at hy hv;obtain⟨n,hn,rfl⟩:=hy;obtain⟨n',hn',rfl⟩:=hv;rw[hn]at hn';injection hn' with e
   subst e;exact .int _ _
def YH{P:Program}{f:FuncId}{args:List PV}{vs:List Value}{w:World}(hG:GI w)(h:Con P f false [] args (.bool true) [])(hr:bo w (λ_=>False) dQ args vs):
  Calls P f vs.toArray w λe w'=>e= .returned (.bool true)/\Below w.heap.size w w':=by
 refine(h w (λ_=>False) (.nil hG) 0 0 [] vs (λhq=>by cases hq) ?_).mono ?_
 ·exact⟨hr.1,λi x v hx hv=>(hr.2 i x v hx hv).mono (cI.of λ_ _=>λhq=>by rcases hq with⟨hq,_⟩|hq;cases hq;exact hq) (Gh.le.refl _)⟩
 ·rintro e w' ⟨v,_,rfl,hv,_,hF⟩;refine⟨by rw[hv.np],hF.os,hF.tape,hF.output,hF.size,λk hk=>hF.block k hk (by simp)⟩
end Go.TQ
end
