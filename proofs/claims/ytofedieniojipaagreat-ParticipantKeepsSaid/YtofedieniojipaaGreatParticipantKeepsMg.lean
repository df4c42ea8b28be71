/-
  Texts made small by a program (see NOTES). Conditions: those that each theorem names.
-/
import Derived.Test.YtofedieniojipaaGreatParticipantKeepsMf
set_option linter.unusedVariables false
set_option linter.defProp false
set_option linter.unusedSimpArgs false
set_option linter.unusedSectionVars false
set_option maxHeartbeats 2000000
noncomputable section
namespace Go.Proofs.YtofedieniojipaaGreat
open Go.TQ
section
structure ve (m:az):Prop where
 n0:0<=m.al
 n1:m.al<10
 seq:1<=m.aH
 aN:dt m.aa
 dv:VL m.bl
 eJ:VL m.aG
structure cO (n:au):Prop where
 ask:DC n.aa n.al n.aK n.Round
 own:n.lP.size<=200
 dv:VL n.bl
 eJ:VL n.aG
 kS:VL n.aR
 sub:∀x∈n.aR,x∈n.aG
 heard:∀m∈n.ar,ve m/\m.al≠n.al
 cZ:n.ar.Pairwise (λa b=>a.al<b.al)
def abz:∀(l:List az) (k:Nat),k<=10->(∀e∈l,(k:Int)<=e.al/\e.al<10)->l.Pairwise (λa b=>a.al<b.al)->l.length+k<=10
 |[],k,hk,_,_=>by simp;omega
 |e::l,k,hk,h,hp=>by
  rw[Q4]at hp;have h1:=h e Qx;have h2:=abz l (k+1) (by omega) (λx hx=>⟨by have:=hp.1 x hx;omega,(h x (Qy _ hx)).2⟩) hp.2
  rw[QE];omega
def cO.len{n:au}(h:cO n):n.ar.length<=10:=by
 have:=abz n.ar 0 (by omega) (λe he=>⟨by have:=(h.heard e he).1.n0;omega,(h.heard e he).1.n1⟩) h.cZ
 omega
def Ol{n:au}(h:cO n):∀m∈n.ar++[(⟨n.al,n.aH,n.aa,n.bl,n.aG⟩:az)],0<=m.al/\m.al<10/\VL m.bl/\VL m.aG:=by
 intro m hm;rcases Qz.1 hm with hm|hm
 ·have:=(h.heard m hm).1;exact⟨this.n0,this.n1,this.dv,this.eJ⟩
 ·rw[Q5.1 hm];exact⟨h.ask.v0,h.ask.v1,h.dv,h.eJ⟩
def Sv{α:Type}{l:List α}{i:Nat}{x:α}(h:idx l (i:Int)=some x):l[Int.toNat (i:Int)]?=some x:=by rw[bf]at h;exact h
def aa7{n:au}(h:cO n)(x:ByteArray):Yd (kV n x) λq=>∃a b:Nat,q.1=a/\q.2.1=b/\a<1024/\b<1024:=by
 have hlen:=h.len;have hall:=Ol h;unfold kV BZ;simp only[etas,Qa,aS];rw[bD (by simp;omega),Qk,bD (by simp;omega),Qk]
 simp only[List.nil_append];have hl2:(n.ar++[(⟨n.al,n.aH,n.aa,n.bl,n.aG⟩:az)]).length<=1000000:=by simp;omega
 refine Yd.list (n.ar++[(⟨n.al,n.aH,n.aa,n.bl,n.aG⟩:az)]) hl2 (λi (s:Int×Int)=>(s.1,s.2,i,())) (λ_ s=>∃a b:Nat,s.1=a/\s.2=b/\a<1024/\b<1024) ?_ ?_ (s:=(0,0)) ⟨0,0,rfl,rfl,by omega,by omega⟩
 ·rintro i y ⟨s1,s2⟩ ⟨a,b,e1,e2,ha,hb⟩ hd hy hi hdec hx hadd;simp only at e1 e2;subst e1 e2;obtain⟨g0,g1,gv,ga⟩:=hall y hy;simp only;rw[hdec,Qk,hx,Qa,Sv hx,Qa,hadd,JG _ gv.sC,Qa]
  have fin:∀c:Nat,c<1024->Yd (Option.bind (nv y.aG x) λr9=>
    bif r9 then
     if y.al<0 then none else
     some (Sum.inl ((c:Int),(sB .i64 (b:Int) (bW .i64 (1:Int) y.al)),((i+1:Nat):Int),()))
    else
     some (Sum.inl ((c:Int),(b:Int),((i+1:Nat):Int),())):Option ((Int×Int×Int×Unit)⊕(Int×Int×Unit))) (Lp (λt=>∃s':Int×Int,t=(s'.1,s'.2,((i+1:Nat):Int),())/\(∃a b:Nat,s'.1=a/\s'.2=b/\a<1024/\b<1024)) (λr=>∃a b:Nat,r.1=a/\r.2.1=b/\a<1024/\b<1024)):=by
   intro c hc;rw[JG _ ga.sC,Qa]
   cases decide (x∈y.aG)with
   |false=>exact .some ⟨((c:Int),(b:Int)),rfl,c,b,rfl,rfl,hc,hb⟩
   |true=>
    rw[Qk,Qs (by omega),qO hb g0 g1]
    exact .some ⟨((c:Int),_),rfl,c,_,rfl,rfl,hc,BJ hb g1⟩
  cases decide (x∈y.bl)with
  |false=>exact fin a ha
  |true=>
   rw[Qk,Qs (by omega),qO ha g0 g1]
   exact fin _ (BJ ha g1)
 ·rintro⟨s1,s2⟩ ⟨a,b,e1,e2,ha,hb⟩ hdec;simp only at e1 e2;simp only;rw[hdec,Ql];exact .some ⟨a,b,e1,e2,ha,hb⟩
def WX:Yd (oI []) λ_=>True:=by
 unfold oI;refine Yd.list ([]:List mI) (by simp) (λi (_:Unit)=>(i,())) (λ_ _=>True) (λi x s _ _ hx=>absurd hx QR) (λs _ hdec=> ?_) (s:=()) trivial
 simp only;rw[hdec,Ql];exact .some trivial
def aaG(m:cF):Prop:=0<=m.al/\m.al<10/\cU m.aa/\m.bl=[]/\m.aG=[]
def afJ{m:cF}(h:aaG m):Yd (q7 m) λ_=>True:=by
 obtain⟨h0,h1,ht,hv,ha⟩:=h;unfold q7;simp only[etas];refine Yd.bind (p:=λ_=>True) (Yd.cond (λ_=> .some trivial) λ_=> .some trivial) λb1 _=> ?_
 refine Yd.bind (p:=λ_=>True) (Yd.cond (λ_=> .some trivial) λ_=> .some trivial) λb2 _=> ?_
 refine Yd.bind (p:=λ_=>True) (Yd.cond (λ_=>by rw[A7 ht];exact .some trivial) λ_=> .some trivial) λb4 _=> ?_
 rw[hv,ha];refine Yd.bind (p:=λ_=>True) (Yd.cond (λ_=>Yd.bind WX λ_ _=> .some trivial) λ_=> .some trivial) λb6 _=> ?_
 exact Yd.bind (p:=λ_=>True) (Yd.cond (λ_=>Yd.bind WX λ_ _=> .some trivial) λ_=> .some trivial) λb8 _=> .some trivial
def xN:aj:=⟨0,[],[]⟩
def O2:cU xN:= .mk _ (by simp[xN]) (by simp[xN]) (λu hu=>by cases hu)
structure te (l:List bj):Prop where
 len:l.length=10
 sm:∀m∈l,cU m.aa
def te.set{l:List bj}(h:te l)(k:Nat){m:bj}(hm:cU m.aa):te (l.set k m):=
 ⟨by rw[QY];exact h.len,λx hx=>(List.mem_or_eq_of_mem_set hx).elim (h.sm x) λe=>by rw[e];exact hm⟩
def te.get{l:List bj}(h:te l){v:Int}(h0:0<=v)(h1:v<10):∃x,idx l v=some x/\l[v.toNat]?=some x:=by
 have hl:=h.len;have hv:v.toNat<l.length:=by omega
 exact⟨l[v.toNat],by rw[PH _ h0];exact Qv hv,Qv hv⟩
def te.sc{l:List bj}(h:te l):AX ⟨l⟩:=⟨by show l.length<=1000000;rw[h.len];omega,h.sm⟩
def ahm{v:Int}{t:aj}(hv0:0<=v)(hv1:v<10)(ht:cU t){l:List cF}(hl:l.length<=1000000)(hm:∀m∈l,aaG m):Yd (qq v t l) AX:=by
 unfold qq
 have h1:(decide ((10:Int)<=(10:Int))&&decide (0<=(10:Int))&&bh 64 (Int.toNat (10:Int)))=true:=by rw[bD (by decide)];rfl
 rw[h1,Qk];simp only[etas,aS]
 have h0:te (List.replicate (Int.toNat (10:Int)) (bj.mk false (aj.mk (0:Int) ([]:List Int) ([]:List aj)))):=
  ⟨by rw[List.length_replicate];rfl,λm hm=>by rw[(List.mem_replicate.1 hm).2];exact O2⟩
 refine Yd.list l hl (λi (s:List bj)=>(i,bd.mk [],s,())) (λ_ s=>te s) ?_ ?_ h0
 ·intro i y s hs hd hy hi hdec hx hadd;have hmy:=hm y hy;simp only;rw[hdec,Qk,hx,Qa,hadd];simp only[cF.eta];refine Yd.bind (afJ hmy) λr _=> ?_
  cases r with
  |false=>exact .some ⟨s,rfl,hs⟩
  |true=>obtain⟨x,g1,g2⟩:=hs.get hmy.1 hmy.2.1;rw[Qk,g1,Qa,g2,Qa];exact .some ⟨_,rfl,hs.set _ hmy.2.2.1⟩
 ·intro s hs hdec;simp only;rw[hdec,Ql,Qg hv0,Qg hv1];simp only[Qk,Qa];obtain⟨x,g1,g2⟩:=hs.get hv0 hv1;have hs2:=hs.set v.toNat (m:=⟨false,⟨0,[],[]⟩⟩) O2;obtain⟨x2,k1,k2⟩:=hs2.get hv0 hv1;rw[g1,g2,A7 ht];simp only[Qa]
  cases decide (Hk t=0)with
  |false=>exact .some hs2.sc
  |true=>simp only[Qk];rw[k1,k2];exact .some (hs2.set _ ht).sc
def Yk{n:au}(h:cO n):Yd (l0 n) AX:=by
 have hlen:=h.len;unfold l0;simp only[etas];refine Yd.list n.ar (by omega) (λi (s:List cF)=>(i,s,())) (λi s=>s.length<=i/\∀m∈s,aaG m) ?_ ?_ (s:=[]) ⟨by simp,λm hm=>absurd hm QR⟩
 ·intro i y s ⟨hs1,hs2⟩ hd hy hi hdec hx hadd;have hmy:=(h.heard y hy).1;simp only;rw[hdec,Qk,hx,Qa,hadd,bD ⟨by simp only[Q6];omega,by simp only[Q6];omega⟩,Qk]
  refine .some ⟨_,rfl,by simp only[QB,Q6];omega,λm hm=> ?_⟩
  rcases Qz.1 hm with hm|hm
  ·exact hs2 m hm
  ·rw[Q5.1 hm];exact⟨hmy.n0,hmy.n1,hmy.aN.sm,rfl,rfl⟩
 ·intro s ⟨hs1,hs2⟩ hdec;simp only;rw[hdec,Ql];exact Yd.map (Yd.bind (ahm h.ask.v0 h.ask.v1 h.ask.aN.sm (by omega) hs2) λc hc=> .some hc)
def Bk{n:au}(h:cO n):n.al=((n.al.toNat:Nat):Int)/\n.al.toNat<10:=by have h0:=h.ask.v0;have h1:=h.ask.v1;omega
def aks{n:au}(h:cO n)(x:ByteArray):Yd (sz n x) λb=>b=true->x∉n.aG/\n.aG.length<40:=by
 obtain⟨hn,hn10⟩:=Bk h;unfold sz;simp only[etas,aS];refine Yd.bind (aa7 h x) λq ⟨a,b,e1,e2,ha,hb⟩=> ?_
 rw[e1,e2,JG _ h.eJ.sC,Qa]
 by_cases hx:x∈n.aG
 ·rw[Qg hx];exact .some λe=>by cases e
 ·rw[Qh hx];simp only[Qp,Qk]
  by_cases hl:n.aG.length<40
  ·rw[Qg (by omega:(n.aG.length:Int)<40),Qk]
   refine Yd.bind (Yk h) λc hc=> ?_
   rw[hn,wO hc hn10 ha hb];exact .some λ_=>⟨hx,hl⟩
  ·rw[Qh (by omega:¬(n.aG.length:Int)<40)]
   exact .some λe=>by cases e
def ahF{n:au}(h:cO n):Yd (oH n) λr=>r.length<=1000/\∀x∈r,kT x:=by
 have hlen:=h.len;have l1:=h.dv.len;have l2:=h.eJ.len;unfold oH;refine Yd.bind (OC (n:=80) (by omega) (by omega)) λr1 ⟨k1,k2⟩=> ?_
 refine Yd.list n.ar (by omega) (λi (s:List ByteArray)=>(s,i,())) (λi s=>s.length<=80+80*i/\∀x∈s,kT x) ?_ ?_ ⟨by omega,λx hx=>(k2 x hx).elim (h.dv.si x) (h.eJ.si x)⟩
 ·intro i y s ⟨hs1,hs2⟩ hd hy hi hdec hx hadd;have hmy:=(h.heard y hy).1;have l3:=hmy.dv.len;have l4:=hmy.eJ.len;simp only;rw[hdec,Qk,hx,Qa,hadd];refine Yd.bind (OC (n:=80) (by omega) (by omega)) λr4 ⟨g1,g2⟩=> ?_
  refine Yd.bind (OC (n:=80+80*(i+1)) (by omega) (by omega)) λr5 ⟨g3,g4⟩=> ?_
  exact .some ⟨r5,rfl,g3,λx hx=>(g4 x hx).elim (hs2 x) λhx=>(g2 x hx).elim (hmy.dv.si x) (hmy.eJ.si x)⟩
 ·intro s ⟨hs1,hs2⟩ hdec;simp only;rw[hdec,Ql];exact .some ⟨by omega,hs2⟩
def cO.Jr{n:au}(h:cO n){v:List ByteArray}(hv:VL v):cO {n with bl:=v}:=⟨h.ask,h.own,hv,h.eJ,h.kS,h.sub,h.heard,h.cZ⟩
def cO.ahu{n:au}(h:cO n){a:List ByteArray}(ha:VL a)(hs:∀y∈n.aG,y∈a):cO {n with aG:=a}:=⟨h.ask,h.own,h.dv,ha,h.kS,λx hx=>hs x (h.sub x hx),h.heard,h.cZ⟩
def cO.acO{n:au}(h:cO n){c:List ByteArray}(hc:VL c)(hs:∀y∈c,y∈n.aG):cO {n with aR:=c}:=⟨h.ask,h.own,h.dv,h.eJ,hc,hs,h.heard,h.cZ⟩
structure sE (n r:au):Prop where
 ok:cO r
 aF:r.al=n.al
 aJ:r.aK=n.aK
 round:r.Round=n.Round
 seq:r.aH=n.aH
 aN:r.aa=n.aa
 own:r.lP=n.lP
 heard:r.ar=n.ar
def sE.refl{n:au}(h:cO n):sE n n:=⟨h,rfl,rfl,rfl,rfl,rfl,rfl,rfl⟩
def sE.Jr{n r:au}(h:sE n r){v:List ByteArray}(hv:VL v):sE n {r with bl:=v}:=⟨h.ok.Jr hv,h.aF,h.aJ,h.round,h.seq,h.aN,h.own,h.heard⟩
def afB{n:au}(h:cO n):Yd (pN n) (sE n):=by
 unfold pN;simp only[etas,aS];refine Yd.bind (ac4 h.ask) λq ⟨s,e1,hs⟩=> ?_
 rw[e1,JF hs,Qa];have hl:=zN s;refine Yd.list (oP s) (by omega) (λi (r:au)=>(i,r,())) (λ_ r=>sE n r) ?_ ?_ (.refl h)
 ·intro i y r hr hd hy hi hdec hx hadd;simp only;rw[hdec,Qk,hx,Qa,hadd];have hlen:=hr.ok.len
  by_cases hyn:y=r.al
  ·rw[Qg hyn,Qk]
   by_cases hown:r.lP=bE
   ·rw[Qg hown];exact .some ⟨r,rfl,hr⟩
   ·rw[Qh hown];simp only[Qp,Qk]
    have hv:kT r.lP:=by
     refine⟨?_,hr.ok.own⟩;rcases Nat.eq_zero_or_pos r.lP.size with h0|h0
     ·exact absurd (ByteArray.ext (Array.eq_empty_of_size_eq_zero h0)) hown
     ·exact h0
    rw[JD hr.ok.dv,Qa];exact .some ⟨_,rfl,hr.Jr (uT hr.ok.dv hv).1⟩
  ·rw[Qh hyn,Ql];refine Yd.list r.ar (by omega) (λi (r:au)=>(i,r,())) (λ_ r=>sE n r) ?_ ?_ hr
   ·intro j m r2 hr2 hd2 hm hj hdec2 hx2 hadd2;simp only;rw[hdec2,Qk,hx2,Qa,hadd2];have hmy:=(hr.ok.heard m hm).1;have l3:=hmy.dv.len;have l4:=hmy.eJ.len
    cases decide (m.al=y)with
    |false=>exact .some ⟨r2,rfl,hr2⟩
    |true=>
     simp only[Qo,Ql];refine Yd.bind (OC (n:=80) (by omega) (by omega)) λu ⟨g1,g2⟩=> ?_
     refine Yd.list u (by omega) (λi (r:au)=>(i,r,())) (λ_ r=>sE n r) ?_ ?_ hr2
     ·intro k x r3 hr3 hd3 hxu hk hdec3 hx3 hadd3;simp only;rw[hdec3,Qk,hx3,Qa,hadd3,JD hr3.ok.dv,Qa];have hv:kT x:=(g2 x hxu).elim (hmy.dv.si x) (hmy.eJ.si x);exact .some ⟨_,rfl,hr3.Jr (uT hr3.ok.dv hv).1⟩
     ·intro r3 hr3 hdec3;simp only;rw[hdec3,Ql];exact .some ⟨r3,rfl,hr3⟩
   ·intro r2 hr2 hdec2;simp only;rw[hdec2,Ql];exact .some ⟨r2,rfl,hr2⟩
 ·intro r hr hdec;simp only;rw[hdec,Ql];exact .some hr
structure Xo (b n r:au):Prop where
 ok:cO r
 aF:r.al=n.al
 aJ:r.aK=n.aK
 round:r.Round=n.Round
 aN:r.aa=n.aa
 seq:r.aH=n.aH\/r.aH=b.aH+1
def Hz{b n:au}(hb:cU b.aa/\b.bl.length<=1000000/\b.aG.length<=1000000)(hs:0<=b.aH/\b.aH<=1000000)(h:cO n):Yd (gd b n) (Xo b n):=by
 unfold gd;simp only[etas];refine Yd.join (λv=>sE n v.1) (λv hv=> ?_) (λj' hj=> ?_)
 ·refine Yd.Du (λ(s:Bool×au×Unit)=>sE n s.2.1) (λs=>(if s.1=true then 1 else 0)+2*(40 - s.2.1.aG.length)) ?_ hv
  rintro⟨again,r,u⟩ hr;simp only at hr;simp only
  cases again with
  |true=>
   rw[Qk];refine Yd.bind (ahF hr.ok) λl ⟨hl,hvals⟩=> ?_
   refine Yd.list l (by omega) (λi (s:au)=>(false,i,s,())) (λ_ s=>s=r) ?_ ?_ rfl
   ·rintro i x s rfl hd hx' hi hdec hx hadd;simp only;rw[hdec,Qk,hx,Qa,hadd];refine Yd.bind (aks hr.ok x) λc hc=> ?_
    cases c with
    |false=>exact .some ⟨s,rfl,rfl⟩
    |true=>
     obtain⟨hc1,hc2⟩:=hc rfl;obtain⟨p1,p2,p3,p4⟩:=uT hr.ok.eJ (hvals x hx');rw[Qk,JD hr.ok.eJ,Qa];refine .some ⟨⟨hr.ok.ahu p1 p2,hr.aF,hr.aJ,hr.round,hr.seq,hr.aN,hr.own,hr.heard⟩,?_⟩;have:=p4 hc1 hc2;show(if true=true then 1 else 0)+2*(40 - (mP s.aG x).length)<(if true=true then 1 else 0)+2*(40 - s.aG.length)
     rw[this];omega
   ·rintro s rfl hdec;simp only;rw[hdec,Ql];refine .some ⟨hr,?_⟩;show(if false=true then 1 else 0)+2*(40 - s.aG.length)<(if true=true then 1 else 0)+2*(40 - s.aG.length)
    simp
  |false=>
   rw[Ql];refine Yd.map ?_;have hl:=hr.ok.eJ.len;refine Yd.list r.aG (by omega) (λi (s:au)=>(i,s,())) (λ_ s=>sE n s/\s.aG=r.aG) ?_ ?_ ⟨hr,rfl⟩
   ·rintro i x s ⟨hs',hsa⟩ hd hx' hi hdec hx hadd;obtain⟨hn,hn10⟩:=Bk hs'.ok;simp only[aS];rw[hdec,Qk,hx,Qa,hadd];refine Yd.bind (aa7 hs'.ok x) λq ⟨a,c,e1,e2,ha,hc⟩=> ?_
    refine Yd.bind (Yk hs'.ok) λcf hcf=> ?_
    have hfc:=vn hcf hn10 hc;rw[<-hn]at hfc;rw[e2,hfc,Qa]
    cases (gq cf.bn c).testBit s.al.toNat with
    |false=>exact .some ⟨s,rfl,hs',hsa⟩
    |true=>
     rw[Qk,JD hs'.ok.kS,Qa];obtain⟨p1,p2,p3,p4⟩:=uT hs'.ok.kS (hr.ok.eJ.si x hx');refine .some ⟨_,rfl,⟨hs'.ok.acO p1 (λy hy=> ?_),hs'.aF,hs'.aJ,hs'.round,hs'.seq,hs'.aN,hs'.own,hs'.heard⟩,hsa⟩
     rcases p3 y hy with rfl|hy
     ·rw[hsa];exact hx'
     ·exact hs'.ok.sub y hy
   ·rintro s ⟨hs',hsa⟩ hdec;simp only[aS];rw[hdec,Ql];obtain⟨b1,f1,_⟩:=OD (s:=b.bl) (t:=s.bl) hb.2.1;obtain⟨b2,f2,_⟩:=OD (s:=b.aG) (t:=s.aG) hb.2.2;obtain⟨b3,f3,_⟩:=F9 (a:=b.aa) (b:=s.aa) hb.1;rw[f1,f2,f3];simp only[Qa];refine Yd.map (Yd.bind (p:=λ_=>True) (Yd.cond (λ_=> .some trivial) λ_=> .some trivial) λc1 _=> ?_)
    refine Yd.bind (p:=λ_=>True) (Yd.cond (λ_=> .some trivial) λ_=> .some trivial) λc2 _=> ?_
    cases c2 with
    |false=>exact .some ⟨hs'.ok,hs'.aF,hs'.aJ,hs'.round,hs'.aN,.inl hs'.seq⟩
    |true=>
     have hadd:aA .i64 b.aH 1=b.aH+1:=bG (by omega) (by omega)
     rw[Qk,hadd];exact .some ⟨⟨hs'.ok.ask,hs'.ok.own,hs'.ok.dv,hs'.ok.eJ,hs'.ok.kS,hs'.ok.sub,hs'.ok.heard,hs'.ok.cZ⟩,hs'.aF,hs'.aJ,hs'.round,hs'.aN,.inr rfl⟩
 ·cases decide (((List.length n.aR:Nat):Int)=(0:Int))with
  |true=>
   rw[Qk];refine Yd.bind (afB h) λr hr=> ?_
   exact hj (r,()) hr
  |false=>exact hj (n,()) (.refl h)
end
section
def RT{m:az}(h:ve m):uO m=some true:=by have e1:=h.n0;have e2:=h.n1;have e3:=h.seq;unfold uO;simp only[etas,dI h.aN,JE h.dv,JE h.eJ];rw[Qg e1,Qg e2,Qg e3];rfl
def Gt{n:au}(h:cO n)(hs:1<=n.aH/\n.aH<=1000000):oG n=some true:=by
 have hlen:=h.len;have e1:=h.ask.v0;have e2:=h.ask.v1;have e3:=h.ask.s0;have e4:=h.ask.s1;have e5:=h.ask.r1;have e6:=h.ask.r2;have e7:=h.own;unfold oG;simp only[etas,dI h.ask.aN,JE h.dv,JE h.eJ,JE h.kS];rw[Qh (by omega:¬n.al<0),Qh (by omega:¬(10:Int)<=n.al),Qh (by omega:¬n.aK<0),Qh (by omega:¬(1000000:Int)<n.aK),Qh (by omega:¬n.Round<1),Qh (by omega:¬(1000:Int)<n.Round),Qh (by omega:¬n.aH<1),Qh (by omega:¬(1000000:Int)<n.aH),Qh (by omega:¬(200:Int)<((n.lP.size:Nat):Int))]
 simp only[Ql,Qa,decide_true,Qo];refine Yd.eq_true ?_;refine Yd.list n.aR h.kS.sC (λi (_:Unit)=>(i,())) (λ_ _=>True) ?_ ?_ (s:=()) trivial
 ·intro i x s _ hd hx' hi hdec hx hadd;simp only;rw[hdec,Qk,hx,Qa,hadd,JG _ h.eJ.sC,Qg (h.sub x hx')];exact .some ⟨(),rfl,trivial⟩
 ·intro s _ hdec;simp only;rw[hdec,Ql];refine Yd.map ?_;refine Yd.list n.ar (by omega) (λi (_:Unit)=>(i,())) (λ_ _=>True) ?_ ?_ (s:=()) trivial
  ·intro i m s _ hd hm hi hdec hx hadd;obtain⟨hm1,hm2⟩:=h.heard m hm;simp only[aS];rw[hdec,Qk,hx,Qa,hadd];simp only[az.eta];rw[RT hm1,Qa,Qh hm2];simp only[Qo,Ql]
   by_cases h0:i=0
   ·subst h0;rw[Qh (by omega:¬(0:Int)<((0:Nat):Int))]
    exact .some ⟨(),rfl,trivial⟩
   ·rw[Qg (by omega:(0:Int)<(i:Int))]
    simp only[Qk];have hsub:c8 .i64 (i:Int) 1=((i - 1:Nat):Int):=by rw[qC (by omega) (by omega)];omega
    have hi1:i - 1<n.ar.length:=by omega
    rw[hsub,bf,Qv hi1,Qa]
    have hyi:m=n.ar[i]:=by rw[bf,Qv hi]at hx;exact(Option.some.inj hx).symm
    have hlt:n.ar[i - 1].al<m.al:=by rw[hyi];exact List.pairwise_iff_getElem.1 h.cZ (i - 1) i hi1 hi (by omega)
    rw[Qh (by omega:¬m.al<=n.ar[i - 1].al)]
    exact .some ⟨(),rfl,trivial⟩
  ·intro s _ hdec;simp only;rw[hdec,Ql];exact .some rfl
def cO.Fz{n:au}(h:cO n):cU n.aa/\n.bl.length<=1000000/\n.aG.length<=1000000:=⟨h.ask.aN.sm,h.dv.sC,h.eJ.sC⟩
def EY:au:=⟨0,0,0,0,⟨0,[],[]⟩,⟨#[]⟩,[],[],[],[]⟩
def ai8{n:au}{m:az}(h:cO n)(hs:1<=n.aH/\n.aH<=1000000)(hm:ve m)(hne:m.al≠n.al):Yd (tx n m) λq=>(q.2.1=0/\Xo n n q.1)\/q.2.1=9:=by
 have hlen:=h.len;unfold tx;simp only[etas,az.eta,Gt h hs,RT hm,Qa,Qo,Ql];rw[Qh hne];simp only[Ql,aS];have kk:∀(a:List az) (x:az),a.length<=100->bh 120 (a.length+[x].length)=true:=λa x ha=>bD ⟨by simp only[Q6];omega,by simp only[Q6];omega⟩
 have setl:∀l:List az,(∀y∈l,ve y/\y.al≠n.al)->l.Pairwise (λa b=>a.al<b.al)->Yd (Option.bind (gd n {n with ar:=l}) λr14=>some (r14,(0:Int),())) λq=>(q.2.1=0/\Xo n n q.1)\/q.2.1=9:=by intro l h1 h2;refine Yd.bind (Hz h.Fz (by omega) (n:={n with ar:=l}) ⟨h.ask,h.own,h.dv,h.eJ,h.kS,h.sub,h1,h2⟩) λr hr=> .some (.inl ⟨rfl,hr.ok,hr.aF,hr.aJ,hr.round,hr.aN,hr.seq⟩)
 refine Yd.list n.ar (by omega) (λi (s:Bool×List az)=>(s.1,i,EY,{n with ar:=[]},s.2,()))
  (λi s=>s.2.length<=2*i/\(∀y∈s.2,ve y/\y.al≠n.al)/\s.2.Pairwise (λa b=>a.al<b.al)/\(∀y∈s.2,∀z∈n.ar.drop i,y.al<z.al)/\(s.1=false->∀y∈s.2,y.al<m.al)) ?_ ?_ (s:=(false,[]))
  ⟨by simp,λy hy=>absurd hy QR,List.Pairwise.nil,λy hy=>absurd hy QR,λ_ y hy=>absurd hy QR⟩
 ·rintro i x ⟨d,acc⟩ ⟨a1,a2,a3,a4,a5⟩ hd hx' hi hdec hx hadd;simp only at a1 a2 a3 a4 a5;have hxx:=h.heard x hx'
  have hsort:∀z∈n.ar.drop (i+1),x.al<z.al:=by have:=h.cZ.sublist (List.drop_sublist i n.ar);rw[hd,Q4]at this;exact this.1
  have a4x:∀y∈acc,y.al<x.al:=λy hy=>a4 y hy x (by rw[hd];exact Qx)
  have a4r:∀y∈acc,∀z∈n.ar.drop (i+1),y.al<z.al:=λy hy z hz=>a4 y hy z (by rw[hd];exact Qy _ hz)
  simp only;rw[hdec,Qk,hx,Qa,hadd];have k1:=kk acc m (by omega)
  have k2:=kk acc x (by omega)
  have k3:=kk (acc++[m]) x (by simp only[QB,Q6];omega)
  by_cases hn:x.al=m.al
  ·rw[Qg hn,Qk]
   cases decide (m.aH<=x.aH)with
   |true=>exact .some (.inr rfl)
   |false=>exact .some ⟨(d,acc),rfl,by show acc.length<=2*(i+1);omega,a2,a3,a4r,a5⟩
  ·rw[Qh hn,Ql,k1,k2,k3]
   have plain:(d=false->x.al<m.al)->Yd (some (Sum.inl (d,((i+1:Nat):Int),EY,{n with ar:=([]:List az)},(acc++[x]),())):Option ((Bool×Int×au×au×(List az)×Unit)⊕(au×Int×Unit))) (Lp (λt=>∃s':Bool×List az,t=(s'.1,((i+1:Nat):Int),EY,{n with ar:=[]},s'.2,())/\(s'.2.length<=2*(i+1)/\(∀y∈s'.2,ve y/\y.al≠n.al)/\s'.2.Pairwise (λa b=>a.al<b.al)/\(∀y∈s'.2,∀z∈n.ar.drop (i+1),y.al<z.al)/\(s'.1=false->∀y∈s'.2,y.al<m.al))) (λr=>(r.2.1=0/\Xo n n r.1)\/r.2.1=9)):=by
    intro hdm;refine .some ⟨(d,acc++[x]),rfl,by simp only[QB,Q6];omega,λy hy=> ?_,?_,λy hy z hz=> ?_,λe y hy=> ?_⟩
    ·rcases Qz.1 hy with hy|hy
     ·exact a2 y hy
     ·rw[Q5.1 hy];exact hxx
    ·rw[Qq69];exact⟨a3,List.pairwise_singleton _ _,λy hy z hz=>by rw[Q5.1 hz];exact a4x y hy⟩
    ·rcases Qz.1 hy with hy|hy
     ·exact a4r y hy z hz
     ·rw[Q5.1 hy];exact hsort z hz
    ·rcases Qz.1 hy with hy|hy
     ·exact a5 e y hy
     ·rw[Q5.1 hy];exact hdm e
   by_cases hlt:m.al<x.al
   ·rw[Qg hlt]
    cases d with
    |true=>exact plain λe=>by cases e
    |false=>
     have a5:=a5 rfl;simp only[Qp,Qk,Qa];refine .some ⟨(true,(acc++[m])++[x]),rfl,by simp only[QB,Q6];omega,λy hy=> ?_,?_,λy hy z hz=> ?_,λe=>by cases e⟩
     ·rcases Qz.1 hy with hy|hy
      ·rcases Qz.1 hy with hy|hy
       ·exact a2 y hy
       ·rw[Q5.1 hy];exact⟨hm,hne⟩
      ·rw[Q5.1 hy];exact hxx
     ·rw[Qq69,Qq69];refine⟨⟨a3,List.pairwise_singleton _ _,λy hy z hz=>by rw[Q5.1 hz];exact a5 y hy⟩,List.pairwise_singleton _ _,λy hy z hz=> ?_⟩
      rw[Q5.1 hz];rcases Qz.1 hy with hy|hy
      ·exact a4x y hy
      ·rw[Q5.1 hy];exact hlt
     ·rcases Qz.1 hy with hy|hy
      ·rcases Qz.1 hy with hy|hy
       ·exact a4r y hy z hz
       ·rw[Q5.1 hy];exact Int.lt_trans hlt (hsort z hz)
      ·rw[Q5.1 hy];exact hsort z hz
   ·rw[Qh hlt];exact plain λ_=>by omega
 ·rintro⟨d,acc⟩ ⟨a1,a2,a3,a4,a5⟩ hdec;simp only at a1 a2 a3 a4 a5;simp only;rw[hdec,Ql];refine Yd.map ?_;have k1:=kk acc m (by omega)
  rw[k1]
  cases d with
  |true=>exact setl acc a2 a3
  |false=>
   simp only[Qp,Qk];refine setl (acc++[m]) (λy hy=> ?_) ?_
   ·rcases Qz.1 hy with hy|hy
    ·exact a2 y hy
    ·rw[Q5.1 hy];exact⟨hm,hne⟩
   ·rw[Qq69];exact⟨a3,List.pairwise_singleton _ _,λy hy z hz=>by rw[Q5.1 hz];exact a5 rfl y hy⟩
def ahC{n:au}(h:cO n)(hs:1<=n.aH/\n.aH<=1000000):Yd (AB n) λq=>(q.2.1=0/\cO q.1/\q.1.al=n.al/\q.1.aK=n.aK/\q.1.aa=n.aa/\(q.1.aH=n.aH\/q.1.aH=n.aH+1))\/q.2.1=3:=by
 unfold AB;simp only[etas,Gt h hs,Qa,Qo,Ql];have e5:=h.ask.r1;have e6:=h.ask.r2
 by_cases hr:n.Round=1000
 ·rw[Qg hr];exact .some (.inr rfl)
 ·have hadd:aA .i64 n.Round 1=n.Round+1:=bG (by omega) (by omega)
  rw[Qh hr,Ql,hadd];refine Yd.bind (Hz h.Fz (by omega) (n:={n with Round:=n.Round+1}) ⟨⟨h.ask.aN,h.ask.v0,h.ask.v1,h.ask.s0,h.ask.s1,by show 1<=n.Round+1;omega,by show n.Round+1<=1000;omega⟩,h.own,h.dv,h.eJ,h.kS,h.sub,h.heard,h.cZ⟩) λr hr=> .some (.inl ⟨rfl,hr.ok,hr.aF,hr.aJ,hr.aN,hr.seq⟩)
def ahJ{n:au}(h:cO n)(hs:1<=n.aH/\n.aH<=1000000){t:aj}(ht:dt t):Yd (vz n t) λq=>q.2.1=0/\cO q.1/\q.1.al=n.al/\q.1.aK=n.aK/\q.1.aa=t/\(q.1.aH=n.aH\/q.1.aH=n.aH+1):=by
 unfold vz;simp only[etas,Gt h hs,dI ht,Qa,Qo,Ql,decide_true];obtain⟨b,f,hb⟩:=F9 (a:=n.aa) (b:=t) h.ask.aN.sm;rw[f,Qa]
 cases b with
 |true=>exact .some ⟨rfl,h,rfl,rfl,hb.1 rfl,.inl rfl⟩
 |false=>refine Yd.bind (Hz h.Fz (by omega) (n:={n with aa:=t}) ⟨⟨ht,h.ask.v0,h.ask.v1,h.ask.s0,h.ask.s1,h.ask.r1,h.ask.r2⟩,h.own,h.dv,h.eJ,h.kS,h.sub,h.heard,h.cZ⟩) λr hr=> .some ⟨rfl,hr.ok,hr.aF,hr.aJ,hr.aN,hr.seq⟩
def RR{t:aj}{v aJ:Int}{own:ByteArray}(ht:dt t)(h0:0<=v)(h1:v<10)(h2:0<=aJ)(h3:aJ<=1000000)(ho:own.size<=200):Yd (mB v aJ t own) λq=>q.2.1=0/\cO q.1/\q.1.al=v/\q.1.aK=aJ/\q.1.aa=t/\q.1.aH=1:=by
 unfold mB;simp only[etas,dI ht];rw[Qh (by omega:¬v<0),Qh (by omega:¬(10:Int)<=v),Qh (by omega:¬aJ<0),Qh (by omega:¬(1000000:Int)<aJ),Qh (by omega:¬(200:Int)<((own.size:Nat):Int))]
 simp only[Ql,Qa,decide_true,Qo];have hn:cO ⟨v,aJ,1,1,t,own,[],[],[],[]⟩:=⟨⟨ht,h0,h1,h2,h3,by show(1:Int)<=1;omega,by show(1:Int)<=1000;omega⟩,ho,.nil,.nil,.nil,λx hx=>absurd hx QR,λx hx=>absurd hx QR,List.Pairwise.nil⟩
 refine Yd.bind (Hz hn.Fz ⟨by show(0:Int)<=1;omega,by show(1:Int)<=1000000;omega⟩ hn) λr hr=> .some ⟨rfl,⟨hr.ok.ask,hr.ok.own,hr.ok.dv,hr.ok.eJ,hr.ok.kS,hr.ok.sub,hr.ok.heard,hr.ok.cZ⟩,hr.aF,hr.aJ,hr.aN,rfl⟩
end
section
def ahs{m:ab}(h:m.aQ=3):c9 m=m:=by
 have h1:de m=m:=by unfold de;rw[Qr (.inl h)]
 have h2:gC m=m:=by unfold gC;rw[Qr (.inl (by rw[h];decide))]
 have h3:fX m=m:=by unfold fX;rw[Qs (by rw[h];decide),Qs (by rw[h];decide)]
 have h4:jf m=m:=by unfold jf;rw[Qs (by rw[h];rintro⟨e,_⟩;exact absurd e (by decide))]
 have h5:fR m=m:=by unfold fR;rw[Qr (.inl h)]
 unfold c9;rw[Qr h1,Qr h2,Qr h3,Qr h4];exact h5
structure DA (m:ab) (t:aj) (x:ab):Prop where
 inv:bs x
 seq:fS x
 aF:x.al=m.al
 aJ:x.aK=m.aK
 aN:x.aa=t
 ext:m.aQ=3->x.aQ=3/\x.af.Value=m.af.Value
def DA.refl{m:ab}(h:bs m)(hs:fS m):DA m m.aa m:=⟨h,hs,rfl,rfl,rfl,λe=>⟨e,rfl⟩⟩
def mE(m x:ab):Prop:=m.aQ=3->x.aQ=3/\x.af.Value=m.af.Value
def K6{m:ab}:∀x,bs x->mE m x->mE m (c9 x):=λx _ h e=>by have h2:=h e;rw[ahs h2.1];exact h2
def K5{m:ab}:∀x,mE m x->mE m (dj x):=λx h e=>by
 have h2:=h e;unfold dj;split
 ·exact h2
 ·exact h2
def Dy{m m1:ab}(h:bs m)(hb:AM m m1):mE m m1:=by
 intro e;rcases hb with⟨v,hv,rfl⟩|⟨x,hx,rfl⟩|⟨h3,hv,hc,rfl⟩|⟨t,ht,rfl⟩
 ·have hz:aP m.af=false:=by
   rcases h.body with k|k|k|k
   ·exact absurd (k.ba.symm.trans e) (by decide)
   ·exact k.aT.nz
   ·exact k.aT.nz
   ·exact k.aT.nz
  unfold gB;rw[Qs (by rw[hz];decide)]
  exact⟨e,rfl⟩
 ·exact⟨e,rfl⟩
 ·exact absurd e h3
 ·exact⟨e,rfl⟩
def Ld{m m1:ab}(h:bs m)(hb:AM m m1){q:ab×Int×Unit}(hq:I0 (mE m) m m1 q):q.2.1=0/\DA m m1.aa q.1:=by
 obtain⟨m2,rfl,ha⟩:=hq;have hf:=ad9 h hb;obtain⟨f1,f2,f3,f4,f5,f6⟩:=D6 m1;obtain⟨s,e,_⟩:=N2 m m2;refine⟨rfl,ad6 ha.inv,agX ha.inv ha.seq (λhz=>ha.nz (by rw[f6];exact hf.nz hz)),?_,?_,?_,?_⟩
 ·rw[e];exact ha.env.1.trans (f1.trans hf.aF)
 ·rw[e];exact ha.env.2.1.trans (f2.trans hf.aJ)
 ·rw[e];exact ha.env.2.2.1.trans f3
 ·rw[e];exact ha.rel
section
variable {m : ab} (h : bs m) (hs : fS m)
 include h hs
theorem HL{v:ByteArray}(hv:kT v):Yd (kj m v) λq=>q.2.1=0/\DA m m.aa q.1:=by
 have hb:AM m (gB m v):= .inl ⟨v,hv,rfl⟩;refine(M9 (R:=mE m) K6 K5 h hs hv (Dy h hb)).mono λq hq=> ?_
 have e:(gB m v).aa=m.aa:=by unfold gB;split<;>rfl
 exact e▸Ld h hb hq
theorem VI{e:ak}(he:Aq m e):Yd (ki m e) λq=>(q.2.1=0/\DA m m.aa q.1)\/q.2.1=9:=by
 have hb:AM m (BP m e):= .inr (.inl ⟨e,he,rfl⟩);refine(Vm (R:=mE m) K6 K5 h hs he (Dy h hb)).mono λq hq=> ?_
 rcases hq with⟨hq,_⟩|⟨rfl,_⟩
 ·exact .inl (Ld h hb hq)
 ·exact .inr rfl
theorem adw{t:aj}(ht:dt t):Yd (rP m t) λq=>q.2.1=0/\DA m t q.1:=by
 have hb:AM m (Ih m t):= .inr (.inr (.inr ⟨t,ht,rfl⟩));refine(ac8 (R:=mE m) K6 K5 h hs ht (Dy h hb)).mono λq hq=> ?_
 exact Ld h hb hq
theorem adv:Yd (rO m) λq=>(q.2.1=0/\DA m m.aa q.1)\/q.2.1≠0:=by
 have hR:∃R:ab->Prop,(∀m,bs m->R m->R (c9 m))/\(∀m,R m->R (dj m))/\R (qB m)/\(AM m (qB m)->∀x,R x->mE m x):=by
  by_cases hi:AM m (qB m)
  ·exact⟨mE m,K6,K5,Dy h hi,λ_ x hx=>hx⟩
  ·exact⟨λ_=>True,λ_ _ _=>trivial,λ_ _=>trivial,trivial,λhi'=>absurd hi' hi⟩
 obtain⟨R,hR1,hR2,hR0,hRR⟩:=hR;refine(ac1 hR1 hR2 h hs hR0).mono λq hq=> ?_
 rcases hq with⟨⟨m2,rfl,ha⟩,h3,hv,hc⟩|⟨rfl,_⟩|⟨rfl,_⟩
 ·have hb:AM m (qB m):= .inr (.inr (.inl ⟨h3,hv,hc,rfl⟩));exact .inl (Ld h hb ⟨m2,rfl,ha.inv,ha.seq,ha.env,ha.num,ha.nz,hRR hb _ ha.rel,ha.fix⟩)
 ·exact .inr (by show(62:Int)≠0;decide)
 ·exact .inr (by show(3:Int)≠0;decide)
theorem Bb:rQ m=some (bif decide (m.aQ=3)then m.af.Value else gy,decide (m.aQ=3),()):=by unfold rQ;simp only[etas,w4 h hs,Qa,Qo,Ql];cases decide (m.aQ=3)<;>rfl
theorem ac3:vx m=some (bif aP m.af then(ak.mk (0:Int) (0:Int) (0:Int) (aj.mk (0:Int) ([]:List Int) ([]:List aj)) (0:Int) zB zB zB (0:Int) (0:Int))else dg m,!aP m.af,()):=by unfold vx;simp only[etas,w4 h hs,Qa,Qo,Ql,c7,Aj];cases aP m.af<;>rfl
theorem aa6:Yd (uw m) λ_=>True:=by
 have hev:=h.ev;have hlen:=h.len;unfold uw;simp only[etas,ac3 h hs,Qa]
 cases hz:aP m.af with
 |true=>exact .some trivial
 |false=>
  simp only[Qp,Qo,Ql,Qa]
  cases decide (m.aQ=3)with
  |true=>exact .some trivial
  |false=>
   simp only[Ql];have ho:=Lc h hs hz;have hm0:cU (dg m).aa:=by rw[ug];exact h.aN.sm
   have hall:∀e∈[dg m]++m.ar,bc e=true/\cU e.aa:=by
    intro e he;rcases Qz.1 he with he|he
    ·rw[Q5.1 he];exact⟨ho,hm0⟩
    ·exact⟨(h.hv e he).1,(h.hv e he).2.1.sm⟩
   have hl1:([dg m]++m.ar).length<=1000:=by simp;omega
   rw[bD (by simp;omega),Qk]
   rw[Fu ([dg m]++m.ar) hl1 (λe=>decide (fG (dg m)<=fG e)) (fin:=λs=>Option.bind (jo m.al m.aa ([dg m]++m.ar)) λr8=>Option.bind (gw ([dg m]++m.ar) s) λr9=>Option.bind (k8 r8 r9) λr10=>if(br .u64 m.al)<0 then none else some (decide ((Gd .i64 (jM .i64 r10 (br .u64 m.al)) (1:Int))=(1:Int))))
    (λi e s hs' he hd hx hw=>by
     simp only[hd,hx,hw,Sv hx,Qk,Qa,HA (hall e he).2 (hall e he).1,HA hm0 ho]
     rw[bD (by simp;omega),Qk])
    (λs hd=>by simp only[hd,Ql])]
   have hsml:td ([dg m]++m.ar):=⟨by omega,λe he=>(hall e he).2⟩
   have hn:=hev.aF;have hv:=Ba hn.2 (t:=m.aa) hsml;rw[hn.1]at hv;have hin:xa ([dg m]++m.ar):=λe he=>kD (hall e he).1
   rw[hv,Qa,BC ([dg m]++m.ar) hl1 _ (λe he _=>hin e he),Qa,D0 (oB h.aN.sm hsml) (mO hin),Qa]
   have hc:br .u64 m.al=m.al:=by rw[<-hn.1];exact ae5 (by omega)
   rw[hc,Qs (by have:=h.n0;omega)]
   exact .some trivial
def w6(t:dq):Prop:=0<=t.ai/\t.ai<=1000000/\ -1<=t.Da/\t.Da<=212
 omit h hs in
theorem Vk{t:dq}(ht:w6 t):uL t=some true:=by
  obtain⟨h1,h2,h3,h4⟩:=ht;unfold uL;rw[Qg h1,Qg h2,Qg h3,Qg h4];rfl
 omit h hs in
theorem OA{c:Int}(hc:0<=c)(hc2:c<=1000000):Yd (lY c) λw=>1<=w/\w<=12:=by
  unfold lY
  by_cases h:12<=c
  ·rw[Qg h];exact .some ⟨by decide,by decide⟩
  ·have hadd:aA .i64 c 1=c+1:=bG (by omega) (by omega)
   rw[Qh h,Ql,hadd];refine .some ?_;unfold bF;split<;>omega
 omit hs in
theorem aau:0<=m.af.ai/\m.af.ai<=1000:=by
  rcases h.body with k|k|k|k
  ·rw[k.aT];exact⟨by decide,by decide⟩
  ·exact⟨by have:=k.aT.1;omega,k.aT.2.1⟩
  ·exact⟨by have:=k.aT.1;omega,k.aT.2.1⟩
  ·exact⟨by have:=k.aT.1;omega,k.aT.2.1⟩
theorem afu{t:dq}(ht:w6 t){now:Int}(h0:0<=now)(h1:now<=200):Yd (Ax t m now) λq=>w6 q.1:=by
 obtain⟨b0,b1⟩:=aau h;unfold Ax;simp only[etas,Vk ht,Qa,Qo,Ql];rw[Qh (by omega:¬now<0),Qh (by omega:¬(200:Int)<now)]
 simp only[Ql,Qa];refine Yd.bind (aa6 h hs) λb _=> ?_
 have off:w6 ⟨m.af.ai, -1⟩:=⟨b0,by show m.af.ai<=1000000;omega,by show(-1:Int)<= -1;omega,by show(-1:Int)<=212;omega⟩
 cases b with
 |false=>exact .some off
 |true=>
  simp only[Qo,Ql];refine Yd.bind (p:=λ_=>True) (Yd.cond (λ_=> .some trivial) λ_=> .some trivial) λc _=> ?_
  cases c with
  |true=>
   rw[Qk];refine Yd.bind (OA b0 (by omega)) λw ⟨w1,w2⟩=> ?_
   have hadd:aA .i64 now w=now+w:=bG (by omega) (by omega)
   rw[hadd];exact .some ⟨b0,by show m.af.ai<=1000000;omega,by show -1<=now+w;omega,by show now+w<=212;omega⟩
  |false=>
   rw[Ql]
   cases decide (t.Da<=now)with
   |true=>exact .some off
   |false=>exact .some ht
end
end
section
structure uq (nd sl:Int) (k:Int) (x:aL):Prop where
 ja:bs x.ae
 lK:fS x.ae
 aF:x.ae.al=nd
 aJ:x.ae.aK=sl
 oO:cO x.aB
 qL:1<=x.aB.aH/\x.aB.aH<=1+k
 tT:x.aB.al=nd
 yf:x.aB.aK=sl
 aN:x.aB.aa=x.ae.aa
 timer:w6 x.Timer
 round:1<=x.Round/\x.Round<=1000
 next:0<=x.Next/\x.Next<=212
structure rN (nd sl:Int) (k:Int) (x:aL):Prop where
 pre:uq nd sl k x
 done:x.CR=decide (x.ae.aQ=3)
 value:x.Value=bif decide (x.ae.aQ=3)then x.ae.af.Value else gy
def uq.le{nd sl k k':Int}{x:aL}(h:uq nd sl k x)(hk:k<=k'):uq nd sl k' x:=⟨h.ja,h.lK,h.aF,h.aJ,h.oO,⟨h.qL.1,by have:=h.qL.2;omega⟩,h.tT,h.yf,h.aN,h.timer,h.round,h.next⟩
def rN.le{nd sl k k':Int}{x:aL}(h:rN nd sl k x)(hk:k<=k'):rN nd sl k' x:=⟨h.pre.le hk,h.done,h.value⟩
def uq.RG{nd sl k:Int}{x:aL}(h:uq nd sl k x){m:ab}(hm:DA x.ae x.ae.aa m):uq nd sl k {x with ae:=m}:=⟨hm.inv,hm.seq,hm.aF.trans h.aF,hm.aJ.trans h.aJ,h.oO,h.qL,h.tT,h.yf,h.aN.trans hm.aN.symm,h.timer,h.round,h.next⟩
def uR{nd sl k:Int}{x:aL}(h:uq nd sl k x):Yd (eQ x) λy=>rN nd sl k y/\mE x.ae y.ae/\y.ae.aa=x.ae.aa:=by
 unfold eQ;simp only[etas];refine Yd.join (λv=>uq nd sl k v.1/\mE x.ae v.1.ae/\v.1.ae.aa=x.ae.aa) (λv ⟨hv,hst⟩=> ?_) (λj' hj=> ?_)
 ·rw[Bb hv.ja hv.lK,Qa];exact .some ⟨⟨⟨hv.ja,hv.lK,hv.aF,hv.aJ,hv.oO,hv.qL,hv.tT,hv.yf,hv.aN,hv.timer,hv.round,hv.next⟩,rfl,rfl⟩,hst⟩
 ·have same:uq nd sl k x/\mE x.ae x.ae/\x.ae.aa=x.ae.aa:=⟨h,λe=>⟨e,rfl⟩,rfl⟩
  refine Yd.bind (ZB h.oO.kS.sC) λc hc=> ?_
  rw[c7];simp only[Qa]
  have go:c.2.1=false\/kT c.1:=by
   cases e:c.2.1 with
   |false=>exact .inl rfl
   |true=>exact .inr (hc e)
  have hcond:∀b1 b2 b3:Bool,Yd (Option.bind (bif b1 then some b2 else some false) λb5=>Option.bind (bif b5 then some b3 else some false) λb7=>Option.bind (bif b7 then some (!decide (c.1=x.ae.bg))else some false) λb8=>(some b8:Option Bool)) λb=>b=true->b1=true:=λb1 b2 b3=>by
   cases b1 with
   |true=>cases b2<;>cases b3<;>exact .some λ_=>rfl
   |false=>exact .some λe=>e
  obtain⟨b8,hb8,hb8'⟩:=hcond c.2.1 (decide (x.ae.aQ=1)) (aP x.ae.ax)
  have key:∀K:Bool->Option aL,(Option.bind (bif c.2.1 then some (decide (x.ae.aQ=1))else some false) λb5=>Option.bind (bif b5 then some (aP x.ae.ax)else some false) λb7=>Option.bind (bif b7 then some (!decide (c.1=x.ae.bg))else some false) K)=K b8:=by
   intro K;revert hb8
   cases c.2.1 with
   |false=>intro e;cases e;rfl
   |true=>
    cases decide (x.ae.aQ=1)with
    |false=>intro e;cases e;rfl
    |true=>
     cases aP x.ae.ax with
     |false|true=>intro e;cases e;rfl
  rw[key]
  cases b8 with
  |false=>exact hj (x,()) same
  |true=>
   rw[Qk];have hv:=hc (hb8' rfl);refine Yd.bind (HL h.ja h.lK hv) λq ⟨h0,hn⟩=> ?_
   rw[h0];exact hj (_,()) ⟨h.RG hn,hn.ext,hn.aN⟩
def tO{nd sl k:Int}{x:aL}(h:rN nd sl k x)(hk:k<=999999):kU x=some true:=by
 have p:=h.pre;obtain⟨b,f,hb⟩:=F9 (a:=x.aB.aa) (b:=x.ae.aa) p.oO.ask.aN.sm;have hbt:=hb.2 p.aN;subst hbt;unfold kU;simp only[etas,w4 p.ja p.lK,Gt p.oO ⟨p.qL.1,by have:=p.qL.2;omega⟩,f,Vk p.timer,Bb p.ja p.lK,Qa,Qo,Ql]
 rw[Qg (p.tT.trans p.aF.symm),Qg (p.yf.trans p.aJ.symm),Qg p.round.1,Qg p.round.2,Qg p.next.1,Qg p.next.2,Qg h.done,Qg h.value]
 rfl
def xB(nd sl:Int)(k:Int)(x y:aL):Prop:=rN nd sl k y/\mE x.ae y.ae
def xB.self{nd sl k k':Int}{x:aL}(h:rN nd sl k x)(hk:k<=k'):xB nd sl k' x x:=⟨h.le hk,λe=>⟨e,rfl⟩⟩
section
variable {nd sl k : Int} {x : aL} (h : rN nd sl k x) (hk : k <= 999998)
 include h hk
theorem Zy{m:az}(hm:ve m)(hne:m.al≠nd):Yd (fP x m) λq=>(q.2.1=0/\xB nd sl (k+1) x q.1/\q.1.ae.aa=x.ae.aa)\/q.2.1≠0:=by
 have p:=h.pre;unfold fP;simp only[az.eta,etas,tO h (by omega),Qa,Qo,Ql]
 refine Yd.bind (ai8 p.oO ⟨p.qL.1,by have:=p.qL.2;omega⟩ hm (by rw[p.tT];exact hne)) λq hq=> ?_
 rcases hq with⟨h0,hq⟩|h9
 ·rw[h0];simp only[decide_true,Qo,Ql];have h1:=p.qL;refine Yd.bind (uR (k:=k+1) (x:={x with aB:=q.1}) ⟨p.ja,p.lK,p.aF,p.aJ,hq.ok,?_,hq.aF.trans p.tT,hq.aJ.trans p.yf,hq.aN.trans p.aN,p.timer,p.round,p.next⟩) λy hy=> .some (.inl ⟨rfl,⟨hy.1,hy.2.1⟩,hy.2.2⟩)
  show 1<=q.1.aH/\q.1.aH<=1+(k+1);rcases hq.seq with e|e<;>rw[e]<;>omega
 ·rw[h9];exact .some (.inr (by show(9:Int)≠0;decide))
theorem abc{e:ak}(he:Aq x.ae e\/(cU e.aa/\bc e=false)):Yd (k7 x e) λq=>(q.2.1=0/\xB nd sl k x q.1/\q.1.ae.aa=x.ae.aa)\/q.2.1≠0:=by
 have p:=h.pre;unfold k7;simp only[etas,tO h (by omega),Qa,Qo,Ql]
 rcases he with he|⟨ht,hv⟩
 ·refine Yd.bind (VI p.ja p.lK he) λq hq=> ?_
  rcases hq with⟨h0,hq⟩|h9
  ·rw[h0];simp only[decide_true,Qo,Ql];refine Yd.bind (uR (p.RG hq)) λy hy=> .some (.inl ⟨rfl,⟨hy.1,λe=> ?_⟩,hy.2.2.trans hq.aN⟩)
   have e1:=hq.ext e;have e2:=hy.2.1 e1.1;exact⟨e2.1,e2.2.trans e1.2⟩
  ·rw[h9];exact .some (.inr (by show(9:Int)≠0;decide))
 ·rw[Ym p.ja p.lK ht (.inl hv)];exact .some (.inr (by show(61:Int)≠0;decide))
theorem aa8{v:ByteArray}(hv:kT v):Yd (pL x v) λq=>(q.2.1=0/\xB nd sl k x q.1/\q.1.ae.aa=x.ae.aa)\/q.2.1≠0:=by
 have p:=h.pre;unfold pL;simp only[etas,tO h (by omega),Qa,Qo,Ql]
 refine Yd.bind (HL p.ja p.lK hv) λq ⟨h0,hq⟩=> ?_
 rw[h0];simp only[decide_true,Qo,Ql];refine Yd.bind (uR (p.RG hq)) λy hy=> .some (.inl ⟨rfl,⟨hy.1,λe=> ?_⟩,hy.2.2.trans hq.aN⟩)
 have e1:=hq.ext e;have e2:=hy.2.1 e1.1;exact⟨e2.1,e2.2.trans e1.2⟩
theorem ZA{t:aj}(ht:dt t):Yd (og x t) λq=>q.2.1=0/\xB nd sl (k+1) x q.1/\q.1.ae.aa=t:=by
 have p:=h.pre;unfold og;simp only[etas,tO h (by omega),Qa,Qo,Ql]
 have h1:=p.qL;refine Yd.bind (ahJ p.oO ⟨p.qL.1,by omega⟩ ht) λq ⟨h0,g1,g2,g3,g4,g5⟩=> ?_
 rw[h0];simp only[decide_true,Qo,Ql];refine Yd.bind (adw p.ja p.lK ht) λr ⟨r0,hr⟩=> ?_
 rw[r0];simp only[decide_true,Qo,Ql];refine Yd.bind (uR (k:=k+1) (x:={x with aB:=q.1,ae:=r.1}) ⟨hr.inv,hr.seq,hr.aF.trans p.aF,hr.aJ.trans p.aJ,g1,?_,g2.trans p.tT,g3.trans p.yf,g4.trans hr.aN.symm,p.timer,p.round,p.next⟩) λy hy=> .some ⟨rfl,⟨hy.1,λe=> ?_⟩,hy.2.2.trans hr.aN⟩
 ·show 1<=q.1.aH/\q.1.aH<=1+(k+1);rcases g5 with e|e<;>rw[e]<;>omega
 ·have e1:=hr.ext e;have e2:=hy.2.1 e1.1;exact⟨e2.1,e2.2.trans e1.2⟩
theorem aft{now:Int}(h0:0<=now)(h1:now<=200):Yd (tl x now) λq=>q.2.1=0/\xB nd sl (k+1) x q.1/\q.1.ae.aa=x.ae.aa:=by
 have p:=h.pre;have hsq:=p.qL;have hrd:=p.round;unfold tl;simp only[etas,tO h (by omega),Qa,Qo,Ql]
 rw[Qh (by omega:¬now<0),Qh (by omega:¬(200:Int)<now)]
 simp only[Ql,Qa];refine Yd.join (λv=>xB nd sl (k+1) x v.1/\v.1.ae.aa=x.ae.aa) (λv ⟨hv,hvt⟩=> ?_) (λj4 hj4=> ?_)
 ·have pv:=hv.1.pre;refine Yd.bind (afu pv.ja pv.lK pv.timer h0 h1) λt ht=> ?_
  refine Yd.join (λw=>xB nd sl (k+1) x w.1/\w.1.ae.aa=x.ae.aa) (λw hw=> .some ⟨rfl,hw⟩) (λj7 hj7=> ?_)
  have pt:uq nd sl (k+1) {v.1 with Timer:=t.1}:=⟨pv.ja,pv.lK,pv.aF,pv.aJ,pv.oO,pv.qL,pv.tT,pv.yf,pv.aN,ht,pv.round,pv.next⟩
  cases t.2.1 with
  |false=>exact hj7 (_,()) ⟨⟨⟨pt,hv.1.done,hv.1.value⟩,hv.2⟩,hvt⟩
  |true=>
   rw[Qk];refine Yd.join (λw=>uq nd sl (k+1) w.1/\mE v.1.ae w.1.ae/\w.1.ae.aa=v.1.ae.aa) (λw ⟨hw,hst,hwt⟩=> ?_) (λj9 hj9=> ?_)
   ·refine Yd.bind (uR hw) λy hy=>hj7 (y,()) ⟨⟨hy.1,λe=> ?_⟩,hy.2.2.trans (hwt.trans hvt)⟩
    have e1:=hv.2 e;have e2:=hst e1.1;have e3:=hy.2.1 e2.1;exact⟨e3.1,e3.2.trans (e2.2.trans e1.2)⟩
   ·refine Yd.bind (adv pv.ja pv.lK) λr hr=> ?_
    rcases hr with⟨r0,hr⟩|hr
    ·rw[r0];exact hj9 (_,()) ⟨pt.RG hr,hr.ext,hr.aN⟩
    ·rw[Qh hr];exact hj9 (_,()) ⟨pt,λe=>⟨e,rfl⟩,rfl⟩
 ·have skip:=hj4 (x,()) ⟨xB.self h (by omega),rfl⟩
  cases decide (((List.length x.aB.aR:Nat):Int)=(0:Int))with
  |false=>exact skip
  |true=>
   simp only[Qk,Qa]
   cases decide (x.Next<=now)with
   |false=>exact skip
   |true=>
    rw[Qk];refine Yd.join (λv=>uq nd sl (k+1) v.1/\v.1.ae=x.ae) (λv ⟨hv,hm⟩=> ?_) (λj14 hj14=> ?_)
    ·have hvr:=hv.round;have hadd:aA .i64 v.1.Round 1=v.1.Round+1:=bG (by omega) (by omega)
     have hmin:1<=du (v.1.Round+1) 1000/\du (v.1.Round+1) 1000<=1000:=by unfold du;split<;>omega
     rw[hadd];refine Yd.bind (OA (by omega) (by omega)) λw ⟨w1,w2⟩=> ?_
     have hadd2:aA .i64 now w=now+w:=bG (by omega) (by omega)
     rw[hadd2];refine Yd.bind (uR (k:=k+1) (x:=⟨v.1.aB,v.1.ae,v.1.Timer,du (v.1.Round+1) 1000,now+w,v.1.CR,v.1.Value⟩) ⟨hv.ja,hv.lK,hv.aF,hv.aJ,hv.oO,hv.qL,hv.tT,hv.yf,hv.aN,hv.timer,hmin,by show 0<=now+w/\now+w<=212;omega⟩) λy hy=>hj4 (y,()) ?_
     have h2:=hy.2;simp only at h2;rw[hm]at h2;exact⟨⟨hy.1,h2.1⟩,h2.2⟩
    ·refine Yd.bind (ahC p.oO ⟨p.qL.1,by omega⟩) λq hq=> ?_
     rcases hq with⟨q0,g1,g2,g3,g4,g5⟩|q3
     ·rw[q0];refine hj14 (_,()) ⟨⟨p.ja,p.lK,p.aF,p.aJ,g1,?_,g2.trans p.tT,g3.trans p.yf,g4.trans p.aN,p.timer,p.round,p.next⟩,rfl⟩
      show 1<=q.1.aH/\q.1.aH<=1+(k+1);rcases g5 with e|e<;>rw[e]<;>omega
     ·rw[q3];exact hj14 (x,()) ⟨p.le (by omega),rfl⟩
end
def ajm{nd sl:Int}(hv0:0<=nd)(hv1:nd<10)(hs0:1<=sl)(hs1:sl<=1000000){t:aj}{own:ByteArray}{now:Int}(ht:dt t)(ho:own.size<=200)(h0:0<=now)(h1:now<=200):Yd (nq nd sl t own now) λq=>q.2.1=0/\rN nd sl 0 q.1/\q.1.ae.aa=t:=by
 unfold nq;simp only[etas];rw[Qh (by omega:¬now<0),Qh (by omega:¬(200:Int)<now)]
 simp only[Ql,Qa];rw[ac2 hv0 hv1 hs0 hs1 ht];simp only[Qa,decide_true,Qo,Ql];refine Yd.bind (RR ht hv0 hv1 (by omega) hs1 ho) λq ⟨q0,g1,g2,g3,g4,g5⟩=> ?_
 rw[q0];simp only[decide_true,Qo,Ql];refine Yd.bind (OA (by omega) (by omega)) λw ⟨w1,w2⟩=> ?_
 have hadd2:aA .i64 now w=now+w:=bG (by omega) (by omega)
 rw[hadd2];obtain⟨m1,m2⟩:=R0 (aF:=nd) (aJ:=sl) hv0 hv1 hs0 hs1 ht;have ht0:w6 ⟨0, -1⟩:=⟨by decide,by decide,by decide,by decide⟩
 refine Yd.bind (uR (k:=0) (x:=⟨q.1,Ni nd sl t,⟨0, -1⟩,1,now+w,false,bE⟩) ⟨m1,m2,rfl,rfl,g1,by show 1<=q.1.aH/\q.1.aH<=1+0;rw[g5];decide,g2,g3,g4,ht0,⟨(by decide:(1:Int)<=1),(by decide:(1:Int)<=1000)⟩,by show 0<=now+w/\now+w<=212;omega⟩) λy hy=> .some ⟨rfl,hy.1,hy.2.2⟩
end
section
def D3(a b:ByteArray):fp a b=some (xu a b):=by simp[fp,xu]
def acf{a b:ByteArray}:decide (0<=xu a b)= !bP a b:=by
 rw[<-wo]
 by_cases h:xu a b<0
 ·rw[Qg h,Qh (by omega)];rfl
 ·rw[Qh h,Qg (by omega)];rfl
def abk(x:ByteArray):rV x=some (decide (kT x)):=OB x
def OO{l:List ByteArray}(h:VL l):iK l=some true:=by
 unfold iK;refine Yd.eq_true (Yd.list l h.sC (λi (_:Unit)=>(i,())) (λ_ _=>True) ?_ ?_ (s:=()) trivial)
 ·intro i y s hs hd hy hi hdec hx hadd;simp only;rw[hdec,Qk,hx,Qa,abk,Qa,Qg (h.si y hy),hadd];simp only[Qo,Ql]
  by_cases h0:i=0
  ·subst h0;rw[Qh (by omega:¬(0:Int)<((0:Nat):Int))]
   exact .some ⟨(),rfl,trivial⟩
  ·rw[Qg (by omega:(0:Int)<(i:Int))]
   simp only[Qk];have hsub:c8 .i64 (i:Int) 1=((i - 1:Nat):Int):=by rw[qC (by omega) (by have:=h.len;omega)];omega
   have hi1:i - 1<l.length:=by omega
   rw[hsub,bf,Qv hi1,Qa,D3,Qa,acf]
   have hyi:y=l[i]:=by rw[bf,Qv hi]at hx;exact(Option.some.inj hx).symm
   have hlt:bP l[i - 1] y=true:=by rw[hyi];exact List.pairwise_iff_getElem.1 h.G5 (i - 1) i hi1 hi (by omega)
   rw[hlt];exact .some ⟨(),rfl,trivial⟩
 ·intro s hs hdec;simp only;rw[hdec,Ql,Qg (by have:=h.len;omega:(l.length:Int)<=(40:Int))]
  exact .some rfl
def ahQ(l:List ByteArray)(hl:l.length<=1000000)(x:ByteArray):Yd (jF l x) λr=>decide (0<=r)=decide (x∈l):=by
 unfold jF;refine Yd.list l hl (λi (_:Unit)=>(i,())) (λi _=>x∉l.take i) ?_ ?_ (s:=()) (by simp)
 ·intro i y s hs hd hy hi hdec hx hadd;simp only;rw[hdec,Qk,hx,Qa,hadd]
  by_cases hxy:x=y
  ·rw[Qg hxy,Qk];refine .some ?_;show decide ((0:Int)<=(i:Int))=decide (x∈l);rw[Qg (by omega:(0:Int)<=(i:Int))]
   exact(Qg (by rw[hxy];exact hy)).symm
  ·rw[Qh hxy,Ql];refine .some ⟨(),rfl,?_⟩
   have hi2:l[i]?=some y:=by rw[bf]at hx;exact hx
   rw[List.take_add_one,hi2];simp only[Option.toList_some,Qz,Q5];exact λh=>h.elim hs hxy
 ·intro s hs hdec;simp only;rw[hdec,Ql];rw[Qq62]at hs;refine .some ?_;show decide ((0:Int)<= -1)=decide (x∈l);rw[Qh hs];rfl
def ZP(l:List ByteArray)(hl:l.length<=1000000)(x:ByteArray):lj l x=some (decide (x∈l)):=by obtain⟨r,h1,h2⟩:=ahQ l hl x;unfold lj lO;rw[h1,Qa,Qa,h2]
def ZO{v:Int}(h0:0<=v)(h1:v<10):mq v=some true:=by unfold mq;rw[Qg h0,Qg h1];rfl
def Yx{m:az}(h:ve m):nR m=some true:=by unfold nR;simp only[etas,ZO h.n0 h.n1,eK h.aN,OO h.dv,OO h.eJ];rw[Qg h.seq];rfl
def abp{n:au}(h:cO n):fm n.aR n=some false:=by
 unfold fm jb;simp only[etas]
 have:=Yd.list (p:=λr:Int=>r= -1) (step:=λ(v1:Int×Unit)=>
   bif (decide (v1.1<((List.length n.aR:Nat):Int)))then
   Option.bind (idx n.aR v1.1) λx2=>
   Option.bind (pz x2 n) λr3=>
   bif r3 then
   Option.map Sum.inr (some v1.1)
   else
   some (Sum.inl ((aA .i64 v1.1 (1:Int)),()))
   else
   Option.map Sum.inr (some (-1:Int))) n.aR h.kS.sC (λi (_:Unit)=>(i,())) (λ_ _=>True) ?_ ?_ (s:=()) trivial
 ·obtain⟨r,h1,rfl⟩:=this;rw[h1];rfl
 ·intro i x s _ hd hx' hi hdec hx hadd;simp only;unfold pz;rw[hdec,Qk,hx,Qa,hadd,ZP _ h.eJ.sC,Qg (h.sub x hx')];exact .some ⟨(),rfl,trivial⟩
 ·intro s _ hdec;simp only;rw[hdec,Ql];exact .some rfl
def Yu{n:au}(h:cO n)(hs:1<=n.aH/\n.aH<=1000000):nQ n=some true:=by
 have hlen:=h.len;unfold nQ uz;simp only[etas,ZO h.ask.v0 h.ask.v1,eK h.ask.aN,OO h.dv,OO h.eJ,OO h.kS,abp h];rw[Qg h.ask.s0,Qg h.ask.s1,Qg h.ask.r1,Qg h.ask.r2,Qg hs.1,Qg hs.2,Qh (by have:=h.own;omega:¬(200:Int)<((n.lP.size:Nat):Int))]
 simp only[Ql,Qk,Qa,decide_true,Qo];refine Yd.eq_true ?_;refine Yd.list n.ar (by omega) (λi (_:Unit)=>(i,())) (λ_ _=>True) ?_ ?_ (s:=()) trivial
 ·intro i m s _ hd hm hi hdec hx hadd;obtain⟨hm1,hm2⟩:=h.heard m hm;simp only[aS];rw[hdec,Qk,hx,Qa,hadd];simp only[az.eta];rw[Yx hm1,Qa,Qh hm2];simp only[Qo,Ql]
  by_cases h0:i=0
  ·subst h0;rw[Qh (by omega:¬(0:Int)<((0:Nat):Int))]
   exact .some ⟨(),rfl,trivial⟩
  ·rw[Qg (by omega:(0:Int)<(i:Int))]
   simp only[Qk];have hsub:c8 .i64 (i:Int) 1=((i - 1:Nat):Int):=by rw[qC (by omega) (by omega)];omega
   have hi1:i - 1<n.ar.length:=by omega
   rw[hsub,bf,Qv hi1,Qa]
   have hyi:m=n.ar[i]:=by rw[bf,Qv hi]at hx;exact(Option.some.inj hx).symm
   have hlt:n.ar[i - 1].al<m.al:=by rw[hyi];exact List.pairwise_iff_getElem.1 h.cZ (i - 1) i hi1 hi (by omega)
   rw[Qh (by omega:¬m.al<=n.ar[i - 1].al)]
   exact .some ⟨(),rfl,trivial⟩
 ·intro s _ hdec;simp only;rw[hdec,Ql];exact .some rfl
def ahO{t:dq}(ht:w6 t):BD t=some true:=Vk ht
def Ng{nd sl k:Int}{x:aL}(h:rN nd sl k x)(hk:k<=999999):ql x=some true:=by
 have p:=h.pre;obtain⟨b,f,hb⟩:=eqT (a:=x.aB.aa) (b:=x.ae.aa) p.oO.ask.aN.sm;have hbt:=hb.2 p.aN;subst hbt;unfold ql;simp only[etas,GZ p.ja p.lK,Yu p.oO ⟨p.qL.1,by have:=p.qL.2;omega⟩,f,ahO p.timer,Nf p.ja p.lK,Qa,Qk]
 rw[Qg (p.tT.trans p.aF.symm),Qg (p.yf.trans p.aJ.symm),Qg p.round.1,Qg p.round.2,Qg p.next.1,Qg p.next.2,Qg h.done,Qg h.value]
 rfl
def wu(l:List ByteArray)(h:l.length<=1000):bQ l=some l:=by
 unfold bQ;have hk:bh 16 (([]:List ByteArray).length+l.length)=true:=bD ⟨by simp;omega,by simp;omega⟩
 rw[hk]
 cases l with
 |nil|cons x l=>simp
def Yv{t:aj}(h:cU t):nO t=some t:=(show nO t=eR t from rfl).trans (ly h)
def abm{m:az}(ht:cU m.aa)(hv:m.bl.length<=1000)(ha:m.aG.length<=1000):ma m=some m:=by unfold ma;simp only[etas,Yv ht,wu _ hv,wu _ ha,Qa]
def adp{m:az}(ht:cU m.aa)(hv:m.bl.length<=1000)(ha:m.aG.length<=1000):mN m=some m:=by unfold mN;simp only[etas,ly ht,wu _ hv,wu _ ha,Qa]
end
section
def aiR{rec:(aj×Unit)->Option aj}{t:aj}(hm:cU t)(hr:∀u∈t.aO,rec (u,())=some u):nX rec t=some t:=by
 have hn:=hm.nodes;have hi:=hm.len;unfold nX;rw[bD ⟨by omega,by omega⟩,Qk]
 simp only[etas]
 have:=Yd.list (p:=λr=>r=t) (step:=λ(v1:Int×aj×(List Int)×(List aj)×Unit)=>
   bif (decide (v1.1<((List.length t.aO:Nat):Int)))then
   Option.bind (idx t.aO v1.1) λx2=>
   Option.bind (rec (x2,())) λr3=>
   bif bh 56 (List.length v1.2.2.2.1+List.length [r3])then
   some (Sum.inl ((aA .i64 v1.1 (1:Int)),(aj.mk v1.2.1.aI ([]:List Int) ([]:List aj)),v1.2.2.1,(v1.2.2.2.1++[r3]),()))
   else none
   else
   Option.map Sum.inr (some (aj.mk v1.2.1.aI v1.2.2.1 v1.2.2.2.1))) t.aO hi (λi (s:List aj)=>(i,(aj.mk t.aI [] []),t.bb,s,())) (λi s=>s=t.aO.take i) ?_ ?_ (s:=[]) (by simp)
 ·obtain⟨r,h1,rfl⟩:=this;exact h1
 ·rintro i x s rfl hd hx' hi' hdec hx hadd;have hi2:t.aO[i]?=some x:=by rw[bf]at hx;exact hx
  simp only;rw[hdec,Qk,hx,Qa,hr x hx',Qa,hadd,bD ⟨by simp;omega,by simp;omega⟩,Qk]
  refine .some ⟨_,rfl,?_⟩;rw[List.take_add_one,hi2];rfl
 ·rintro s rfl hdec;simp only;rw[hdec,Ql,Qq62];exact .some (aj.eta t)
def aiM{n:Nat}:∀{t:aj},SizeOf.sizeOf t<n->cU t->wA n (t,())=some t:=by
 induction n with
 |zero=>intro t h;omega
 |succ n ih=>intro t hz hm;show nX (wA n) t=some t;exact aiR hm λu hu=>ih (t:=u) (by have:=so hu;omega) (hm.inner u hu)
def Vy{t:aj}(h:cU t):rZ t=some t:=aiM (by omega) h
end
section
def ajF{n:Nat}(h:n<4611686018427387904):br .u64 (n:Int)=n:=by unfold br IntKind.wrap;simp[IntKind.signed,IntKind.bits];omega
def ah8{i j:Nat}(hi:i<=1000000)(hj:j<=1000000):br .i64 (jM .u64 (br .u64 (aA .i64 (i:Int) (j:Int))) (1:Int))=(((i+j) / 2:Nat):Int):=by
 have h1:aA .i64 (i:Int) (j:Int)=((i+j:Nat):Int):=bG (by omega) (by omega)
 have h4:jM .u64 (((i+j:Nat)):Int) (1:Int)=(((i+j) / 2:Nat):Int):=by
  show(((i+j:Nat)):Int).fdiv 2=_;rw[Int.fdiv_eq_ediv_of_nonneg _ (by decide)]
  exact(Int.natCast_ediv (i+j) 2).symm
 rw[h1,ajF (by omega),h4]
 exact DR _ (by omega)
def Ip{α ρ:Type}(l:List α)(hl:l.length<=1000000)(P:α->Bool)(hp:l.Pairwise λa b=>P b=true->P a=true){step:Int×Int×Unit->Option ((Int×Int×Unit)⊕ρ)}{fin:Nat->Option ρ}
  (h1:∀(i j m:Nat) (x:α),decide ((i:Int)<(j:Int))=true->j<=l.length->br .i64 (jM .u64 (br .u64 (aA .i64 (i:Int) (j:Int))) (1:Int))=(m:Int)->aA .i64 (m:Int) 1=((m+1:Nat):Int)->idx l (m:Int)=some x->step ((i:Int),(j:Int),())=some (.inl (bif P x then(((m+1:Nat):Int),(j:Int),())else((i:Int),(m:Int),()))))
  (h2:∀i:Nat,decide ((i:Int)<(i:Int))=false->i<=l.length->step ((i:Int),(i:Int),())=Option.map Sum.inr (fin i)):
  aE step ((0:Int),(l.length:Int),())=fin (l.takeWhile P).length:=by
 have htw:∀(l:List α),(l.Pairwise λa b=>P b=true->P a=true)->∀i x,l[i]?=some x->(P x=true↔i<(l.takeWhile P).length):=by
  intro l
  induction l with
  |nil=>intro _ i x h;simp at h
  |cons y l ih=>
   intro hp i x h;rw[Q4]at hp
   cases hy:P y with
   |false=>
    rw[List.takeWhile_cons,hy];simp only[Qq,Qu,QZ,Nat.not_lt_zero,iff_false]
    cases i with
    |zero=>simp only[List.getElem?_cons_zero,Qf]at h;rw[<-h,hy];simp
    |succ i=>
     intro hx;have:=hp.1 x (Q8 (by simpa using h)) hx
     rw[hy]at this;cases this
   |true=>
    rw[List.takeWhile_cons,hy];simp only[Qt,QE]
    cases i with
    |zero=>simp only[List.getElem?_cons_zero,Qf]at h;rw[<-h,hy];simp
    |succ i=>
     rw[ih hp.2 i x (by simpa using h)]
     omega
 have hk:(l.takeWhile P).length<=l.length:=(List.takeWhile_sublist P).length_le
 suffices key:∀(d i j:Nat),j=i+d->j<=l.length->i<=(l.takeWhile P).length->(l.takeWhile P).length<=j->aE step ((i:Int),(j:Int),())=fin (l.takeWhile P).length from key l.length 0 l.length (by omega) (QI _) (by omega) hk
 intro d
 induction d using Nat.strongRecOn with
 |_ d ih=>
  intro i j hij hjl hi hj
  by_cases h0:d=0
  ·obtain rfl:j=i:=by omega
   obtain rfl:(l.takeWhile P).length=j:=by omega
   rw[fg,h2 _ (Qh (Qq64 _)) hjl];cases fin (l.takeWhile P).length<;>rfl
  ·have hm:(i+j) / 2<l.length:=by omega
   have hs:=h1 i j ((i+j) / 2) l[(i+j) / 2] (Qg (by omega)) hjl (ah8 (by omega) (by omega)) (bG (by omega) (by omega)) (by rw[bf];exact Qv hm)
   have ht:=htw l hp _ _ (Qv hm)
   cases hP:P l[(i+j) / 2]with
   |true=>rw[hP]at hs;have:=ht.1 hP;exact(bx hs).trans (ih (j - ((i+j) / 2+1)) (by omega) _ _ (by omega) hjl (by omega) hj)
   |false=>
    rw[hP]at hs;have:¬(i+j) / 2<(l.takeWhile P).length:=λe=>by rw[ht.2 e]at hP;cases hP
    exact(bx hs).trans (ih ((i+j) / 2 - i) (by omega) _ _ (by omega) (by omega) hi (by omega))
def KD{a b:ByteArray}:decide (xu a b=0)=decide (a=b):=by
 rw[decide_eq_decide];constructor
 ·intro h;have h1:bP a b=false:=by rw[<-wo,h];rfl
  refine jx.total a b h1 ?_;unfold xu at h;unfold bP
  by_cases hs:a.size=b.size
  ·rw[Qr ((wq _ _).2 (by rw[hs]))]at h
   rw[Qr hs.symm];unfold NZ at h;split at h
   ·cases h
   ·split at h
    ·rename_i h2 h3;simp only[Qn,Qi]at h3;rcases h3 with h3|rfl
     ·exact absurd h3 h2
     ·exact DU _
    ·cases h
  ·rw[Qs (λe=>hs (by have:=(wq _ _).1 e;omega))]at h
   exact absurd ((wq _ _).1 h) (by omega)
 ·rintro rfl;unfold xu;rw[Qr ((wq _ _).2 rfl)];unfold NZ;rw[Qs (by rw[DU];simp)]
  simp
def abO{l:List ByteArray}{a:Nat}(ha:a<=l.length)(h:l.length<=1000)(x:ByteArray):jg l (a:Int) [x]=some (l.take a++[x]++l.drop a):=by
 unfold jg CK;rw[Qg (by omega:(0:Int)<=(a:Int)),Qg (by omega:(a:Int)<=(l.length:Int)),mh (by omega) (by simp;omega)]
 rfl
def B1{α:Type}(P:α->Bool):∀(l:List α),(∀j,j<(l.takeWhile P).length->∃y,l[j]?=some y/\P y=true)/\(∀y,l[(l.takeWhile P).length]?=some y->P y=false)
 |[]=>⟨λj h=>by simp at h,λy h=>by simp at h⟩
 |x::l=>by
  obtain⟨h1,h2⟩:=B1 P l
  cases hx:P x with
  |false=>rw[List.takeWhile_cons,hx];simp only[Qq,Qu,QZ];exact⟨λj h=>by omega,λy h=>by simp only[List.getElem?_cons_zero,Qf]at h;rw[<-h];exact hx⟩
  |true=>
   rw[List.takeWhile_cons,hx];simp only[Qt,QE];refine⟨λj h=> ?_,λy h=>h2 y (by simpa using h)⟩
   cases j with
   |zero=>exact⟨x,rfl,hx⟩
   |succ j=>obtain⟨y,g1,g2⟩:=h1 j (by omega);exact⟨y,by simpa using g1,g2⟩
def MT{α:Type}(P:α->Bool)(l:List α):(l.takeWhile P).length<=l.length:=(List.takeWhile_sublist P).length_le
def ajg{l:List ByteArray}(h:VL l)(x:ByteArray):dC l x=some ((((l.takeWhile λy=>bP y x).length:Nat):Int),decide (x∈l),()):=by
 have hl:=h.len;unfold dC;refine(Ip l h.sC (λy=>bP y x) (h.G5.imp λ{a b} hab hb=>jx.trans _ _ _ hab hb) (fin:=λk=>some (((k:Nat):Int),decide (l[k]?=some x),())) (λi j m y hd hj hm hadd hx=> ?_) (λi hd hi=> ?_)).trans ?_
 ·simp only[hd,hm,hadd,hx,D3,wo,Qa,Qk];cases bP y x<;>rfl
 ·simp only[hd,Ql]
  by_cases hi2:i<l.length
  ·rw[Qg (by omega:(i:Int)<(l.length:Int))]
   simp only[Qk,bf,Qv hi2,Qa,D3,KD,Qe,Qf]
  ·rw[Qh (by omega:¬(i:Int)<(l.length:Int)),Qq72 (by omega)]
   rfl
 ·obtain⟨h1,h2⟩:=B1 (λy=>bP y x) l
  congr 3;rw[decide_eq_decide];constructor
  ·exact Q8
  ·intro hm;obtain⟨i,hi⟩:=List.getElem?_of_mem hm;have hi':i<l.length:=(Qw.1 hi).1
   have hk:(l.takeWhile λy=>bP y x).length=i:=by
    rcases Nat.lt_trichotomy (l.takeWhile λy=>bP y x).length i with g|g|g
    ·have hk:(l.takeWhile λy=>bP y x).length<l.length:=by omega
     have:=h2 _ (Qv hk);have h3:=List.pairwise_iff_getElem.1 h.G5 _ i hk hi' g;rw[(Qw.1 hi).2,this]at h3;cases h3
    ·exact g
    ·obtain⟨y,g1,g2⟩:=h1 i g;rw[hi]at g1;cases g1;rw[jx.irrefl]at g2;cases g2
   rw[hk];exact hi
def ZN{l:List ByteArray}(h:VL l)(x:ByteArray):ir l x=some (mP l x):=by
 have hl:=h.len;unfold ir mP;rw[ajg h x,Qa]
 by_cases hx:x∈l
 ·rw[Qg hx,Qr (.inl hx)];rfl
 by_cases h40:40<=l.length
 ·rw[Qh hx,Qg (by omega:(40:Int)<=(l.length:Int)),Qr (.inr h40)];rfl
 rw[Qh hx,Qh (by omega:¬(40:Int)<=(l.length:Int)),Qs (λe=>e.elim hx h40)]
 simp only[Ql,Qa,wu l (by omega)]
 rw[abO (MT _ _) (by omega),Qa]
 obtain⟨h1,h2⟩:=B1 (λy=>bP y x) l
 rw[Sr x l _ h1 h2,Qs (λe=>hx (Q8 e))]
 simp
def Zd(a b:List ByteArray):List ByteArray:=b.foldl (λl x=>dR bP x l) a
def afh{a:List ByteArray}(ha:a.Pairwise (λx y=>bP x y=true))(b:List ByteArray):(Zd a b).Pairwise (λx y=>bP x y=true)/\∀x,x∈Zd a b↔x∈b\/x∈a:=Km jx b a ha
def acI(a b:List ByteArray):(Zd a b).length<=a.length+b.length:=PF b a
def FF(m:az):List ByteArray:=m.bl++m.aG
def ri(L:List az):List ByteArray:=Zd [] (L.flatMap FF)
def Hg(L:List az):(ri L).Pairwise (λx y=>bP x y=true)/\∀x,x∈ri L↔∃m∈L,x∈m.bl\/x∈m.aG:=by
 obtain⟨h1,h2⟩:=afh (a:=[]) List.Pairwise.nil (L.flatMap FF);refine⟨h1,λx=> ?_⟩
 rw[ri,h2];simp[FF]
def MV{l:List ByteArray}(L:List az)(h1:l.Pairwise (λx y=>bP x y=true))(h2:∀x,x∈l↔∃m∈L,x∈m.bl\/x∈m.aG):l=ri L:=
 jx.unique h1 (Hg L).1 λx=>by rw[h2,(Hg L).2]
def SD{L:List az}(h:∀m∈L,VL m.bl/\VL m.aG):(L.flatMap FF).length<=80*L.length:=by
 induction L with
 |nil=>simp
 |cons m L ih=>
  have h1:=ih λx hx=>h x (Qy _ hx)
  have h2:=(h m Qx).1.len;have h3:=(h m Qx).2.len;simp only[List.flatMap_cons,QB,FF,QE]at h1 ⊢;omega
def SZ{L:List az}(h:∀m∈L,VL m.bl/\VL m.aG):(ri L).length<=80*L.length:=by have h1:=acI [] (L.flatMap FF);have h2:=SD h;rw[ri];simp only[QZ]at h1;omega
def ahX{L:List az}(h:∀m∈L,VL m.bl/\VL m.aG)(hl:L.length<=100):na L=some (ri L):=by
 have hf:=SD h
 have hsort:∀s:List ByteArray,s.length<1000000->(∀x,x∈s↔∃m∈L,x∈m.bl\/x∈m.aG)->(Option.bind (fZ s) λp3=>Option.bind (eP p3.2) λr4=>some r4)=some (ri L):=by
  intro s hs hmem;obtain⟨t,h1,h2,h3,h4⟩:=jx.Zh (cmp:=λx y=>fp x y) D3 (λx y=>wo x y) s (by omega)
  have hc:=Dw (eq:=λx y:ByteArray=>decide (x=y)) (ne:=λx y=> !decide (x=y)) (z:=bE) (λ_ _=>rfl) (λ_ _=>rfl) t (by omega)
  have h1':fZ s=some ((),t):=h1;have hc':eP t=some (dd t):=hc;rw[h1',Qa,hc',Qa,MV L h3 (λx=>by rw[h4,hmem])]
 unfold na
 suffices key:Yd (aE _ ((0:Int),([]:List ByteArray),())) λr=>r=ri L by obtain⟨r,h1,rfl⟩:=key;exact h1
 refine Yd.list L (by omega) (λi (s:List ByteArray)=>(i,s,())) (λi s=>s=(L.take i).flatMap FF) ?_ ?_ (s:=[]) (by simp)
 ·rintro i m s rfl hd hm hi hdec hx hadd;have hi2:L[i]?=some m:=by rw[bf]at hx;exact hx
  have e:L.take (i+1)=L.take i++[m]:=by rw[List.take_add_one,hi2];rfl
  have hlen:((L.take i).flatMap FF).length<=80*100:=QK (SD λx hx=>h x (Q1 hx)) (Nat.mul_le_mul_left _ (by rw[List.length_take];omega))
  have l1:=(h m hm).1.len;have l2:=(h m hm).2.len;simp only;rw[hdec,Qk,hx,Qa,hadd,mh (by omega) (by omega),Qk,mh (by omega) (by rw[QB];omega),Qk]
  refine .some ⟨_,rfl,?_⟩;rw[e,List.flatMap_append];simp[FF]
 ·rintro s rfl hdec;rw[Qq62];simp only;rw[hdec,Ql,hsort _ (by omega) (λx=>by simp[FF])]
  exact .some rfl
def La{a b:List ByteArray}(ha:a.Pairwise (λx y=>bP x y=true))(hb:b.Pairwise (λx y=>bP x y=true))(h:a.length+b.length<=100000):
  Yd (jv a b) λr=>r.Pairwise (λx y=>bP x y=true)/\(∀x,x∈r↔x∈a\/x∈b)/\r.length<=a.length+b.length:=by
 unfold jv;simp only[aS];refine Yd.Du (λ(v:Int×Int×List ByteArray×Unit)=>∃i k:Nat,v.1=i/\v.2.1=k/\i<=a.length/\k<=b.length/\v.2.2.1.length<=i+k/\v.2.2.1.Pairwise (λx y=>bP x y=true)/\(∀x,x∈v.2.2.1↔x∈a.take i\/x∈b.take k)/\(∀x∈v.2.2.1,(∀y∈a.drop i,bP x y=true)/\∀y∈b.drop k,bP x y=true)) (λv=>a.length+b.length - (v.1.toNat+v.2.1.toNat)) ?_ ⟨0,0,rfl,rfl,by omega,by omega,by simp,List.Pairwise.nil,by simp,λx hx=>absurd hx QR⟩
 rintro⟨i',k',out,u⟩ ⟨i,k,e1,e2,hi,hk,hlen,hpw,hmem,hlt⟩;simp only at e1 e2 hlen hpw hmem hlt;subst e1 e2;have kk:∀x:ByteArray,bh 16 (out.length+[x].length)=true:=λx=>bD ⟨by simp only[Q6];omega,by simp only[Q6];omega⟩
 have hi1:aA .i64 (i:Int) 1=((i+1:Nat):Int):=bG (by omega) (by omega)
 have hk1:aA .i64 (k:Int) 1=((k+1:Nat):Int):=bG (by omega) (by omega)
 have ga:∀h:i<a.length,idx a (i:Int)=some a[i]:=λh=>by rw[bf];exact Qv h
 have gb:∀h:k<b.length,idx b (k:Int)=some b[k]:=λh=>by rw[bf];exact Qv h
 have tail:∀{l:List ByteArray} (hp:l.Pairwise (λx y=>bP x y=true)) {j:Nat} (hj:j<l.length),∀y∈l.drop (j+1),bP l[j] y=true:=by intro l hp j hj;have:=hp.sublist (List.drop_sublist j l);rw[QM hj,Q4]at this;exact this.1
 have fin1:∀(x:ByteArray) (j1 j2:Nat),j1<=a.length->j2<=b.length->i<=j1->k<=j2->i+k<j1+j2->(∀y,(y∈a.take j1\/y∈b.take j2)↔y=x\/y∈a.take i\/y∈b.take k)->(x∈a.drop i\/x∈b.drop k)->(∀y∈a.drop j1,bP x y=true)->(∀y∈b.drop j2,bP x y=true)->Yd (bif bh 16 (out.length+[x].length)then some (Sum.inl (((j1:Nat):Int),((j2:Nat):Int),(out++[x]),()))else(none:Option ((Int×Int×List ByteArray×Unit)⊕List ByteArray)))
   (Lp (λs'=>(∃i k:Nat,s'.1=i/\s'.2.1=k/\i<=a.length/\k<=b.length/\s'.2.2.1.length<=i+k/\s'.2.2.1.Pairwise (λx y=>bP x y=true)/\(∀x,x∈s'.2.2.1↔x∈a.take i\/x∈b.take k)/\(∀x∈s'.2.2.1,(∀y∈a.drop i,bP x y=true)/\∀y∈b.drop k,bP x y=true))/\a.length+b.length - (s'.1.toNat+s'.2.1.toNat)<a.length+b.length - ((i:Int).toNat+(k:Int).toNat)) (λr=>r.Pairwise (λx y=>bP x y=true)/\(∀x,x∈r↔x∈a\/x∈b)/\r.length<=a.length+b.length)):=by
  intro x j1 j2 h1 h2 h3 h4 h5 hm hxi hx1 hx2;rw[kk x,Qk];refine .some ⟨⟨j1,j2,rfl,rfl,h1,h2,?_,?_,λy=> ?_,λy hy=> ?_⟩,?_⟩
  ·simp only[QB,Q6];omega
  ·rw[Qq69];refine⟨hpw,List.pairwise_singleton _ _,λy hy z hz=> ?_⟩
   rw[Q5.1 hz];exact hxi.elim ((hlt y hy).1 x) ((hlt y hy).2 x)
  ·rw[Qz,Q5,hmem,hm];exact or_comm
  ·rcases Qz.1 hy with hy|hy
   ·refine⟨λz hz=>(hlt y hy).1 z ?_,λz hz=>(hlt y hy).2 z ?_⟩
    ·rw[show j1=i+(j1 - i)by omega,<-List.drop_drop]at hz
     exact Q2 hz
    ·rw[show j2=k+(j2 - k)by omega,<-List.drop_drop]at hz
     exact Q2 hz
   ·rw[Q5.1 hy];exact⟨hx1,hx2⟩
  ·simp only[QV];omega
 have ta:∀(h:i<a.length) (y:ByteArray),y∈a.take (i+1)↔y=a[i]\/y∈a.take i:=λh y=>by rw[Q7 h,Qz,Q5];exact or_comm
 have tb:∀(h:k<b.length) (y:ByteArray),y∈b.take (k+1)↔y=b[k]\/y∈b.take k:=λh y=>by rw[Q7 h,Qz,Q5];exact or_comm
 have da:∀h:i<a.length,a[i]∈a.drop i:=λh=>by rw[QM h];exact Qx
 have db:∀h:k<b.length,b[k]∈b.drop k:=λh=>by rw[QM h];exact Qx
 simp only
 by_cases c1:i<a.length
 ·rw[Qg (by omega:(i:Int)<(a.length:Int))]
  simp only[Qk,Qa]
  by_cases c2:k=b.length
  ·rw[Qg (by omega:(k:Int)=(b.length:Int)),ga c1,hi1]
   simp only[Qk,Qa];refine fin1 a[i] (i+1) k (by omega) hk (by omega) (by omega) (by omega) (λy=>by rw[ta c1,or_assoc]) (.inl (da c1)) (tail ha c1) ?_
   rw[c2,Qq66];exact λy hy=>absurd hy QR
  ·have c3:k<b.length:=by omega
   rw[Qh (by omega:¬(k:Int)=(b.length:Int)),ga c1,gb c3,Qh (by omega:¬(i:Int)=(a.length:Int))]
   simp only[Ql,Qa,Bc,Fv,KE,hi1,hk1]
   cases hxy:bP a[i] b[k]with
   |true=>
    refine fin1 a[i] (i+1) k (by omega) hk (by omega) (by omega) (by omega) (λy=>by rw[ta c1,or_assoc]) (.inl (da c1)) (tail ha c1) λy hy=> ?_
    rw[QM c3]at hy;rcases QA.1 hy with rfl|hy
    ·exact hxy
    ·exact jx.trans _ _ _ hxy (tail hb c3 y hy)
   |false=>
    cases hyx:bP b[k] a[i]with
    |true=>
     refine fin1 b[k] i (k+1) hi (by omega) (by omega) (by omega) (by omega) (λy=>by rw[tb c3,or_left_comm]) (.inr (db c3)) (λy hy=> ?_) (tail hb c3)
     rw[QM c1]at hy;rcases QA.1 hy with rfl|hy
     ·exact hyx
     ·exact jx.trans _ _ _ hyx (tail ha c1 y hy)
    |false=>
     have he:a[i]=b[k]:=jx.total _ _ hxy hyx;refine fin1 a[i] (i+1) (k+1) (by omega) (by omega) (by omega) (by omega) (by omega) (λy=> ?_) (.inl (da c1)) (tail ha c1) (by rw[he];exact tail hb c3)
     rw[ta c1,tb c3,<-he];constructor
     ·rintro((h|h)|(h|h))
      ·exact .inl h
      ·exact .inr (.inl h)
      ·exact .inl h
      ·exact .inr (.inr h)
     ·rintro(h|h|h)
      ·exact .inl (.inl h)
      ·exact .inl (.inr h)
      ·exact .inr (.inr h)
 ·rw[Qh (by omega:¬(i:Int)<(a.length:Int))]
  simp only[Ql];have ci:i=a.length:=by omega
  by_cases c2:k<b.length
  ·rw[Qg (by omega:(k:Int)<(b.length:Int)),Qh (by omega:¬(k:Int)=(b.length:Int)),gb c2,Qg (by omega:(i:Int)=(a.length:Int))]
   simp only[Ql,Qk,Qa,hk1];refine fin1 b[k] i (k+1) hi (by omega) (by omega) (by omega) (by omega) (λy=>by rw[tb c2,or_left_comm]) (.inr (db c2)) (λy hy=> ?_) (tail hb c2)
   rw[ci,Qq66]at hy;exact absurd hy QR
  ·rw[Qh (by omega:¬(k:Int)<(b.length:Int))]
   simp only[Ql,Qa];refine .some ⟨hpw,λx=> ?_,by omega⟩
   rw[hmem,ci,Qq62,show k=b.length by omega,Qq62]
def afs{m:az}(h:VL m.bl/\VL m.aG):jv m.bl m.aG=some (ri [m]):=by
 have l1:=h.1.len;have l2:=h.2.len;obtain⟨r,h1,h2,h3,_⟩:=La h.1.G5 h.2.G5 (by omega)
 rw[h1,MV [m] h2 (λx=>by rw[h3];simp)]
end
section
def yt(n:au):az:=⟨n.al,n.aH,n.aa,n.bl,n.aG⟩
def Yz(b:Bool)(s:Nat)(k:Int):Nat:=if b then s|||2 ^ k.toNat else s
def abq{b:Bool}{s:Nat}{k:Int}(h:s<1024)(hk:k<10):Yz b s k<1024:=by
 unfold Yz;split
 ·exact BJ h hk
 ·exact h
def Ho(x:ByteArray)(s:Nat×Nat)(m:az):Nat×Nat:=(Yz (decide (x∈m.bl)) s.1 m.al,Yz (decide (x∈m.aG)) s.2 m.al)
def lp(L:List az)(x:ByteArray):Nat×Nat:=L.foldl (Ho x) (0,0)
def Ru(L:List az):Prop:=L.length<=100/\∀m∈L,0<=m.al/\m.al<10/\VL m.bl/\VL m.aG
def Ta{x:ByteArray}:∀{L:List az} (h:∀m∈L,0<=m.al/\m.al<10/\VL m.bl/\VL m.aG) {s:Nat×Nat},s.1<1024->s.2<1024->(L.foldl (Ho x) s).1<1024/\(L.foldl (Ho x) s).2<1024
 |[],_,s,h1,h2=>⟨h1,h2⟩
 |m::L,h,s,h1,h2=>by obtain⟨_,g,_⟩:=h m Qx;exact Ta (L:=L) (λy hy=>h y (Qy _ hy)) (abq h1 g) (abq h2 g)
def B2{L:List az}(h:Ru L)(x:ByteArray):(lp L x).1<1024/\(lp L x).2<1024:=Ta h.2 (by decide) (by decide)
def Oi{L:List az}(h:Ru L)(x:ByteArray){step:Int×Int×Int×Unit->Option ((Int×Int×Int×Unit)⊕(Int×Int×Unit))}
  (h1:∀(i a b:Nat) (m:az),decide ((i:Int)<(L.length:Int))=true->idx L (i:Int)=some m->L[Int.toNat (i:Int)]?=some m->aA .i64 (i:Int) 1=((i+1:Nat):Int)->0<=m.al->m.al<10->VL m.bl->VL m.aG->a<1024->b<1024->step ((a:Int),(b:Int),(i:Int),())=some (.inl (((Ho x (a,b) m).1:Int),((Ho x (a,b) m).2:Int),((i+1:Nat):Int),())))
  (h2:∀a b:Nat,decide ((L.length:Int)<(L.length:Int))=false->step ((a:Int),(b:Int),(L.length:Int),())=Option.map Sum.inr (some ((a:Int),(b:Int),()))):
  aE step ((0:Int),(0:Int),(0:Int),())=some (((lp L x).1:Int),((lp L x).2:Int),()):=by
 suffices key:Yd (aE step ((0:Int),(0:Int),(0:Int),())) λr=>r=(((lp L x).1:Int),((lp L x).2:Int),())by obtain⟨r,g,rfl⟩:=key;exact g
 refine Yd.list L (by have:=h.1;omega) (λi (s:Int×Int)=>(s.1,s.2,i,())) (λi s=>s=(((lp (L.take i) x).1:Int),((lp (L.take i) x).2:Int))) ?_ ?_ (s:=(0,0)) rfl
 ·rintro i m s rfl hd hm hi hdec hx hadd;obtain⟨g0,g1,gv,ga⟩:=h.2 m hm;have hlt:=B2 (L:=L.take i) ⟨by rw[List.length_take];have:=h.1;omega,λy hy=>h.2 y (Q1 hy)⟩ x
  have e:L.take (i+1)=L.take i++[m]:=by rw[List.take_add_one,show L[i]?=some m by rw[bf]at hx;exact hx];rfl
  refine .of_eq (h1 i _ _ m hdec hx (Sv hx) hadd g0 g1 gv ga hlt.1 hlt.2) ⟨(_,_),rfl,?_⟩;rw[e];simp only[lp,List.foldl_append,QU,List.foldl_nil]
 ·rintro s rfl hdec;rw[Qq62];exact .of_eq (h2 _ _ hdec) rfl
def Rg{b:Bool}{s:Nat}{k:Int}(h:s<1024)(h0:0<=k)(h1:k<10):(if b then sB .i64 (s:Int) (bW .i64 (1:Int) k)else(s:Int))=((Yz b s k:Nat):Int):=by
 cases b with
 |true=>simp only[Qt,Yz];exact qO h h0 h1
 |false=>rfl
def Yw{L:List az}(h:Ru L)(x:ByteArray):gA L x=some (((lp L x).1:Int),((lp L x).2:Int),()):=by
 unfold gA;refine Oi h x (λi a b m hd hx hx2 hadd g0 g1 gv ga ha hb=> ?_) (λa b hd=> ?_)
 ·have e1:=Rg (b:=decide (x∈m.bl)) ha g0 g1;have e2:=Rg (b:=decide (x∈m.aG)) hb g0 g1;simp only[hd,hx,hadd,Qk,Qa,aS,ZP _ gv.sC,ZP _ ga.sC,Ho,<-e1,<-e2,Qs (show¬m.al<0 by omega)]
  cases decide (x∈m.bl)<;>cases decide (x∈m.aG)<;>rfl
 ·simp only[hd,Ql]
def cO.said{n:au}(h:cO n):Ru (n.ar++[yt n]):=⟨by have:=h.len;simp;omega,Ol h⟩
def Yl{n:au}(h:cO n)(x:ByteArray):kV n x=some (((lp (n.ar++[yt n]) x).1:Int),((lp (n.ar++[yt n]) x).2:Int),()):=by
 have hlen:=h.len;unfold kV BZ;simp only[etas,Qa,aS];rw[mh (by omega) (by simp;omega),Qk,mh (by omega) (by simp;omega),Qk]
 simp only[List.nil_append];refine Oi h.said x (λi a b m hd hx hx2 hadd g0 g1 gv ga ha hb=> ?_) (λa b hd=> ?_)
 ·have e1:=Rg (b:=decide (x∈m.bl)) ha g0 g1;have e2:=Rg (b:=decide (x∈m.aG)) hb g0 g1;show(λ_=>_) _=_
  unfold yt at hd hx hx2;simp only[hd,hx,hx2,hadd,Qk,Qa,JG _ gv.sC,JG _ ga.sC,Ho,<-e1,<-e2,Qs (show¬m.al<0 by omega)]
  cases decide (x∈m.bl)<;>cases decide (x∈m.aG)<;>rfl
 ·unfold yt at hd ⊢;simp only[hd,Ql]
def HM(m:az):cF:=⟨m.al,m.aH,m.aa,[],[]⟩
def Hq(l:List bj)(m:cF):List bj:=l.set m.al.toNat ⟨true,m.aa⟩
def oL(n:au):List bj:=((n.ar.map HM).foldl Hq (List.replicate 10 ⟨false,xN⟩)).set n.al.toNat ⟨true,n.aa⟩
structure Cw (m:cF):Prop where
 n0:0<=m.al
 n1:m.al<10
 seq:1<=m.aH
 aN:dt m.aa
 dv:m.bl=[]
 eJ:m.aG=[]
def ve.msg{m:az}(h:ve m):Cw (HM m):=⟨h.n0,h.n1,h.seq,h.aN,rfl,rfl⟩
def afx{m:cF}(h:Cw m):q7 m=some true:=by
 have hc:oI []=some true:=by unfold oI;exact bM rfl
 unfold q7;simp only[etas,h.dv,h.eJ,hc,dI h.aN];rw[Qg h.n0,Qg h.n1,Qg h.seq];rfl
def afS{m:cF}(h:Cw m):sM m=some true:=by
 have hc:tH []=some true:=by unfold tH;exact bM rfl
 unfold sM qw;simp only[etas,h.dv,h.eJ,hc,eK h.aN];rw[Qg h.n0,Qg h.n1,Qg h.seq];rfl
def Hp:∀{l:List cF} (h:∀m∈l,Cw m) {r:List bj},te r->te (l.foldl Hq r)
 |[],_,r,hr=>hr
 |m::l,h,r,hr=>Hp (l:=l) (λy hy=>h y (Qy _ hy)) (hr.set _ (h m Qx).aN.sm)
def Zn:te (List.replicate 10 ⟨false,xN⟩):=⟨by rw[List.length_replicate],λm hm=>by rw[(List.mem_replicate.1 hm).2];exact O2⟩
def U9{l:List cF}(h:∀m∈l,Cw m)(hl:l.length<=1000){fin:List bj->Option bd}{step:Int×bd×List bj×Unit->Option ((Int×bd×List bj×Unit)⊕bd)}
  (h1:∀(i:Nat) (m:cF) (s:List bj) (y:bj),decide ((i:Int)<(l.length:Int))=true->idx l (i:Int)=some m->aA .i64 (i:Int) 1=((i+1:Nat):Int)->m∈l->Cw m->idx s m.al=some y->s[m.al.toNat]?=some y->step ((i:Int),bd.mk [],s,())=some (.inl (((i+1:Nat):Int),bd.mk [],Hq s m,())))
  (h2:∀s,decide ((l.length:Int)<(l.length:Int))=false->te s->step ((l.length:Int),bd.mk [],s,())=Option.map Sum.inr (fin s)):
  aE step ((0:Int),bd.mk [],List.replicate 10 ⟨false,xN⟩,())=fin (l.foldl Hq (List.replicate 10 ⟨false,xN⟩)):=by
 suffices key:∀(k i:Nat),i+k=l.length->aE step ((i:Int),bd.mk [],(l.take i).foldl Hq (List.replicate 10 ⟨false,xN⟩),())=fin (l.foldl Hq (List.replicate 10 ⟨false,xN⟩))from key l.length 0 (by omega)
 intro k
 induction k with
 |zero=>
  intro i hi;obtain rfl:i=l.length:=by omega
  rw[Qq62,fg,h2 _ (Qh (Qq64 _)) (Hp h Zn)];cases fin (l.foldl Hq (List.replicate 10 ⟨false,xN⟩))<;>rfl
 |succ k ih=>
  intro i hi;have hlt:i<l.length:=by omega
  have hm:=h l[i] (Q0 hlt);obtain⟨y,g1,g2⟩:=(Hp (l:=l.take i) (λz hz=>h z (Q1 hz)) Zn).get hm.n0 hm.n1
  have hs:=h1 i l[i] _ y (Qg (by omega)) (by rw[bf];exact Qv hlt) (bG (by omega) (by omega)) (Q0 hlt) hm g1 g2
  refine(bx hs).trans ?_;have:=ih (i+1) (by omega)
  rw[Q7 hlt,List.foldl_append]at this;exact this
def UX:(decide ((10:Int)<=(10:Int))&&decide (0<=(10:Int))&&bh 64 (Int.toNat (10:Int)))=true:=by rw[bD (by decide)];rfl
section
variable {v : Int} {t : aj} (h0 : 0 <= v) (h1 : v < 10) (ht : dt t) {l : List cF} (hl : l.length <= 1000) (h : ∀ m ∈ l, Cw m)
 include h0 h1 ht hl h
theorem ac0:qq v t l=some ⟨(l.foldl Hq (List.replicate 10 ⟨false,xN⟩)).set v.toNat ⟨true,t⟩⟩:=by
 unfold qq;rw[UX,Qk];simp only[etas,aS];refine(U9 h hl (fin:=λs=>some ⟨s.set v.toNat ⟨true,t⟩⟩) (λi m s y hd hx hadd hm hmo g1 g2=> ?_) (λs hd hr=> ?_)).trans rfl
 ·simp only[hd,hx,hadd,Qk,Qa,cF.eta,afx hmo,g1,g2];rfl
 ·obtain⟨x,g1,g2⟩:=hr.get h0 h1;have hr2:=hr.set v.toNat (m:=⟨false,⟨0,[],[]⟩⟩) O2;obtain⟨x2,k1,k2⟩:=hr2.get h0 h1;simp only[hd,Ql,Qg h0,Qg h1,Qk,Qa,g1,g2,dI ht,decide_true,k1,k2,List.set_set]
theorem adl(hne:∀m∈l,m.al≠v):qx v t l=some ⟨(l.foldl Hq (List.replicate 10 ⟨false,xN⟩)).set v.toNat ⟨true,t⟩⟩:=by
 unfold qx qw;rw[UX,Qk];simp only[etas,aS];refine(U9 h hl (fin:=λs=>some ⟨s.set v.toNat ⟨true,t⟩⟩) (λi m s y hd hx hadd hm hmo g1 g2=> ?_) (λs hd hr=> ?_)).trans rfl
 ·simp only[hd,hx,hadd,Qk,Qa,cF.eta,Qh (hne m hm),Qp,afS hmo,Vy hmo.aN.sm,g1,g2];rfl
 ·obtain⟨x,g1,g2⟩:=hr.get h0 h1;simp only[hd,Ql,Qg h0,Qg h1,Qk,Qa,g1,g2,eK ht,decide_true,Vy ht.sm]
end
def TE{L:List az}(hl:L.length<=100){fin:List cF->Option bd}{step:Int×List cF×Unit->Option ((Int×List cF×Unit)⊕bd)}
  (h1:∀(i:Nat) (m:az) (s:List cF),decide ((i:Int)<(L.length:Int))=true->idx L (i:Int)=some m->aA .i64 (i:Int) 1=((i+1:Nat):Int)->s.length=i->step ((i:Int),s,())=some (.inl (((i+1:Nat):Int),s++[HM m],())))
  (h2:∀s,decide ((L.length:Int)<(L.length:Int))=false->step ((L.length:Int),s,())=Option.map Sum.inr (fin s)):
  aE step ((0:Int),[],())=fin (L.map HM):=by
 suffices key:∀(k i:Nat),i+k=L.length->aE step ((i:Int),(L.take i).map HM,())=fin (L.map HM)from key L.length 0 (by omega)
 intro k
 induction k with
 |zero=>
  intro i hi;obtain rfl:i=L.length:=by omega
  rw[Qq62,fg,h2 _ (Qh (Qq64 _))];cases fin (L.map HM)<;>rfl
 |succ k ih=>
  intro i hi;have hlt:i<L.length:=by omega
  have hs:=h1 i L[i] ((L.take i).map HM) (Qg (by omega)) (by rw[bf];exact Qv hlt) (bG (by omega) (by omega)) (by simp;omega)
  refine(bx hs).trans ?_;have:=ih (i+1) (by omega)
  rw[Q7 hlt,List.map_append]at this;exact this
section
variable {n : au} (h : cO n)
 include h
theorem cO.adx:∀m∈n.ar.map HM,Cw m:=λm hm=>by obtain⟨x,hx,rfl⟩:=QP.1 hm;exact(h.heard x hx).1.msg
theorem Db:AX ⟨oL n⟩:=((Hp h.adx Zn).set n.al.toNat (m:=⟨true,n.aa⟩) h.ask.aN.sm).sc
theorem aa5:l0 n=some ⟨oL n⟩:=by
 have hlen:=h.len;unfold l0;simp only[etas];refine(TE (L:=n.ar) (by omega) (fin:=λs=>Option.bind (qq n.al n.aa s) λr3=>some r3) (λi m s hd hx hadd hs=> ?_) (λs hd=> ?_)).trans ?_
 ·simp only[hd,hx,hadd,Qk,Qa];rw[mh (by omega) (by simp only[Q6];have:=of_decide_eq_true hd;omega)]
  rfl
 ·simp only[hd,Ql]
 ·rw[ac0 h.ask.v0 h.ask.v1 h.ask.aN (by simp;omega) h.adx]
  rfl
theorem ahN:oZ n=some ⟨oL n⟩:=by
 have hlen:=h.len;unfold oZ;simp only[etas];refine(TE (L:=n.ar) (by omega) (fin:=λs=>Option.bind (qx n.al n.aa s) λr3=>some r3) (λi m s hd hx hadd hs=> ?_) (λs hd=> ?_)).trans ?_
 ·simp only[hd,hx,hadd,Qk,Qa];rw[mh (by omega) (by simp only[Q6];have:=of_decide_eq_true hd;omega)]
  rfl
 ·simp only[hd,Ql]
 ·rw[adl h.ask.v0 h.ask.v1 h.ask.aN (by simp;omega) h.adx (λm hm=>by
   obtain⟨x,hx,rfl⟩:=QP.1 hm
   exact(h.heard x hx).2)]
  rfl
end
 def ss(n:au)(x:ByteArray):Bool:= !decide (x∈n.aG)&&decide (n.aG.length<40)&&rG (oL n) n.al.toNat (lp (n.ar++[yt n]) x).1 (lp (n.ar++[yt n]) x).2
 def K0(n:au)(x:ByteArray):Bool:=(gq (oL n) (lp (n.ar++[yt n]) x).2).testBit n.al.toNat
def fu(n:au):List ByteArray:=ri (n.ar++[yt n])
section
variable {n : au} (h : cO n)
 include h
theorem aeG(x:ByteArray):sz n x=some (ss n x):=by
 obtain⟨hn,hn10⟩:=Bk h;obtain⟨l1,l2⟩:=B2 h.said x;have hf:=wO (Db h) hn10 l1 l2;rw[<-hn]at hf;unfold sz ss;simp only[etas,aS,Yl h,JG _ h.eJ.sC,aa5 h,hf,Qa];have hd:decide ((n.aG.length:Int)<40)=decide (n.aG.length<40):=by rw[decide_eq_decide];omega
 rw[hd];cases decide (x∈n.aG)<;>cases decide (n.aG.length<40)<;>rfl
theorem H6:∀m∈n.ar++[yt n],VL m.bl/\VL m.aG:=λm hm=>⟨(Ol h m hm).2.2.1,(Ol h m hm).2.2.2⟩
theorem TI:(fu n).length<=880:=by have h1:=SZ (H6 h);have:=h.len;rw[QB,Q6]at h1;unfold fu;omega
theorem abL{x:ByteArray}(hx:x∈fu n):kT x:=by obtain⟨m,hm,g⟩:=((Hg _).2 x).1 hx;exact g.elim ((H6 h m hm).1.si x) ((H6 h m hm).2.si x)
theorem afz:oH n=some (fu n):=by
 have hlen:=h.len;have l1:=h.dv.len;have l2:=h.eJ.len;unfold oH;obtain⟨r,k0,k1,k2,k3⟩:=La h.dv.G5 h.eJ.G5 (by omega)
 rw[k0,Qa]
 suffices key:Yd (aE _ (r,(0:Int),())) λq=>q=fu n by obtain⟨q,g,rfl⟩:=key;exact g
 refine Yd.list n.ar (by omega) (λi (s:List ByteArray)=>(s,i,())) (λi s=>s.Pairwise (λx y=>bP x y=true)/\s.length<=80+80*i/\∀x,x∈s↔(x∈n.bl\/x∈n.aG)\/∃m∈n.ar.take i,x∈m.bl\/x∈m.aG) ?_ ?_ ⟨k1,by omega,λx=>by rw[k2];simp⟩
 ·rintro i m s ⟨s1,s2,s3⟩ hd hm hi hdec hx hadd;have hmy:=(h.heard m hm).1;have l3:=hmy.dv.len;have l4:=hmy.eJ.len;obtain⟨r4,g0,g1,g2,g3⟩:=La hmy.dv.G5 hmy.eJ.G5 (by omega)
  obtain⟨r5,e0,e1,e2,e3⟩:=La s1 g1 (by omega)
  simp only;rw[hdec,Qk,hx,Qa,hadd,g0,Qa,e0];refine .some ⟨r5,rfl,e1,by omega,λx=> ?_⟩
  have e:n.ar.take (i+1)=n.ar.take i++[m]:=by rw[List.take_add_one,show n.ar[i]?=some m by rw[bf]at hx;exact hx];rfl
  rw[e2,s3,g2,e];simp only[Qz,Q5,or_assoc];constructor
  ·rintro(a|a|⟨m',a,b⟩|a)
   ·exact .inl a
   ·exact .inr (.inl a)
   ·exact .inr (.inr ⟨m',.inl a,b⟩)
   ·exact .inr (.inr ⟨m,.inr rfl,a⟩)
  ·rintro(a|a|⟨m',a|rfl,b⟩)
   ·exact .inl a
   ·exact .inr (.inl a)
   ·exact .inr (.inr (.inl ⟨m',a,b⟩))
   ·exact .inr (.inr (.inr b))
 ·rintro s ⟨s1,s2,s3⟩ hdec;rw[Qq62]at s3;simp only;rw[hdec,Ql];refine .some (MV _ s1 λx=> ?_)
  rw[s3];simp only[Qz,Q5];constructor
  ·rintro(a|⟨m',a,b⟩)
   ·exact⟨yt n,.inr rfl,a⟩
   ·exact⟨m',.inl a,b⟩
  ·rintro⟨m',a|rfl,b⟩
   ·exact .inr ⟨m',a,b⟩
   ·exact .inl b
theorem WW:cn n.ar=some n.ar:=by
 have hlen:=h.len;unfold cn;have hk:bh 120 (([]:List az).length+n.ar.length)=true:=mh (by omega) (by simp;omega)
 rw[hk]
 cases n.ar with
 |nil|cons x l=>simp
theorem abl:jT n ⟨oL n⟩=some (match(fu n).find? (ss n)with|some x=>(x,true,())|none=>(⟨#[]⟩,false,())):=by
 have hlen:=h.len;obtain⟨hn,hn10⟩:=Bk h;have hkl:=TI h;unfold jT lh;simp only[etas,WW h,Qa];rw[mh (by omega) (by simp;omega),Qk]
 have hall:na (n.ar++[(⟨n.al,n.aH,n.aa,n.bl,n.aG⟩:az)])=some (fu n):=ahX (H6 h) h.said.1;rw[hall,Qa];refine(zK (fu n) (by omega) (ss n) (f:=λ_ x=>some (x,true,())) (fin:=some (⟨#[]⟩,false,())) (λi x hi hx0 hd hx hadd=> ?_) (λ_ hd=> ?_)).trans ?_
 ·obtain⟨l1,l2⟩:=B2 h.said x;have hf:=CL (Db h) hn10 l1 l2;rw[<-hn]at hf;have hsay:gA (n.ar++[(⟨n.al,n.aH,n.aa,n.bl,n.aG⟩:az)]) x=_:=Yw h.said x;have hd4:decide ((n.aG.length:Int)<40)=decide (n.aG.length<40):=by rw[decide_eq_decide];omega
  simp only[hd,hx,hadd,Qk,Qa,hsay,ZP _ h.eJ.sC,hf,hd4,ss];cases decide (x∈n.aG)<;>cases decide (n.aG.length<40)<;>cases rG (oL n) n.al.toNat (lp (n.ar++[yt n]) x).1 (lp (n.ar++[yt n]) x).2<;>rfl
 ·simp only[hd,Ql]
 ·cases hf:(fu n).findIdx? (ss n)with
  |none=>
   have:(fu n).find? (ss n)=none:=List.find?_eq_none.2 λx hx=>by rw[List.findIdx?_eq_none_iff.1 hf x hx];simp
   rw[this]
  |some i=>
   obtain⟨hi,hp,hpre⟩:=List.findIdx?_eq_some_iff_getElem.1 hf;have:(fu n).find? (ss n)=some (fu n)[i]:=List.find?_eq_some_iff_getElem.2 ⟨hp,i,hi,rfl,λj hj=>by simpa using hpre j hj⟩
   rw[this];simp only[Qv hi,Qa]
end
end
section
def Sw(x:Int):List aj->Bool
 |[]=>false
 |u::_=>decide (x∈u.bb)
def Wi(t:aj)(x:Int):Bool:=decide (x∈t.bb)||Sw x t.aO
def ui(t:aj):Int:=((t.bb.length+t.aO.length:Nat):Int)
def IE(t:aj)(x:Int):eX×Bool×Unit:=if Wi t x then(⟨t.aI,ui t⟩,true,())else(⟨0,0⟩,false,())
def den_add(t:aj)(h:t.bb.length+t.aO.length<=1000):aA .i64 (t.bb.length:Int) (t.aO.length:Int)=ui t:=by
 rw[bG (by omega) (by omega)]
 unfold ui;omega
def aeO{a b:Int}(h0:0<=a*b)(h:a*b<=9223372036854775807):qa .i64 a b=a*b:=wrap64 (by omega) h
def ahV(l:List Int)(hl:l.length<=1000000)(x:Int):lH l x=some (decide (x∈l)):=by
 unfold lH sx
 have:=Yd.list (p:=λr=>decide (0<=r)=decide (x∈l)) (step:=λ(v1:Int×Unit)=>
   bif (decide (v1.1<((List.length l:Nat):Int)))then
   Option.bind (idx l v1.1) λx2=>
   bif (decide (x=x2))then
   Option.map Sum.inr (some v1.1)
   else
   some (Sum.inl ((aA .i64 v1.1 (1:Int)),()))
   else
   Option.map Sum.inr (some (-1:Int))) l hl (λi (_:Unit)=>(i,())) (λi _=>x∉l.take i) ?_ ?_ (s:=()) (by simp)
 ·obtain⟨r,h1,h2⟩:=this;rw[h1,Qa,h2]
 ·intro i y s hs hd hy hi hdec hx hadd;simp only;rw[hdec,Qk,hx,Qa,hadd]
  by_cases hxy:x=y
  ·rw[Qg hxy,Qk];refine .some ?_;show decide ((0:Int)<=(i:Int))=decide (x∈l);rw[Qg (by omega:(0:Int)<=(i:Int))]
   exact(Qg (by rw[hxy];exact hy)).symm
  ·rw[Qh hxy,Ql];refine .some ⟨(),rfl,?_⟩;rw[List.take_add_one,show l[i]?=some y by rw[bf]at hx;exact hx]
   simp only[Option.toList_some,Qz,Q5];exact λh=>h.elim hs hxy
 ·intro s hs hdec;simp only;rw[hdec,Ql];rw[Qq62]at hs;refine .some ?_;show decide ((0:Int)<= -1)=decide (x∈l);rw[Qh hs];rfl
def abx{ρ:Type}(l:List Int)(hl:l.length<=1000000)(x:Int)(z:eX){hit:Option ρ}{fin:Option ρ}{step:Int×eX×Unit->Option ((Int×eX×Unit)⊕ρ)}
  (h1:∀(i:Nat) (y:Int),decide ((i:Int)<(l.length:Int))=true->idx l (i:Int)=some y->aA .i64 (i:Int) 1=((i+1:Nat):Int)->step ((i:Int),z,())=bif decide (y=x)then Option.map Sum.inr hit else some (.inl (((i+1:Nat):Int),z,())))
  (h2:decide ((l.length:Int)<(l.length:Int))=false->step ((l.length:Int),z,())=Option.map Sum.inr fin):
  aE step ((0:Int),z,())=if x∈l then hit else fin:=by
 suffices key:∀(k i:Nat),i+k=l.length->aE step ((i:Int),z,())=if x∈l.drop i then hit else fin from by
  have:=key l.length 0 (by omega)
  rw[List.drop_zero]at this;exact this
 intro k
 induction k with
 |zero=>
  intro i hi;obtain rfl:i=l.length:=by omega
  rw[fg,h2 (Qh (Qq64 _)),Qq66,Qs QR];cases fin<;>rfl
 |succ k ih=>
  intro i hi;have hlt:i<l.length:=by omega
  have hs:=h1 i l[i] (Qg (by omega)) (by rw[bf];exact Qv hlt) (bG (by omega) (by omega))
  rw[QM hlt]
  by_cases hy:l[i]=x
  ·rw[Qg hy,Qk]at hs;rw[fg,hs,Qr (by rw[<-hy];exact Qx)]
   cases hit<;>rfl
  ·rw[Qh hy,Ql]at hs;rw[bx hs,ih (i+1) (by omega)]
   by_cases hm:x∈l.drop (i+1)
   ·rw[Qr hm,Qr (Qy _ hm)]
   ·rw[Qs hm,Qs (λe=>(QA.1 e).elim (λe=>hy e.symm) hm)]
def PG{l:List aj}(hl:l=[]\/∃y,l=[⟨1,[y],[]⟩]){x:Int}{th n:Int}(hth:1<=th/\th<=1000)(hn:1<=n/\n<=1000)(z:eX){rec:aj->Option (eX×Bool×Unit)}
  (hr:∀y,l=[⟨1,[y],[]⟩]->rec ⟨1,[y],[]⟩=some (IE ⟨1,[y],[]⟩ x)) {step:Int×eX×Unit->Option ((Int×eX×Unit)⊕(eX×Bool×Unit))}
  (h1:∀(i:Nat) (u:aj),decide ((i:Int)<(l.length:Int))=true->idx l (i:Int)=some u->aA .i64 (i:Int) 1=((i+1:Nat):Int)->step ((i:Int),z,())=Option.bind (rec u) λr=>bif r.2.1 then Option.map Sum.inr (some (⟨qa .i64 th r.1.Uc,qa .i64 n r.1.Ud⟩,true,()))else some (.inl (((i+1:Nat):Int),z,())))
  (h2:decide ((l.length:Int)<(l.length:Int))=false->step ((l.length:Int),z,())=Option.map Sum.inr (some (⟨0,0⟩,false,()))):
  aE step ((0:Int),z,())=some (if Sw x l then(⟨th,n⟩,true,())else(⟨0,0⟩,false,())):=by
 rcases hl with rfl|⟨y,rfl⟩
 ·exact bM (h2 (by decide))
 ·have g:=h1 0 _ (by simp) rfl rfl
  rw[hr y rfl]at g;simp only[Qa,IE,Wi,Sw,Bool.or_false,ui,Q6,QZ]at g
  by_cases hx:x∈[y]
  ·simp only[Qg hx,Qt,Qk]at g;rw[aeO (by omega) (by omega),aeO (by simp;omega) (by simp;omega)]at g
   refine bM (g.trans ?_);simp only[Sw,Qg hx,Qt,Int.mul_one];simp
  ·simp only[Qh hx,Qq,Qu,Ql]at g;refine(bx g).trans ((bM (h2 (by simp))).trans ?_)
   simp only[Sw,Qh hx,Qq,Qu]
def dt.abP{t:aj}(h:dt t):t.aO=[]\/∃y,t.aO=[⟨1,[y],[]⟩]:=h.inner.elim .inl λ⟨x,_,_,e⟩=> .inr ⟨x,e⟩
def dt.total{t:aj}(h:dt t):t.bb.length+t.aO.length<=11/\1<=t.bb.length+t.aO.length:=by have h1:=h.len;have h2:=h.th;rcases h.inner with e|⟨_,_,_,e⟩<;>rw[e]at h2 ⊢<;>simp only[QZ,Q6]at h2 ⊢<;>omega
def Yt{rec:(aj×Int×Unit)->Option (eX×Bool×Unit)}{t:aj}{x:Int}(h1:t.aO=[]\/∃y,t.aO=[⟨1,[y],[]⟩])(hn:t.bb.length<=100)(hth:1<=t.aI/\t.aI<=1000)(hd:1<=t.bb.length+t.aO.length)
  (hr:∀y,t.aO=[⟨1,[y],[]⟩]->rec (⟨1,[y],[]⟩,x,())=some (IE ⟨1,[y],[]⟩ x)):nh rec t x=some (IE t x):=by
 have hl:t.aO.length<=1:=by rcases h1 with e|⟨_,e⟩<;>rw[e]<;>simp
 unfold nh;simp only[ahV t.bb (by omega),den_add t (by omega),Qa]
 unfold IE Wi
 cases decide (x∈t.bb)with
 |true=>rfl
 |false=>
  simp only[Ql,Bool.false_or];rcases h1 with e|⟨y,e⟩
  ·rw[e];exact bM rfl
  ·refine(PG (l:=t.aO) (.inr ⟨y,e⟩) (th:=t.aI) (n:=ui t) hth (by unfold ui;omega) ⟨0,0⟩ (rec:=λu=>rec (u,x,())) hr (λi u hdc hx hadd=> ?_) (λhdc=> ?_)).trans rfl
   ·simp only[hdc,hx,hadd,Qk,Qa,etas]
   ·simp only[hdc,Ql]
def Yj{rec:(aj×Int×Unit)->Option (eX×Bool×Unit)}{t:aj}{x:Int}(h1:t.aO=[]\/∃y,t.aO=[⟨1,[y],[]⟩])(hn:t.bb.length<=100)(hth:1<=t.aI/\t.aI<=1000)(hd:1<=t.bb.length+t.aO.length)
  (hr:∀y,t.aO=[⟨1,[y],[]⟩]->rec (⟨1,[y],[]⟩,x,())=some (IE ⟨1,[y],[]⟩ x)):jH rec t x=some (IE t x):=by
 have hl:t.aO.length<=1:=by rcases h1 with e|⟨_,e⟩<;>rw[e]<;>simp
 unfold jH;refine(abx t.bb (by omega) x ⟨0,0⟩ (hit:=some (⟨t.aI,ui t⟩,true,())) (fin:=some (if Sw x t.aO then(⟨t.aI,ui t⟩,true,())else(⟨0,0⟩,false,()))) (λi y hdc hx hadd=> ?_) (λhdc=> ?_)).trans ?_
 ·simp only[hdc,hx,hadd,Qk,Qa,den_add t (by omega)]
 ·simp only[hdc,Ql,den_add t (by omega)]
  congr 1;rcases h1 with e|⟨y,e⟩
  ·rw[e];exact bM rfl
  ·refine(PG (l:=t.aO) (.inr ⟨y,e⟩) (th:=t.aI) (n:=ui t) hth (by unfold ui;omega) ⟨0,0⟩ (rec:=λu=>rec (u,x,())) hr (λi u hdc hx hadd=> ?_) (λhdc=> ?_)).trans rfl
   ·simp only[hdc,hx,hadd,Qk,Qa,etas]
   ·simp only[hdc,Ql]
 ·unfold IE Wi
  by_cases hx:x∈t.bb
  ·rw[Qr hx,Qg hx];rfl
  ·rw[Qs hx,Qh hx,Bool.false_or]
def pW{t:aj}(h:dt t)(x:Int):yU t x=some (IE t x):=by
 have h1:=h.total;have h2:=h.th;have h3:=h.len;show nh (yR (SizeOf.sizeOf t+SizeOf.sizeOf x)) t x=_;refine Yt h.abP (by omega) (by omega) h1.2 λy e=> ?_
 obtain⟨n,hn⟩:∃n,SizeOf.sizeOf t+SizeOf.sizeOf x=n+1:=by obtain⟨n,hn⟩:=Gl t;exact⟨n+SizeOf.sizeOf x,by omega⟩
 rw[hn];show nh (yR n) ⟨1,[y],[]⟩ x=_;exact Yt (.inl rfl) (by simp) (by simp) (by simp) λy e=>by cases e
def rW{t:aj}(h:dt t)(x:Int):xe t x=some (IE t x):=by
 have h1:=h.total;have h2:=h.th;have h3:=h.len;show jH (tk (SizeOf.sizeOf t+SizeOf.sizeOf x)) t x=_;refine Yj h.abP (by omega) (by omega) h1.2 λy e=> ?_
 obtain⟨n,hn⟩:∃n,SizeOf.sizeOf t+SizeOf.sizeOf x=n+1:=by obtain⟨n,hn⟩:=Gl t;exact⟨n+SizeOf.sizeOf x,by omega⟩
 rw[hn];show jH (tk n) ⟨1,[y],[]⟩ x=_;exact Yj (.inl rfl) (by simp) (by simp) (by simp) λy e=>by cases e
def Lo(a b c d:Int):∃r,nM a b c d=some r/\pR a b c d=some r/\0<=r/\r<4294967296:=by
 have key:∀n:Int,0<=br .u32 n/\br .u32 n<4294967296:=λn=>by unfold br IntKind.wrap;simp[IntKind.signed,IntKind.bits];omega
 unfold nM pR;exact⟨_,rfl,rfl,key _⟩
 def n4(a b c d:Int):Int:=Classical.choose (Lo a b c d)
def Vn(a b c d:Int):nM a b c d=some (n4 a b c d):=(Classical.choose_spec (Lo a b c d)).1
def abo(a b c d:Int):pR a b c d=some (n4 a b c d):=(Classical.choose_spec (Lo a b c d)).2.1
def Wm(a b c d:Int):0<=n4 a b c d/\n4 a b c d<4294967296:=(Classical.choose_spec (Lo a b c d)).2.2
 def xO(t:aj)(v aJ round k:Int):Bool:=decide (k=v)||(Wi t k&&decide (n4 1 aJ round k*ui t<t.aI*4294967296))
section
variable {t : aj} {v aJ round : Int} (h : DC t v aJ round)
 include h
theorem YE(k:Int):qa .u64 (br .u64 (n4 1 aJ round k)) (br .u64 (ui t))=n4 1 aJ round k*ui t/\bW .u64 (br .u64 t.aI) (32:Int)=t.aI*4294967296/\qa .i64 (br .i64 (n4 1 aJ round k)) (ui t)=n4 1 aJ round k*ui t/\bW .i64 t.aI (32:Int)=t.aI*4294967296:=by
 obtain⟨h1,h2⟩:=Wm 1 aJ round k;have h3:=h.aN.total;have h4:=h.aN.th;generalize n4 1 aJ round k=a at h1 h2;have hd:1<=ui t/\ui t<=11:=by unfold ui;omega
 generalize ui t=d at hd;have ht:1<=t.aI/\t.aI<=11:=by omega
 generalize t.aI=th at ht;have hm:0<=a*d/\a*d<=4294967296*11:=⟨Int.mul_nonneg h1 (by omega),Int.mul_le_mul (by omega) hd.2 (by omega) (by omega)⟩
 have u64:∀n:Int,0<=n->n<9223372036854775808->IntKind.u64.wrap n=n:=λn a b=>by unfold IntKind.wrap;simp[IntKind.signed,IntKind.bits];omega
 have c1:br .u64 a=a:=u64 a h1 (by omega)
 have c2:br .u64 d=d:=u64 d (by omega) (by omega)
 have c3:br .u64 th=th:=u64 th (by omega) (by omega)
 have c4:br .i64 a=a:=wrap64 (by omega) (by omega)
 rw[c1,c2,c3,c4];refine⟨u64 _ hm.1 (by omega),?_,wrap64 (by omega) (by omega),?_⟩
 ·exact u64 (th*2 ^ 32) (by omega) (by omega)
 ·exact wrap64 (n:=th*2 ^ 32) (by omega) (by omega)
theorem pNb(k:Int):qI t v aJ round k=some (xO t v aJ round k):=by
 obtain⟨c1,c2,_,_⟩:=YE h k;unfold qI xO;simp only[etas,pW h.aN,abo,Qa,aS]
 cases decide (k=v)with
 |true=>rfl
 |false=>
  unfold IE
  cases Wi t k with
  |true=>simp only[Qt,Qk,Ql,c1,c2];rfl
  |false=>rfl
theorem rNb(k:Int)(h0:0<=k)(h1:k<10):mn t v aJ round k=some (xO t v aJ round k):=by
 obtain⟨_,_,c1,c2⟩:=YE h k;unfold mn xO;simp only[etas,OF h,rW h.aN,Vn,Qa,aS,decide_true,Qo,Ql];rw[Qh (by omega:¬k<0),Qh (by omega:¬(10:Int)<=k)]
 simp only[Ql,Qa]
 cases decide (k=v)with
 |true=>rfl
 |false=>
  unfold IE
  cases Wi t k with
  |true=>simp only[Qt,Qk,Ql,c1,c2];rfl
  |false=>rfl
def ym(aJ round j b:Int):Prop:=n4 2 aJ round j<n4 2 aJ round b\/n4 2 aJ round j=n4 2 aJ round b/\j<=b
structure Cx (t:aj) (v aJ round b:Int):Prop where
 b0:0<=b
 b1:b<10
 nb:xO t v aJ round b=true
 top:∀j,0<=j->j<10->xO t v aJ round j=true->ym aJ round j b
 omit h in
theorem Cx.unique{a b:Int}(ha:Cx t v aJ round a)(hb:Cx t v aJ round b):a=b:=by have h1:=ha.top b hb.b0 hb.b1 hb.nb;have h2:=hb.top a ha.b0 ha.b1 ha.nb;unfold ym at h1 h2;omega
theorem adq:Yd (nf t v aJ round) (Cx t v aJ round):=by
 have hv0:=h.v0;have hv1:=h.v1;unfold nf;simp only[etas,aS];refine Yd.Du (λ(s:Int×Int×Int×Unit)=>0<=s.2.2.1/\s.2.2.1<=10/\((s.2.1=0/\(∀j,0<=j->j<s.2.2.1->xO t v aJ round j=false))\/(0<=s.1/\s.1<s.2.2.1/\xO t v aJ round s.1=true/\s.2.1=n4 2 aJ round s.1/\∀j,0<=j->j<s.2.2.1->xO t v aJ round j=true->ym aJ round j s.1))) (λs=>(10 - s.2.2.1).toNat) ?_ ⟨Int.le_refl _,by show(0:Int)<=10;omega,.inl ⟨rfl,λj h0 h1=>by simp only at h1;omega⟩⟩
 rintro⟨b,m,k,u⟩ ⟨h1,h2,h3⟩;simp only at h1 h2 h3;simp only
 by_cases hk:k<10
 ·rw[Qg hk];have hadd:aA .i64 k 1=k+1:=bG (by omega) (by omega)
  simp only[Qk];rw[hadd,pNb h,Qa];have hm:(10 - (k+1)).toNat<(10 - k).toNat:=by omega
  have split1:∀j,j<k+1->j<k\/j=k:=λj hj=>by omega
  cases hn:xO t v aJ round k with
  |false=>
   refine .some ⟨⟨by show 0<=k+1;omega,by show k+1<=10;omega,?_⟩,hm⟩
   rcases h3 with⟨h4,h5⟩|⟨h4,h5,h6,h7,h8⟩
   ·refine .inl ⟨h4,λj j0 j1=> ?_⟩
    rcases split1 j j1 with j1|rfl
    ·exact h5 j j0 j1
    ·exact hn
   ·refine .inr ⟨h4,by show b<k+1;omega,h6,h7,λj j0 j1 hj=> ?_⟩
    rcases split1 j j1 with j1|rfl
    ·exact h8 j j0 j1 hj
    ·rw[hn]at hj;cases hj
  |true=>
   rw[abo];simp only[Qo,Ql,Qa]
   by_cases hle:m<=n4 2 aJ round k
   ·rw[Qg hle,Qk];refine .some ⟨⟨by show 0<=k+1;omega,by show k+1<=10;omega,.inr ⟨h1,by show k<k+1;omega,hn,rfl,λj j0 j1 hj=> ?_⟩⟩,hm⟩
    show ym aJ round j k;rcases split1 j j1 with j1|rfl
    ·rcases h3 with⟨h4,h5⟩|⟨h4,h5,h6,h7,h8⟩
     ·have:=h5 j j0 j1;rw[this]at hj;cases hj
     ·have:=h8 j j0 j1 hj;unfold ym at this ⊢;omega
    ·exact .inr ⟨rfl,Int.le_refl _⟩
   ·rw[Qh hle,Ql];refine .some ⟨⟨by show 0<=k+1;omega,by show k+1<=10;omega,?_⟩,hm⟩
    have hr:=Wm 2 aJ round k;rcases h3 with⟨h4,h5⟩|⟨h4,h5,h6,h7,h8⟩
    ·omega
    ·refine .inr ⟨h4,by show b<k+1;omega,h6,h7,λj j0 j1 hj=> ?_⟩
     rcases split1 j j1 with j1|rfl
     ·exact h8 j j0 j1 hj
     ·show ym aJ round j b;unfold ym;omega
 ·rw[Qh hk];have hself:xO t v aJ round v=true:=by unfold xO;simp
  rcases h3 with⟨h4,h5⟩|⟨h4,h5,h6,h7,h8⟩
  ·have:=h5 v hv0 (by omega)
   rw[hself]at this;cases this
  ·exact .some ⟨h4,by omega,h6,λj j0 j1 hj=>h8 j j0 (by omega) hj⟩
theorem ada:Yd (lz t v aJ round) λq=>Cx t v aJ round q.1/\q.2.1=0:=by
 have hv0:=h.v0;have hv1:=h.v1;have hself:xO t v aJ round v=true:=by unfold xO;simp
 unfold lz;simp only[etas,OF h,Qa,aS];simp only[decide_true,Qo,Ql];refine Yd.Du (λ(s:Int×Int×Unit)=>0<=s.2.1/\s.2.1<=10/\0<=s.1/\s.1<10/\xO t v aJ round s.1=true/\∀j,0<=j->j<s.2.1->xO t v aJ round j=true->ym aJ round j s.1) (λs=>(10 - s.2.1).toNat) ?_ ⟨Int.le_refl _,by show(0:Int)<=10;omega,hv0,hv1,hself,λj h0 h1=>by simp only at h1;omega⟩
 rintro⟨b,k,u⟩ ⟨h1,h2,h3,h4,h5,h6⟩;simp only at h1 h2 h3 h4 h5 h6;simp only
 by_cases hk:k<10
 ·rw[Qg hk];have hadd:aA .i64 k 1=k+1:=bG (by omega) (by omega)
  simp only[Qk];rw[hadd,rNb h k h1 hk,Qa];have hm:(10 - (k+1)).toNat<(10 - k).toNat:=by omega
  have split1:∀j,j<k+1->j<k\/j=k:=λj hj=>by omega
  have fin:∀x:Int,0<=x->x<10->xO t v aJ round x=true->(∀j,0<=j->j<k+1->xO t v aJ round j=true->ym aJ round j x)->Yd (some (Sum.inl (x,k+1,())):Option ((Int×Int×Unit)⊕(Int×Int×Unit))) (Lp (λs'=>(0<=s'.2.1/\s'.2.1<=10/\0<=s'.1/\s'.1<10/\xO t v aJ round s'.1=true/\∀j,0<=j->j<s'.2.1->xO t v aJ round j=true->ym aJ round j s'.1)/\(10 - s'.2.1).toNat<(10 - k).toNat) (λq=>Cx t v aJ round q.1/\q.2.1=0)):=
   λx g1 g2 g3 g4=> .some ⟨⟨by show 0<=k+1;omega,by show k+1<=10;omega,g1,g2,g3,g4⟩,hm⟩
  cases hn:xO t v aJ round k with
  |false=>
   refine fin b h3 h4 h5 λj j0 j1 hj=> ?_
   rcases split1 j j1 with j1|rfl
   ·exact h6 j j0 j1 hj
   ·rw[hn]at hj;cases hj
  |true=>
   rw[Vn,Vn];simp only[Qo,Ql,Qa]
   by_cases hlt:n4 2 aJ round b<n4 2 aJ round k
   ·rw[Qg hlt];refine fin k h1 hk hn λj j0 j1 hj=> ?_
    rcases split1 j j1 with j1|rfl
    ·have:=h6 j j0 j1 hj;unfold ym at this ⊢;omega
    ·exact .inr ⟨rfl,Int.le_refl _⟩
   ·rw[Qh hlt];simp only[Ql]
    by_cases heq:n4 2 aJ round k=n4 2 aJ round b
    ·rw[Qg heq];simp only[Qk,Qa]
     by_cases hbk:b<k
     ·rw[Qg hbk];refine fin k h1 hk hn λj j0 j1 hj=> ?_
      rcases split1 j j1 with j1|rfl
      ·have:=h6 j j0 j1 hj;unfold ym at this ⊢;omega
      ·exact .inr ⟨rfl,Int.le_refl _⟩
     ·rw[Qh hbk];refine fin b h3 h4 h5 λj j0 j1 hj=> ?_
      rcases split1 j j1 with j1|rfl
      ·exact h6 j j0 j1 hj
      ·exact .inr ⟨heq,by omega⟩
    ·rw[Qh heq];refine fin b h3 h4 h5 λj j0 j1 hj=> ?_
     rcases split1 j j1 with j1|rfl
     ·exact h6 j j0 j1 hj
     ·exact .inl (by omega)
 ·rw[Qh hk];exact .some ⟨⟨h3,h4,h5,λj j0 j1 hj=>h6 j j0 (by omega) hj⟩,rfl⟩
end
 def wT(t:aj)(v aJ round:Int):Int:=(nf t v aJ round).getD 0
 def kb(t:aj)(v aJ:Int):Nat->Nat
 |0=>0
 |k+1=>kb t v aJ k|||2 ^ (wT t v aJ ((k+1:Nat):Int)).toNat
section
variable {t : aj} {v aJ round : Int} (h : DC t v aJ round)
 include h
theorem DC.at{r:Int}(h1:1<=r)(h2:r<=round):DC t v aJ r:=⟨h.aN,h.v0,h.v1,h.s0,h.s1,h1,by have:=h.r2;omega⟩
theorem UH:nf t v aJ round=some (wT t v aJ round)/\Cx t v aJ round (wT t v aJ round):=by obtain⟨b,h1,h2⟩:=adq h;unfold wT;rw[h1];exact⟨rfl,h2⟩
theorem aeE:lz t v aJ round=some (wT t v aJ round,0,()):=by obtain⟨⟨b,e,u⟩,h1,h2,h3⟩:=ada h;simp only at h3;subst h3;have h4:Cx t v aJ round b:=h2;rw[h1,h4.unique (UH h).2]
theorem HR:∀k:Nat,(k:Int)<=round->kb t v aJ k<1024
 |0,_=>by unfold kb;omega
 |k+1,hk=>by
  have h1:=HR k (by omega)
  have h2:=(UH (h.at (r:=((k+1:Nat):Int)) (by omega) hk)).2
  unfold kb;exact BJ h1 h2.b1
theorem abn:sL t v aJ round=some (((kb t v aJ round.toNat:Nat):Int),0,()):=by
 have e1:=h.v0;have e2:=h.v1;have e3:=h.s0;have e4:=h.s1;have e5:=h.r1;have e6:=h.r2;unfold sL AH;simp only[etas,eK h.aN,Qa,decide_true,Qo,Ql];rw[Qh (by omega:¬v<0),Qh (by omega:¬(10:Int)<=v),Qh (by omega:¬aJ<0),Qh (by omega:¬(1000000:Int)<aJ),Qh (by omega:¬round<1),Qh (by omega:¬(1000:Int)<round)]
 simp only[Ql,Qa,decide_true,Qo]
 suffices key:∀(d k:Nat),k+d=round.toNat->aE _ (((kb t v aJ k:Nat):Int),(k:Int),())=some (((kb t v aJ round.toNat:Nat):Int),(0:Int),())from key round.toNat 0 (by omega)
 intro d
 induction d with
 |zero=>
  intro k hk;obtain rfl:k=round.toNat:=by omega
  refine bM ?_;rw[Qh (by omega:¬((round.toNat:Nat):Int)<round)]
  rfl
 |succ d ih=>
  intro k hk;have hadd:aA .i64 (k:Int) 1=((k+1:Nat):Int):=bG (by omega) (by omega)
  obtain⟨g1,g2⟩:=UH (h.at (r:=((k+1:Nat):Int)) (by omega) (by omega))
  refine(bx ?_).trans (ih (k+1) (by omega))
  rw[Qg (by omega:(k:Int)<round)]
  simp only[hadd,g1,Qk,Qa];rw[Qs (by have:=g2.b0;omega),qO (HR h k (by omega)) g2.b0 g2.b1]
  rfl
theorem aa9:oo t v aJ round=some (((kb t v aJ round.toNat:Nat):Int),0,()):=by
 have e5:=h.r1;have e6:=h.r2;unfold oo;simp only[etas,aS,aeE h,Qa,decide_true,Qo,Ql]
 suffices key:∀(d k:Nat),k+d=round.toNat->aE _ (((kb t v aJ k:Nat):Int),((k+1:Nat):Int),())=some (((kb t v aJ round.toNat:Nat):Int),(0:Int),())from key round.toNat 0 (by omega)
 intro d
 induction d with
 |zero=>
  intro k hk;obtain rfl:k=round.toNat:=by omega
  refine bM ?_;rw[Qh (by omega:¬((round.toNat+1:Nat):Int)<=round)]
  rfl
 |succ d ih=>
  intro k hk;have hadd:aA .i64 ((k+1:Nat):Int) 1=((k+1+1:Nat):Int):=bG (by omega) (by omega)
  have ha:=h.at (r:=((k+1:Nat):Int)) (by omega) (by omega)
  have g1:=aeE ha;have g2:=(UH ha).2;have hlt:=HR h k (by omega)
  refine(bx ?_).trans (ih (k+1) (by omega))
  rw[Qg (by omega:((k+1:Nat):Int)<=round)]
  have hh:kJ ((kb t v aJ k:Nat):Int) (wT t v aJ ((k+1:Nat):Int))=some (xt ((kb t v aJ k:Nat):Int) (wT t v aJ ((k+1:Nat):Int))):=mY _ _
  have hs:xt ((kb t v aJ k:Nat):Int) (wT t v aJ ((k+1:Nat):Int))=(kb t v aJ k).testBit (wT t v aJ ((k+1:Nat):Int)).toNat:=by
   unfold xt fQ;rw[Qg (by omega:(0:Int)<=((kb t v aJ k:Nat):Int)),Qg (by omega:((kb t v aJ k:Nat):Int)<1024),Qg g2.b0,Qg g2.b1]
   simp
  simp only[hadd,g1,hh,hs,Qk,Qa];show _=some (Sum.inl (((kb t v aJ k|||2 ^ (wT t v aJ ((k+1:Nat):Int)).toNat:Nat):Int),((k+1+1:Nat):Int),()))
  cases hb:(kb t v aJ k).testBit (wT t v aJ ((k+1:Nat):Int)).toNat with
  |true=>
   have:kb t v aJ k|||2 ^ (wT t v aJ ((k+1:Nat):Int)).toNat=kb t v aJ k:=by
    refine Nat.eq_of_testBit_eq λi=> ?_
    rw[Nat.testBit_or,Nat.testBit_two_pow]
    by_cases hi:(wT t v aJ ((k+1:Nat):Int)).toNat=i
    ·rw[<-hi,hb];rfl
    ·rw[Qh hi,Bool.or_false]
   rw[this];rfl
  |false=>simp only[Qp,Qk];rw[Qs (by have:=g2.b0;omega),qO hlt g2.b0 g2.b1]
theorem Pd:kb t v aJ round.toNat<1024:=HR h round.toNat (by have:=h.r1;omega)
end
end
section
def fold_eq{α σ τ ρ:Type}(l:List α)(hl:l.length<=1000000)(f:σ->α->σ)(mk:Int->σ->τ)(Inv:σ->Prop)(hI:∀s x,x∈l->Inv s->Inv (f s x)){step:τ->Option (τ⊕ρ)}{fin:σ->Option ρ}
  (h1:∀(i:Nat) (x:α) (s:σ),Inv s->x∈l->decide ((i:Int)<(l.length:Int))=true->idx l (i:Int)=some x->aA .i64 (i:Int) 1=((i+1:Nat):Int)->step (mk (i:Int) s)=some (.inl (mk ((i+1:Nat):Int) (f s x))))
  (h2:∀s,Inv s->decide ((l.length:Int)<(l.length:Int))=false->step (mk (l.length:Int) s)=Option.map Sum.inr (fin s))
  {s:σ} (h0:Inv s):aE step (mk 0 s)=fin (l.foldl f s):=by
 suffices key:∀(k i:Nat) (s:σ),i+k=l.length->Inv s->aE step (mk (i:Int) s)=fin ((l.drop i).foldl f s)from key l.length 0 s (by omega) h0
 intro k
 induction k with
 |zero=>
  intro i s hi hs;obtain rfl:i=l.length:=by omega
  rw[fg,h2 s hs (Qh (Qq64 _)),Qq66,List.foldl_nil];cases fin s<;>rfl
 |succ k ih=>
  intro i s hi hs;have hlt:i<l.length:=by omega
  have hx:=Q0 hlt;refine(bx (h1 i l[i] s hs hx (Qg (by omega)) (by rw[bf];exact Qv hlt) (bG (by omega) (by omega)))).trans ((ih (i+1) _ (by omega) (hI s _ hx hs)).trans ?_)
  rw[QM hlt,QU]
def Es{α σ:Type}{f:σ->α->σ}{Inv:σ->Prop}:∀(l:List α) (hI:∀s x,x∈l->Inv s->Inv (f s x)) {s:σ},Inv s->Inv (l.foldl f s)
 |[],_,_,h=>h
 |x::l,hI,s,h=>Es l (λs y hy=>hI s y (Qy _ hy)) (hI s x Qx h)
def VA(n:au)(l:List ByteArray):List ByteArray:=if n.lP=bE then l else mP l n.lP
def H8(u:Int)(l:List ByteArray)(m:az):List ByteArray:=if m.al=u then(ri [m]).foldl mP l else l
def Hf(n:au)(l:List ByteArray)(u:Int):List ByteArray:=if u=n.al then VA n l else n.ar.foldl (H8 u) l
 def zr(n:au):List ByteArray:=(oP (kb n.aa n.al n.aK n.Round.toNat)).foldl (Hf n) n.bl
def ahZ{x:ByteArray}(h:x.size<=200)(hx:x≠bE):kT x:=by
 refine⟨?_,h⟩;rcases Nat.eq_zero_or_pos x.size with h0|h0
 ·exact absurd (ByteArray.ext (Array.eq_empty_of_size_eq_zero h0)) hx
 ·exact h0
def Zb{m:az}(h:VL m.bl/\VL m.aG):(ri [m]).length<=80/\∀x∈ri [m],kT x:=by
 refine⟨SZ (L:=[m]) (λy hy=>by rw[Q5.1 hy];exact h),λx hx=> ?_⟩
 obtain⟨y,hy,hxy⟩:=((Hg _).2 x).1 hx;rw[Q5.1 hy]at hxy;exact hxy.elim (h.1.si x) (h.2.si x)
section
variable {n : au} (h : cO n)
 include h
theorem afY{l:List ByteArray}(hl:VL l):VL (VA n l):=by
 unfold VA;split
 ·exact hl
 ·rename_i hx;exact(uT hl (ahZ h.own hx)).1
theorem Ko{m:az}(hm:m∈n.ar):VL m.bl/\VL m.aG:=⟨(h.heard m hm).1.dv,(h.heard m hm).1.eJ⟩
theorem NH{u:Int}{l:List ByteArray}(hl:VL l){m:az}(hm:m∈n.ar):VL (H8 u l m):=by
 unfold H8;split
 ·exact Es (Inv:=VL) (ri [m]) (λs x hx hs=>(uT hs ((Zb (Ko h hm)).2 x hx)).1) hl
 ·exact hl
theorem MU{u:Int}{l:List ByteArray}(hl:VL l):VL (Hf n l u):=by
 unfold Hf;split
 ·exact afY h hl
 ·exact Es (Inv:=VL) n.ar (λs m hm hs=>NH h hs hm) hl
theorem EZ:VL (zr n):=Es (Inv:=VL) _ (λs u _ hs=>MU h hs) h.dv
theorem afO:rU n=some (zr n):=by
 have hlen:=h.len;have hlt:=Pd h.ask;have hnl:=zN (kb n.aa n.al n.aK n.Round.toNat);unfold rU;simp only[etas,abn h.ask,Xp hlt,Qa,aS];refine fold_eq (oP (kb n.aa n.al n.aK n.Round.toNat)) (by omega) (Hf n) (λi s=>(s,i,())) VL (λs u _ hs=>MU h hs) (λi u s hs hu hd hx hadd=> ?_) (λs hs hd=> ?_) h.dv
 ·simp only[hd,hx,hadd,Qk,Qa];unfold Hf
  by_cases hun:u=n.al
  ·rw[Qr hun,Qg hun];unfold VA
   by_cases ho:n.lP=bE
   ·rw[Qr ho,Qg ho];rfl
   ·rw[Qs ho,Qh ho];simp only[Qk,Qp,ZN hs,Qa]
  ·rw[Qs hun,Qh hun,Ql];refine fold_eq n.ar (by omega) (H8 u) (λi s=>(s,i,())) VL (λs m hm hs=>NH h hs hm) (fin:=λs=>some (Sum.inl (s,((i+1:Nat):Int),()))) (λj m s2 hs2 hm hd2 hx2 hadd2=> ?_) (λs2 hs2 hd2=> ?_) hs
   ·simp only[hd2,hx2,hadd2,Qk,Qa,az.eta];unfold H8
    by_cases hmu:m.al=u
    ·obtain⟨v1,v2⟩:=Zb (Ko h hm);rw[Qr hmu,Qg hmu];simp only[Qo,Ql,ahX (L:=[m]) (λy hy=>by rw[Q5.1 hy];exact Ko h hm) (by simp),Qa]
     refine fold_eq (ri [m]) (by omega) mP (λi s=>(s,i,())) VL (λs x hx hs=>(uT hs (v2 x hx)).1) (fin:=λs=>some (Sum.inl (s,((j+1:Nat):Int),()))) (λk x s3 hs3 hxm hd3 hx3 hadd3=> ?_) (λs3 hs3 hd3=> ?_) hs2
     ·simp only[hd3,hx3,hadd3,Qk,Qa,ZN hs3]
     ·simp only[hd3,Ql]
    ·rw[Qs hmu,Qh hmu];rfl
   ·simp only[hd2,Ql]
 ·simp only[hd,Ql]
theorem ac5:pN n=some {n with bl:=zr n}:=by
 have hlen:=h.len;have hlt:=Pd h.ask;have hnl:=zN (kb n.aa n.al n.aK n.Round.toNat);unfold pN;simp only[etas,aa9 h.ask,JF hlt,Qa,aS];refine(fold_eq (oP (kb n.aa n.al n.aK n.Round.toNat)) (by omega) (Hf n) (λi s=>(i,{n with bl:=s},())) VL (λs u _ hs=>MU h hs) (fin:=λs=>some {n with bl:=s}) (λi u s hs hu hd hx hadd=> ?_) (λs hs hd=> ?_) h.dv).trans rfl
 ·simp only[hd,hx,hadd,Qk,Qa];unfold Hf
  by_cases hun:u=n.al
  ·rw[Qr hun,Qg hun];unfold VA
   by_cases ho:n.lP=bE
   ·rw[Qr ho,Qg ho];rfl
   ·rw[Qs ho,Qh ho];simp only[Qk,Qp,JD hs,Qa]
  ·rw[Qs hun,Qh hun,Ql];refine fold_eq n.ar (by omega) (H8 u) (λi s=>(i,{n with bl:=s},())) VL (λs m hm hs=>NH h hs hm) (fin:=λs=>some (Sum.inl (((i+1:Nat):Int),{n with bl:=s},()))) (λj m s2 hs2 hm hd2 hx2 hadd2=> ?_) (λs2 hs2 hd2=> ?_) hs
   ·simp only[hd2,hx2,hadd2,Qk,Qa];unfold H8
    by_cases hmu:m.al=u
    ·obtain⟨v1,v2⟩:=Zb (Ko h hm);rw[Qr hmu,Qg hmu];simp only[Qo,Ql,afs (Ko h hm),Qa];refine fold_eq (ri [m]) (by omega) mP (λi s=>(i,{n with bl:=s},())) VL (λs x hx hs=>(uT hs (v2 x hx)).1) (fin:=λs=>some (Sum.inl (((j+1:Nat):Int),{n with bl:=s},()))) (λk x s3 hs3 hxm hd3 hx3 hadd3=> ?_) (λs3 hs3 hd3=> ?_) hs2
     ·simp only[hd3,hx3,hadd3,Qk,Qa,JD hs3]
     ·simp only[hd3,Ql]
    ·rw[Qs hmu,Qh hmu];rfl
   ·simp only[hd2,Ql]
 ·simp only[hd,Ql]
end
 def pj:Nat->au->au
 |0,n=>n
 |k+1,n=>match(fu n).find? (ss n)with
  |none=>n
  |some x=>pj k {n with aG:=mP n.aG x}
def N1{n:au}(h:cO n){x:ByteArray}(hf:(fu n).find? (ss n)=some x):cO {n with aG:=mP n.aG x}/\(mP n.aG x).length=n.aG.length+1:=by have hc:=List.find?_some hf;have hm:=List.mem_of_find?_eq_some hf;unfold ss at hc;simp only[Qm,Bool.not_eq_true',Qj,Qi]at hc;obtain⟨p1,p2,p3,p4⟩:=uT h.eJ (abL h hm);exact⟨h.ahu p1 p2,p4 hc.1.1 hc.1.2⟩
def PT:∀(k:Nat) {n:au},cO n->sE n (pj k n)/\(pj k n).bl=n.bl/\(pj k n).aR=n.aR
 |0,n,h=>⟨.refl h,rfl,rfl⟩
 |k+1,n,h=>by
  unfold pj
  cases hf:(fu n).find? (ss n)with
  |none=>exact⟨.refl h,rfl,rfl⟩
  |some x=>obtain⟨h1,h2,h3⟩:=PT k (N1 h hf).1;exact⟨⟨h1.ok,h1.aF,h1.aJ,h1.round,h1.seq,h1.aN,h1.own,h1.heard⟩,h2,h3⟩
def aeF{fin:au->Option au}{step:Bool×au×Unit->Option ((Bool×au×Unit)⊕au)}
  (h1:∀n,cO n->step (true,n,())=some (.inl (match(fu n).find? (ss n)with|some x=>(true,{n with aG:=mP n.aG x},())|none=>(false,n,()))))
  (h2:∀n,cO n->step (false,n,())=Option.map Sum.inr (fin n)):∀(k:Nat) {n:au},cO n->41<=k+n.aG.length->aE step (true,n,())=fin (pj k n)
 |0,n,h,hk=>by have:=h.eJ.len;omega
 |k+1,n,h,hk=>by
  have g:=h1 n h;unfold pj
  cases hf:(fu n).find? (ss n)with
  |none=>rw[hf]at g;rw[bx g,fg,h2 n h];cases fin n<;>rfl
  |some x=>rw[hf]at g;obtain⟨g1,g2⟩:=N1 h hf;exact(bx g).trans (aeF h1 h2 k g1 (by show 41<=k+(mP n.aG x).length;omega))
 def TD(n:au):ByteArray×Bool×Unit:=match(fu n).find? (ss n)with|some x=>(x,true,())|none=>(⟨#[]⟩,false,())
def aeJ{fin:au->Option au}{step:ByteArray×Bool×au×Unit->Option ((ByteArray×Bool×au×Unit)⊕au)}{c:List bj}
  (h1:∀n x,cO n->oL n=c->cO {n with aG:=mP n.aG x}->step (x,true,n,())=some (.inl ((TD {n with aG:=mP n.aG x}).1,(TD {n with aG:=mP n.aG x}).2.1,{n with aG:=mP n.aG x},())))
  (h2:∀n x,cO n->oL n=c->step (x,false,n,())=Option.map Sum.inr (fin n)):∀(k:Nat) {n:au},cO n->oL n=c->41<=k+n.aG.length->aE step ((TD n).1,(TD n).2.1,n,())=fin (pj k n)
 |0,n,h,_,hk=>by have:=h.eJ.len;omega
 |k+1,n,h,hv,hk=>by
  unfold pj
  cases hf:(fu n).find? (ss n)with
  |none=>
   have e:TD n=(⟨#[]⟩,false,()):=by unfold TD;rw[hf]
   rw[e,fg,h2 n _ h hv];cases fin n<;>rfl
  |some x=>
   have e:TD n=(x,true,()):=by unfold TD;rw[hf]
   obtain⟨g1,g2⟩:=N1 h hf;rw[e];exact(bx (h1 n x h hv g1)).trans (aeJ h1 h2 k g1 hv (by show 41<=k+(mP n.aG x).length;omega))
 def Hl(n:au)(c:List ByteArray)(x:ByteArray):List ByteArray:=if K0 n x then mP c x else c
 def BV(n:au):List ByteArray:=n.aG.foldl (Hl n) n.aR
 def uY(n:au):au:={pj 41 (if n.aR.length=0 then{n with bl:=zr n}else n)with aR:=BV (pj 41 (if n.aR.length=0 then{n with bl:=zr n}else n))}
structure ER (n:au) (c:List ByteArray):Prop where
 vl:VL c
 sub:∀x∈c,x∈n.aG
def MZ{n:au}(h:cO n){c:List ByteArray}(hc:ER n c){x:ByteArray}(hx:x∈n.aG):ER n (Hl n c x):=by
 unfold Hl;split
 ·obtain⟨p1,_,p3,_⟩:=uT hc.vl (h.eJ.si x hx);exact⟨p1,λy hy=>(p3 y hy).elim (λe=>by rw[e];exact hx) (hc.sub y)⟩
 ·exact hc
def cO.ad5{n:au}(h:cO n):ER n n.aR:=⟨h.kS,h.sub⟩
def adU{n:au}(h:cO n):ER n (BV n):=Es (Inv:=ER n) n.aG (λs x hx hs=>MZ h hs hx) h.ad5
def ajd{n:au}(h:cO n)(x:ByteArray):fq ⟨oL n⟩ n.al (((lp (n.ar++[yt n]) x).2:Nat):Int)=some (K0 n x):=by obtain⟨hn,hn10⟩:=Bk h;have hf:=Bt (Db h) hn10 (B2 h.said x).2;rw[<-hn]at hf;exact hf
def ai6{n:au}(h:cO n)(x:ByteArray):il ⟨oL n⟩ n.al (((lp (n.ar++[yt n]) x).2:Nat):Int)=some (K0 n x):=by obtain⟨hn,hn10⟩:=Bk h;have hf:=vn (Db h) hn10 (B2 h.said x).2;rw[<-hn]at hf;exact hf
section
variable {n : au} (h : cO n)
 include h
theorem agZ:cO (if n.aR.length=0 then{n with bl:=zr n}else n)/\sE n (if n.aR.length=0 then{n with bl:=zr n}else n):=by
 split
 ·exact⟨h.Jr (EZ h),(sE.refl h).Jr (EZ h)⟩
 ·exact⟨h,.refl h⟩
theorem E6:sE n (uY n):=by obtain⟨h1,h2⟩:=agZ h;obtain⟨g,_,_⟩:=PT 41 h1;obtain⟨c1,c2⟩:=adU g.ok;exact⟨g.ok.acO c1 c2,g.aF.trans h2.aF,g.aJ.trans h2.aJ,g.round.trans h2.round,g.seq.trans h2.seq,g.aN.trans h2.aN,g.own.trans h2.own,g.heard.trans h2.heard⟩
theorem Tx:l9 n=some (uY n):=by
 have body:∀n:au,cO n->(Option.bind (oZ n) λr3=>
   Option.bind (jT n r3) λr4=>
   aE (λ(v5:ByteArray×Bool×au×Unit)=>
   bif v5.2.1 then
   Option.bind (ir v5.2.2.1.aG v5.1) λr6=>
   Option.bind (jT {v5.2.2.1 with aa:=(aq v5.2.2.1.aa),aG:=r6} r3) λr7=>
   some (Sum.inl (r7.1,r7.2.1,{v5.2.2.1 with aa:=(aq v5.2.2.1.aa),aG:=r6},()))
   else
   Option.map Sum.inr (Option.bind (cn v5.2.2.1.ar) λr8=>
   Option.bind (lh (eT0 v5.2.2.1)) λr9=>
   bif bh 120 (List.length r8+List.length [{r9 with aa:=(aq r9.aa)}])then
   aE (λ(v10:Int×au×Unit)=>
   bif (decide (v10.1<((List.length v5.2.2.1.aG:Nat):Int)))then
   aY (λ(v11:au×Unit)=>
   some (Sum.inl ((aA .i64 v10.1 (1:Int)),(eT0 v11.1),()))) λj12=>
   Option.bind (idx v5.2.2.1.aG v10.1) λx13=>
   Option.bind (gA (r8++[{r9 with aa:=(aq r9.aa)}]) x13) λr14=>
   Option.bind (fq r3 v10.2.1.al r14.2.1) λr15=>
   bif r15 then
   Option.bind (ir v10.2.1.aR x13) λr16=>
   j12 ({v10.2.1 with aa:=(aq v10.2.1.aa),aR:=r16},())
   else
   j12 ((eT0 v10.2.1),())
   else
   Option.map Sum.inr (some (eT0 v10.2.1))) ((0:Int),(eT0 v5.2.2.1),())
   else none)) (r4.1,r4.2.1,n,()))=some {pj 41 n with aR:=BV (pj 41 n)}:=by
  intro n h;rw[ahN h,Qa,abl h,Qa];refine aeJ (c:=oL n) (fin:=λn2=>some {n2 with aR:=BV n2}) (λm x hm hv hm2=> ?_) (λm x hm hv=> ?_) 41 h rfl (by omega)
  ·have hx:=abl hm2;have hv2:oL {m with aG:=mP m.aG x}=oL n:=hv
   rw[hv2]at hx;simp only[Qk,etas,ZN hm.eJ,Qa,hx];rfl
  ·have hlen:=hm.len;have hal:=hm.eJ.len;simp only[Ql,etas,WW hm,lh,Qa,aS];rw[mh (by omega) (by simp;omega),Qk]
   congr 1;refine(fold_eq m.aG (by omega) (Hl m) (λi c=>(i,{m with aR:=c},())) (ER m) (λs x hx hs=>MZ hm hs hx) (fin:=λc=>some {m with aR:=c}) (λi y s hs hy hd hx hadd=> ?_) (λs hs hd=> ?_) hm.ad5).trans rfl
   ·have hsay:gA (m.ar++[(⟨m.al,m.aH,m.aa,m.bl,m.aG⟩:az)]) y=_:=Yw hm.said y;simp only[hd,hx,hadd,Qk,Qa,hsay,<-hv,ajd hm y];unfold Hl
    cases K0 m y with
    |true=>simp only[Qk,ZN hs.vl,Qa,Qt]
    |false=>rfl
   ·simp only[hd,Ql]
 unfold l9;simp only[etas,aS,afO h,Qa];unfold uY
 by_cases h0:n.aR.length=0
 ·rw[Qg (by omega:(n.aR.length:Int)=0),Qk,Qr h0]
  have:=body {n with bl:=zr n} (h.Jr (EZ h))
  simp only[etas,aS]at this;exact this
 ·rw[Qh (by omega:¬(n.aR.length:Int)=0),Ql,Qs h0]
  have:=body n h;simp only[etas,aS]at this;exact this
end
end
section
open Classical in
 def Hr(b r:au):Bool:=decide (b.bl=r.bl/\b.aG=r.aG/\b.aa=r.aa)
open Classical in
def E7{b r:au}:Hr b r=true↔b.bl=r.bl/\b.aG=r.aG/\b.aa=r.aa:=by
 unfold Hr;rw[Qi]
 def lF(b n:au):au:=if Hr b (uY n)=true then uY n else{uY n with aH:=b.aH+1}
def MX{b n:au}(h:cO n):Xo b n (lF b n):=by
 have k:=E6 h;unfold lF;split
 ·exact⟨k.ok,k.aF,k.aJ,k.round,k.aN,.inl k.seq⟩
 ·exact⟨⟨k.ok.ask,k.ok.own,k.ok.dv,k.ok.eJ,k.ok.kS,k.ok.sub,k.ok.heard,k.ok.cZ⟩,k.aF,k.aJ,k.round,k.aN,.inr rfl⟩
def Mp{b n:au}(h:cO n):(lF b n).ar=n.ar/\(lF b n).lP=n.lP:=by have k:=E6 h;unfold lF;split<;>exact⟨k.heard,k.own⟩
def ahU{s t:List ByteArray}(h:s.length<=1000000):∃b,gI s t=some b/\(b=true↔s=t):=by
 unfold gI
 by_cases hl:s.length=t.length
 ·rw[Qg (by omega:(s.length:Int)=(t.length:Int)),Qo,Ql]
  refine Xh hl h (λi hi hi' hd hx hy hw=> ?_) (λhd=> ?_)
  ·simp only;rw[hd,Qk,hx,hy,Qa,Qa,hw]
   by_cases he:s[i]=t[i]
   ·rw[Qg he];exact⟨true,rfl,by simp[he]⟩
   ·rw[Qh he];exact⟨false,rfl,by simp[he]⟩
  ·simp only;rw[hd,Ql];rfl
 ·rw[Qh (by omega:¬(s.length:Int)=(t.length:Int))]
  exact⟨false,rfl,Pb hl⟩
def JC{b n:au}(hb:cU b.aa/\b.bl.length<=1000000/\b.aG.length<=1000000)(hs:0<=b.aH/\b.aH<=1000000)(h:cO n):gd b n=some (lF b n):=by
 have body:∀n:au,cO n->aE (λ(v3:Bool×au×Unit)=>
   bif v3.1 then
   Option.bind (oH (eT0 v3.2.1)) λr4=>
   aE (λ(v5:Bool×Int×au×Unit)=>
   bif (decide (v5.2.1<((List.length r4:Nat):Int)))then
   Option.bind (idx r4 v5.2.1) λx6=>
   Option.bind (sz (eT0 v5.2.2.1) x6) λr7=>
   bif r7 then
   Option.bind (nu v5.2.2.1.aG x6) λr8=>
   Option.map Sum.inr (some (Sum.inl (true,{v5.2.2.1 with aa:=(aq v5.2.2.1.aa),aG:=r8},())))
   else
   some (Sum.inl (v5.1,(aA .i64 v5.2.1 (1:Int)),(eT0 v5.2.2.1),()))
   else
   Option.map Sum.inr (some (Sum.inl (v5.1,(eT0 v5.2.2.1),())))) (false,(0:Int),(eT0 v3.2.1),())
   else
   Option.map Sum.inr (aE (λ(v9:Int×au×Unit)=>
   bif (decide (v9.1<((List.length v3.2.1.aG:Nat):Int)))then
   aY (λ(v10:au×Unit)=>
   some (Sum.inl ((aA .i64 v9.1 (1:Int)),(eT0 v10.1),()))) λj11=>
   Option.bind (idx v3.2.1.aG v9.1) λx12=>
   Option.bind (kV (eT0 v9.2.1) x12) λr13=>
   Option.bind (l0 (eT0 v9.2.1)) λr14=>
   Option.bind (il r14 v9.2.1.al r13.2.1) λr15=>
   bif r15 then
   Option.bind (nu v9.2.1.aR x12) λr16=>
   j11 ({v9.2.1 with aa:=(aq v9.2.1.aa),aR:=r16},())
   else
   j11 ((eT0 v9.2.1),())
   else
   Option.map Sum.inr (aY (λ(v17:au×Unit)=>
   some (eT0 v17.1)) λj18=>
   Option.bind (gf b.bl v9.2.1.bl) λr19=>
   Option.bind (bif (!r19)then some true
   else
   Option.bind (gf b.aG v9.2.1.aG) λr20=>
   some (!r20)) λb21=>
   Option.bind (bif b21 then some true
   else
   Option.bind (iB (aq b.aa) (aq v9.2.1.aa)) λr22=>
   some (!r22)) λb23=>
   bif b23 then
   j18 ({v9.2.1 with aH:=(aA .i64 b.aH (1:Int)),aa:=(aq v9.2.1.aa)},())
   else
   j18 ((eT0 v9.2.1),()))) ((0:Int),(eT0 v3.2.1),()))) (true,n,())=
   some (if Hr b {pj 41 n with aR:=BV (pj 41 n)}=true then{pj 41 n with aR:=BV (pj 41 n)}else{pj 41 n with aR:=BV (pj 41 n),aH:=b.aH+1}):=by
  intro n h;refine aeF (fin:=λm=>some (if Hr b {m with aR:=BV m}=true then{m with aR:=BV m}else{m with aR:=BV m,aH:=b.aH+1})) (λm hm=> ?_) (λm hm=> ?_) 41 h (by omega)
  ·have hkl:=TI hm;simp only[Qk,etas,afz hm,Qa]
   suffices key:∀(k i:Nat),i+k=(fu m).length->(∀x∈(fu m).take i,ss m x=false)->aE _ (false,(i:Int),m,())=some (Sum.inl (match(fu m).find? (ss m)with|some x=>(true,{m with aG:=mP m.aG x},())|none=>(false,m,())))from key (fu m).length 0 (by omega) (by simp)
   intro k
   induction k with
   |zero=>
    intro i hi hpre;obtain rfl:i=(fu m).length:=by omega
    rw[Qq62]at hpre;have hf:(fu m).find? (ss m)=none:=List.find?_eq_none.2 λx hx=>by rw[hpre x hx];simp
    rw[hf];exact bM (by simp only[Qh (Qq64 _),Ql,Qe])
   |succ k ih=>
    intro i hi hpre;have hlt:i<(fu m).length:=by omega
    have hx:idx (fu m) (i:Int)=some (fu m)[i]:=by rw[bf];exact Qv hlt
    have hadd:aA .i64 (i:Int) 1=((i+1:Nat):Int):=bG (by omega) (by omega)
    have hd:decide ((i:Int)<(((fu m).length:Nat):Int))=true:=Qg (by omega)
    cases hc:ss m (fu m)[i]with
    |true=>
     have hf:(fu m).find? (ss m)=some (fu m)[i]:=by
      rw[List.find?_eq_some_iff_getElem];refine⟨hc,i,hlt,rfl,λj hj=> ?_⟩
      rw[hpre _ (List.mem_take_iff_getElem.2 ⟨j,by omega,rfl⟩)]
      rfl
     rw[hf];refine bM ?_;simp only[hd,hx,Qk,Qa,aeG hm,hc,JD hm.eJ,Qe]
    |false=>
     refine(bx ?_).trans (ih (i+1) (by omega) λx hx2=> ?_)
     ·simp only[hd,hx,hadd,Qk,Ql,Qa,aeG hm,hc]
     ·rw[Q7 hlt,Qz,Q5]at hx2;rcases hx2 with hx2|rfl
      ·exact hpre x hx2
      ·exact hc
  ·have hal:=hm.eJ.len;simp only[Ql,etas,aS];congr 1;refine(fold_eq m.aG (by omega) (Hl m) (λi c=>(i,{m with aR:=c},())) (ER m) (λs x hx hs=>MZ hm hs hx) (fin:=λc=>some (if Hr b {m with aR:=c}=true then{m with aR:=c}else{m with aR:=c,aH:=b.aH+1})) (λi y s hs hy hd hx hadd=> ?_) (λs hs hd=> ?_) hm.ad5).trans rfl
   ·have hms:=hm.acO hs.vl hs.sub;have hsd:kV {m with aR:=s} y=_:=Yl hms y
    have hvw:l0 {m with aR:=s}=_:=aa5 hms
    have hsu:il ⟨oL {m with aR:=s}⟩ m.al _=some (K0 m y):=ai6 hms y
    simp only[hd,hx,hadd,Qk,Qa,hsd,hvw,hsu];unfold Hl
    cases K0 m y with
    |true=>simp only[Qk,JD hs.vl,Qa,Qt]
    |false=>rfl
   ·obtain⟨b1,f1,g1⟩:=OD (s:=b.bl) (t:=m.bl) hb.2.1;obtain⟨b2,f2,g2⟩:=OD (s:=b.aG) (t:=m.aG) hb.2.2;obtain⟨b3,f3,g3⟩:=F9 (a:=b.aa) (b:=m.aa) hb.1;have hadd:aA .i64 b.aH 1=b.aH+1:=bG (by omega) (by omega)
    simp only[hd,Ql,f1,f2,f3,Qa,hadd]
    by_cases e:b.bl=m.bl/\b.aG=m.aG/\b.aa=m.aa
    ·rw[Qr ((E7 (b:=b) (r:={m with aR:=s})).2 e),g1.2 e.1,g2.2 e.2.1,g3.2 e.2.2]
     rfl
    ·rw[Qs (λe'=>e ((E7 (b:=b) (r:={m with aR:=s})).1 e'))]
     cases b1 with
     |false=>rfl
     |true=>
      cases b2 with
      |false=>rfl
      |true=>
       cases b3 with
       |false=>rfl
       |true=>exact absurd ⟨g1.1 rfl,g2.1 rfl,g3.1 rfl⟩ e
 unfold gd;simp only[etas,aS,ac5 h,Qa];unfold lF uY
 by_cases h0:n.aR.length=0
 ·rw[Qg (by omega:(n.aR.length:Int)=0),Qk]
  simp only[Qr h0];have:=body {n with bl:=zr n} (h.Jr (EZ h))
  simp only[etas,aS]at this;exact this
 ·rw[Qh (by omega:¬(n.aR.length:Int)=0),Ql]
  simp only[Qs h0];have:=body n h;simp only[etas,aS]at this;exact this
def JQ{n:au}(h:cO n):nP n=some n:=by
 have hlen:=h.len;have hv:=h.dv.len;have ha:=h.eJ.len;have hc:=h.kS.len;unfold nP;simp only[etas,Yv h.ask.aN.sm,wu _ (QK hv (by omega)),wu _ (QK ha (by omega)),wu _ (QK hc (by omega)),Qa]
 suffices key:∀(k i:Nat),i+k=n.ar.length->aE _ ((i:Int),{n with bl:=[],aG:=[],aR:=[],ar:=[]},n.bl,n.aG,n.aR,n.ar.take i,())=some n from key n.ar.length 0 (by omega)
 intro k
 induction k with
 |zero=>
  intro i hi;obtain rfl:i=n.ar.length:=by omega
  refine bM ?_;simp only[Qh (Qq64 _),Ql,Qq62,Qe]
 |succ k ih=>
  intro i hi;have hlt:i<n.ar.length:=by omega
  have hx:idx n.ar (i:Int)=some n.ar[i]:=by rw[bf];exact Qv hlt
  have hm:=(h.heard _ (Q0 hlt)).1;have hvl:=hm.dv.len;have hal:=hm.eJ.len;refine(bx ?_).trans (ih (i+1) (by omega))
  simp only[Qg (by omega:(i:Int)<(n.ar.length:Int)),hx,Qk,Qa,az.eta,abm hm.aN.sm (QK hvl (by omega)) (QK hal (by omega))]
  rw[mh (by omega) (by simp;omega),bG (by omega) (by omega),Q7 hlt]
  rfl
def adm{b n:au}(hb:cU b.aa/\b.bl.length<=1000000/\b.aG.length<=1000000)(hs:0<=b.aH/\b.aH<=1000000)(hq:n.aH=b.aH)(h:cO n):mL b n=some (lF b n):=by
 have k:=E6 h;have hok:=(MX (b:=b) h).ok;have hadd:aA .i64 (uY n).aH 1=b.aH+1:=by rw[k.seq,hq];exact bG (by omega) (by omega)
 obtain⟨b1,f1,g1⟩:=ahU (s:=b.bl) (t:=(uY n).bl) hb.2.1;obtain⟨b2,f2,g2⟩:=ahU (s:=b.aG) (t:=(uY n).aG) hb.2.2;obtain⟨b3,f3,g3⟩:=eqT (a:=b.aa) (b:=(uY n).aa) hb.1;unfold mL;simp only[etas,aS,Tx h,f1,f2,f3,Qa,hadd];unfold lF at hok ⊢
 by_cases e':Hr b (uY n)=true
 ·have e:=E7.1 e';rw[Qr e']at hok ⊢;rw[g1.2 e.1,g2.2 e.2.1,g3.2 e.2.2];simp only[Qo,Ql,Qa,JQ hok]
 ·have e:¬(b.bl=(uY n).bl/\b.aG=(uY n).aG/\b.aa=(uY n).aa):=λe=>e' (E7.2 e)
  rw[Qs e']at hok ⊢
  cases b3 with
  |false=>simp only[Qp,Qk,Qa,JQ hok]
  |true=>
   cases b1 with
   |false=>simp only[Qp,Qo,Qk,Ql,Qa,JQ hok]
   |true=>
    cases b2 with
    |false=>simp only[Qp,Qo,Qk,Ql,Qa,JQ hok]
    |true=>exact absurd ⟨g1.1 rfl,g2.1 rfl,g3.1 rfl⟩ e
end
section
def iD(l:List az)(m:az):List az:=l.filter (λx=>decide (x.al<m.al))++m::l.filter (λx=>decide (m.al<x.al))
def u0(l:List az)(m:az):Bool:=l.any λx=>decide (x.al=m.al)&&decide (m.aH<=x.aH)
def TM{l:List az}{m x:az}:x∈iD l m↔x=m\/(x∈l/\x.al≠m.al):=by
 unfold iD;simp only[Qz,QA,List.mem_filter,Qi];constructor
 ·rintro(⟨h1,h2⟩|h|⟨h1,h2⟩)
  ·exact .inr ⟨h1,by omega⟩
  ·exact .inl h
  ·exact .inr ⟨h1,by omega⟩
 ·rintro(h|⟨h1,h2⟩)
  ·exact .inr (.inl h)
  ·rcases Int.lt_or_gt_of_ne h2 with h3|h3
   ·exact .inl ⟨h1,h3⟩
   ·exact .inr (.inr ⟨h1,h3⟩)
def H9{n:au}(h:cO n){m:az}(hm:ve m)(hne:m.al≠n.al):cO {n with ar:=iD n.ar m}:=by
 refine⟨h.ask,h.own,h.dv,h.eJ,h.kS,h.sub,λx hx=> ?_,?_⟩
 ·rcases TM.1 hx with rfl|⟨hx,_⟩
  ·exact⟨hm,hne⟩
  ·exact h.heard x hx
 ·show(iD n.ar m).Pairwise _;unfold iD;rw[Qq69,Q4];refine⟨h.cZ.filter _,⟨λx hx=>of_decide_eq_true (List.mem_filter.1 hx).2,h.cZ.filter _⟩,λx hx y hy=> ?_⟩
  have h1:=of_decide_eq_true (List.mem_filter.1 hx).2;rcases QA.1 hy with rfl|hy
  ·exact h1
  ·have h2:=of_decide_eq_true (List.mem_filter.1 hy).2;omega
def Og{a:Int}:∀{l:List az},l.Pairwise (λx y=>x.al<y.al)->l.filter (λx=>decide (x.al<a))=l.takeWhile (λx=>decide (x.al<a))/\∀x∈l.drop (l.takeWhile λx=>decide (x.al<a)).length,a<=x.al
 |[],_=>⟨rfl,λx hx=>by simp at hx⟩
 |y::l,hp=>by
  rw[Q4]at hp
  by_cases hy:y.al<a
  ·obtain⟨h1,h2⟩:=Og (a:=a) hp.2;rw[List.filter_cons,List.takeWhile_cons,Qg hy];simp only[Qt,QE,List.drop_succ_cons];exact⟨by rw[h1],h2⟩
  ·rw[List.filter_cons,List.takeWhile_cons,Qh hy];simp only[Qq,Qu,QZ,List.drop_zero];refine⟨List.filter_eq_nil_iff.2 λx hx=> ?_,λx hx=> ?_⟩
   ·have:=hp.1 x hx;rw[Qi];omega
   ·rcases QA.1 hx with rfl|hx
    ·omega
    ·have:=hp.1 x hx;omega
def S8{a:Int}:∀{l:List az},l.Pairwise (λx y=>x.al<y.al)->l.filter (λx=>decide (a<x.al))=match l.drop (l.takeWhile λx=>decide (x.al<a)).length with|[]=>[]|y::r=>if y.al=a then r else y::r
 |[],_=>rfl
 |y::l,hp=>by
  rw[Q4]at hp
  by_cases hy:y.al<a
  ·have h1:=S8 (a:=a) hp.2;rw[List.filter_cons,List.takeWhile_cons,Qg hy,Qh (by omega:¬a<y.al)]
   simp only[Qt,Qq,Qu,QE,List.drop_succ_cons];exact h1
  ·have hall:∀x∈l,a<x.al:=λx hx=>by have:=hp.1 x hx;omega
   rw[List.filter_cons,List.takeWhile_cons,Qh hy];simp only[Qq,Qu,QZ,List.drop_zero];rw[List.filter_eq_self.2 λx hx=>Qg (hall x hx)]
   by_cases he:y.al=a
   ·rw[Qr he,Qh (by omega:¬a<y.al)];rfl
   ·rw[Qs he,Qg (by omega:a<y.al)];rfl
def aeU(x:az)(a:Int):mM x a=some (yN x.al a):=by unfold mM;simp
section
variable {n : au} (h : cO n)
 include h
theorem ahT(a:Int):cu n.ar a=some ((((n.ar.takeWhile λx=>decide (x.al<a)).length:Nat):Int),(match n.ar.drop (n.ar.takeWhile λx=>decide (x.al<a)).length with|[]=>false|y::_=>decide (y.al=a)),()):=by
 have hlen:=h.len;unfold cu;refine(Ip n.ar (by omega) (λy=>decide (y.al<a)) (h.cZ.imp λ{x y} hxy hy=>by simp only[Qi]at hy ⊢;omega) (fin:=λk=>some (((k:Nat):Int),(match n.ar.drop k with|[]=>false|y::_=>decide (y.al=a)),())) (λi j m y hd hj hm hadd hx=> ?_) (λi hd hi=> ?_)).trans rfl
 ·have hc:decide (yN y.al a<0)=decide (y.al<a):=by rw[decide_eq_decide];exact Io _ _
  simp only[hd,hm,hadd,hx,az.eta,etas,aeU,hc,Qa,Qk];cases decide (y.al<a)<;>rfl
 ·simp only[hd,Ql]
  by_cases hi2:i<n.ar.length
  ·have hc:decide (yN n.ar[i].al a=0)=decide (n.ar[i].al=a):=by rw[decide_eq_decide];exact wq _ _
   rw[Qg (by omega:(i:Int)<(n.ar.length:Int)),QM hi2]
   simp only[Qk,bf,Qv hi2,Qa,az.eta,etas,aeU,hc,Qe]
  ·rw[Qh (by omega:¬(i:Int)<(n.ar.length:Int)),List.drop_eq_nil_of_le (by omega)]
   rfl
theorem ahS(hs:1<=n.aH/\n.aH<=1000000){m:az}(hm:ve m)(hne:m.al≠n.al):sK n m=some (if u0 n.ar m then(EY,9,())else(lF n {n with ar:=iD n.ar m},0,())):=by
 have hlen:=h.len;have hno:=H9 h hm hne;have hk:=MT (λx:az=>decide (x.al<m.al)) n.ar
 obtain⟨s1,s2⟩:=Og (a:=m.al) h.cZ;have s3:=S8 (a:=m.al) h.cZ
 have htake:n.ar.take (n.ar.takeWhile λx=>decide (x.al<m.al)).length=n.ar.takeWhile λx=>decide (x.al<m.al):=by
  conv=>lhs;arg 2;rw[<-List.takeWhile_append_dropWhile (p:=λx=>decide (x.al<m.al)) (l:=n.ar)]
  exact List.take_left
 have hturn:mL n {n with ar:=iD n.ar m}=some (lF n {n with ar:=iD n.ar m}):=adm h.Fz ⟨by omega,hs.2⟩ rfl hno
 unfold sK;simp only[etas,az.eta,Yu h hs,Yx hm,ahT h,WW h,Qa,Qo,Ql,Qh hne,aS]
 have hold:u0 n.ar m=match n.ar.drop (n.ar.takeWhile λx=>decide (x.al<m.al)).length with|[]=>false|y::_=>decide (y.al=m.al)&&decide (m.aH<=y.aH):=by
  have hsplit:n.ar=(n.ar.takeWhile λx=>decide (x.al<m.al))++n.ar.drop (n.ar.takeWhile λx=>decide (x.al<m.al)).length:=by
   conv=>lhs;rw[<-List.take_append_drop (n.ar.takeWhile λx=>decide (x.al<m.al)).length n.ar]
   rw[htake]
  have hpre:∀x∈n.ar.takeWhile λx=>decide (x.al<m.al),x.al<m.al:=λx hx=>by rw[<-s1]at hx;exact of_decide_eq_true (List.mem_filter.1 hx).2
  have hsd:=h.cZ;unfold u0;rw[hsplit]at hsd
  conv=>lhs;rw[hsplit]
  rw[List.any_append,List.any_eq_false.2 λx hx=>by have:=hpre x hx;rw[Qh (by omega:¬x.al=m.al)];simp,Bool.false_or]
  cases hd:n.ar.drop (n.ar.takeWhile λx=>decide (x.al<m.al)).length with
  |nil=>rfl
  |cons y r=>
   rw[hd,Qq69,Q4]at hsd;have hy:m.al<=y.al:=s2 y (by rw[hd];exact Qx)
   rw[List.any_cons,List.any_eq_false.2 λx hx=>by have:=hsd.2.1.1 x hx;rw[Qh (by omega:¬x.al=m.al)];simp,Bool.or_false]
 have hl:iD n.ar m=(n.ar.takeWhile λx=>decide (x.al<m.al))++m::(match n.ar.drop (n.ar.takeWhile λx=>decide (x.al<m.al)).length with|[]=>[]|y::r=>if y.al=m.al then r else y::r):=by unfold iD;rw[s1,s3]
 rw[hold];generalize hkk:(n.ar.takeWhile λx=>decide (x.al<m.al)).length=k at*
 cases hd:n.ar.drop k with
 |nil=>
  rw[hd]at hl
  have hkl:k=n.ar.length:=by have:=congrArg List.length hd;simp only[List.length_drop,QZ]at this;omega
  have hins:cx n.ar (k:Int) [m]=some (iD n.ar m):=by
   unfold cx CK;rw[Qg (by omega:(0:Int)<=(k:Int)),Qg (by omega:(k:Int)<=(n.ar.length:Int)),mh (by omega) (by simp;omega),hl]
   simp only[QV,htake,hd];simp
  simp only[Ql,hins,hturn,Qa,Qq,Qu]
 |cons y r=>
  rw[hd]at hl
  have hk1:k<n.ar.length:=by have:=congrArg List.length hd;simp only[List.length_drop,QE]at this;omega
  have hyk:n.ar[k]=y:=by rw[QM hk1]at hd;exact(List.cons.inj hd).1
  have hr:n.ar.drop (k+1)=r:=by rw[QM hk1]at hd;exact(List.cons.inj hd).2
  have hx:idx n.ar (k:Int)=some y:=by rw[bf,Qv hk1,hyk]
  have hx2:n.ar[k]?=some y:=by rw[Qv hk1,hyk]
  by_cases hyn:y.al=m.al
  ·simp only[Qr hyn]at hl;simp only[Qg hyn,Qk,hx,Qa,Bool.true_and,QV,hx2]
   cases decide (m.aH<=y.aH)with
   |true=>rfl
   |false=>
    have hset:n.ar.set k m=iD n.ar m:=by rw[hl,List.set_eq_take_append_cons_drop,Qr hk1,htake,hr]
    simp only[Ql,hset,hturn,Qa,Qq,Qu]
  ·simp only[Qs hyn]at hl
   have hins:cx n.ar (k:Int) [m]=some (iD n.ar m):=by
    unfold cx CK;rw[Qg (by omega:(0:Int)<=(k:Int)),Qg (by omega:(k:Int)<=(n.ar.length:Int)),mh (by omega) (by simp;omega),hl]
    simp only[QV,htake,hd];simp
   simp only[Qh hyn,Ql,hins,hturn,Qa,Bool.false_and,Qq,Qu]
theorem aba(hs:1<=n.aH/\n.aH<=1000000){m:az}(hm:ve m)(hne:m.al≠n.al):tx n m=some (if u0 n.ar m then(EY,9,())else(lF n {n with ar:=iD n.ar m},0,())):=by
 have hlen:=h.len;have hset:gd n {n with ar:=iD n.ar m}=some (lF n {n with ar:=iD n.ar m}):=JC h.Fz ⟨by omega,hs.2⟩ (H9 h hm hne)
 have kk:∀(a:List az) (x:az),a.length<=100->bh 120 (a.length+[x].length)=true:=λa x ha=>bD ⟨by simp only[Q6];omega,by simp only[Q6];omega⟩
 unfold tx;simp only[etas,az.eta,Gt h hs,RT hm,Qa,Qo,Ql];rw[Qh hne];simp only[Ql,aS]
 suffices key:Yd (aE _ (false,(0:Int),EY,{n with ar:=[]},[],())) λr=>r=if u0 n.ar m then(EY,(9:Int),())else(lF n {n with ar:=iD n.ar m},(0:Int),())by obtain⟨r,g,rfl⟩:=key;exact g
 refine Yd.list n.ar (by omega) (λi (s:Bool×List az)=>(s.1,i,EY,{n with ar:=[]},s.2,()))
  (λi s=>s.2.length<=i+1/\u0 (n.ar.take i) m=false/\s.1=(n.ar.take i).any (λx=>decide (m.al<x.al))/\s.2=(n.ar.take i).filter (λx=>decide (x.al<m.al))++(if s.1 then[m]else[])++(n.ar.take i).filter (λx=>decide (m.al<x.al))) ?_ ?_ (s:=(false,[])) ⟨by simp,rfl,rfl,rfl⟩
 ·rintro i x ⟨d,acc⟩ ⟨a1,a2,a3,a4⟩ hd hx' hi hdec hx hadd;simp only at a1 a2 a3 a4;have e:n.ar.take (i+1)=n.ar.take i++[x]:=by rw[List.take_add_one,show n.ar[i]?=some x by rw[bf]at hx;exact hx];rfl
  have hlt:∀y∈n.ar.take i,y.al<x.al:=by have:=h.cZ.sublist (List.take_sublist (i+1) n.ar);rw[e,Qq69]at this;exact λy hy=>this.2.2 y hy x (by simp)
  have k1:=kk acc m (by omega)
  have k2:=kk acc x (by omega)
  have k3:=kk (acc++[m]) x (by simp only[QB,Q6];omega)
  simp only;rw[hdec,Qk,hx,Qa,hadd]
  by_cases hn:x.al=m.al
  ·rw[Qg hn,Qk]
   by_cases hq:m.aH<=x.aH
   ·rw[Qg hq];refine .some ?_;have:u0 n.ar m=true:=List.any_eq_true.2 ⟨x,hx',by rw[Qg hn,Qg hq];rfl⟩
    show _=_;rw[Qr this];rfl
   ·rw[Qh hq];refine .some ⟨(d,acc),rfl,by show acc.length<=i+1+1;omega,?_,?_,?_⟩
    ·rw[e];unfold u0 at a2 ⊢;rw[List.any_append,a2];simp[hq]
    ·rw[e,List.any_append];simp only;rw[<-a3];simp[hn]
    ·rw[e];simp only[List.filter_append,List.filter_cons,List.filter_nil,Qh (by omega:¬x.al<m.al),Qh (by omega:¬m.al<x.al),Qq,Qu,List.append_nil]
     exact a4
  ·rw[Qh hn,Ql,k1,k2,k3]
   have holdx:u0 (n.ar.take (i+1)) m=false:=by rw[e];unfold u0 at a2 ⊢;rw[List.any_append,a2];simp[hn]
   by_cases hlx:m.al<x.al
   ·rw[Qg hlx]
    have hany:(n.ar.take (i+1)).any (λx=>decide (m.al<x.al))=true:=by rw[e,List.any_append];simp[hlx]
    have hfl:(n.ar.take (i+1)).filter (λx=>decide (x.al<m.al))=(n.ar.take i).filter (λx=>decide (x.al<m.al)):=by
     rw[e,List.filter_append,List.filter_cons,Qh (by omega:¬x.al<m.al)]
     simp
    have hfg:(n.ar.take (i+1)).filter (λx=>decide (m.al<x.al))=(n.ar.take i).filter (λx=>decide (m.al<x.al))++[x]:=by rw[e,List.filter_append,List.filter_cons,Qg hlx];rfl
    cases d with
    |true=>
     simp only[Qo,Ql,Qk,Qa];refine .some ⟨(true,acc++[x]),rfl,by simp only[QB,Q6];omega,holdx,hany.symm,?_⟩
     simp only;rw[hfl,hfg,a4];simp
    |false=>
     simp only[Qp,Qk,Qa]
     have hnil:(n.ar.take i).filter (λx=>decide (m.al<x.al))=[]:=by
      refine List.filter_eq_nil_iff.2 λy hy=> ?_
      have:=List.any_eq_false.1 a3.symm y hy;exact this
     rw[hnil]at a4;refine .some ⟨(true,acc++[m]++[x]),rfl,?_,holdx,hany.symm,?_⟩
     ·have hb:acc.length<=i:=by
       rw[a4];simp only[Qq,Qu,List.append_nil];refine QK (List.length_filter_le _ _) ?_;rw[List.length_take];omega
      simp only[QB,Q6];omega
     ·simp only;rw[hfl,hfg,hnil,a4];simp
   ·have hxm:x.al<m.al:=by omega
    rw[Qh hlx];have hnone:∀y∈n.ar.take i,¬m.al<y.al:=λy hy=>by have:=hlt y hy;omega
    have hd0:d=false:=by rw[a3];exact List.any_eq_false.2 λy hy=>by rw[Qh (hnone y hy)];simp
    have hnil:(n.ar.take i).filter (λx=>decide (m.al<x.al))=[]:=List.filter_eq_nil_iff.2 λy hy=>by rw[Qh (hnone y hy)];simp
    subst hd0;rw[hnil]at a4;simp only[Qp,Qk,Ql,Qa];refine .some ⟨(false,acc++[x]),rfl,by simp only[QB,Q6];omega,holdx,?_,?_⟩
    ·rw[e,List.any_append];simp only;rw[<-a3];simp[hlx]
    ·simp only;rw[e,List.filter_append,List.filter_append,hnil,a4];simp[hxm,hlx]
 ·rintro⟨d,acc⟩ ⟨a1,a2,a3,a4⟩ hdec;rw[Qq62]at a2 a3 a4;simp only at a1 a2 a3 a4;simp only;rw[hdec,Ql];have k1:=kk acc m (by omega)
  have hold:u0 n.ar m=false:=a2;rw[k1,hold]
  cases d with
  |true=>
   have:acc=iD n.ar m:=by rw[a4];simp[iD]
   rw[this];simp only[Qo,Ql,hset,Qa,Qe];exact .some rfl
  |false=>
   have hnil:n.ar.filter (λx=>decide (m.al<x.al))=[]:=List.filter_eq_nil_iff.2 λy hy=>List.any_eq_false.1 a3.symm y hy
   have:acc++[m]=iD n.ar m:=by rw[hnil]at a4;unfold iD;rw[hnil,a4];simp
   simp only[Qp,Qk,this,hset,Qa,Qe];exact .some rfl
end
def afP{t:aj}{v aJ:Int}{own:ByteArray}(ht:dt t)(h0:0<=v)(h1:v<10)(h2:0<=aJ)(h3:aJ<=1000000)(ho:own.size<=200):rX v aJ t own=mB v aJ t own:=by
 have hn:cO ⟨v,aJ,1,1,t,own,[],[],[],[]⟩:=⟨⟨ht,h0,h1,h2,h3,by show(1:Int)<=1;omega,by show(1:Int)<=1000;omega⟩,ho,.nil,.nil,.nil,λx hx=>absurd hx QR,λx hx=>absurd hx QR,List.Pairwise.nil⟩
 have k:=E6 hn;have hq:(uY ⟨v,aJ,1,1,t,own,[],[],[],[]⟩).aH=1:=k.seq;unfold mB rX;simp only[etas,dI ht,eK ht,ZO h0 h1];rw[Qh (by omega:¬v<0),Qh (by omega:¬(10:Int)<=v),Qh (by omega:¬aJ<0),Qh (by omega:¬(1000000:Int)<aJ),Qh (by omega:¬(200:Int)<((own.size:Nat):Int))]
 simp only[Ql,Qa,decide_true,Qo,Tx hn,JQ k.ok];rw[JC hn.Fz ⟨by show(0:Int)<=1;omega,by show(1:Int)<=1000000;omega⟩ hn,Qa]
 unfold lF;split
 ·generalize uY ⟨v,aJ,1,1,t,own,[],[],[],[]⟩=r at hq;obtain⟨a1,a2,a3,a4,a5,a6,a7,a8,a9,a10⟩:=r;simp only at hq;subst hq;rfl
 ·generalize uY ⟨v,aJ,1,1,t,own,[],[],[],[]⟩=r at hq;obtain⟨a1,a2,a3,a4,a5,a6,a7,a8,a9,a10⟩:=r;simp only at hq;subst hq;rfl
end
section
def Gr{a b:ab}(hq:a.aH=b.aH){s:Int}:({a with aH:=s}:ab)={b with aH:=s}↔a=b:=by
 constructor
 ·intro h;cases a;cases b;simp only[ab.mk.injEq]at h hq ⊢;obtain⟨h1,h2,_,h3⟩:=h;exact⟨h1,h2,hq,h3⟩
 ·rintro rfl;rfl
def step_seq{m:ab}(h:bs m){s:Int}(hs:0<=s/\s<=1000000):c9 {m with aH:=s}={c9 m with aH:=s}:=by
 have e1:de {m with aH:=s}={m with aH:=s}↔de m=m:=by rw[JM h hs];exact Gr (B6 m).seq
 have e2:gC {m with aH:=s}={m with aH:=s}↔gC m=m:=by rw[JL h hs];exact Gr (yZ m).seq
 have e3:fX {m with aH:=s}={m with aH:=s}↔fX m=m:=by rw[JO h hs];exact Gr (zd m).seq
 have e4:jf {m with aH:=s}={m with aH:=s}↔jf m=m:=by rw[JN h hs];exact Gr (za m).seq
 unfold c9
 by_cases hP:de m=m
 ·rw[Qr (e1.2 hP),Qr hP]
  by_cases hS:gC m=m
  ·rw[Qr (e2.2 hS),Qr hS]
   by_cases hC:fX m=m
   ·rw[Qr (e3.2 hC),Qr hC]
    by_cases hF:jf m=m
    ·rw[Qr (e4.2 hF),Qr hF,Tr h hs]
    ·rw[Qs (mt e4.1 hF),Qs hF,JN h hs]
   ·rw[Qs (mt e3.1 hC),Qs hC,JO h hs]
  ·rw[Qs (mt e2.1 hS),Qs hS,JL h hs]
 ·rw[Qs (mt e1.1 hP),Qs hP,JM h hs]
 def ME:Nat->ab->ab
 |0,m=>m
 |k+1,m=>c9 (ME k m)
def Sl{m:ab}(h:c9 m=m):∀k,ME k m=m
 |0=>rfl
 |k+1=>by rw[ME,Sl h k,h]
def Sn(m:ab)(k:Nat):∀j,ME (j+k) m=ME j (ME k m)
 |0=>by rw[Nat.zero_add];rfl
 |j+1=>by rw[Nat.add_right_comm,ME,ME,Sn m k j]
def EI(m1 x:ab):Prop:=bs x/\∃k,({x with aH:=0}:ab)=ME k {m1 with aH:=0}
def EI.self{m1:ab}(h:bs m1):EI m1 m1:=⟨h,0,rfl⟩
def UG{m1:ab}:∀m,bs m->EI m1 m->EI m1 (c9 m):=λm h ⟨_,k,e⟩=>⟨E5 h,k+1,by rw[ME,<-e,step_seq (s:=0) h ⟨by decide,by decide⟩]⟩
def UF{m1:ab}:∀m,EI m1 m->EI m1 (dj m):=λm ⟨h,k,e⟩=>⟨yw h,k,by
 rw[<-e];unfold dj
 split<;>rfl⟩
def aaE{m0 m1 a b:ab}(ha:ID (EI m1) m0 a)(hb:ID (EI m1) m0 b)(hq:0<=m0.aH):a=b:=by
 have fixed:∀{x:ab},ID (EI m1) m0 x->c9 {x with aH:=0}={x with aH:=0}:=λ{x} hx=>by rw[step_seq (s:=0) hx.inv ⟨by decide,by decide⟩,adJ hx.fix]
 obtain⟨_,k,ea⟩:=ha.rel;obtain⟨_,j,eb⟩:=hb.rel
 have core:({a with aH:=0}:ab)={b with aH:=0}:=by
  rcases Nat.le_total k j with h|h
  ·have e2:=Sn {m1 with aH:=0} k (j - k)
   rw[show j - k+k=j by omega,<-eb,<-ea,Sl (fixed ha)]at e2
   exact e2.symm
  ·have e2:=Sn {m1 with aH:=0} j (k - j)
   rw[show k - j+j=k by omega,<-eb,<-ea,Sl (fixed hb)]at e2
   exact e2
 have hz:a.af=b.af:=by have:=congrArg ab.af core;exact this
 have hs:a.aH=b.aH:=by
  have n1:=ha.num;have n2:=hb.num
  cases hc:aP a.af with
  |true=>rw[ha.seq.zero hc,hb.seq.zero (by rw[<-hz];exact hc)]
  |false=>
   have p1:=ha.seq.pos hc;have p2:=hb.seq.pos (by rw[<-hz];exact hc)
   omega
 exact(Gr hs).1 core
def TB{m m1:ab}{q q':ab×Int×Unit}(h1:0<=(dj m1).aH)(h:I0 (EI m1) m m1 q)(h':I0 (EI m1) m m1 q'):q=q':=by obtain⟨a,rfl,ha⟩:=h;obtain⟨b,rfl,hb⟩:=h';rw[aaE ha hb h1]
section
variable {m : ab} (h : bs m) (hs : fS m)
 include h hs
theorem ab0{v:ByteArray}(hv:1<=v.size/\v.size<=200):o0 m v=kj m v:=by have hi:=HE h hv;obtain⟨q,e1,h1⟩:=ado UG UF h hs hv (EI.self hi);obtain⟨q',e2,h2⟩:=M9 UG UF h hs hv (EI.self hi);rw[e1,e2,TB (yw hi).seq.1 h1 h2]
theorem abZ{e:ak}(he:Aq m e):jU m e=ki m e:=by
 have hi:=H7 h he;obtain⟨q,e1,h1⟩:=adn UG UF h hs he (EI.self hi);obtain⟨q',e2,h2⟩:=Vm UG UF h hs he (EI.self hi);rw[e1,e2];rcases h1 with⟨h1,a⟩|⟨rfl,a⟩<;>rcases h2 with⟨h2,b⟩|⟨rfl,b⟩
 ·rw[TB (yw hi).seq.1 h1 h2]
 ·rw[a]at b;cases b
 ·rw[a]at b;cases b
 ·rfl
end
end
section
def adY{a b:ByteArray}:decide (0<xu a b)=bP b a:=by
 cases h:bP b a with
 |true=>
  have h1:¬xu a b<0:=λe=>by have:=wo a b;rw[Qg e,jx.asymm h]at this;cases this
  have h2:¬xu a b=0:=λe=>by have h3:=KD (a:=a) (b:=b);rw[Qg e]at h3;rw[of_decide_eq_true h3.symm,jx.irrefl]at h;cases h
  exact Qg (by omega)
 |false=>
  refine Qh λe=> ?_
  have h1:bP a b=false:=by rw[<-wo];exact Qh (by omega)
  have h2:=jx.total _ _ h1 h;have h3:=KD (a:=a) (b:=b);rw[Qg h2]at h3;have:=of_decide_eq_true h3;omega
def nm(l:List ByteArray):ByteArray:=l.getLast?.getD bE
def J3{l:List ByteArray}(h:l≠[]):nm l∈l:=by
 unfold nm
 cases hl:l.getLast? with
 |none=>exact absurd (List.getLast?_eq_none_iff.1 hl) h
 |some a=>exact List.mem_of_getLast? hl
def adA{x:ByteArray}(h:kT x):bP bE x=true:=by
 have:=h.1;have h0:bE.size=0:=rfl;unfold bP;rw[Qs (by rw[h0];omega),h0]
 exact Qg (by omega)
def HS{l:List ByteArray}{i:Nat}{x:ByteArray}(hx:l[i]?=some x):nm (l.take (i+1))=x:=by unfold nm;rw[List.take_add_one,hx];simp
def TG{l:List ByteArray}(h:VL l){i:Nat}{x:ByteArray}(hx:l[i]?=some x):bP (nm (l.take i)) x=true:=by
 have hi:i<l.length:=(Qw.1 hx).1;have hxe:l[i]=x:=(Qw.1 hx).2
 by_cases h0:i=0
 ·subst h0;exact adA (h.si x (Q8 hx))
 ·have e:=HS (l:=l) (i:=i - 1) (Qv (by omega))
  rw[show i - 1+1=i by omega]at e
  rw[e,<-hxe];exact List.pairwise_iff_getElem.1 h.G5 (i - 1) i (by omega) hi (by omega)
def abb{l:List ByteArray}(h:VL l):mm l=some (nm l,decide (l≠[]),()):=by
 unfold mm;simp only[aS]
 suffices key:Yd (aE _ (bE,false,(0:Int),())) λr=>r=(nm l,decide (l≠[]),())by obtain⟨r,g,rfl⟩:=key;exact g
 refine Yd.list l h.sC (λi (s:ByteArray×Bool)=>(s.1,s.2,i,())) (λi s=>s=(nm (l.take i),decide (i≠0))) ?_ ?_ (s:=(_,false)) rfl
 ·rintro i x s rfl hd hx' hi hdec hx hadd;have hx2:l[i]?=some x:=by rw[bf]at hx;exact hx
  have hl:=TG h hx2;simp only;rw[hdec,Qk,hx,Qa,OB,Qa,hadd,Qg (h.si x hx'),Bc];simp only[Qk,Qa,KE,hl];have g:∃s':ByteArray×Bool,((x,true,((i+1:Nat):Int),()):ByteArray×Bool×Int×Unit)=(s'.1,s'.2,((i+1:Nat):Int),())/\s'=(nm (l.take (i+1)),decide (i+1≠0)):=⟨(x,true),rfl,by rw[HS hx2];rfl⟩
  cases decide (i≠0)<;>exact .some g
 ·rintro s rfl hdec;simp only;rw[hdec,Ql,Qq62];refine .some ?_;show _=_;congr 2;rw[decide_eq_decide];cases l<;>simp
def ahW{l:List ByteArray}(h:VL l):ny l=some (nm l,decide (l≠[]),()):=by
 unfold ny;simp only[aS]
 suffices key:Yd (aE _ (bE,(0:Int),())) λr=>r=(nm l,decide (l≠[]),())by obtain⟨r,g,rfl⟩:=key;exact g
 refine Yd.list l h.sC (λi (s:ByteArray)=>(s,i,())) (λi s=>s=nm (l.take i)) ?_ ?_ rfl
 ·rintro i x s rfl hd hx' hi hdec hx hadd;have hx2:l[i]?=some x:=by rw[bf]at hx;exact hx
  have hl:=TG h hx2;simp only;rw[hdec,Qk,hx,Qa,abk,Qa,hadd,Qg (h.si x hx'),D3];simp only[Qk,Qa,adY,hl];exact .some ⟨x,rfl,by rw[HS hx2]⟩
 ·rintro s rfl hdec;simp only;rw[hdec,Ql,Qq62];refine .some ?_;show _=_;congr 2
  cases hl:l with
  |nil=>rfl
  |cons y r=>
   have hm:nm l∈l:=J3 (by rw[hl];simp)
   have hv:=h.si _ hm;rw[<-hl]
   have hne:nm l≠bE:=λe=>by rw[e]at hv;exact absurd hv.1 (by decide)
   rw[Qh hne,Qg (by rw[hl];simp)]
   rfl
def ajj{l:List az}(hlen:l.length<=100)(h:∀m∈l,cU m.aa/\m.bl.length<=1000/\m.aG.length<=1000):fI l=some l:=by
 unfold fI
 suffices key:∀(k i:Nat),i+k=l.length->aE _ ((i:Int),l.take i,())=some l from key l.length 0 (by omega)
 intro k
 induction k with
 |zero=>
  intro i hi;obtain rfl:i=l.length:=by omega
  refine bM ?_;simp only[Qh (Qq64 _),Ql,Qq62,Qe]
 |succ k ih=>
  intro i hi;have hlt:i<l.length:=by omega
  have hx:idx l (i:Int)=some l[i]:=by rw[bf];exact Qv hlt
  obtain⟨h1,h2,h3⟩:=h _ (Q0 hlt);refine(bx ?_).trans (ih (i+1) (by omega))
  simp only[Qg (by omega:(i:Int)<(l.length:Int)),hx,Qk,Qa,etas,az.eta,adp h1 h2 h3]
  rw[mh (by omega) (by simp;omega),bG (by omega) (by omega),Q7 hlt]
  rfl
section
variable {nd sl k : Int} {x : aL}
def Vx(h:uq nd sl k x):ra x=some x:=by
 have n:=h.oO;have l1:=n.dv.len;have l2:=n.eJ.len;have l3:=n.kS.len;have l4:=n.len;have l5:=h.ja.len;have hN:fI x.aB.ar=some x.aB.ar:=ajj (by omega) λm hm=>⟨(n.heard m hm).1.aN.sm,QK (n.heard m hm).1.dv.len (by omega),QK (n.heard m hm).1.eJ.len (by omega)⟩
 have hE:dV x.ae.ar=some x.ae.ar:=Xv (λe he=>(h.ja.hv e he).2.1.sm) (by omega)
 unfold ra;simp only[aL.eta,au.eta,ab.eta,etas,ly n.ask.aN.sm,ly h.ja.aN.sm,wu _ (QK l1 (by omega)),wu _ (QK l2 (by omega)),wu _ (QK l3 (by omega)),hN,hE,Qa]
def NM(h:uq nd sl k x):qW x=eQ x:=by
 unfold qW eQ;simp only[etas,aS,ahW h.oO.kS,abb h.oO.kS,dp,c7,Qa,Nf h.ja h.lK,Bb h.ja h.lK]
 by_cases hc:x.aB.aR=[]
 ·have e1:decide ((0:Int)<(x.aB.aR.length:Int))=false:=by rw[hc];rfl
  rw[e1,hc];cases decide (x.ae.aQ=1)<;>cases aP x.ae.ax<;>rfl
 ·have hpos:0<x.aB.aR.length:=List.length_pos_iff.2 hc;have hlv:kT (nm x.aB.aR):=h.oO.kS.si _ (J3 hc);rw[Qg (by omega:(0:Int)<(x.aB.aR.length:Int)),Qg hc,ab0 h.ja h.lK hlv]
  obtain⟨q,e,q0,hn⟩:=HL h.ja h.lK hlv;rw[e];simp only[Qa,q0,decide_true,Qk,Nf hn.inv hn.seq,Bb hn.inv hn.seq];cases decide (x.ae.aQ=1)<;>cases aP x.ae.ax<;>cases decide (nm x.aB.aR=x.ae.bg)<;>rfl
def abC{m:ab}(h:bs m)(hs:fS m){v:ByteArray}(hv:kT v):Yd (kj m v) λq=>q.2.1=0/\DA m m.aa q.1/\q.1.bg=v/\q.1.ar=m.ar:=by
 obtain⟨q,e,h1,h2⟩:=HL h hs hv;obtain⟨q',e',m2,rfl,ha⟩:=M9 (R:=λ_=>True) (λ_ _ _=>trivial) (λ_ _=>trivial) h hs hv trivial
 rw[e]at e';obtain rfl:=Option.some.inj e';obtain⟨_,_,_,e4,e5,_⟩:=D6 (gB m v);obtain⟨s,es,_⟩:=N2 m m2;have g1:(gB m v).bg=v:=by unfold gB;split<;>rfl
 have g2:(gB m v).ar=m.ar:=by unfold gB;split<;>rfl
 refine⟨_,e,h1,h2,?_,?_⟩
 ·show(um m m2).bg=v;rw[es];exact ha.env.2.2.2.1.trans (e4.trans g1)
 ·show(um m m2).ar=m.ar;rw[es];exact ha.env.2.2.2.2.trans (e5.trans g2)
structure Y6 (x y:aL):Prop where
 oO:y.aB=x.aB
 round:y.Round=x.Round
 next:y.Next=x.Next
 timer:y.Timer=x.Timer
 heard:y.ae.ar=x.ae.ar
 tP:x.aB.aR≠[]->y.ae.aQ=1->aP y.ae.ax=true->y.ae.bg=nm x.aB.aR
def Vl(h:uq nd sl k x):Yd (eQ x) λy=>rN nd sl k y/\mE x.ae y.ae/\Y6 x y:=by
 obtain⟨y,e,h1,h2,_⟩:=uR h;refine⟨y,e,h1,h2,?_⟩;unfold eQ at e;simp only[etas,aS,abb h.oO.kS,c7,Qa,Bb h.ja h.lK]at e
 have same:(x.aB.aR≠[]->x.ae.aQ=1->aP x.ae.ax=true->x.ae.bg=nm x.aB.aR)->∀{a:Bool} {b:ByteArray},y=⟨x.aB,x.ae,x.Timer,x.Round,x.Next,a,b⟩->Y6 x y:=λhp a b ey=>by subst ey;exact⟨rfl,rfl,rfl,rfl,rfl,hp⟩
 by_cases hc:x.aB.aR=[]
 ·rw[hc]at e;exact same (λhn=>absurd hc hn) (Option.some.inj e).symm
 ·have hlv:kT (nm x.aB.aR):=h.oO.kS.si _ (J3 hc);rw[Qg hc]at e
  by_cases h3:x.ae.aQ=1
  ·rw[Qg h3]at e
   cases hz:aP x.ae.ax with
   |false=>rw[hz]at e;exact same (λ_ _ e2=>by rw[hz]at e2;cases e2) (Option.some.inj e).symm
   |true=>
    rw[hz]at e
    by_cases hp:nm x.aB.aR=x.ae.bg
    ·rw[Qg hp]at e;exact same (λ_ _ _=>hp.symm) (Option.some.inj e).symm
    ·rw[Qh hp]at e;obtain⟨q,eq,q0,hn,qp,qh⟩:=abC h.ja h.lK hlv;rw[eq]at e;simp only[Qk,Qp,Qa,q0,decide_true,Bb hn.inv hn.seq]at e;obtain rfl:=Option.some.inj e;exact⟨rfl,rfl,rfl,rfl,qh,λ_ _ _=>qp⟩
  ·rw[Qh h3]at e;exact same (λ_ e2=>absurd e2 h3) (Option.some.inj e).symm
end
end
section
def ait{c:Int}(hc:0<=c)(hc2:c<=1000000):uJ c=lY c:=by
 have h1:∀d:Int,0<=d->d<=1000000->aA .i64 d 1=d+1:=λd a b=>bG (by omega) (by omega)
 unfold uJ lY;have hm:0<=bF (du c 11) 0/\bF (du c 11) 0<=11:=by unfold bF du;split<;>split<;>omega
 rw[h1 _ hm.1 (by omega)]
 by_cases h:12<=c
 ·have:bF (du c 11) 0=11:=by unfold bF du;split<;>split<;>omega
  rw[Qg h,this];rfl
 ·have e1:bF (du c 11) 0=c:=by unfold bF du;split<;>split<;>omega
  have e2:bF (c+1) 1=c+1:=by unfold bF;split<;>omega
  rw[Qh h,Ql,h1 c hc hc2,e1,e2]
section
variable {m : ab} (h : bs m) (hs : fS m)
 include h hs
end
section
variable {nd sl k : Int} {x : aL} (h : rN nd sl k x) (hk : k <= 999998)
 include h hk
theorem XZ{m:az}(hm:ve m)(hne:m.al≠nd):uu x m=fP x m:=by
 have p:=h.pre;have hsq:1<=x.aB.aH/\x.aB.aH<=1000000:=⟨p.qL.1,by have:=p.qL.2;omega⟩
 have hne2:m.al≠x.aB.al:=by rw[p.tT];exact hne
 unfold uu xx wB Ar fP;simp only[az.eta,etas,aS,tO h (by omega),Ng h (by omega),Vx p,ahS p.oO hsq hm hne2,aba p.oO hsq hm hne2,Qa,Qo,Ql]
 have hs:=MX (b:=x.aB) (H9 p.oO hm hne2)
 cases u0 x.aB.ar m with
 |true=>rfl
 |false=>
  have h1:=p.qL;have hp:uq nd sl (k+1) {x with aB:=lF x.aB {x.aB with ar:=iD x.aB.ar m}}:=⟨p.ja,p.lK,p.aF,p.aJ,hs.ok,by show 1<=(lF x.aB {x.aB with ar:=iD x.aB.ar m}).aH/\(lF x.aB {x.aB with ar:=iD x.aB.ar m}).aH<=1+(k+1);rcases hs.seq with e|e<;>rw[e]<;>(try show 1<=x.aB.aH/\x.aB.aH<=1+(k+1))<;>omega,hs.aF.trans p.tT,hs.aJ.trans p.yf,hs.aN.trans p.aN,p.timer,p.round,p.next⟩
  simp only[Qq,Qu,decide_true,Qo,Ql,Qk,Qa,NM hp];obtain⟨y,ey,_⟩:=uR hp;rw[ey];rfl
theorem aad{e:ak}(he:Aq x.ae e\/(cU e.aa/\(bc e=false\/e.al=x.ae.al\/e.aK≠x.ae.aK))):vu x e=k7 x e:=by
 have p:=h.pre;unfold vu xw xy CO k7;simp only[etas,aS,tO h (by omega),Ng h (by omega),Vx p,Qa,Qo,Ql]
 rcases he with he|⟨ht,hv⟩
 ·rw[abZ p.ja p.lK he];obtain⟨q,e1,hq⟩:=VI p.ja p.lK he;rw[e1];rcases hq with⟨q0,hn⟩|q9
  ·simp only[Qa,q0,decide_true,Qo,Ql,Qk,NM (p.RG hn)];obtain⟨y,ey,_⟩:=uR (p.RG hn);rw[ey];rfl
  ·simp only[Qa,q9];rfl
 ·rw[Ym p.ja p.lK ht hv,afR p.ja p.lK ht hv];rfl
end
def ajD{nd sl:Int}(hv0:0<=nd)(hv1:nd<10)(hs0:1<=sl)(hs1:sl<=1000000){t:aj}{own:ByteArray}{now:Int}(ht:dt t)(ho:own.size<=200)(h0:0<=now)(h1:now<=200):uv nd sl t own now=nq nd sl t own now:=by
 unfold uv nq CN;simp only[etas,Qg h0,Qg h1,Qh (by omega:¬now<0),Qh (by omega:¬(200:Int)<now),Ql,Qk,Qo,Qa]
 rw[ac2 hv0 hv1 hs0 hs1 ht,akv hv0 hv1 hs0 hs1 ht,afP ht hv0 hv1 (by omega) hs1 ho]
 obtain⟨q,eq,q0,g1,g2,g3,g4,g5⟩:=RR ht hv0 hv1 (show(0:Int)<=sl by omega) hs1 ho
 obtain⟨w,ew,w1,w2⟩:=OA (c:=1) (by omega) (by omega)
 have hadd2:aA .i64 now w=now+w:=bG (by omega) (by omega)
 have ew2:uJ 1=some w:=(ait (by omega) (by omega)).trans ew
 obtain⟨m1,m2⟩:=R0 (aF:=nd) (aJ:=sl) hv0 hv1 hs0 hs1 ht;have ht0:w6 ⟨0, -1⟩:=⟨by decide,by decide,by decide,by decide⟩
 have hp:uq nd sl 0 ⟨q.1,Ni nd sl t,⟨0, -1⟩,1,now+w,false,bE⟩:=⟨m1,m2,rfl,rfl,g1,by show 1<=q.1.aH/\q.1.aH<=1+0;rw[g5];decide,g2,g3,g4,ht0,⟨(by decide:(1:Int)<=1),(by decide:(1:Int)<=1000)⟩,by show 0<=now+w/\now+w<=212;omega⟩
 rw[eq];simp only[Qa,decide_true,Qo,Ql,q0,ew,ew2,hadd2,NM hp]
end
section
section
variable {nd sl k : Int} {x : aL} (h : rN nd sl k x) (hk : k <= 999998)
 include h hk
theorem ai7{m:az}(hm:ve m)(hne:m.al≠nd):Yd (fP x m) λq=>(u0 x.aB.ar m=false/\q.2.1=0/\rN nd sl (k+1) q.1/\mE x.ae q.1.ae/\u0 q.1.aB.ar m=true/\(q.1.aB.aR≠[]->q.1.ae.aQ=1->aP q.1.ae.ax=true->q.1.ae.bg=nm q.1.aB.aR))\/(u0 x.aB.ar m=true/\q.2.1=9):=by
 have p:=h.pre;have h1:=p.qL;have hsq:1<=x.aB.aH/\x.aB.aH<=1000000:=⟨p.qL.1,by omega⟩
 have hne2:m.al≠x.aB.al:=by rw[p.tT];exact hne
 have hno:=H9 p.oO hm hne2;have hs:=MX (b:=x.aB) hno;have hh:=(Mp (b:=x.aB) hno).1;unfold fP;simp only[az.eta,etas,tO h (by omega),aba p.oO hsq hm hne2,Qa,Qo,Ql]
 cases ho:u0 x.aB.ar m with
 |true=>exact .some (.inr ⟨by trivial,rfl⟩)
 |false=>
  have hq:(lF x.aB {x.aB with ar:=iD x.aB.ar m}).aH=x.aB.aH\/(lF x.aB {x.aB with ar:=iD x.aB.ar m}).aH=x.aB.aH+1:=hs.seq
  have hp:uq nd sl (k+1) {x with aB:=lF x.aB {x.aB with ar:=iD x.aB.ar m}}:=⟨p.ja,p.lK,p.aF,p.aJ,hs.ok,by show 1<=(lF x.aB {x.aB with ar:=iD x.aB.ar m}).aH/\(lF x.aB {x.aB with ar:=iD x.aB.ar m}).aH<=1+(k+1);omega,hs.aF.trans p.tT,hs.aJ.trans p.yf,hs.aN.trans p.aN,p.timer,p.round,p.next⟩
  simp only[Qq,Qu,decide_true,Qo,Ql];refine Yd.bind (Vl hp) λy ⟨hy,hst,hq⟩=> .some (.inl ⟨by trivial,rfl,hy,hst,?_,λh1 h2 h3=> ?_⟩)
  ·show u0 y.aB.ar m=true;rw[hq.oO];show u0 (lF x.aB {x.aB with ar:=iD x.aB.ar m}).ar m=true
   rw[hh];exact List.any_eq_true.2 ⟨m,TM.2 (.inl rfl),by simp⟩
  ·have e:=hq.oO;simp only at h1 h2 h3 ⊢;rw[e]at h1 ⊢;exact hq.tP h1 h2 h3
end
def afv{t:aj}{v aJ:Int}{own:ByteArray}(ht:dt t)(h0:0<=v)(h1:v<10)(h2:0<=aJ)(h3:aJ<=1000000)(ho:own.size<=200):Yd (mB v aJ t own) λq=>q.1.ar=[]:=by
 have hn:cO ⟨v,aJ,1,1,t,own,[],[],[],[]⟩:=⟨⟨ht,h0,h1,h2,h3,by show(1:Int)<=1;omega,by show(1:Int)<=1000;omega⟩,ho,.nil,.nil,.nil,λx hx=>absurd hx QR,λx hx=>absurd hx QR,List.Pairwise.nil⟩
 unfold mB;simp only[etas,dI ht];rw[Qh (by omega:¬v<0),Qh (by omega:¬(10:Int)<=v),Qh (by omega:¬aJ<0),Qh (by omega:¬(1000000:Int)<aJ),Qh (by omega:¬(200:Int)<((own.size:Nat):Int))]
 simp only[Ql,Qa,decide_true,Qo];rw[JC hn.Fz ⟨by show(0:Int)<=1;omega,by show(1:Int)<=1000000;omega⟩ hn,Qa]
 exact .some (Mp hn).1
def ah7{nd sl:Int}(hv0:0<=nd)(hv1:nd<10)(hs0:1<=sl)(hs1:sl<=1000000){t:aj}{own:ByteArray}{now:Int}(ht:dt t)(ho:own.size<=200)(h0:0<=now)(h1:now<=200):Yd (nq nd sl t own now) λq=>q.2.1=0/\rN nd sl 0 q.1/\q.1.aB.ar=[]/\q.1.ae.ar=[]/\q.1.Round=1/\∀w,lY 1=some w->q.1.Next=now+w:=by
 unfold nq;simp only[etas];rw[Qh (by omega:¬now<0),Qh (by omega:¬(200:Int)<now)]
 simp only[Ql,Qa];rw[ac2 hv0 hv1 hs0 hs1 ht];simp only[Qa,decide_true,Qo,Ql];obtain⟨q,eq,q0,g1,g2,g3,g4,g5⟩:=RR ht hv0 hv1 (show(0:Int)<=sl by omega) hs1 ho
 obtain⟨q',eq',hh⟩:=afv ht hv0 hv1 (show(0:Int)<=sl by omega) hs1 ho
 rw[eq]at eq';obtain rfl:=Option.some.inj eq';rw[eq,Qa,q0];simp only[decide_true,Qo,Ql];obtain⟨w,ew,w1,w2⟩:=OA (c:=1) (by omega) (by omega)
 have hadd2:aA .i64 now w=now+w:=bG (by omega) (by omega)
 rw[ew,Qa,hadd2];obtain⟨m1,m2⟩:=R0 (aF:=nd) (aJ:=sl) hv0 hv1 hs0 hs1 ht;have ht0:w6 ⟨0, -1⟩:=⟨by decide,by decide,by decide,by decide⟩
 refine Yd.bind (Vl (k:=0) (x:=⟨q.1,Ni nd sl t,⟨0, -1⟩,1,now+w,false,bE⟩) ⟨m1,m2,rfl,rfl,g1,by show 1<=q.1.aH/\q.1.aH<=1+0;rw[g5];decide,g2,g3,g4,ht0,⟨(by decide:(1:Int)<=1),(by decide:(1:Int)<=1000)⟩,by show 0<=now+w/\now+w<=212;omega⟩) λy ⟨hy,_,hsq⟩=> .some ⟨rfl,hy,?_,hsq.heard,hsq.round,λw' hw'=> ?_⟩
 ·show y.aB.ar=[];rw[hsq.oO];exact hh
 ·obtain rfl:=Option.some.inj hw';exact hsq.next
end
section
def Yd.is{α:Type}{o:Option α}{x:α}(h:Yd o λr=>r=x):o=Option.some x:=by obtain⟨y,e,rfl⟩:=h;exact e
def abE{α β:Type}{R:α->β->Prop}:∀{l:List α},(∀x∈l,∃y,R x y)->∃ys:List β,ys.length=l.length/\∀(i:Nat) (x:α),l[i]?=some x->∃y,ys[i]?=some y/\R x y
 |[],_=>⟨[],rfl,λi x h=>by simp at h⟩
 |a::l,h=>by
  obtain⟨y,hy⟩:=h a Qx;obtain⟨ys,h1,h2⟩:=abE λx hx=>h x (Qy _ hx)
  refine⟨y::ys,by simp[h1],λi x hx=> ?_⟩
  cases i with
  |zero=>simp only[List.getElem?_cons_zero,Qf]at hx;subst hx;exact⟨y,rfl,hy⟩
  |succ i=>simpa using h2 i x (by simpa using hx)
def acN{α:Type}{ys l:List α}(h:ys.length=l.length){i:Nat}(hi:i<l.length){y:α}(hy:ys[i]?=some y):(ys.take i++l.drop i).set i y=ys.take (i+1)++l.drop (i+1):=by
 have e:ys.take (i+1)=ys.take i++[y]:=by rw[List.take_add_one,hy];rfl
 rw[e,QM hi,List.set_append_right _ _ (by rw[List.length_take];omega),List.length_take,Nat.min_eq_left (by omega),Nat.sub_self,List.set_cons_zero,QL]
 rfl
def af7{α:Type}{ys l:List α}(h:ys.length=l.length)(i:Nat):(ys.take i++l.drop i)[i]?=l[i]?:=by
 rcases Nat.lt_or_ge i l.length with hi|hi
 ·rw[List.getElem?_append_right (by rw[List.length_take];omega),List.length_take,Nat.min_eq_left (by omega),Nat.sub_self,List.getElem?_drop]
  rfl
 ·rw[Qq72 hi,Qq72 (by rw[QB,List.length_take,List.length_drop];omega)]
def RB{α:Type}{P:α->Bool}:∀{l:List α} {i:Nat},i<=l.length->(∀j,j<i->∃y,l[j]?=some y/\P y=true)->(∀y,l[i]?=some y->P y=false)->(l.takeWhile P).length=i
 |[],i,h,_,_=>by simp at h;subst h;rfl
 |x::l,0,_,_,h2=>by rw[List.takeWhile_cons,h2 x rfl];rfl
 |x::l,i+1,h,h1,h2=>by
  obtain⟨y,e,hy⟩:=h1 0 (by omega)
  obtain rfl:x=y:=by simpa using e
  rw[List.takeWhile_cons,hy,Qr rfl,QE,RB (by simpa using h) (λj hj=>by simpa using h1 (j+1) (by omega)) λy hy=>h2 y (by simpa using hy)]
def EH(nd k:Int)(x:aL):Prop:=1<=x.ae.aK/\x.ae.aK<=1000000/\rN nd x.ae.aK k x
def EH.le{nd k k':Int}{x:aL}(h:EH nd k x)(hk:k<=k'):EH nd k' x:=⟨h.1,h.2.1,h.2.2.le hk⟩
def EH.WD{nd k k':Int}{x y:aL}(h:EH nd k x)(hd:xB nd x.ae.aK k' x y):EH nd k' y/\y.ae.aK=x.ae.aK:=by have e:=hd.1.pre.aJ;exact⟨⟨by rw[e];exact h.1,by rw[e];exact h.2.1,by rw[e];exact hd.1⟩,e⟩
structure kF (nd k:Int) (p:aw):Prop where
 aF:p.al=nd
 n0:0<=nd
 n1:nd<10
 aN:dt p.aa
 len:p.aC.length<=8
 aJ:∀x∈p.aC,EH nd k x
 cZ:p.aC.Pairwise λx y=>x.ae.aK<y.ae.aK
 same:∀x∈p.aC,x.ae.aa=p.aa
def kF.le{nd k k':Int}{p:aw}(h:kF nd k p)(hk:k<=k'):kF nd k' p:=⟨h.aF,h.n0,h.n1,h.aN,h.len,λx hx=>(h.aJ x hx).le hk,h.cZ,h.same⟩
def aiA{nd k:Int}{p:aw}(h:kF nd k p){C:aL->Option Bool}{S:aj->aj->Option Bool}(hC:∀x∈p.aC,C x=some true)(hS:∀x∈p.aC,S x.ae.aa p.aa=some true):
  aE (λ(v5:Int×Unit)=>
   bif (decide (v5.1<((List.length p.aC:Nat):Int)))then
   Option.bind (idx p.aC v5.1) λx6=>
   aY (λ(v7:Bool×Unit)=>bif v7.1 then Option.map Sum.inr (some false)else some (Sum.inl ((aA .i64 v5.1 (1:Int)),()))) λj8=>
   Option.bind (C x6) λr9=>
   bif (!r9)then j8 (true,())else
   bif (!decide (x6.ae.al=p.al))then j8 (true,())else
   Option.bind (S x6.ae.aa p.aa) λr10=>
   bif (!r10)then j8 (true,())else
   bif (decide ((0:Int)<v5.1))then
   Option.bind (idx p.aC (c8 .i64 v5.1 (1:Int))) λx11=>j8 ((decide (x6.ae.aK<=x11.ae.aK)),())
   else j8 (false,())
   else Option.map Sum.inr (some true)) ((0:Int),())=some true:=by
 have hlen:=h.len;refine Yd.eq_true (Yd.list p.aC (by omega) (λi (_:Unit)=>(i,())) (λ_ _=>True) (λi x _ _ _ hx hi hd hw ha=> ?_) (λ_ _ hd=> ?_) (s:=()) trivial)
 ·simp only[hd,Qk,hw,Qa,hC x hx,hS x hx,Qo,Ql,Qg ((h.aJ x hx).2.2.pre.aF.trans h.aF.symm),aS]
  by_cases h0:(0:Int)<(i:Int)
  ·obtain⟨m,rfl⟩:∃m:Nat,i=m+1:=⟨i - 1,by omega⟩
   have hlt:=List.pairwise_iff_getElem.1 h.cZ m (m+1) (by omega) hi (by omega)
   obtain rfl:p.aC[m+1]=x:=by rw[bf,Qv hi]at hw;exact Option.some.inj hw
   rw[Qg h0,Qk,qC (by omega) (by omega),show(((m+1:Nat):Int)) - 1=(m:Int)by omega,bf,Qv (show m<p.aC.length by omega),Qa,Qh (by omega),Ql,ha]
   exact .some ⟨(),rfl,trivial⟩
  ·rw[Qh h0,Ql,ha];exact .some ⟨(),rfl,trivial⟩
 ·simp only[hd,Ql];exact .some rfl
def G0{nd k:Int}{p:aw}(h:kF nd k p)(hk:k<=999999):my p=some true:=by
 have hlen:=h.len;unfold my;simp only[aL.eta,au.eta,ab.eta,etas,A7 h.aN.sm,vJ h.aN,Qa,decide_true,Qo];rw[Qh (show¬p.al<0 by rw[h.aF];have:=h.n0;omega),Qh (show¬(9:Int)<p.al by rw[h.aF];have:=h.n1;omega),Qh (show¬(8:Int)<(p.aC.length:Int)by omega)]
 simp only[Ql,Qa];refine aiA h (λx hx=>tO (h.aJ x hx).2.2 hk) λx hx=> ?_
 obtain⟨r,hr,hb⟩:=F9 (a:=x.ae.aa) (b:=p.aa) (h.aJ x hx).2.2.pre.ja.aN.sm;rw[hr,hb.2 (h.same x hx)]
def lR(l:List aL)(n:Int):Nat:=(l.takeWhile λx=>decide (x.ae.aK<n)).length
def sR(l:List aL)(n:Int):Bool:=match l[lR l n]? with|some x=>decide (x.ae.aK=n)|none=>false
def N7(l:List aL)(n:Int):lR l n<=l.length:=MT _ _
def ahk{l:List aL}{n:Int}{x:aL}(hx:x∈l.take (lR l n)):x.ae.aK<n:=by
 obtain⟨j,hj,rfl⟩:=List.getElem_of_mem hx;rw[List.length_take]at hj;obtain⟨y,e,hy⟩:=(B1 (λx:aL=>decide (x.ae.aK<n)) l).1 j (by show j<lR l n;omega)
 rw[List.getElem_take];rw[Qv (by omega)]at e
 obtain rfl:=Option.some.inj e;exact of_decide_eq_true hy
def ahl{l:List aL}(hs:l.Pairwise λx y=>x.ae.aK<y.ae.aK){n:Int}(ht:sR l n=false){x:aL}(hx:x∈l.drop (lR l n)):n<x.ae.aK:=by
 obtain⟨j,hj,rfl⟩:=List.getElem_of_mem hx;rw[List.length_drop]at hj;have hw:lR l n<l.length:=by omega
 have e:=Qv hw;have h1:=of_decide_eq_false ((B1 (λx:aL=>decide (x.ae.aK<n)) l).2 _ e)
 have h2:¬l[lR l n].ae.aK=n:=by unfold sR at ht;rw[e]at ht;exact of_decide_eq_false ht
 rw[List.getElem_drop];rcases Nat.eq_zero_or_pos j with rfl|hp
 ·show n<(l[lR l n]).ae.aK;omega
 ·have:=List.pairwise_iff_getElem.1 hs (lR l n) (lR l n+j) hw (by omega) (by omega)
  omega
def MY{l:List aL}{n:Int}(h:sR l n=true):∃x,l[lR l n]?=some x/\x.ae.aK=n:=by
 unfold sR at h;split at h
 ·rename_i x hx;exact⟨x,hx,of_decide_eq_true h⟩
 ·cases h
def UW{l:List aL}(hs:l.Pairwise λx y=>x.ae.aK<y.ae.aK){i:Nat}{x:aL}(hx:l[i]?=some x):lR l x.ae.aK=i:=by
 obtain⟨hi,rfl⟩:=Qw.1 hx;refine RB (by omega) (λj hj=>⟨_,Qv (show j<l.length by omega),?_⟩) λy hy=> ?_
 ·exact Qg (List.pairwise_iff_getElem.1 hs j i (by omega) hi hj)
 ·rw[hx]at hy;obtain rfl:=Option.some.inj hy;exact Qh (by omega)
def aaY{l:List aL}(hs:l.Pairwise λx y=>x.ae.aK<y.ae.aK){i:Nat}{x:aL}(hx:l[i]?=some x):sR l x.ae.aK=true:=by unfold sR;rw[UW hs hx,hx];exact Qg rfl
def aax{p:aw}(hl:p.aC.length<=8)(n:Int):As p n=some (((lR p.aC n:Nat):Int),sR p.aC n,()):=by
 obtain⟨i,h1,h2,h3,h4⟩:=UU p.aC (by omega) (λx=>decide (x.ae.aK<n)) (r:=λi=>some ((i:Int),(match p.aC[i]? with|some x=>decide (x.ae.aK=n)|none=>false),()))
  (step:=λ(v1:Int×Unit)=>
   Option.bind (bif (decide (v1.1<((List.length p.aC:Nat):Int)))then Option.bind (idx p.aC v1.1) λx2=>some (decide (x2.ae.aK<n))else some false) λb3=>
   bif b3 then some (Sum.inl ((aA .i64 v1.1 (1:Int)),()))
   else Option.map Sum.inr (aY (λ(v4:Int×Bool×Unit)=>some (v4.1,v4.2.1,())) λj5=>bif (decide (v1.1<((List.length p.aC:Nat):Int)))then Option.bind (idx p.aC v1.1) λx6=>j5 (v1.1,(decide (x6.ae.aK=n)),())else j5 (v1.1,false,())))
  (λi y hy hd hx hP ha=>by simp only[hd,Qk,hx,Qa,hP,ha])
  (λi y hy hd hx hP=>by simp only[hd,Qk,hx,Qa,hP,Ql,aS,hy])
  (λhd=>by simp only[hd,Ql,Qa,aS];rw[Qq72 (QI _)])
 have e:lR p.aC n=i:=RB h1 h2 h3;unfold sR;rw[e];exact h4
def zP:aw:=⟨0,false,⟨0,[],[]⟩,[]⟩
structure KP (nd k n:Int) (p:aw) (own:ByteArray) (now:Int) (s:aL):Prop where
 e:nq nd n p.aa own now=some (s,0,())
 ok:EH nd k s
 aJ:s.ae.aK=n
 aN:s.ae.aa=p.aa
def Kl(p:aw)(n:Int)(s:aL):aw:={p with aC:=p.aC.take (lR p.aC n)++[s]++p.aC.drop (lR p.aC n)}
def G4(p:aw)(n:Int)(s:aL):aw×Int×Unit:=if sR p.aC n=true then(zP,6,())else if p.aC.length=8 then(zP,3,())else(Kl p n s,0,())
def mr(p:aw)(n:Int)(s:aL):aw:=if sR p.aC n=true then p else Kl p n s
def M5(p:aw)(i:Nat)(s:aL):aw:={p with aC:=p.aC.set i s}
def yi(p:aw)(n:Int)(s:aL)(g:aL->Option (aL×Int×Unit)):Option (aw×Int×Unit):=
 if sR p.aC n=false/\p.aC.length=8 then some (zP,3,())else
 Option.bind (mr p n s).aC[lR (mr p n s).aC n]? λx=>Option.bind (g x) λr=>some (if r.2.1=0 then(M5 (mr p n s) (lR (mr p n s).aC n) r.1,0,())else(zP,r.2.1,()))
section
variable {nd k : Int} {p : aw} (h : kF nd k p)
 include h
theorem VG{n:Int}(hn0:1<=n)(hn1:n<=1000000){own:ByteArray}(ho:own.size<=200){now:Int}(h0:0<=now)(h1:now<=200)(hk0:0<=k):∃s,KP nd k n p own now s:=by obtain⟨⟨s,e,u⟩,e1,e2,e3,e4⟩:=ajm h.n0 h.n1 hn0 hn1 h.aN ho h0 h1;obtain rfl:e=0:=e2;have hs:s.ae.aK=n:=e3.pre.aJ;exact⟨s,e1,⟨by omega,by omega,by rw[hs];exact e3.le hk0⟩,hs,e4⟩
section
variable {n : Int} {own : ByteArray} {now : Int} {s : aL} (hs : KP nd k n p own now s)
 include hs
theorem Sq(ht:sR p.aC n=false)(h8:p.aC.length≠8):kF nd k (Kl p n s):=by
 have hlen:=h.len;have hw:=N7 p.aC n
 have e:∀x,x∈(Kl p n s).aC↔x∈p.aC\/x=s:=λx=>by
  show x∈p.aC.take _++[s]++p.aC.drop _↔_
  conv=>rhs;rw[<-List.take_append_drop (lR p.aC n) p.aC]
  simp only[Qz,Q5]
  grind
 refine⟨h.aF,h.n0,h.n1,h.aN,?_,λx hx=> ?_,?_,λx hx=> ?_⟩
 ·show(p.aC.take _++[s]++p.aC.drop _).length<=8;simp only[QB,List.length_take,List.length_drop,QE,QZ];omega
 ·rcases(e x).1 hx with hx|rfl
  ·exact h.aJ x hx
  ·exact hs.ok
 ·show(p.aC.take (lR p.aC n)++[s]++p.aC.drop (lR p.aC n)).Pairwise _;have hp:=h.cZ;rw[<-List.take_append_drop (lR p.aC n) p.aC,Qq69]at hp;rw[QL,Qq69];refine⟨hp.1,Q4.2 ⟨λy hy=> ?_,hp.2.1⟩,λx hx y hy=> ?_⟩
  ·rw[hs.aJ];exact ahl h.cZ ht hy
  ·rcases QA.1 hy with rfl|hy
   ·rw[hs.aJ];exact ahk hx
   ·exact hp.2.2 x hx y hy
 ·rcases(e x).1 hx with hx|rfl
  ·exact h.same x hx
  ·exact hs.aN
theorem agj(ht:sR p.aC n=false)(h8:p.aC.length≠8):(Kl p n s).aC[lR p.aC n]?=some s:=by
 have hw:=N7 p.aC n;show(p.aC.take _++[s]++p.aC.drop _)[_]?=_;rw[QL,List.getElem?_append_right (by rw[List.length_take];omega),List.length_take,Nat.min_eq_left hw,Nat.sub_self]
 rfl
theorem UE(hb:¬(sR p.aC n=false/\p.aC.length=8)):kF nd k (mr p n s)/\sR (mr p n s).aC n=true/\∃x,(mr p n s).aC[lR (mr p n s).aC n]?=some x/\x.ae.aK=n/\x∈(mr p n s).aC:=by
 have key:kF nd k (mr p n s)/\sR (mr p n s).aC n=true:=by
  unfold mr
  cases ht:sR p.aC n with
  |true=>exact⟨h,ht⟩
  |false=>
   have h8:p.aC.length≠8:=λe=>hb ⟨ht,e⟩
   have hi:=Sq h hs ht h8;refine⟨hi,?_⟩;have:=aaY hi.cZ (agj h hs ht h8);rw[hs.aJ]at this;exact this
 obtain⟨x,h1,h2⟩:=MY key.2;exact⟨key.1,key.2,x,h1,h2,Q8 h1⟩
theorem Y2:uK p n own now=some (G4 p n s):=by
 have hlen:=h.len;have hw:=N7 p.aC n;unfold uK G4 Kl;simp only[aL.eta,au.eta,ab.eta,etas,aw.eta,aax h.len,Qa]
 cases sR p.aC n with
 |true=>rfl
 |false=>
  simp only[Ql,Qq,Qu]
  by_cases h8:p.aC.length=8
  ·rw[Qr h8,Qg (by omega)];rfl
  ·rw[Qs h8,Qh (by omega),Ql,h.aF,hs.e,Qa,Qg rfl]
   simp only[Qo,Ql,tN,yq];have hlt:=List.length_take_le (lR p.aC n) p.aC;rw[DV hw,Qk,bD (by omega),Qk,bD (by simp;omega),Qk,DW hw,Qk,bD (by simp;omega),Qk]
theorem afp:qX p n own now=some (if sR p.aC n=false/\p.aC.length=8 then(zP,0,3,())else(mr p n s,((lR (mr p n s).aC n:Nat):Int),0,())):=by
 have hlen:=h.len;unfold qX;simp only[etas,aw.eta,aax h.len,Qa,Y2 h hs]
 cases ht:sR p.aC n with
 |true=>
  rw[Qk,Qs (by rintro⟨e,_⟩;cases e)]
  unfold mr;rw[Qr ht]
 |false=>
  rw[Ql];unfold G4;rw[Qs (by rw[ht];simp)]
  by_cases h8:p.aC.length=8
  ·rw[Qr h8,Qr ⟨rfl,h8⟩,aax (show zP.aC.length<=8 by decide),Qa]
   rfl
  ·rw[Qs h8,Qs λe=>h8 e.2,aax (Sq h hs ht h8).len,Qa]
   unfold mr;rw[Qs (by rw[ht];simp)]
end
theorem ahj{i:Nat}(hi:i<p.aC.length){s:aL}{e:Int}:gJ p (i:Int) s e=some (if e=0 then(M5 p i s,0,())else(zP,e,())):=by
 have hlen:=h.len;unfold gJ;simp only[etas]
 by_cases he:e=0
 ·rw[Qr he,Qg he,Qo,Ql,bD (by omega),Qk,bf,Qv hi,Qa,QV,Qv hi]
  rfl
 ·rw[Qs he,Qh he];rfl
theorem afn{k':Int}(hk:k<=k'){i:Nat}{x y:aL}(hx:p.aC[i]?=some x)(hy:EH nd k' y)(hs:y.ae.aK=x.ae.aK)(ht:y.ae.aa=x.ae.aa):kF nd k' (M5 p i y):=by
 have hm:=Q8 hx;obtain⟨hi,rfl⟩:=Qw.1 hx;refine⟨h.aF,h.n0,h.n1,h.aN,by show(p.aC.set i y).length<=8;rw[QY];exact h.len,λz hz=> ?_,?_,λz hz=> ?_⟩
 ·rcases List.mem_or_eq_of_mem_set (show z∈p.aC.set i y from hz)with hz|rfl
  ·exact(h.aJ z hz).le hk
  ·exact hy
 ·show(p.aC.set i y).Pairwise _;rw[List.pairwise_iff_getElem];intro a b ha hb hab;rw[QY]at ha hb;have:=List.pairwise_iff_getElem.1 h.cZ a b ha hb hab;rw[List.getElem_set,List.getElem_set]
  grind
 ·rcases List.mem_or_eq_of_mem_set (show z∈p.aC.set i y from hz)with hz|rfl
  ·exact h.same z hz
  ·exact ht.trans (h.same _ hm)
end
structure oe (p q:aw):Prop where
 len:p.aC.length<=q.aC.length
 has:∀x∈p.aC,∃y∈q.aC,y.ae.aK=x.ae.aK/\mE x.ae y.ae
def oe.refl(p:aw):oe p p:=⟨QI _,λx hx=>⟨x,hx,rfl,λe=>⟨e,rfl⟩⟩⟩
def Zg{a b c:ab}(h:mE a b)(h':mE b c):mE a c:=λe=>(let e1:=h e;let e2:=h' e1.1;⟨e2.1,e2.2.trans e1.2⟩)
def oe.trans{p q r:aw}(h:oe p q)(h':oe q r):oe p r:=⟨QK h.len h'.len,λx hx=>by
 obtain⟨y,hy,e1,e2⟩:=h.has x hx;obtain⟨z,hz,e3,e4⟩:=h'.has y hy
 exact⟨z,hz,e3.trans e1,Zg e2 e4⟩⟩
def Pq(nd k:Int)(p:aw)(q:aw×Int×Unit):Prop:=(q.2.1=0/\kF nd k q.1/\oe p q.1/\q.1.bO=p.bO)\/q.2.1≠0
section
variable {nd k : Int} {p : aw} (h : kF nd k p) {n : Int} {own : ByteArray} {now : Int} {s : aL} (hs : KP nd k n p own now s)
 include h hs
theorem ad8:Pq nd k p (G4 p n s):=by
 unfold G4;split
 ·exact .inr (by decide)
 ·rename_i ht;split
  ·exact .inr (by decide)
  ·rename_i h8;refine .inl ⟨rfl,Sq h hs (by simpa using ht) h8,⟨?_,λx hx=>⟨x,?_,rfl,λe=>⟨e,rfl⟩⟩⟩,rfl⟩
   ·show _<=(p.aC.take _++[s]++p.aC.drop _).length;simp only[QB,List.length_take,List.length_drop,QE,QZ];omega
   ·show x∈p.aC.take _++[s]++p.aC.drop _;rw[<-List.take_append_drop (lR p.aC n) p.aC]at hx;simp only[Qz,Q5]at hx ⊢
    grind
theorem Yh:oe p (mr p n s)/\(∀x∈p.aC,x∈(mr p n s).aC)/\∀x∈(mr p n s).aC,x∈p.aC\/x=s:=by
 unfold mr;split
 ·exact⟨oe.refl p,λx hx=>hx,λx hx=> .inl hx⟩
 ·have e:∀x,x∈(Kl p n s).aC↔x∈p.aC\/x=s:=λx=>by
   show x∈p.aC.take _++[s]++p.aC.drop _↔_
   conv=>rhs;rw[<-List.take_append_drop (lR p.aC n) p.aC]
   simp only[Qz,Q5]
   grind
  refine⟨⟨?_,λx hx=>⟨x,(e x).2 (.inl hx),rfl,λe=>⟨e,rfl⟩⟩⟩,λx hx=>(e x).2 (.inl hx),λx hx=>(e x).1 hx⟩
  show _<=(p.aC.take _++[s]++p.aC.drop _).length;simp only[QB,List.length_take,List.length_drop,QE,QZ];omega
theorem SI{k':Int}(hk:k<=k'){g:aL->Option (aL×Int×Unit)}(hg:∀x,EH nd k x->x.ae.aK=n->Yd (g x) λq=>(q.2.1=0/\xB nd x.ae.aK k' x q.1/\q.1.ae.aa=x.ae.aa)\/q.2.1≠0):
  Yd (yi p n s g) λq=>Pq nd k' p q/\(q.2.1=0->(∀x∈p.aC,x.ae.aK≠n->x∈q.1.aC)/\(∀y∈q.1.aC,y∈p.aC\/y.ae.aK=n)/\∃y∈q.1.aC,y.ae.aK=n):=by
 unfold yi;split
 ·exact .some ⟨.inr (by decide),λe=>by cases e⟩
 ·rename_i hb;obtain⟨hi,ht,x,hx,hxn,hxm⟩:=UE h hs hb;obtain⟨g1,g2,g3⟩:=Yh h hs;rw[hx,Qa];refine(hg x (hi.aJ x hxm) hxn).bind λr hr=> .some ?_
  rcases hr with⟨r0,hd,hrt⟩|r0
  ·rw[Qr r0];obtain⟨d1,d2⟩:=(hi.aJ x hxm).WD hd;have hw:=(Qw.1 hx).1;have hwx:=(Qw.1 hx).2
   have hmem:∀z,z∈(mr p n s).aC->z.ae.aK≠n->z∈(mr p n s).aC.set (lR (mr p n s).aC n) r.1:=λz hz hne=>by
    obtain⟨j,hj,rfl⟩:=List.getElem_of_mem hz;have hjw:lR (mr p n s).aC n≠j:=λe=>hne (by subst e;rw[hwx];exact hxn)
    have:=Q0 (l:=(mr p n s).aC.set (lR (mr p n s).aC n) r.1) (n:=j) (by rw[QY];exact hj)
    rw[List.getElem_set_ne hjw]at this;exact this
   have hin:r.1∈(mr p n s).aC.set (lR (mr p n s).aC n) r.1:=List.mem_set hw _;refine⟨.inl ⟨rfl,afn hi hk hx d1 d2 hrt,⟨by show _<=((mr p n s).aC.set _ _).length;rw[QY];exact g1.len,λz hz=> ?_⟩,?_⟩,λ_=>⟨λz hz hne=>hmem z (g2 z hz) hne,λz hz=> ?_,r.1,hin,d2.trans hxn⟩⟩
   ·by_cases hzn:z.ae.aK=n
    ·refine⟨r.1,hin,by rw[d2,hxn,hzn],?_⟩
     have hzx:z=x:=by obtain⟨j,hj⟩:=List.getElem?_of_mem (g2 z hz);have:=UW hi.cZ hj;rw[hzn]at this;rw[this,hj]at hx;exact Option.some.inj hx
     rw[hzx];exact hd.2
    ·exact⟨z,hmem z (g2 z hz) hzn,rfl,λe=>⟨e,rfl⟩⟩
   ·show(mr p n s).bO=p.bO;unfold mr;split<;>rfl
   ·rcases List.mem_or_eq_of_mem_set (show z∈(mr p n s).aC.set _ _ from hz)with hz|rfl
    ·rcases g3 z hz with hz|rfl
     ·exact .inl hz
     ·exact .inr hs.aJ
    ·exact .inr (d2.trans hxn)
  ·rw[Qs r0];exact⟨.inr r0,λe=>absurd e r0⟩
theorem RU{g:aL->Option (aL×Int×Unit)}{F:Option (aw×Int×Unit)}(hF:F=Option.bind (qX p n own now) λq=>bif (!decide (q.2.2.1=(0:Int)))then some (zP,q.2.2.1,())else
   Option.bind (idx q.1.aC q.2.1) λx=>Option.bind (g x) λr=>Option.bind (gJ q.1 q.2.1 r.1 r.2.1) λw=>some (w.1,w.2.1,())):F=yi p n s g:=by
 rw[hF,afp h hs,Qa];unfold yi;split
 ·rfl
 ·rename_i hb;obtain⟨hi,ht,x,hx,hxn,hxm⟩:=UE h hs hb;simp only[decide_true,Qo,Ql,bf,hx,Qa];congr 1
  funext r
  rw[ahj hi (Qw.1 hx).1,Qa]
end
section
variable {nd k : Int} {p : aw} (h : kF nd k p) (hk0 : 0 <= k) (hk : k <= 999998)
 include h hk0 hk
theorem acK:kF nd k {p with bO:=true}:=⟨h.aF,h.n0,h.n1,h.aN,h.len,h.aJ,h.cZ,h.same⟩
section
variable {n : Int} {own : ByteArray} {now : Int} {s : aL} (hs : KP nd k n p own now s)
 include hs
theorem ah2:yn p n own now=some (if p.bO=true then(p,0,())else G4 p n s):=by
 unfold yn;simp only[etas,aw.eta,G0 h (by omega),Qa,Qo,Ql,Y2 h hs]
 cases p.bO<;>rfl
theorem adh:xc p n own now=if p.bO=true then some (p,0,())else yi p n s λx=>pL x own:=by
 unfold xc;simp only[aL.eta,au.eta,ab.eta,etas,aw.eta,G0 h (by omega),Qa,Qo,Ql]
 cases p.bO with
 |true=>rfl
 |false=>exact RU h hs rfl
end
end
def Ez(l:cI):Bool:= !(decide (l.bA=1)||(decide (l.bA=2)&&decide (l.aK=l.ay.aK)))
 def lx(l:cI)(x:aL):Option (aL×Int×Unit):=bif decide (l.bA=1)then fP x l.aX else k7 x l.ay
def aie{nd k:Int}{p:aw}(h:kF nd k p)(hk:k<=999998){now:Int}{l:cI}{s:aL}(hs:KP nd k l.aK p (ByteArray.mk #[48]) now s):
  Aw p l now=if p.bO=true then some (p,0,())else if Ez l=true then some (zP,1,())else yi p l.aK s (lx l):=by
 unfold Aw Ez;simp only[aL.eta,au.eta,ab.eta,az.eta,ak.eta,etas,aw.eta,G0 h (by omega),Qa,Qo,Ql]
 cases p.bO with
 |true=>rfl
 |false=>
  rw[Ql,Qs (by simp)]
  by_cases k1:l.bA=1
  ·rw[<-RU h hs (g:=lx l) rfl];simp[lx,k1,zP]
  ·by_cases k2:l.bA=2
   ·by_cases k3:l.aK=l.ay.aK
    ·rw[<-RU h hs (g:=lx l) rfl];simp[lx,k2,<-k3,zP]
    ·simp[k2,k3,zP]
   ·simp[k1,k2,zP]
structure Rv (nd:Int) (l:cI):Prop where
 oO:l.bA=1->ve l.aX/\l.aX.al=nd
 env:l.bA=2->cU l.ay.aa/\(bc l.ay=true->dt l.ay.aa/\l.ay.al=nd)
 s0:1<=l.aK
 s1:l.aK<=1000000
def PM{nd k:Int}(hk:k<=999998){l:cI}{src:Int}(hl:Rv src l)(hne:src≠nd)(hb:Ez l=false){x:aL}(hx:EH nd k x)(hs:x.ae.aK=l.aK):
  Yd (lx l x) λq=>(q.2.1=0/\xB nd x.ae.aK (k+1) x q.1/\q.1.ae.aa=x.ae.aa)\/q.2.1≠0:=by
 unfold lx;refine Yd.cond (λk1=> ?_) (λk1=> ?_)
 ·obtain⟨g1,g2⟩:=hl.oO (of_decide_eq_true k1);exact Zy hx.2.2 hk g1 (by rw[g2];exact hne)
 ·have k1:=of_decide_eq_false k1;simp only[Ez,Bool.not_eq_false',Qn,Qi,Qm]at hb;have hb:=hb.resolve_left k1;obtain⟨g1,g2⟩:=hl.env hb.1;refine(abc hx.2.2 hk ?_).mono λy hy=>hy.imp (λhy=>⟨hy.1,⟨hy.2.1.1.le (by omega),hy.2.1.2⟩,hy.2.2⟩) id
  cases hv:bc l.ay with
  |true=>obtain⟨g3,g4⟩:=g2 hv;exact .inl ⟨hv,g3,by rw[hs,hb.2],by rw[g4,hx.2.2.pre.aF];exact hne⟩
  |false=>exact .inr ⟨g1,rfl⟩
structure aaH (g:aL->Option (aL×Int×Unit)) (l ys:List aL):Prop where
 len:ys.length=l.length
 at_:∀(i:Nat) (x:aL),l[i]?=some x->∃y,ys[i]?=some y/\g x=some (y,0,())
def An(p:aw)(t:aj)(ys:List aL):aw:={p with aa:=t,aC:=ys}
def ab6{p:aw}{g:aL->Option (aL×Int×Unit)}(hlen:p.aC.length<=8){ys:List aL}(hy:aaH g p.aC ys)(t:aj)(z:aw)
  (hw:∀(q:aw) (i:Nat) (y:aL),q.aC.length<=8->i<q.aC.length->gJ q (i:Int) y 0=some (M5 q i y,0,())):
  aE (λ(v2:Int×aw×aw×Unit)=>
   bif (decide (v2.1<((List.length p.aC:Nat):Int)))then
    Option.bind (idx v2.2.1.aC v2.1) λx3=>Option.bind (g x3) λr4=>Option.bind (gJ v2.2.1 v2.1 r4.1 r4.2.1) λr5=>
    bif (!decide (r5.2.1=(0:Int)))then Option.map Sum.inr (some (z,r5.2.1,()))else some (Sum.inl ((aA .i64 v2.1 (1:Int)),r5.1,v2.2.2.1,()))
   else Option.map Sum.inr (some (v2.2.1,(0:Int),()))) ((0:Int),{p with aa:=t},z,())=some (An p t ys,0,()):=by
 refine Yd.is (Yd.list p.aC (by omega) (λi (s:aw×aw)=>(i,s.1,s.2,())) (λi s=>s.1=An p t (ys.take i++p.aC.drop i)) (λi x s g1 _ hx hi hd hw' ha=> ?_) (λs g1 hd=> ?_) (s:=({p with aa:=t},z)) ?_)
 ·have hx':p.aC[i]?=some x:=by rw[<-hw',bf]
  obtain⟨y,e1,e2⟩:=hy.at_ i x hx'
  have hl':(ys.take i++p.aC.drop i).length=p.aC.length:=by have:=hy.len;simp only[QB,List.length_take,List.length_drop];omega
  simp only[hd,Qk,g1];rw[bf,show(An p t (ys.take i++p.aC.drop i)).aC=ys.take i++p.aC.drop i from rfl,af7 hy.len,hx',Qa,e2,Qa,hw _ i y (by show(ys.take i++p.aC.drop i).length<=8;omega) (by show i<(ys.take i++p.aC.drop i).length;omega),Qa,ha]
  refine .some ⟨(M5 (An p t (ys.take i++p.aC.drop i)) i y,s.2),rfl,?_⟩;show An p t ((ys.take i++p.aC.drop i).set i y)=_;rw[acN hy.len hi e1]
 ·simp only[hd,Ql,g1];refine .some ?_;show(An p t (ys.take p.aC.length++p.aC.drop p.aC.length),(0:Int),())=_;rw[<-hy.len,Qq62,hy.len,Qq66,List.append_nil]
 ·rfl
def aeA(q:aw)(i:Nat)(y:aL)(hl:q.aC.length<=8)(hi:i<q.aC.length):gJ q (i:Int) y 0=some (M5 q i y,0,()):=by
 unfold gJ;simp only[aL.eta,au.eta,ab.eta,etas,decide_true,Qo,Ql];rw[bD (by omega),Qk,bf,Qv hi,Qa,QV,Qv hi]
 rfl
section
variable {nd k : Int} {p : aw} (h : kF nd k p) (hk0 : 0 <= k) (hk : k <= 999998)
 include h hk0 hk
theorem YF{g:aL->Option (aL×Int×Unit)}{t:aj}(ht:dt t)(hg:∀x,EH nd k x->x∈p.aC->Yd (g x) λq=>q.2.1=0/\xB nd x.ae.aK (k+1) x q.1/\q.1.ae.aa=t):
  ∃ys,aaH g p.aC ys/\kF nd (k+1) (An p t ys)/\oe p (An p t ys):=by
 obtain⟨ys,h1,h2⟩:=abE (R:=λx y=>g x=some (y,0,())/\xB nd x.ae.aK (k+1) x y/\y.ae.aa=t) (l:=p.aC) λx hx=>by obtain⟨⟨y,e,u⟩,e1,e2,e3⟩:=hg x (h.aJ x hx) hx;obtain rfl:e=0:=e2;exact⟨y,e1,e3⟩
 have back:∀(i:Nat) (hi:i<ys.length),∃hi':i<p.aC.length,xB nd (p.aC[i]).ae.aK (k+1) p.aC[i] ys[i]/\(ys[i]).ae.aa=t/\EH nd k p.aC[i]:=λi hi=>by
  have hi':i<p.aC.length:=by omega
  obtain⟨y,e1,_,e2,e3⟩:=h2 i _ (Qv hi');rw[Qv hi]at e1;obtain rfl:=Option.some.inj e1;exact⟨hi',e2,e3,h.aJ _ (Q0 hi')⟩
 refine⟨ys,⟨h1,λi x hx=> ?_⟩,⟨h.aF,h.n0,h.n1,ht,by show ys.length<=8;rw[h1];exact h.len,λy hy=> ?_,?_,λy hy=> ?_⟩,⟨by show _<=ys.length;omega,λx hx=> ?_⟩⟩
 ·obtain⟨y,e1,e2,_⟩:=h2 i x hx;exact⟨y,e1,e2⟩
 ·obtain⟨i,hi,rfl⟩:=List.getElem_of_mem (show y∈ys from hy)
  obtain⟨_,e1,_,e3⟩:=back i hi;exact(e3.WD e1).1
 ·show ys.Pairwise _;rw[List.pairwise_iff_getElem];intro a b ha hb hab;obtain⟨ha',e1,_,e3⟩:=back a ha;obtain⟨hb',e4,_,e6⟩:=back b hb;rw[(e3.WD e1).2,(e6.WD e4).2];exact List.pairwise_iff_getElem.1 h.cZ a b ha' hb' hab
 ·obtain⟨i,hi,rfl⟩:=List.getElem_of_mem (show y∈ys from hy)
  obtain⟨_,_,e,_⟩:=back i hi;exact e
 ·obtain⟨i,hi⟩:=List.getElem?_of_mem hx;obtain⟨y,e1,_,e2,_⟩:=h2 i x hi;exact⟨y,Q8 e1,((h.aJ x hx).WD e2).2,e2.2⟩
theorem aho{now:Int}(h0:0<=now)(h1:now<=200):∃ys,aaH (λx=>tl x now) p.aC ys/\kF nd (k+1) (An p p.aa ys)/\oe p (An p p.aa ys)/\Au p now=some (if p.bO=true then(p,0,())else(An p p.aa ys,0,())):=by
 obtain⟨ys,hy,hi,hq⟩:=YF h hk0 hk (g:=λx=>tl x now) h.aN λx hx hm=>(aft hx.2.2 hk h0 h1).mono λq hq=>⟨hq.1,hq.2.1,hq.2.2.trans (h.same x hm)⟩
 refine⟨ys,hy,hi,hq,?_⟩;unfold Au;simp only[aL.eta,au.eta,ab.eta,etas,aw.eta,G0 h (by omega),Qa,Qo,Ql]
 cases p.bO with
 |true=>rfl
 |false=>exact ab6 h.len hy p.aa _ aeA
theorem aix{t:aj}(ht:dt t):∃ys,aaH (λx=>og x t) p.aC ys/\kF nd (k+1) (An p t ys)/\oe p (An p t ys)/\vw p t=some (if p.bO=true then(p,0,())else(An p t ys,0,())):=by
 obtain⟨ys,hy,hi,hq⟩:=YF h hk0 hk (g:=λx=>og x t) ht λx hx _=>ZA hx.2.2 hk ht
 refine⟨ys,hy,hi,hq,?_⟩;unfold vw;simp only[aL.eta,au.eta,ab.eta,etas,aw.eta,G0 h (by omega),Qa,Qo,Ql,A7 ht.sm,vJ ht,decide_true]
 rw[Bool.cond_eq_ite]
 by_cases hst:p.bO=true
 ·rw[Qr hst,Qr hst]
 ·rw[Qs hst,Qs hst];exact ab6 h.len hy t _ aeA
end
end
section
def N3{α β:Type}(o:Option (α×β×Unit)):(o.bind λr=>some (r.1,r.2.1,()))=o:=by cases o<;>rfl
section
variable {m : ab} (h : bs m) (hs : fS m)
 include h hs
end
def aeL{nd k:Int}{l:List aL}(hlen:l.length<=8)(h:∀x∈l,EH nd k x):iC l=some l:=by
 unfold iC;refine Yd.is (Yd.list l (by omega) (λi (s:List aL)=>(i,s,())) (λi s=>s=l.take i) (λi x s e _ hx hi hd hw ha=> ?_) (λs e hd=> ?_) (s:=[]) rfl)
 ·subst e;simp only[hd,Qk,hw,Qa,aL.eta,au.eta,ab.eta,etas,Vx (h x hx).2.2.pre,ha];rw[bD (by simp;omega),Qk]
  refine .some ⟨_,rfl,?_⟩;rw[bf]at hw;rw[List.take_add_one,hw];rfl
 ·subst e;simp only[hd,Ql,Qq62];exact .some rfl
def CM(l:List aL)(n:Int):ByteArray×Bool×Unit:=bif sR l n then(match l[lR l n]? with|some x=>(bif decide (x.ae.aQ=3)then x.ae.af.Value else bE,decide (x.ae.aQ=3),())|none=>(bE,false,()))else(bE,false,())
section
variable {nd k : Int} {p : aw} (h : kF nd k p) (hk : k <= 999998)
 include h hk
theorem Gx:fL p=some true:=by
 have hlen:=h.len;have h0:=h.n0;have h1:=h.n1;have hn:=h.aF;unfold fL nN;simp only[aL.eta,au.eta,ab.eta,etas,KY h.aN.sm,vJ h.aN,Qa,decide_true,Qo];rw[Qg (show(0:Int)<=p.al by omega),Qg (show p.al<10 by omega),Qh (show¬(8:Int)<(p.aC.length:Int)by omega)]
 simp only[Ql,Qk,Qa,Qo];refine aiA h (λx hx=>Ng (h.aJ x hx).2.2 (by omega)) λx hx=> ?_
 obtain⟨r,hr,hb⟩:=eqT (a:=x.ae.aa) (b:=p.aa) (h.aJ x hx).2.2.pre.ja.aN.sm;rw[hr,hb.2 (h.same x hx)]
 omit hk in
theorem Vv{n:Int}(hn0:0<=n)(hn1:n<=1000000):bw p.aC n=some (((lR p.aC n:Nat):Int),sR p.aC n,()):=by
  have hlen:=h.len
  have hsub:∀y∈p.aC,c8 .i64 y.ae.aK n=y.ae.aK - n:=λy hy=>by have h1:=(h.aJ y hy).1;have h2:=(h.aJ y hy).2.1;exact qC (by omega) (by omega)
  unfold bw;refine(Ip p.aC (by omega) (λy=>decide (y.ae.aK<n)) (h.cZ.imp λ{x y} hxy hy=>by simp only[Qi]at hy ⊢;omega) (fin:=λk=>some (((k:Nat):Int),(match p.aC[k]? with|some y=>decide (y.ae.aK=n)|none=>false),())) (λi j m y hd hj hm hadd hx=> ?_) (λi hd hi=> ?_)).trans rfl
  ·have hy:y∈p.aC:=by rw[bf]at hx;exact Q8 hx
   have hc:decide (y.ae.aK - n<0)=decide (y.ae.aK<n):=by rw[decide_eq_decide];omega
   simp only[hd,hm,hadd,hx,aL.eta,au.eta,ab.eta,etas,lA,hsub y hy,hc,Qa,Qk];cases decide (y.ae.aK<n)<;>rfl
  ·simp only[hd,Ql]
   by_cases hi2:i<p.aC.length
   ·have hc:decide (p.aC[i].ae.aK - n=0)=decide (p.aC[i].ae.aK=n):=by rw[decide_eq_decide];omega
    rw[Qg (by omega:(i:Int)<(p.aC.length:Int))]
    simp only[Qk,bf,Qv hi2,Qa,aL.eta,au.eta,ab.eta,etas,lA,hsub _ (Q0 hi2),hc,Qe]
   ·rw[Qh (by omega:¬(i:Int)<(p.aC.length:Int)),Qq72 (by omega)]
    rfl
section
variable {n : Int} {own : ByteArray} {now : Int} {s : aL} (hs : KP nd k n p own now s) (ho : own.size <= 200) (h0 : 0 <= now) (h1 : now <= 200)
 include hs
 omit hk in
theorem akw(h8:p.aC.length≠8):eu p.aC ((lR p.aC n:Nat):Int) [s]=some (Kl p n s).aC:=by
  have hlen:=h.len;have hw:=N7 p.aC n;unfold eu CK;rw[Qg (by omega:(0:Int)<=((lR p.aC n:Nat):Int)),Qg (by omega:((lR p.aC n:Nat):Int)<=(p.aC.length:Int)),bD (by simp;omega)]
  rfl
  include ho h0 h1
 omit hk in
theorem ajf:uv p.al n p.aa own now=some (s,0,()):=by have h2:=hs.aJ;have h3:=hs.ok.1;have h4:=hs.ok.2.1;rw[<-hs.e,h.aF];exact ajD h.n0 h.n1 (by omega) (by omega) h.aN ho h0 h1
end
 def UR(g:aL->Option (aL×Int×Unit))(n:Int)(v4:Int×aw×(List aL)×Unit):Option (aw×Int×Unit):=
 Option.bind (bif (!decide (v4.1=(0:Int)))then some (!decide (v4.1=(6:Int)))else some false) λb6=>
 bif b6 then
 bif (!decide (v4.1=(0:Int)))then some (zP,v4.1,())else some ((aw.mk v4.2.1.al v4.2.1.bO v4.2.1.aa v4.2.2.1),(0:Int),())
 else
 Option.bind (bw v4.2.2.1 n) λr7=>
 Option.bind (idx v4.2.2.1 r7.1) λx8=>
 Option.bind (v4.2.2.1[(Int.toNat r7.1)]?) λx9=>
 Option.bind (g x9) λr10=>
 aY (λ(v11:aw×(List aL)×Unit)=>
 bif (!decide (r10.2.1=(0:Int)))then some (zP,r10.2.1,())else some ((aw.mk v11.1.al v11.1.bO v11.1.aa v11.2.1),(0:Int),())) λj12=>
 bif (decide (r10.2.1=(0:Int)))then
 Option.bind (idx v4.2.2.1 r7.1) λx13=>
 Option.bind (v4.2.2.1[(Int.toNat r7.1)]?) λx14=>
 j12 ((aw.mk v4.2.1.al v4.2.1.bO v4.2.1.aa ([]:List aL)),(v4.2.2.1.set (Int.toNat r7.1) r10.1),())
 else
 j12 ((aw.mk v4.2.1.al v4.2.1.bO v4.2.1.aa ([]:List aL)),v4.2.2.1,())
 omit hk in
theorem ab5{n:Int}(hn0:0<=n)(hn1:n<=1000000){x:aL}(hx:p.aC[lR p.aC n]?=some x){e:Int}(he:e=0\/e=6)(g:aL->Option (aL×Int×Unit)):
   UR g n (e,⟨p.al,p.bO,p.aa,[]⟩,p.aC,())=Option.bind (g x) λr=>some (if r.2.1=0 then(M5 p (lR p.aC n) r.1,0,())else(zP,r.2.1,())):=by
  have hb:(Option.bind (bif (!decide (e=(0:Int)))then some (!decide (e=(6:Int)))else some false) λb6=>(some b6:Option Bool))=some false:=by rcases he with rfl|rfl<;>rfl
  unfold UR;simp only[Vv h hn0 hn1,Qa,bf,hx,QV,aS];rcases he with rfl|rfl
  all_goals
   simp only[decide_true,Qo,Ql,Qa,Qk,Qp,show decide ((6:Int)=0)=false from rfl]
   congr 1
   funext r
   by_cases hr:r.2.1=0
   ·rw[Qg hr,Qr hr];rfl
   ·rw[Qh hr,Qs hr];rfl
section
variable {n : Int} {own : ByteArray} {now : Int} {s : aL} (hs : KP nd k n p own now s) (ho : own.size <= 200) (h0 : 0 <= now) (h1 : now <= 200)
 include hs ho h0 h1
 omit hk in
theorem aeK{g g':aL->Option (aL×Int×Unit)}(hg:∀x,EH nd k x->x.ae.aK=n->g x=g' x):
   (aY (UR g n) λj5=>
    Option.bind (bw p.aC n) λr15=>
    bif r15.2.1 then j5 ((6:Int),(aw.mk p.al p.bO p.aa ([]:List aL)),p.aC,())else
    bif (decide (((List.length p.aC:Nat):Int)=(8:Int)))then j5 ((3:Int),(aw.mk p.al p.bO p.aa ([]:List aL)),p.aC,())else
    Option.bind (uv p.al n p.aa own now) λr16=>
    aY (λ(v17:aw×(List aL)×Unit)=>j5 (r16.2.1,(aw.mk v17.1.al v17.1.bO v17.1.aa ([]:List aL)),v17.2.1,())) λj18=>
    bif (decide (r16.2.1=(0:Int)))then
    Option.bind (eu p.aC r15.1 [r16.1]) λr19=>j18 ((aw.mk p.al p.bO p.aa ([]:List aL)),r19,())
    else j18 ((aw.mk p.al p.bO p.aa ([]:List aL)),p.aC,()))=yi p n s g':=by
  have h2:=hs.aJ;have h3:=hs.ok.1;have h4:=hs.ok.2.1
  have fin:¬(sR p.aC n=false/\p.aC.length=8)->∀e:Int,e=0\/e=6->UR g n (e,⟨(mr p n s).al,(mr p n s).bO,(mr p n s).aa,[]⟩,(mr p n s).aC,())=yi p n s g':=λhb e he=>by
   obtain⟨hi,ht,x,hx,hxn,hxm⟩:=UE h hs hb;rw[ab5 hi (by omega) (by omega) hx he,hg x (hi.aJ x hxm) hxn]
   unfold yi;rw[Qs hb,hx];rfl
  rw[aS,Vv h (by omega) (by omega),Qa,ajf h hs ho h0 h1]
  cases ht:sR p.aC n with
  |true=>
   have:=fin (λe=>by rw[ht]at e;cases e.1) 6 (.inr rfl)
   unfold mr at this;rw[Qr ht]at this;exact this
  |false=>
   by_cases h8:p.aC.length=8
   ·rw[Qg (by omega)]
    unfold yi;rw[Qr ⟨ht,h8⟩];rfl
   ·have:=fin (λe=>h8 e.2) 0 (.inl rfl)
    unfold mr at this;rw[Qs (by rw[ht];simp)]at this
    rw[Qh (by omega)]
    simp only[Ql,Qk,Qa,decide_true,akw h hs h8,aS,<-this];rfl
end
theorem aeI{l:cI}{src:Int}(hl:Rv src l)(hne:src≠nd){now:Int}(h0:0<=now)(h1:now<=200){s:aL}(hs:KP nd k l.aK p (ByteArray.mk #[48]) now s):
  lB p l now=if p.bO=true then some (p,0,())else if Ez l=true then some (zP,1,())else yi p l.aK s (lx l):=by
 unfold lB qt Ez;simp only[aL.eta,au.eta,ab.eta,az.eta,ak.eta,cI.eta,etas,aw.eta,Gx h hk,ly h.aN.sm,aeL h.len h.aJ,Qa,Qo,Ql];rw[N3,Bool.cond_eq_ite]
 by_cases hst:p.bO=true
 ·rw[Qr hst,Qr hst]
 ·rw[Qs hst,Qs hst]
  by_cases k1:l.bA=1
  ·have h1':=hl.oO k1;rw[Qg k1,Qk,Bool.true_or,Qo,Qs (by simp)]
   refine aeK h hs (by decide) h0 h1 (g:=λx=>kL x l) (g':=lx l) λx hx hxs=> ?_
   show kL x l=lx l x;unfold kL lx;simp only[aL.eta,au.eta,ab.eta,az.eta,etas,XZ hx.2.2 hk h1'.1 (by rw[h1'.2];exact hne),Qg k1,Qk]
   exact N3 _
  ·rw[Qh k1,Ql,Bool.false_or]
   by_cases k2:l.bA=2
   ·by_cases k3:l.aK=l.ay.aK
    ·obtain⟨g1,g2⟩:=hl.env k2;rw[Qg k2,Qg k3,Qk,Qa,Qk,Bool.and_self,Qo,Qs (by simp)]
     refine aeK h hs (by decide) h0 h1 (g:=λx=>kK x l) (g':=lx l) λx hx hxs=> ?_
     show kK x l=lx l x;unfold kK lx
     have he:Aq x.ae l.ay\/(cU l.ay.aa/\(bc l.ay=false\/l.ay.al=x.ae.al\/l.ay.aK≠x.ae.aK)):=by
      cases hv:bc l.ay with
      |true=>obtain⟨g3,g4⟩:=g2 hv;exact .inl ⟨hv,g3,by rw[hxs,k3],by rw[g4,hx.2.2.pre.aF];exact hne⟩
      |false=>exact .inr ⟨g1,.inl rfl⟩
     simp only[aL.eta,au.eta,ab.eta,ak.eta,etas,aad hx.2.2 hk he,Qh k1,Ql];exact N3 _
    ·rw[Qg k2,Qh k3];rfl
   ·rw[Qh k2];rfl
theorem aje:rS p=some {p with bO:=true}:=by unfold rS;simp only[aL.eta,au.eta,ab.eta,etas,aw.eta,Gx h hk,ly h.aN.sm,aeL h.len h.aJ,Qa];cases p.bO<;>rfl
theorem OP{n:Int}(hn0:0<=n)(hn1:n<=1000000):gM p n=some (CM p.aC n):=by
 unfold gM CM;simp only[aL.eta,au.eta,ab.eta,etas,aw.eta,Gx h hk,Vv h hn0 hn1,Qa,Qo,Ql]
 cases ht:sR p.aC n with
 |false=>rfl
 |true=>
  obtain⟨x,hx,hxn⟩:=MY ht;have hs:=(h.aJ x (Q8 hx)).2.2;simp only[Qo,Ql,bf,hx,Qa,hs.done,hs.value]
  by_cases h3:x.ae.aQ=3
  ·rw[Qg h3];rfl
  ·rw[Qh h3];rfl
theorem adQ{k':Int}{q:aw}(hq:kF nd k' q)(hkp:oe p q){n:Int}(hd:(CM p.aC n).2.1=true):(CM q.aC n).2.1=true/\(CM p.aC n).1=(CM q.aC n).1:=by
 unfold CM at hd ⊢
 cases ht:sR p.aC n with
 |false=>(try rw[ht]at hd);cases hd
 |true=>obtain⟨x,hx,hxn⟩:=MY ht;rw[ht,hx]at hd;rw[hx];obtain⟨y,hy,e1,e2⟩:=hkp.has x (Q8 hx);obtain⟨j,hj⟩:=List.getElem?_of_mem hy;have h1:=UW hq.cZ hj;have h2:=aaY hq.cZ hj;rw[e1,hxn]at h1 h2;rw[h2,h1,hj];have h3:x.ae.aQ=3:=of_decide_eq_true hd;obtain⟨g1,g2⟩:=e2 h3;exact⟨Qg g1,by simp only[Qg h3,Qg g1,Qk,g2]⟩
end
end
section
def E2{α:Type}{a b:List α}(hl:a.length<=1000000)(hab:a.length=b.length){f:α->α->Option Bool}(hf:∀x∈a,∀y∈b,∃r,f x y=some r/\(x=y->r=true)):
  ∃r,aE (λ(v:Int×Unit)=>bif (decide (v.1<((List.length a:Nat):Int)))then Option.bind (idx a v.1) λx2=>Option.bind (idx b v.1) λx3=>Option.bind (f x2 x3) λr4=>bif (!r4)then Option.map Sum.inr (some false)else some (Sum.inl ((aA .i64 v.1 (1:Int)),()))else Option.map Sum.inr (some true)) ((0:Int),())=some r/\(a=b->r=true):=by
 refine Yd.list (p:=λr=>a=b->r=true) a hl (λi (_:Unit)=>(i,())) (λ_ _=>True) (λi x _ _ _ hx hi hd hw ha=> ?_) (λ_ _ hd=> ?_) (s:=()) trivial
 ·have hi':i<b.length:=by omega
  have hw':idx b (i:Int)=some b[i]:=by rw[bf];exact Qv hi'
  obtain⟨r,e,h⟩:=hf x hx b[i] (Q0 hi');simp only[hd,Qk,hw,hw',Qa,e,ha]
  cases r with
  |true=>exact .some ⟨(),rfl,trivial⟩
  |false=>
   refine .some λhab'=> ?_
   subst hab';rw[hw]at hw';exact absurd (h (Option.some.inj hw')) (by simp)
 ·simp only[hd,Ql];exact .some λ_=>rfl
def Gi(a b:List ByteArray)(hl:a.length<=1000000):∃r,gf a b=some r/\(a=b->r=true):=by
 unfold gf
 by_cases hab:a.length=b.length
 ·obtain⟨r,e,h⟩:=E2 hl hab (f:=λx y=>some (decide (x=y))) λx _ y _=>⟨_,rfl,λe=>Qg e⟩
  rw[Qg (by omega),Qo,Ql]
  exact⟨r,e,h⟩
 ·rw[Qh (by omega)]
  exact⟨false,rfl,λe=>absurd (congrArg List.length e) hab⟩
def ah6{m m':az}(h:ve m):∃r,kI m m'=some r/\(m=m'->r=true):=by
 obtain⟨r1,e1,h1⟩:=F9 (a:=m.aa) (b:=m'.aa) h.aN.sm;obtain⟨r2,e2,h2⟩:=Gi m.bl m'.bl h.dv.sC;obtain⟨r3,e3,h3⟩:=Gi m.aG m'.aG h.eJ.sC;unfold kI;simp only[etas,e1,e2,e3,Qa,iN];refine⟨_,rfl,λe=> ?_⟩
 subst e;rw[h1.2 rfl,h2 rfl,h3 rfl];simp
def af3{n n':au}(h:cO n):∃r,AD n n'=some r/\(n=n'->r=true):=by
 have hlen:=h.len;obtain⟨r1,e1,h1⟩:=F9 (a:=n.aa) (b:=n'.aa) h.ask.aN.sm;obtain⟨r2,e2,h2⟩:=Gi n.bl n'.bl h.dv.sC;obtain⟨r3,e3,h3⟩:=Gi n.aG n'.aG h.eJ.sC;obtain⟨r4,e4,h4⟩:=Gi n.aR n'.aR h.kS.sC;unfold AD;simp only[az.eta,etas,e1,e2,e3,e4,Qa,iN];generalize hb:(bif (bif (bif (bif (bif (bif (bif (bif !decide (n.al=n'.al)then true else !decide (n.aK=n'.aK))then true else !decide (n.Round=n'.Round))then true else !decide (n.aH=n'.aH))then true else !decide (n.lP=n'.lP))then true else !r1)then true else !r2)then true else !r3)then true else !r4)=b
 cases b with
 |true=>
  refine⟨_,rfl,λe=> ?_⟩
  subst e;rw[h1.2 rfl,h2 rfl,h3 rfl,h4 rfl]at hb;simp at hb
 |false=>
  rw[Ql]
  by_cases hl:n.ar.length=n'.ar.length
  ·obtain⟨r,e,h'⟩:=E2 (by omega) hl (f:=kI) λx hx y _=>ah6 (h.heard x hx).1
   rw[Qg (by omega),Qo,Ql,e]
   exact⟨r,rfl,λe=>h' (by rw[e])⟩
  ·rw[Qh (by omega)]
   exact⟨false,rfl,λe=>absurd (by rw[e]) hl⟩
def agF{a b:List ak}(hl:a.length<=1000000)(h:∀e∈a,cU e.aa):∃r,sI a b=some r/\(a=b->r=true):=by
 unfold sI;simp only[ak.eta,etas]
 by_cases hab:a.length=b.length
 ·obtain⟨r,e,h'⟩:=E2 hl hab (f:=tu) λx hx y _=>(let⟨r,e,h⟩:=aiu (a:=x) (b:=y) (h x hx);⟨r,e,h.2⟩)
  rw[Qg (by omega),Qo,Ql]
  exact⟨r,e,h'⟩
 ·rw[Qh (by omega)]
  exact⟨false,rfl,λe=>absurd (congrArg List.length e) hab⟩
def af9{m m':ab}(h:bs m):∃r,Ay m m'=some r/\(m=m'->r=true):=by
 have hlen:=h.len;obtain⟨r1,e1,h1⟩:=F9 (a:=m.aa) (b:=m'.aa) h.aN.sm;obtain⟨r2,e2,h2⟩:=agF (a:=m.ar) (b:=m'.ar) (by omega) λe he=>(h.hv e he).2.1.sm
 unfold Ay kH;simp only[ab.eta,etas,e1,e2,Qa,iN];refine⟨_,rfl,λe=> ?_⟩
 subst e;rw[h1.2 rfl,h2 rfl];simp
def afl{nd sl k:Int}{x y:aL}(h:rN nd sl k x):∃r,wC x y=some r/\(x=y->r=true):=by
 obtain⟨r1,e1,h1⟩:=af3 (n:=x.aB) (n':=y.aB) h.pre.oO;obtain⟨r2,e2,h2⟩:=af9 (m:=x.ae) (m':=y.ae) h.pre.ja;unfold wC;simp only[au.eta,ab.eta,etas,e1,e2,Qa,iN];refine⟨_,rfl,λe=> ?_⟩
 subst e;rw[h1 rfl,h2 rfl];simp
def afN{nd k:Int}{p:aw}(h:kF nd k p):Av p p=some true:=by
 have hlen:=h.len;obtain⟨r1,e1,h1⟩:=F9 (a:=p.aa) (b:=p.aa) h.aN.sm;obtain⟨r,e,h'⟩:=E2 (a:=p.aC) (by omega) rfl (f:=wC) λx hx y _=>afl (h.aJ x hx).2.2
 unfold Av;simp only[aL.eta,au.eta,ab.eta,etas,e1,h1.2 rfl,decide_true,Qo,Bool.true_xor,Qk,Ql,Qa];rw[e,h' rfl]
def ajl{t:aj}(ht:dt t):BW 0 t=some (⟨0,false,t,[]⟩,0,()):=by unfold BW;simp only[etas,A7 ht.sm,vJ ht,Qa];rfl
def aeS{t:aj}(ht:dt t):kF 0 0 ⟨0,false,t,[]⟩:=⟨rfl,by decide,by decide,ht,QS _,(λx hx=>by cases hx),List.Pairwise.nil,λx hx=>by cases hx⟩
def vl1{v:ByteArray}(h:kT v):VL [v]:=⟨λx hx=>by rw[Q5.1 hx];exact h,List.pairwise_singleton _ _,by simp⟩
def VN{s:eD}(hO:oV s){v:Int}(h0:0<=v)(h1:v<10):Yd (tE s v) λq=>oV q.2/\Rv v q.1/\Ez q.1=false:=by
 unfold tE;refine Yd.bind (mS hO (by omega) (by omega) (by omega)) λp1 ⟨hO1,s0,s1,_⟩=> ?_
 have s1:=s1 (by omega)
 refine Yd.bind (tf hO1 (by omega)) λp2 ⟨hO2,_,_,_⟩=> ?_
 simp only[etas,az.eta];refine Yd.cond (λ_=> ?_) (λ_=> ?_)
 ·refine Yd.bind (mS hO2 (by omega) (by omega) (by omega)) λp3 ⟨hO3,q0,_,_⟩=> ?_
  refine Yd.bind (Iw hO3 (n:=4) (by omega) (by omega)) λp4 ⟨hO4,ht,_,_⟩=> ?_
  refine Yd.bind (BB hO4) λp5 ⟨hO5,hv⟩=> ?_
  refine Yd.join (λw=>oV w.1/\ve w.2.1/\w.2.1.al=v) (λw ⟨g1,g2,g3⟩=> .some ⟨g1,⟨λ_=>⟨g2,g3⟩,λe=>(by cases e),by show 1<=p1.1;omega,by show p1.1<=1000000;omega⟩,rfl⟩) (λj' hj=> ?_)
  refine Yd.bind (tf hO5 (by omega)) λp8 ⟨hO8,_,_,_⟩=> ?_
  refine Yd.cond (λ_=> ?_) (λ_=>hj _ ⟨hO8,⟨h0,h1,q0,ht,vl1 (Gj hv),VL.nil⟩,rfl⟩)
  exact Yd.bind (BB hO8) λp9 ⟨hO9,hv'⟩=>hj _ ⟨hO9,⟨h0,h1,q0,ht,vl1 (Gj hv),vl1 (Gj hv')⟩,rfl⟩
 ·refine Yd.bind (X8 hO2 h0 h1 (by omega) (by omega) (n:=4) (by omega) (by omega)) λp10 ⟨hO10,he⟩=> ?_
  refine Yd.bind (tf hO10 (by omega)) λp11 ⟨hO11,_,_,_⟩=> ?_
  refine .some ⟨hO11,⟨λe=>(by cases e),λ_=>⟨he.aN.sm,λ_=>⟨he.aN,he.aF⟩⟩,by show 1<=p1.1;omega,by show p1.1<=1000000;omega⟩,?_⟩
  show Ez _=false;simp only[Ez,he.aJ];simp
def RF{nd k:Int}{p:aw}(h:kF nd k p){q:aw×Int×Unit}(hq:Pq nd k p q):Pq nd k p (if p.bO=true then(p,0,())else q):=by
 split
 ·exact .inl ⟨rfl,h,oe.refl p,rfl⟩
 ·exact hq
def ahr{k:Int}{p:aw}(h:kF 0 k p)(hk0:0<=k)(hk:k<=999998){s:eD}(hO:oV s){now:Int}(h0:0<=now)(h1:now<=200):Yd (AI s p now) λq=>oV q.2/\kF 0 (k+1) q.1/\oe p q.1/\q.1.bO=p.bO:=by
 unfold AI;simp only[aL.eta,au.eta,ab.eta,etas,aw.eta];have out:∀{q:aw×Int×Unit} {k':Int},k'<=k+1->Pq 0 k' p q->q.2.1=0->kF 0 (k+1) q.1/\oe p q.1/\q.1.bO=p.bO:=λ{q k'} hk' hq e=>hq.elim (λg=>⟨g.2.1.le hk',g.2.2.1,g.2.2.2⟩) λg=>absurd e g
 have self:kF 0 (k+1) p:=h.le (by omega)
 refine Yd.join (λv=>oV v.2.1/\(v.1=0->kF 0 (k+1) v.2.2.1/\oe p v.2.2.1/\v.2.2.1.bO=p.bO)) (λv ⟨v1,v2⟩=> ?_) (λj' hj=> ?_)
 ·by_cases e:v.1=0
  ·rw[Qg e];exact .some ⟨v1,v2 e⟩
  ·rw[Qh e];exact .some ⟨v1,self,oe.refl p,rfl⟩
 ·refine Yd.bind (tf hO (by omega)) λp3 ⟨hO3,_,_,_⟩=> ?_
  refine Yd.cond (λ_=> ?_) (λ_=>Yd.cond (λ_=> ?_) (λ_=>Yd.cond (λ_=> ?_) (λ_=>Yd.cond (λ_=> ?_) (λ_=> ?_))))
  ·refine Yd.bind (mS hO3 (by omega) (by omega) (by omega)) λp4 ⟨hO4,n0,n1,_⟩=> ?_
   have n1:=n1 (by omega)
   refine Yd.bind (BB hO4) λp5 ⟨hO5,hv⟩=> ?_
   obtain⟨x,hs⟩:=VG h (n:=p4.1) n0 (by omega) (Gj hv).2 h0 h1 hk0
   rw[ah2 h hk0 hk hs,Qa];exact hj _ ⟨hO5,out (by omega) (RF h (ad8 h hs))⟩
  ·refine Yd.bind (mS hO3 (by omega) (by omega) (by omega)) λp4 ⟨hO4,n0,n1,_⟩=> ?_
   have n1:=n1 (by omega)
   refine Yd.bind (BB hO4) λp5 ⟨hO5,hv⟩=> ?_
   obtain⟨x,hs⟩:=VG h (n:=p4.1) n0 (by omega) (Gj hv).2 h0 h1 hk0
   rw[adh h hk0 hk hs];split
   ·exact hj _ ⟨hO5,λ_=>⟨self,oe.refl p,rfl⟩⟩
   ·refine(SI h hs (Int.le_refl k) (g:=λx=>pL x p5.1) λy hy _=>aa8 hy.2.2 hk (Gj hv)).bind λq hq=> ?_
    exact hj _ ⟨hO5,out (by omega) hq.1⟩
  ·obtain⟨ys,_,hi,hq,e⟩:=aho h hk0 hk h0 h1;rw[e,Qa];exact hj _ ⟨hO3,out (Int.le_refl _) (RF self (.inl ⟨rfl,hi,hq,rfl⟩))⟩
  ·refine Yd.bind (Iw hO3 (n:=4) (by omega) (by omega)) λp11 ⟨hO11,ht,_,_⟩=> ?_
   obtain⟨ys,_,hi,hq,e⟩:=aix h hk0 hk ht;rw[e,Qa];exact hj _ ⟨hO11,out (Int.le_refl _) (RF self (.inl ⟨rfl,hi,hq,rfl⟩))⟩
  ·refine Yd.bind (mS hO3 (by omega) (by omega) (by omega)) λp13 ⟨hO13,n0,n1,_⟩=> ?_
   have n1:=n1 (by omega)
   refine Yd.bind (VN hO13 (by omega) (by omega)) λp14 ⟨hO14,hl,hb⟩=> ?_
   simp only[az.eta,ak.eta,cI.eta,etas];obtain⟨x,hs⟩:=VG h hl.s0 hl.s1 (own:=ByteArray.mk #[48]) (by decide) h0 h1 hk0
   rw[aie h hk hs,hb];split
   ·exact hj _ ⟨hO14,λ_=>⟨self,oe.refl p,rfl⟩⟩
   ·rw[Qs (by simp)]
    refine(SI h hs (show k<=k+1 by omega) λy hy hys=>PM hk hl (by omega) hb hy hys).bind λq hq=> ?_
    exact hj _ ⟨hO14,out (Int.le_refl _) hq.1⟩
def adr{nd k n:Int}{q:aw}(h:kF nd k q)(h1:∀y∈q.aC,y.ae.aK=n)(h2:∃y∈q.aC,y.ae.aK=n):∃y,q.aC=[y]/\y.ae.aK=n:=by
 obtain⟨y,hy,hn⟩:=h2;have hs:=h.cZ
 cases hl:q.aC with
 |nil=>rw[hl]at hy;cases hy
 |cons a l=>
  cases l with
  |nil=>exact⟨a,rfl,h1 a (by rw[hl];exact Qx)⟩
  |cons b l=>
   rw[hl,Q4]at hs;have e1:=h1 a (by rw[hl];exact Qx)
   have e2:=h1 b (by rw[hl];exact Qy _ Qx)
   have:=hs.1 b Qx;omega
def agz{t:aj}(ht:dt t){l:cI}{src:Int}(hl:Rv src l)(hne:src≠0)(hb:Ez l=false){now:Int}(h0:0<=now)(h1:now<=200):
  Yd (lB ⟨0,false,t,[]⟩ l now) λq=>(q.2.1=0->∃y,q.1.aC=[y]/\y.ae.aK=l.aK/\kF 0 1 q.1)/\(∀m,l.bA=1->m=l.aX->q.2.1=0):=by
 have h:=aeS ht;obtain⟨x,hs⟩:=VG h hl.s0 hl.s1 (own:=ByteArray.mk #[48]) (by decide) h0 h1 (Int.le_refl 0)
 rw[aeI h (by omega) hl hne h0 h1 hs,hb]
 simp only[Qq,Qu];obtain⟨q,e,hq1,hq2⟩:=SI h hs (show(0:Int)<=0+1 by omega) (g:=lx l) λy hy hys=>PM (by omega) hl hne hb hy hys
 refine⟨q,e,λq0=> ?_,λm k1 _=> ?_⟩
 ·rcases hq1 with⟨_,hi,_⟩|hq1
  ·obtain⟨_,g2,g3⟩:=hq2 q0;obtain⟨y,e1,e2⟩:=adr hi (λy hy=>(g2 y hy).resolve_left λe=>(by cases e)) g3
   exact⟨y,e1,e2,hi⟩
  ·exact absurd q0 hq1
 ·have hb2:¬(sR ([]:List aL) l.aK=false/\([]:List aL).length=8):=λe=>by cases e.2
  unfold yi at e;rw[Qs hb2]at e;obtain⟨hi,_,y,hy,hyn,hym⟩:=UE h hs hb2;have hyx:y=x:=((Yh h hs).2.2 y hym).resolve_left λe=>(by cases e)
  rw[hy,Qa,hyx]at e;obtain⟨g1,g2⟩:=hl.oO k1;obtain⟨z,ez,_,_,hz,_⟩:=ah7 (nd:=0) (sl:=l.aK) (by omega) (by omega) hl.s0 hl.s1 ht (own:=ByteArray.mk #[48]) (by decide) h0 h1
  have hx0:=hs.e;rw[ez]at hx0;obtain rfl:=Option.some.inj hx0;obtain⟨r,er,hr⟩:=ai7 hs.ok.2.2 (by omega) g1 (by rw[g2];exact hne)
  rw[show lx l x=fP x l.aX from by unfold lx;rw[Qg k1];rfl,er,Qa]at e
  rcases hr with⟨_,r0,_⟩|⟨hr,_⟩
  ·rw[Qr r0]at e;rw[<-Option.some.inj e]
  ·rw[show x.aB.ar=[]from hz]at hr
   cases hr
def ahv:AJ=some true:=by
 have ht:dt ⟨2,xE 2,[]⟩:=TR 2 (by omega) 2 (by omega) (by omega)
 have hF:uX 2 2=some ⟨2,xE 2,[]⟩:=ahf 2 (by omega) 2
 have hN:sJ 0 ⟨2,xE 2,[]⟩=some (⟨0,false,⟨2,xE 2,[]⟩,[]⟩,0,()):=by unfold sJ nN;simp only[etas,KY ht.sm,vJ ht,ly ht.sm,Qa];rfl
 unfold AJ;refine Yd.eq_true ?_;simp only[hF,Qa,etas,aw.eta,hN];generalize hL:(cI.mk (1:Int) (3:Int) _ _)=L
 have hl:Rv 1 L:=by subst hL;exact⟨λ_=>⟨⟨by decide,by decide,by decide,ht,vl1 (by decide),VL.nil⟩,rfl⟩,λe=>(by cases e),by decide,by decide⟩
 have hk1:L.bA=1/\L.aK=3:=by subst hL;exact⟨rfl,rfl⟩
 refine Yd.bind (agz ht hl (by decide) (by simp[Ez,hk1.1]) (now:=4) (by decide) (by decide)) λq ⟨q1,q2⟩=> ?_
 have q0:=q2 _ hk1.1 rfl;obtain⟨y,e1,e2,hi⟩:=q1 q0;have hyi:idx q.1.aC (0:Int)=some y:=by rw[e1];rfl
 simp only[q0,decide_true,Qk,Qa,e2,hk1.2,hyi,aL.eta,au.eta,ab.eta,etas,aw.eta,Gx hi (by omega)]
 rw[show decide (((List.length q.1.aC:Nat):Int)=1)=true by rw[e1];rfl]
 exact .some rfl
end
section
def three{ρ:Type}{p:ρ->Prop}{step:Int×Unit->Option ((Int×Unit)⊕ρ)}(h:∀n:Int,1<=n->n<=3->Yd (step (n,())) λy=>y= .inl (n+1,()))(h4:Yd (step (4,())) (Lp (λ_=>False) p)):Yd (aE step (1,())) p:=by
 refine Yd.Du (λ(v:Int×Unit)=>1<=v.1/\v.1<=4) (λv=>(4 - v.1).toNat) ?_ ⟨by decide,by decide⟩
 rintro⟨n,u⟩ ⟨h1,h2⟩;simp only at h1 h2
 by_cases h3:n<=3
 ·refine(h n h1 h3).mono λy hy=> ?_
  subst hy;exact⟨⟨by show 1<=n+1;omega,by show n+1<=4;omega⟩,by show(4 - (n+1)).toNat<(4 - n).toNat;omega⟩
 ·obtain rfl:n=4:=by omega
  exact h4.mono λy hy=>by
   cases y with
   |inl _=>exact hy.elim
   |inr r=>exact hy
def ahM(l:List Int):qv l=some true:=by
 unfold qv;refine Yd.eq_true ?_;refine Yd.bind (aiK l) λs hO=> ?_
 refine Yd.bind (Iw hO (n:=4) (by omega) (by omega)) λp2 ⟨hO2,ht,_,_⟩=> ?_
 simp only[aL.eta,au.eta,ab.eta,az.eta,ak.eta,cI.eta,etas,aw.eta,ahv,ajl ht,Qa];refine Yd.Du (λ(v:Int×eD×aw×Unit)=>0<=v.1/\v.1<=10/\oV v.2.1/\kF 0 v.1 v.2.2.1/\v.2.2.1.bO=false) (λv=>(10 - v.1).toNat) ?_ ⟨by show(0:Int)<=0;decide,by show(0:Int)<=10;decide,hO2,aeS ht,rfl⟩
 rintro⟨k,s',p,u⟩ ⟨a1,a2,a3,a4,a5⟩;simp only at a1 a2 a3 a4 a5;simp only
 by_cases hk:k<10
 ·rw[Qg hk,Qk];refine Yd.bind (ahr a4 a1 (by omega) a3 a1 (by omega)) λq ⟨b1,b2,b3,b4⟩=> ?_
  have hlen:=b3.len;rw[Gx b2 (by omega),Qa,Qo,Ql,Qh (show¬(q.1.aC.length:Int)<(p.aC.length:Int)by omega),Qa,Ql]
  refine three (λn n1 n3=> ?_) ?_
  ·have ha:aA .i64 n 1=n+1:=bG (by omega) (by omega)
   simp only[Qg n3,Qk,OP a4 (by omega) (show(0:Int)<=n by omega) (by omega),OP b2 (by omega) (show(0:Int)<=n by omega) (by omega),Qa,ha]
   cases hd:(CM p.aC n).2.1 with
   |false=>exact .some rfl
   |true=>
    obtain⟨d1,d2⟩:=adQ a4 (by omega) b2 b3 hd
    rw[d1,d2,Qg rfl];exact .some rfl
  ·have ha:aA .i64 k 1=k+1:=bG (by omega) (by omega)
   simp only[show decide ((4:Int)<=3)=false from rfl,Ql,ha]
   exact .some ⟨⟨by show 0<=k+1;omega,by show k+1<=10;omega,b1,b2,b4.trans a5⟩,by show(10 - (k+1)).toNat<(10 - k).toNat;omega⟩
 ·rw[Qh hk,Ql,aje a4 (by omega),Qa]
  have hi:=acK a4 a1 (by omega)
  refine Yd.inr (Yd.bind (VN a3 (by omega) (by omega)) λp14 ⟨hO14,hl,hb⟩=> ?_)
  obtain⟨x,hs⟩:=VG hi hl.s0 hl.s1 (own:=ByteArray.mk #[48]) (by decide) (now:=20) (by decide) (by decide) a1
  rw[aeI hi (by omega) hl (by decide) (by decide) (by decide) hs,Qr rfl,Qa]
  refine three (λn n1 n3=> ?_) ?_
  ·have ha:aA .i64 n 1=n+1:=bG (by omega) (by omega)
   simp only[Qg n3,Qk,OP a4 (by omega) (show(0:Int)<=n by omega) (by omega),OP hi (by omega) (show(0:Int)<=n by omega) (by omega),Qa,ha,decide_true,Bool.xor_true,Qo,Ql]
   exact .some rfl
  ·have hL:ot {p with bO:=true}=some []:=by
    unfold ot;rfl
   simp only[show decide ((4:Int)<=3)=false from rfl,Ql,decide_true,Qk,afN hi,Qa,hL]
   exact .some rfl
end
end Go.Proofs.YtofedieniojipaaGreat
end
noncomputable section
namespace Go.TQ
open Go.RowKit
def acV{w:World}{M:Nat->Prop}{G:Gh}{a:Option Addr}{len cap:Nat}{zs:List Int}(hM:∀b,¬M b)
  (h:(a=none/\len=0/\cap=0/\zs=[])\/∃x,a=some x/\len<=cap/\cap<=maxLen/\zs.length=cap/\(∀i,i<zs.length->w.cell? (x.add i)=some (.int .i64 (zs.getD i 0)))/\∀n∈zs,(Lit.int .i64 n).wf=true):
  bp w M G (.sl ((zs.take len).map λn=>[.int .i64 n])) (.slice a len cap):=by
 rcases h with⟨rfl,rfl,rfl,rfl⟩|⟨x,rfl,h1,h2,h3,h4,_⟩
 ·exact .slnil
 ·have hfl:∀l:List Int,(l.map λn=>[PV.int .i64 n]).flatten=l.map λn=> .int .i64 n:=by
   intro l
   induction l with
   |nil=>rfl
   |cons n l ih=>simp only[QD,List.flatten_cons,ih];rfl
  have hlen:((zs.take len).map λn=>[PV.int .i64 n]).length=len:=by simp;omega
  have:=bp.sl (w:=w) (M:=M) (G:=G) ((zs.take len).map λn=>[.int .i64 n]) x cap 1 ((zs.take len).map λn=> .int .i64 n) (λe he=>by obtain⟨n,_,rfl⟩:=QP.1 he;rfl) (by rw[hfl];simp)
   (λi v hv=> ?_) (λi y v hy hv=> ?_) (by rw[hlen];exact h1) h2
  ·rw[hlen]at this;exact this
  ·refine⟨?_,hM _⟩;rw[QT,Qb]at hv;obtain⟨n,hn,rfl⟩:=hv;rw[Qq68]at hn;split at hn
   ·have hi:i<zs.length:=(Qw.1 hn).1;rw[h4 i hi,List.getD_eq_getElem?_getD,hn];rfl
   ·cases hn
  ·rw[hfl]at hy;rw[QT]at hy hv;rw[Qb]at hy hv;obtain⟨n,hn,rfl⟩:=hy;obtain⟨n',hn',rfl⟩:=hv;rw[hn]at hn';injection hn' with e
   subst e;exact .int _ _
def abK{P:Program}{f:FuncId}{args:List PV}{vs:List Value}{w:World}(hG:GI w)(h:Con P f false [] args (.bool true) [])(hr:bo w (λ_=>False) dX args vs):
  Calls P f vs.toArray w λe w'=>e= .returned (.bool true)/\Below w.heap.size w w':=by
 refine(h w (λ_=>False) (.nil hG) 0 0 [] vs (λhq=>by cases hq) ?_).mono ?_
 ·exact⟨hr.1,λi x v hx hv=>(hr.2 i x v hx hv).mono (cW.of λ_ _=>λhq=>by rcases hq with⟨hq,_⟩|hq;cases hq;exact hq) (Gh.le.refl _)⟩
 ·rintro e w' ⟨v,_,rfl,hv,_,hF⟩;refine⟨by rw[hv.oE],hF.os,hF.tape,hF.output,hF.size,λk hk=>hF.block k hk (by simp)⟩
end Go.TQ
end
