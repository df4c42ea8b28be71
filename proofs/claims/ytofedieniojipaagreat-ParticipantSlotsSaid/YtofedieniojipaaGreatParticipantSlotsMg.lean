/-
  Texts made small by a program (see NOTES). Conditions: those that each theorem names.
-/
import Derived.Test.YtofedieniojipaaGreatParticipantSlotsMf
set_option linter.unusedVariables false
set_option linter.defProp false
set_option linter.unusedSimpArgs false
set_option linter.unusedSectionVars false
set_option maxHeartbeats 2000000
noncomputable section
namespace Go.Proofs.YtofedieniojipaaGreat
open Go.TQ
section
structure uX (m:az):Prop where
 n0:0<=m.al
 n1:m.al<10
 seq:1<=m.aH
 aN:dq m.aa
 du:VL m.bj
 eI:VL m.aF
structure cJ (n:au):Prop where
 ask:Dq n.aa n.al n.aK n.Round
 own:n.lI.size<=200
 du:VL n.bj
 eI:VL n.aF
 kL:VL n.aR
 sub:∀x∈n.aR,x∈n.aF
 heard:∀m∈n.ar,uX m/\m.al≠n.al
 dn:n.ar.Pairwise (λa b=>a.al<b.al)
def abg:∀(l:List az) (k:Nat),k<=10->(∀e∈l,(k:Int)<=e.al/\e.al<10)->l.Pairwise (λa b=>a.al<b.al)->l.length+k<=10
 |[],k,hk,_,_=>by simp;omega
 |e::l,k,hk,h,hp=>by
  rw[Q4]at hp;have h1:=h e Qx;have h2:=abg l (k+1) (by omega) (λx hx=>⟨by have:=hp.1 x hx;omega,(h x (Qy _ hx)).2⟩) hp.2
  rw[QE];omega
def cJ.len{n:au}(h:cJ n):n.ar.length<=10:=by
 have:=abg n.ar 0 (by omega) (λe he=>⟨by have:=(h.heard e he).1.n0;omega,(h.heard e he).1.n1⟩) h.dn
 omega
def N6{n:au}(h:cJ n):∀m∈n.ar++[(⟨n.al,n.aH,n.aa,n.bj,n.aF⟩:az)],0<=m.al/\m.al<10/\VL m.bj/\VL m.aF:=by
 intro m hm;rcases Qz.1 hm with hm|hm
 ·have:=(h.heard m hm).1;exact⟨this.n0,this.n1,this.du,this.eI⟩
 ·rw[Q5.1 hm];exact⟨h.ask.v0,h.ask.v1,h.du,h.eI⟩
def Sb{α:Type}{l:List α}{i:Nat}{x:α}(h:idx l (i:Int)=some x):l[Int.toNat (i:Int)]?=some x:=by
 rw[bf]at h;exact h
def aaO{n:au}(h:cJ n)(x:ByteArray):Yd (kO n x) λq=>∃a b:Nat,q.1=a/\q.2.1=b/\a<1024/\b<1024:=by
 have hlen:=h.len;have hall:=N6 h;unfold kO BQ;simp only[etas,Qa,aS];rw[bC (by simp;omega),Qk,bC (by simp;omega),Qk]
 simp only[List.nil_append];have hl2:(n.ar++[(⟨n.al,n.aH,n.aa,n.bj,n.aF⟩:az)]).length<=1000000:=by simp;omega
 refine Yd.list (n.ar++[(⟨n.al,n.aH,n.aa,n.bj,n.aF⟩:az)]) hl2 (λi (s:Int×Int)=>(s.1,s.2,i,())) (λ_ s=>∃a b:Nat,s.1=a/\s.2=b/\a<1024/\b<1024) ?_ ?_ (s:=(0,0)) ⟨0,0,rfl,rfl,by omega,by omega⟩
 ·rintro i y ⟨s1,s2⟩ ⟨a,b,e1,e2,ha,hb⟩ hd hy hi hdec hx hadd;simp only at e1 e2;subst e1 e2;obtain⟨g0,g1,gv,ga⟩:=hall y hy;simp only;rw[hdec,Qk,hx,Qa,Sb hx,Qa,hadd,Ju _ gv.sy,Qa]
  have fin:∀c:Nat,c<1024->Yd (Option.bind (nk y.aF x) λr9=>
    bif r9 then
     if y.al<0 then none else
     some (Sum.inl ((c:Int),(sx .i64 (b:Int) (bW .i64 (1:Int) y.al)),((i+1:Nat):Int),()))
    else
     some (Sum.inl ((c:Int),(b:Int),((i+1:Nat):Int),())):Option ((Int×Int×Int×Unit)⊕(Int×Int×Unit))) (Lp (λt=>∃s':Int×Int,t=(s'.1,s'.2,((i+1:Nat):Int),())/\(∃a b:Nat,s'.1=a/\s'.2=b/\a<1024/\b<1024)) (λr=>∃a b:Nat,r.1=a/\r.2.1=b/\a<1024/\b<1024)):=by
   intro c hc;rw[Ju _ ga.sy,Qa]
   cases decide (x∈y.aF)with
   |false=>exact .some ⟨((c:Int),(b:Int)),rfl,c,b,rfl,rfl,hc,hb⟩
   |true=>
    rw[Qk,Qs (by omega),qL hb g0 g1]
    exact .some ⟨((c:Int),_),rfl,c,_,rfl,rfl,hc,Bz hb g1⟩
  cases decide (x∈y.bj)with
  |false=>exact fin a ha
  |true=>
   rw[Qk,Qs (by omega),qL ha g0 g1]
   exact fin _ (Bz ha g1)
 ·rintro⟨s1,s2⟩ ⟨a,b,e1,e2,ha,hb⟩ hdec;simp only at e1 e2;simp only;rw[hdec,Ql];exact .some ⟨a,b,e1,e2,ha,hb⟩
def Wy:Yd (oD []) λ_=>True:=by
 unfold oD;refine Yd.list ([]:List mB) (by simp) (λi (_:Unit)=>(i,())) (λ_ _=>True) (λi x s _ _ hx=>absurd hx QR) (λs _ hdec=> ?_) (s:=()) trivial
 simp only;rw[hdec,Ql];exact .some trivial
def aan(m:cF):Prop:=0<=m.al/\m.al<10/\cU m.aa/\m.bj=[]/\m.aF=[]
def afp{m:cF}(h:aan m):Yd (qX m) λ_=>True:=by
 obtain⟨h0,h1,ht,hv,ha⟩:=h;unfold qX;simp only[etas];refine Yd.bind (p:=λ_=>True) (Yd.cond (λ_=> .some trivial) λ_=> .some trivial) λb1 _=> ?_
 refine Yd.bind (p:=λ_=>True) (Yd.cond (λ_=> .some trivial) λ_=> .some trivial) λb2 _=> ?_
 refine Yd.bind (p:=λ_=>True) (Yd.cond (λ_=>by rw[AS ht];exact .some trivial) λ_=> .some trivial) λb4 _=> ?_
 rw[hv,ha];refine Yd.bind (p:=λ_=>True) (Yd.cond (λ_=>Yd.bind Wy λ_ _=> .some trivial) λ_=> .some trivial) λb6 _=> ?_
 exact Yd.bind (p:=λ_=>True) (Yd.cond (λ_=>Yd.bind Wy λ_ _=> .some trivial) λ_=> .some trivial) λb8 _=> .some trivial
def xI:aj:=⟨0,[],[]⟩
def ON:cU xI:= .mk _ (by simp[xI]) (by simp[xI]) (λu hu=>by cases hu)
structure s6 (l:List bh):Prop where
 len:l.length=10
 sm:∀m∈l,cU m.aa
def s6.set{l:List bh}(h:s6 l)(k:Nat){m:bh}(hm:cU m.aa):s6 (l.set k m):=
 ⟨by rw[QY];exact h.len,λx hx=>(List.mem_or_eq_of_mem_set hx).elim (h.sm x) λe=>by rw[e];exact hm⟩
def s6.get{l:List bh}(h:s6 l){v:Int}(h0:0<=v)(h1:v<10):∃x,idx l v=some x/\l[v.toNat]?=some x:=by
 have hl:=h.len;have hv:v.toNat<l.length:=by omega
 exact⟨l[v.toNat],by rw[Pr _ h0];exact Qv hv,Qv hv⟩
def s6.sc{l:List bh}(h:s6 l):AO ⟨l⟩:=⟨by show l.length<=1000000;rw[h.len];omega,h.sm⟩
def ag1{v:Int}{t:aj}(hv0:0<=v)(hv1:v<10)(ht:cU t){l:List cF}(hl:l.length<=1000000)(hm:∀m∈l,aan m):Yd (ql v t l) AO:=by
 unfold ql
 have h1:(decide ((10:Int)<=(10:Int))&&decide (0<=(10:Int))&&bl 64 (Int.toNat (10:Int)))=true:=by
  rw[bC (by decide)];rfl
 rw[h1,Qk];simp only[etas,aS]
 have h0:s6 (List.replicate (Int.toNat (10:Int)) (bh.mk false (aj.mk (0:Int) ([]:List Int) ([]:List aj)))):=
  ⟨by rw[List.length_replicate];rfl,λm hm=>by rw[(List.mem_replicate.1 hm).2];exact ON⟩
 refine Yd.list l hl (λi (s:List bh)=>(i,bd.mk [],s,())) (λ_ s=>s6 s) ?_ ?_ h0
 ·intro i y s hs hd hy hi hdec hx hadd;have hmy:=hm y hy;simp only;rw[hdec,Qk,hx,Qa,hadd];simp only[cF.eta];refine Yd.bind (afp hmy) λr _=> ?_
  cases r with
  |false=>exact .some ⟨s,rfl,hs⟩
  |true=>
   obtain⟨x,g1,g2⟩:=hs.get hmy.1 hmy.2.1;rw[Qk,g1,Qa,g2,Qa];exact .some ⟨_,rfl,hs.set _ hmy.2.2.1⟩
 ·intro s hs hdec;simp only;rw[hdec,Ql,Qg hv0,Qg hv1];simp only[Qk,Qa];obtain⟨x,g1,g2⟩:=hs.get hv0 hv1;have hs2:=hs.set v.toNat (m:=⟨false,⟨0,[],[]⟩⟩) ON;obtain⟨x2,k1,k2⟩:=hs2.get hv0 hv1;rw[g1,g2,AS ht];simp only[Qa]
  cases decide (G5 t=0)with
  |false=>exact .some hs2.sc
  |true=>
   simp only[Qk];rw[k1,k2];exact .some (hs2.set _ ht).sc
def XZ{n:au}(h:cJ n):Yd (lS n) AO:=by
 have hlen:=h.len;unfold lS;simp only[etas];refine Yd.list n.ar (by omega) (λi (s:List cF)=>(i,s,())) (λi s=>s.length<=i/\∀m∈s,aan m) ?_ ?_ (s:=[]) ⟨by simp,λm hm=>absurd hm QR⟩
 ·intro i y s ⟨hs1,hs2⟩ hd hy hi hdec hx hadd;have hmy:=(h.heard y hy).1;simp only;rw[hdec,Qk,hx,Qa,hadd,bC ⟨by simp only[Q6];omega,by simp only[Q6];omega⟩,Qk]
  refine .some ⟨_,rfl,by simp only[QB,Q6];omega,λm hm=> ?_⟩
  rcases Qz.1 hm with hm|hm
  ·exact hs2 m hm
  ·rw[Q5.1 hm];exact⟨hmy.n0,hmy.n1,hmy.aN.sm,rfl,rfl⟩
 ·intro s ⟨hs1,hs2⟩ hdec;simp only;rw[hdec,Ql];exact Yd.map (Yd.bind (ag1 h.ask.v0 h.ask.v1 h.ask.aN.sm (by omega) hs2) λc hc=> .some hc)
def Bb{n:au}(h:cJ n):n.al=((n.al.toNat:Nat):Int)/\n.al.toNat<10:=by
 have h0:=h.ask.v0;have h1:=h.ask.v1;omega
def aj9{n:au}(h:cJ n)(x:ByteArray):Yd (sv n x) λb=>b=true->x∉n.aF/\n.aF.length<40:=by
 obtain⟨hn,hn10⟩:=Bb h;unfold sv;simp only[etas,aS];refine Yd.bind (aaO h x) λq ⟨a,b,e1,e2,ha,hb⟩=> ?_
 rw[e1,e2,Ju _ h.eI.sy,Qa]
 by_cases hx:x∈n.aF
 ·rw[Qg hx];exact .some λe=>by cases e
 ·rw[Qh hx];simp only[Qp,Qk]
  by_cases hl:n.aF.length<40
  ·rw[Qg (by omega:(n.aF.length:Int)<40),Qk]
   refine Yd.bind (XZ h) λc hc=> ?_
   rw[hn,wJ hc hn10 ha hb];exact .some λ_=>⟨hx,hl⟩
  ·rw[Qh (by omega:¬(n.aF.length:Int)<40)]
   exact .some λe=>by cases e
def ahl{n:au}(h:cJ n):Yd (oC n) λr=>r.length<=1000/\∀x∈r,kM x:=by
 have hlen:=h.len;have l1:=h.du.len;have l2:=h.eI.len;unfold oC;refine Yd.bind (Ol (n:=80) (by omega) (by omega)) λr1 ⟨k1,k2⟩=> ?_
 refine Yd.list n.ar (by omega) (λi (s:List ByteArray)=>(s,i,())) (λi s=>s.length<=80+80*i/\∀x∈s,kM x) ?_ ?_ ⟨by omega,λx hx=>(k2 x hx).elim (h.du.rZ x) (h.eI.rZ x)⟩
 ·intro i y s ⟨hs1,hs2⟩ hd hy hi hdec hx hadd;have hmy:=(h.heard y hy).1;have l3:=hmy.du.len;have l4:=hmy.eI.len;simp only;rw[hdec,Qk,hx,Qa,hadd];refine Yd.bind (Ol (n:=80) (by omega) (by omega)) λr4 ⟨g1,g2⟩=> ?_
  refine Yd.bind (Ol (n:=80+80*(i+1)) (by omega) (by omega)) λr5 ⟨g3,g4⟩=> ?_
  exact .some ⟨r5,rfl,g3,λx hx=>(g4 x hx).elim (hs2 x) λhx=>(g2 x hx).elim (hmy.du.rZ x) (hmy.eI.rZ x)⟩
 ·intro s ⟨hs1,hs2⟩ hdec;simp only;rw[hdec,Ql];exact .some ⟨by omega,hs2⟩
def cJ.Jg{n:au}(h:cJ n){v:List ByteArray}(hv:VL v):cJ {n with bj:=v}:=⟨h.ask,h.own,hv,h.eI,h.kL,h.sub,h.heard,h.dn⟩
def cJ.aha{n:au}(h:cJ n){a:List ByteArray}(ha:VL a)(hs:∀y∈n.aF,y∈a):cJ {n with aF:=a}:=⟨h.ask,h.own,h.du,ha,h.kL,λx hx=>hs x (h.sub x hx),h.heard,h.dn⟩
def cJ.acw{n:au}(h:cJ n){c:List ByteArray}(hc:VL c)(hs:∀y∈c,y∈n.aF):cJ {n with aR:=c}:=⟨h.ask,h.own,h.du,h.eI,hc,hs,h.heard,h.dn⟩
structure sA (n r:au):Prop where
 ok:cJ r
 aG:r.al=n.al
 aJ:r.aK=n.aK
 round:r.Round=n.Round
 seq:r.aH=n.aH
 aN:r.aa=n.aa
 own:r.lI=n.lI
 heard:r.ar=n.ar
def sA.refl{n:au}(h:cJ n):sA n n:=⟨h,rfl,rfl,rfl,rfl,rfl,rfl,rfl⟩
def sA.Jg{n r:au}(h:sA n r){v:List ByteArray}(hv:VL v):sA n {r with bj:=v}:=⟨h.ok.Jg hv,h.aG,h.aJ,h.round,h.seq,h.aN,h.own,h.heard⟩
def afh{n:au}(h:cJ n):Yd (pK n) (sA n):=by
 unfold pK;simp only[etas,aS];refine Yd.bind (acM h.ask) λq ⟨s,e1,hs⟩=> ?_
 rw[e1,Jt hs,Qa];have hl:=zG s;refine Yd.list (oK s) (by omega) (λi (r:au)=>(i,r,())) (λ_ r=>sA n r) ?_ ?_ (.refl h)
 ·intro i y r hr hd hy hi hdec hx hadd;simp only;rw[hdec,Qk,hx,Qa,hadd];have hlen:=hr.ok.len
  by_cases hyn:y=r.al
  ·rw[Qg hyn,Qk]
   by_cases hown:r.lI=bE
   ·rw[Qg hown];exact .some ⟨r,rfl,hr⟩
   ·rw[Qh hown];simp only[Qp,Qk]
    have hv:kM r.lI:=by
     refine⟨?_,hr.ok.own⟩;rcases Nat.eq_zero_or_pos r.lI.size with h0|h0
     ·exact absurd (ByteArray.ext (Array.eq_empty_of_size_eq_zero h0)) hown
     ·exact h0
    rw[Jr hr.ok.du,Qa];exact .some ⟨_,rfl,hr.Jg (uK hr.ok.du hv).1⟩
  ·rw[Qh hyn,Ql];refine Yd.list r.ar (by omega) (λi (r:au)=>(i,r,())) (λ_ r=>sA n r) ?_ ?_ hr
   ·intro j m r2 hr2 hd2 hm hj hdec2 hx2 hadd2;simp only;rw[hdec2,Qk,hx2,Qa,hadd2];have hmy:=(hr.ok.heard m hm).1;have l3:=hmy.du.len;have l4:=hmy.eI.len
    cases decide (m.al=y)with
    |false=>exact .some ⟨r2,rfl,hr2⟩
    |true=>
     simp only[Qo,Ql];refine Yd.bind (Ol (n:=80) (by omega) (by omega)) λu ⟨g1,g2⟩=> ?_
     refine Yd.list u (by omega) (λi (r:au)=>(i,r,())) (λ_ r=>sA n r) ?_ ?_ hr2
     ·intro k x r3 hr3 hd3 hxu hk hdec3 hx3 hadd3;simp only;rw[hdec3,Qk,hx3,Qa,hadd3,Jr hr3.ok.du,Qa];have hv:kM x:=(g2 x hxu).elim (hmy.du.rZ x) (hmy.eI.rZ x);exact .some ⟨_,rfl,hr3.Jg (uK hr3.ok.du hv).1⟩
     ·intro r3 hr3 hdec3;simp only;rw[hdec3,Ql];exact .some ⟨r3,rfl,hr3⟩
   ·intro r2 hr2 hdec2;simp only;rw[hdec2,Ql];exact .some ⟨r2,rfl,hr2⟩
 ·intro r hr hdec;simp only;rw[hdec,Ql];exact .some hr
structure WX (b n r:au):Prop where
 ok:cJ r
 aG:r.al=n.al
 aJ:r.aK=n.aK
 round:r.Round=n.Round
 aN:r.aa=n.aa
 seq:r.aH=n.aH\/r.aH=b.aH+1
def Hj{b n:au}(hb:cU b.aa/\b.bj.length<=1000000/\b.aF.length<=1000000)(hs:0<=b.aH/\b.aH<=1000000)(h:cJ n):Yd (fZ b n) (WX b n):=by
 unfold fZ;simp only[etas];refine Yd.join (λv=>sA n v.1) (λv hv=> ?_) (λj' hj=> ?_)
 ·refine Yd.Fg (λ(s:Bool×au×Unit)=>sA n s.2.1) (λs=>(if s.1=true then 1 else 0)+2*(40 - s.2.1.aF.length)) ?_ hv
  rintro⟨again,r,u⟩ hr;simp only at hr;simp only
  cases again with
  |true=>
   rw[Qk];refine Yd.bind (ahl hr.ok) λl ⟨hl,hvals⟩=> ?_
   refine Yd.list l (by omega) (λi (s:au)=>(false,i,s,())) (λ_ s=>s=r) ?_ ?_ rfl
   ·rintro i x s rfl hd hx' hi hdec hx hadd;simp only;rw[hdec,Qk,hx,Qa,hadd];refine Yd.bind (aj9 hr.ok x) λc hc=> ?_
    cases c with
    |false=>exact .some ⟨s,rfl,rfl⟩
    |true=>
     obtain⟨hc1,hc2⟩:=hc rfl;obtain⟨p1,p2,p3,p4⟩:=uK hr.ok.eI (hvals x hx');rw[Qk,Jr hr.ok.eI,Qa];refine .some ⟨⟨hr.ok.aha p1 p2,hr.aG,hr.aJ,hr.round,hr.seq,hr.aN,hr.own,hr.heard⟩,?_⟩;have:=p4 hc1 hc2;show(if true=true then 1 else 0)+2*(40 - (mI s.aF x).length)<(if true=true then 1 else 0)+2*(40 - s.aF.length)
     rw[this];omega
   ·rintro s rfl hdec;simp only;rw[hdec,Ql];refine .some ⟨hr,?_⟩;show(if false=true then 1 else 0)+2*(40 - s.aF.length)<(if true=true then 1 else 0)+2*(40 - s.aF.length)
    simp
  |false=>
   rw[Ql];refine Yd.map ?_;have hl:=hr.ok.eI.len;refine Yd.list r.aF (by omega) (λi (s:au)=>(i,s,())) (λ_ s=>sA n s/\s.aF=r.aF) ?_ ?_ ⟨hr,rfl⟩
   ·rintro i x s ⟨hs',hsa⟩ hd hx' hi hdec hx hadd;obtain⟨hn,hn10⟩:=Bb hs'.ok;simp only[aS];rw[hdec,Qk,hx,Qa,hadd];refine Yd.bind (aaO hs'.ok x) λq ⟨a,c,e1,e2,ha,hc⟩=> ?_
    refine Yd.bind (XZ hs'.ok) λcf hcf=> ?_
    have hfc:=vf hcf hn10 hc;rw[<-hn]at hfc;rw[e2,hfc,Qa]
    cases (gq cf.bn c).testBit s.al.toNat with
    |false=>exact .some ⟨s,rfl,hs',hsa⟩
    |true=>
     rw[Qk,Jr hs'.ok.kL,Qa];obtain⟨p1,p2,p3,p4⟩:=uK hs'.ok.kL (hr.ok.eI.rZ x hx');refine .some ⟨_,rfl,⟨hs'.ok.acw p1 (λy hy=> ?_),hs'.aG,hs'.aJ,hs'.round,hs'.seq,hs'.aN,hs'.own,hs'.heard⟩,hsa⟩
     rcases p3 y hy with rfl|hy
     ·rw[hsa];exact hx'
     ·exact hs'.ok.sub y hy
   ·rintro s ⟨hs',hsa⟩ hdec;simp only[aS];rw[hdec,Ql];obtain⟨b1,f1,_⟩:=Om (s:=b.bj) (t:=s.bj) hb.2.1;obtain⟨b2,f2,_⟩:=Om (s:=b.aF) (t:=s.aF) hb.2.2;obtain⟨b3,f3,_⟩:=HX (a:=b.aa) (b:=s.aa) hb.1;rw[f1,f2,f3];simp only[Qa];refine Yd.map (Yd.bind (p:=λ_=>True) (Yd.cond (λ_=> .some trivial) λ_=> .some trivial) λc1 _=> ?_)
    refine Yd.bind (p:=λ_=>True) (Yd.cond (λ_=> .some trivial) λ_=> .some trivial) λc2 _=> ?_
    cases c2 with
    |false=>exact .some ⟨hs'.ok,hs'.aG,hs'.aJ,hs'.round,hs'.aN,.inl hs'.seq⟩
    |true=>
     have hadd:aA .i64 b.aH 1=b.aH+1:=bH (by omega) (by omega)
     rw[Qk,hadd];exact .some ⟨⟨hs'.ok.ask,hs'.ok.own,hs'.ok.du,hs'.ok.eI,hs'.ok.kL,hs'.ok.sub,hs'.ok.heard,hs'.ok.dn⟩,hs'.aG,hs'.aJ,hs'.round,hs'.aN,.inr rfl⟩
 ·cases decide (((List.length n.aR:Nat):Int)=(0:Int))with
  |true=>
   rw[Qk];refine Yd.bind (afh h) λr hr=> ?_
   exact hj (r,()) hr
  |false=>exact hj (n,()) (.refl h)
end
section
def RA{m:az}(h:uX m):uG m=some true:=by
 have e1:=h.n0;have e2:=h.n1;have e3:=h.seq;unfold uG;simp only[etas,dH h.aN,Js h.du,Js h.eI];rw[Qg e1,Qg e2,Qg e3];rfl
def Gg{n:au}(h:cJ n)(hs:1<=n.aH/\n.aH<=1000000):oB n=some true:=by
 have hlen:=h.len;have e1:=h.ask.v0;have e2:=h.ask.v1;have e3:=h.ask.s0;have e4:=h.ask.s1;have e5:=h.ask.r1;have e6:=h.ask.r2;have e7:=h.own;unfold oB;simp only[etas,dH h.ask.aN,Js h.du,Js h.eI,Js h.kL];rw[Qh (by omega:¬n.al<0),Qh (by omega:¬(10:Int)<=n.al),Qh (by omega:¬n.aK<0),Qh (by omega:¬(1000000:Int)<n.aK),Qh (by omega:¬n.Round<1),Qh (by omega:¬(1000:Int)<n.Round),Qh (by omega:¬n.aH<1),Qh (by omega:¬(1000000:Int)<n.aH),Qh (by omega:¬(200:Int)<((n.lI.size:Nat):Int))]
 simp only[Ql,Qa,decide_true,Qo];refine Yd.eq_true ?_;refine Yd.list n.aR h.kL.sy (λi (_:Unit)=>(i,())) (λ_ _=>True) ?_ ?_ (s:=()) trivial
 ·intro i x s _ hd hx' hi hdec hx hadd;simp only;rw[hdec,Qk,hx,Qa,hadd,Ju _ h.eI.sy,Qg (h.sub x hx')];exact .some ⟨(),rfl,trivial⟩
 ·intro s _ hdec;simp only;rw[hdec,Ql];refine Yd.map ?_;refine Yd.list n.ar (by omega) (λi (_:Unit)=>(i,())) (λ_ _=>True) ?_ ?_ (s:=()) trivial
  ·intro i m s _ hd hm hi hdec hx hadd;obtain⟨hm1,hm2⟩:=h.heard m hm;simp only[aS];rw[hdec,Qk,hx,Qa,hadd];simp only[az.eta];rw[RA hm1,Qa,Qh hm2];simp only[Qo,Ql]
   by_cases h0:i=0
   ·subst h0;rw[Qh (by omega:¬(0:Int)<((0:Nat):Int))]
    exact .some ⟨(),rfl,trivial⟩
   ·rw[Qg (by omega:(0:Int)<(i:Int))]
    simp only[Qk];have hsub:cQ .i64 (i:Int) 1=((i - 1:Nat):Int):=by rw[nT (by omega) (by omega)];omega
    have hi1:i - 1<n.ar.length:=by omega
    rw[hsub,bf,Qv hi1,Qa]
    have hyi:m=n.ar[i]:=by
     rw[bf,Qv hi]at hx;exact(Option.some.inj hx).symm
    have hlt:n.ar[i - 1].al<m.al:=by
     rw[hyi];exact List.pairwise_iff_getElem.1 h.dn (i - 1) i hi1 hi (by omega)
    rw[Qh (by omega:¬m.al<=n.ar[i - 1].al)]
    exact .some ⟨(),rfl,trivial⟩
  ·intro s _ hdec;simp only;rw[hdec,Ql];exact .some rfl
def cJ.Fo{n:au}(h:cJ n):cU n.aa/\n.bj.length<=1000000/\n.aF.length<=1000000:=⟨h.ask.aN.sm,h.du.sy,h.eI.sy⟩
def EN:au:=⟨0,0,0,0,⟨0,[],[]⟩,⟨#[]⟩,[],[],[],[]⟩
def aiP{n:au}{m:az}(h:cJ n)(hs:1<=n.aH/\n.aH<=1000000)(hm:uX m)(hne:m.al≠n.al):Yd (tk n m) λq=>(q.2.1=0/\WX n n q.1)\/q.2.1=9:=by
 have hlen:=h.len;unfold tk;simp only[etas,az.eta,Gg h hs,RA hm,Qa,Qo,Ql];rw[Qh hne];simp only[Ql,aS];have kk:∀(a:List az) (x:az),a.length<=100->bl 120 (a.length+[x].length)=true:=λa x ha=>bC ⟨by simp only[Q6];omega,by simp only[Q6];omega⟩
 have setl:∀l:List az,(∀y∈l,uX y/\y.al≠n.al)->l.Pairwise (λa b=>a.al<b.al)->Yd (Option.bind (fZ n {n with ar:=l}) λr14=>some (r14,(0:Int),())) λq=>(q.2.1=0/\WX n n q.1)\/q.2.1=9:=by
  intro l h1 h2;refine Yd.bind (Hj h.Fo (by omega) (n:={n with ar:=l}) ⟨h.ask,h.own,h.du,h.eI,h.kL,h.sub,h1,h2⟩) λr hr=> .some (.inl ⟨rfl,hr.ok,hr.aG,hr.aJ,hr.round,hr.aN,hr.seq⟩)
 refine Yd.list n.ar (by omega) (λi (s:Bool×List az)=>(s.1,i,EN,{n with ar:=[]},s.2,()))
  (λi s=>s.2.length<=2*i/\(∀y∈s.2,uX y/\y.al≠n.al)/\s.2.Pairwise (λa b=>a.al<b.al)/\(∀y∈s.2,∀z∈n.ar.drop i,y.al<z.al)/\(s.1=false->∀y∈s.2,y.al<m.al)) ?_ ?_ (s:=(false,[]))
  ⟨by simp,λy hy=>absurd hy QR,List.Pairwise.nil,λy hy=>absurd hy QR,λ_ y hy=>absurd hy QR⟩
 ·rintro i x ⟨d,acc⟩ ⟨a1,a2,a3,a4,a5⟩ hd hx' hi hdec hx hadd;simp only at a1 a2 a3 a4 a5;have hxx:=h.heard x hx'
  have hsort:∀z∈n.ar.drop (i+1),x.al<z.al:=by
   have:=h.dn.sublist (List.drop_sublist i n.ar);rw[hd,Q4]at this;exact this.1
  have a4x:∀y∈acc,y.al<x.al:=λy hy=>a4 y hy x (by rw[hd];exact Qx)
  have a4r:∀y∈acc,∀z∈n.ar.drop (i+1),y.al<z.al:=λy hy z hz=>a4 y hy z (by rw[hd];exact Qy _ hz)
  simp only;rw[hdec,Qk,hx,Qa,hadd];have k1:=kk acc m (by omega)
  have k2:=kk acc x (by omega)
  have k3:=kk (acc++[m]) x (by simp only[QB,Q6];omega)
  by_cases hn:x.al=m.al
  ·rw[Qg hn,Qk]
   cases decide (m.aH<=x.aH)with
   |true=>exact .some (.inr rfl)
   |false=>exact .some ⟨(d,acc),rfl,by show acc.length<=2*(i+1);omega,a2,a3,a4r,a5⟩
  ·rw[Qh hn,Ql,k1,k2,k3]
   have plain:(d=false->x.al<m.al)->Yd (some (Sum.inl (d,((i+1:Nat):Int),EN,{n with ar:=([]:List az)},(acc++[x]),())):Option ((Bool×Int×au×au×(List az)×Unit)⊕(au×Int×Unit))) (Lp (λt=>∃s':Bool×List az,t=(s'.1,((i+1:Nat):Int),EN,{n with ar:=[]},s'.2,())/\(s'.2.length<=2*(i+1)/\(∀y∈s'.2,uX y/\y.al≠n.al)/\s'.2.Pairwise (λa b=>a.al<b.al)/\(∀y∈s'.2,∀z∈n.ar.drop (i+1),y.al<z.al)/\(s'.1=false->∀y∈s'.2,y.al<m.al))) (λr=>(r.2.1=0/\WX n n r.1)\/r.2.1=9)):=by
    intro hdm;refine .some ⟨(d,acc++[x]),rfl,by simp only[QB,Q6];omega,λy hy=> ?_,?_,λy hy z hz=> ?_,λe y hy=> ?_⟩
    ·rcases Qz.1 hy with hy|hy
     ·exact a2 y hy
     ·rw[Q5.1 hy];exact hxx
    ·rw[Qq69];exact⟨a3,List.pairwise_singleton _ _,λy hy z hz=>by rw[Q5.1 hz];exact a4x y hy⟩
    ·rcases Qz.1 hy with hy|hy
     ·exact a4r y hy z hz
     ·rw[Q5.1 hy];exact hsort z hz
    ·rcases Qz.1 hy with hy|hy
     ·exact a5 e y hy
     ·rw[Q5.1 hy];exact hdm e
   by_cases hlt:m.al<x.al
   ·rw[Qg hlt]
    cases d with
    |true=>exact plain λe=>by cases e
    |false=>
     have a5:=a5 rfl;simp only[Qp,Qk,Qa];refine .some ⟨(true,(acc++[m])++[x]),rfl,by simp only[QB,Q6];omega,λy hy=> ?_,?_,λy hy z hz=> ?_,λe=>by cases e⟩
     ·rcases Qz.1 hy with hy|hy
      ·rcases Qz.1 hy with hy|hy
       ·exact a2 y hy
       ·rw[Q5.1 hy];exact⟨hm,hne⟩
      ·rw[Q5.1 hy];exact hxx
     ·rw[Qq69,Qq69];refine⟨⟨a3,List.pairwise_singleton _ _,λy hy z hz=>by rw[Q5.1 hz];exact a5 y hy⟩,List.pairwise_singleton _ _,λy hy z hz=> ?_⟩
      rw[Q5.1 hz];rcases Qz.1 hy with hy|hy
      ·exact a4x y hy
      ·rw[Q5.1 hy];exact hlt
     ·rcases Qz.1 hy with hy|hy
      ·rcases Qz.1 hy with hy|hy
       ·exact a4r y hy z hz
       ·rw[Q5.1 hy];exact Int.lt_trans hlt (hsort z hz)
      ·rw[Q5.1 hy];exact hsort z hz
   ·rw[Qh hlt];exact plain λ_=>by omega
 ·rintro⟨d,acc⟩ ⟨a1,a2,a3,a4,a5⟩ hdec;simp only at a1 a2 a3 a4 a5;simp only;rw[hdec,Ql];refine Yd.map ?_;have k1:=kk acc m (by omega)
  rw[k1]
  cases d with
  |true=>exact setl acc a2 a3
  |false=>
   simp only[Qp,Qk];refine setl (acc++[m]) (λy hy=> ?_) ?_
   ·rcases Qz.1 hy with hy|hy
    ·exact a2 y hy
    ·rw[Q5.1 hy];exact⟨hm,hne⟩
   ·rw[Qq69];exact⟨a3,List.pairwise_singleton _ _,λy hy z hz=>by rw[Q5.1 hz];exact a5 rfl y hy⟩
def ahi{n:au}(h:cJ n)(hs:1<=n.aH/\n.aH<=1000000):Yd (Ar n) λq=>(q.2.1=0/\cJ q.1/\q.1.al=n.al/\q.1.aK=n.aK/\q.1.aa=n.aa/\(q.1.aH=n.aH\/q.1.aH=n.aH+1))\/q.2.1=3:=by
 unfold Ar;simp only[etas,Gg h hs,Qa,Qo,Ql];have e5:=h.ask.r1;have e6:=h.ask.r2
 by_cases hr:n.Round=1000
 ·rw[Qg hr];exact .some (.inr rfl)
 ·have hadd:aA .i64 n.Round 1=n.Round+1:=bH (by omega) (by omega)
  rw[Qh hr,Ql,hadd];refine Yd.bind (Hj h.Fo (by omega) (n:={n with Round:=n.Round+1}) ⟨⟨h.ask.aN,h.ask.v0,h.ask.v1,h.ask.s0,h.ask.s1,by show 1<=n.Round+1;omega,by show n.Round+1<=1000;omega⟩,h.own,h.du,h.eI,h.kL,h.sub,h.heard,h.dn⟩) λr hr=> .some (.inl ⟨rfl,hr.ok,hr.aG,hr.aJ,hr.aN,hr.seq⟩)
def ahp{n:au}(h:cJ n)(hs:1<=n.aH/\n.aH<=1000000){t:aj}(ht:dq t):Yd (vr n t) λq=>q.2.1=0/\cJ q.1/\q.1.al=n.al/\q.1.aK=n.aK/\q.1.aa=t/\(q.1.aH=n.aH\/q.1.aH=n.aH+1):=by
 unfold vr;simp only[etas,Gg h hs,dH ht,Qa,Qo,Ql,decide_true];obtain⟨b,f,hb⟩:=HX (a:=n.aa) (b:=t) h.ask.aN.sm;rw[f,Qa]
 cases b with
 |true=>exact .some ⟨rfl,h,rfl,rfl,hb.1 rfl,.inl rfl⟩
 |false=>
  refine Yd.bind (Hj h.Fo (by omega) (n:={n with aa:=t}) ⟨⟨ht,h.ask.v0,h.ask.v1,h.ask.s0,h.ask.s1,h.ask.r1,h.ask.r2⟩,h.own,h.du,h.eI,h.kL,h.sub,h.heard,h.dn⟩) λr hr=> .some ⟨rfl,hr.ok,hr.aG,hr.aJ,hr.aN,hr.seq⟩
def Rz{t:aj}{v aJ:Int}{own:ByteArray}(ht:dq t)(h0:0<=v)(h1:v<10)(h2:0<=aJ)(h3:aJ<=1000000)(ho:own.size<=200):Yd (mo v aJ t own) λq=>q.2.1=0/\cJ q.1/\q.1.al=v/\q.1.aK=aJ/\q.1.aa=t/\q.1.aH=1:=by
 unfold mo;simp only[etas,dH ht];rw[Qh (by omega:¬v<0),Qh (by omega:¬(10:Int)<=v),Qh (by omega:¬aJ<0),Qh (by omega:¬(1000000:Int)<aJ),Qh (by omega:¬(200:Int)<((own.size:Nat):Int))]
 simp only[Ql,Qa,decide_true,Qo];have hn:cJ ⟨v,aJ,1,1,t,own,[],[],[],[]⟩:=⟨⟨ht,h0,h1,h2,h3,by show(1:Int)<=1;omega,by show(1:Int)<=1000;omega⟩,ho,.nil,.nil,.nil,λx hx=>absurd hx QR,λx hx=>absurd hx QR,List.Pairwise.nil⟩
 refine Yd.bind (Hj hn.Fo ⟨by show(0:Int)<=1;omega,by show(1:Int)<=1000000;omega⟩ hn) λr hr=> .some ⟨rfl,⟨hr.ok.ask,hr.ok.own,hr.ok.du,hr.ok.eI,hr.ok.kL,hr.ok.sub,hr.ok.heard,hr.ok.dn⟩,hr.aG,hr.aJ,hr.aN,rfl⟩
end
section
def ag8{m:ab}(h:m.aQ=3):c7 m=m:=by
 have h1:c8 m=m:=by unfold c8;rw[Qr (.inl h)]
 have h2:gB m=m:=by unfold gB;rw[Qr (.inl (by rw[h];decide))]
 have h3:fW m=m:=by unfold fW;rw[Qs (by rw[h];decide),Qs (by rw[h];decide)]
 have h4:ja m=m:=by unfold ja;rw[Qs (by rw[h];rintro⟨e,_⟩;exact absurd e (by decide))]
 have h5:fQ m=m:=by unfold fQ;rw[Qr (.inl h)]
 unfold c7;rw[Qr h1,Qr h2,Qr h3,Qr h4];exact h5
structure Dn (m:ab) (t:aj) (x:ab):Prop where
 inv:bs x
 seq:fR x
 aG:x.al=m.al
 aJ:x.aK=m.aK
 aN:x.aa=t
 ext:m.aQ=3->x.aQ=3/\x.ae.Value=m.ae.Value
def Dn.refl{m:ab}(h:bs m)(hs:fR m):Dn m m.aa m:=⟨h,hs,rfl,rfl,rfl,λe=>⟨e,rfl⟩⟩
def mu(m x:ab):Prop:=m.aQ=3->x.aQ=3/\x.ae.Value=m.ae.Value
def KQ{m:ab}:∀x,bs x->mu m x->mu m (c7 x):=λx _ h e=>by
 have h2:=h e;rw[ag8 h2.1];exact h2
def KP{m:ab}:∀x,mu m x->mu m (dh x):=λx h e=>by
 have h2:=h e;unfold dh;split
 ·exact h2
 ·exact h2
def Dl{m m1:ab}(h:bs m)(hb:AD m m1):mu m m1:=by
 intro e;rcases hb with⟨v,hv,rfl⟩|⟨x,hx,rfl⟩|⟨h3,hv,hc,rfl⟩|⟨t,ht,rfl⟩
 ·have hz:aP m.ae=false:=by
   rcases h.body with k|k|k|k
   ·exact absurd (k.ba.symm.trans e) (by decide)
   ·exact k.aT.nz
   ·exact k.aT.nz
   ·exact k.aT.nz
  unfold gA;rw[Qs (by rw[hz];decide)]
  exact⟨e,rfl⟩
 ·exact⟨e,rfl⟩
 ·exact absurd e h3
 ·exact⟨e,rfl⟩
def KZ{m m1:ab}(h:bs m)(hb:AD m m1){q:ab×Int×Unit}(hq:IM (mu m) m m1 q):q.2.1=0/\Dn m m1.aa q.1:=by
 obtain⟨m2,rfl,ha⟩:=hq;have hf:=adP h hb;obtain⟨f1,f2,f3,f4,f5,f6⟩:=DU m1;obtain⟨s,e,_⟩:=NN m m2;refine⟨rfl,adM ha.inv,agC ha.inv ha.seq (λhz=>ha.nz (by rw[f6];exact hf.nz hz)),?_,?_,?_,?_⟩
 ·rw[e];exact ha.env.1.trans (f1.trans hf.aG)
 ·rw[e];exact ha.env.2.1.trans (f2.trans hf.aJ)
 ·rw[e];exact ha.env.2.2.1.trans f3
 ·rw[e];exact ha.rel
section
variable {m : ab} (h : bs m) (hs : fR m)
 include h hs
theorem Hu{v:ByteArray}(hv:kM v):Yd (kc m v) λq=>q.2.1=0/\Dn m m.aa q.1:=by
 have hb:AD m (gA m v):= .inl ⟨v,hv,rfl⟩;refine(MU (R:=mu m) KQ KP h hs hv (Dl h hb)).mono λq hq=> ?_
 have e:(gA m v).aa=m.aa:=by unfold gA;split<;>rfl
 exact e▸KZ h hb hq
theorem Vo{e:ak}(he:Ah m e):Yd (kb m e) λq=>(q.2.1=0/\Dn m m.aa q.1)\/q.2.1=9:=by
 have hb:AD m (BG m e):= .inr (.inl ⟨e,he,rfl⟩);refine(U3 (R:=mu m) KQ KP h hs he (Dl h hb)).mono λq hq=> ?_
 rcases hq with⟨hq,_⟩|⟨rfl,_⟩
 ·exact .inl (KZ h hb hq)
 ·exact .inr rfl
theorem ade{t:aj}(ht:dq t):Yd (rL m t) λq=>q.2.1=0/\Dn m t q.1:=by
 have hb:AD m (H3 m t):= .inr (.inr (.inr ⟨t,ht,rfl⟩));refine(acQ (R:=mu m) KQ KP h hs ht (Dl h hb)).mono λq hq=> ?_
 exact KZ h hb hq
theorem adb:Yd (rK m) λq=>(q.2.1=0/\Dn m m.aa q.1)\/q.2.1≠0:=by
 have hR:∃R:ab->Prop,(∀m,bs m->R m->R (c7 m))/\(∀m,R m->R (dh m))/\R (qy m)/\(AD m (qy m)->∀x,R x->mu m x):=by
  by_cases hi:AD m (qy m)
  ·exact⟨mu m,KQ,KP,Dl h hi,λ_ x hx=>hx⟩
  ·exact⟨λ_=>True,λ_ _ _=>trivial,λ_ _=>trivial,trivial,λhi'=>absurd hi' hi⟩
 obtain⟨R,hR1,hR2,hR0,hRR⟩:=hR;refine(acJ hR1 hR2 h hs hR0).mono λq hq=> ?_
 rcases hq with⟨⟨m2,rfl,ha⟩,h3,hv,hc⟩|⟨rfl,_⟩|⟨rfl,_⟩
 ·have hb:AD m (qy m):= .inr (.inr (.inl ⟨h3,hv,hc,rfl⟩));exact .inl (KZ h hb ⟨m2,rfl,ha.inv,ha.seq,ha.env,ha.num,ha.nz,hRR hb _ ha.rel,ha.fix⟩)
 ·exact .inr (by show(62:Int)≠0;decide)
 ·exact .inr (by show(3:Int)≠0;decide)
theorem AW:rM m=some (bif decide (m.aQ=3)then m.ae.Value else gw,decide (m.aQ=3),()):=by
 unfold rM;simp only[etas,wV h hs,Qa,Qo,Ql];cases decide (m.aQ=3)<;>rfl
theorem acL:vp m=some (bif aP m.ae then(ak.mk (0:Int) (0:Int) (0:Int) (aj.mk (0:Int) ([]:List Int) ([]:List aj)) (0:Int) zB zB zB (0:Int) (0:Int))else de m,!aP m.ae,()):=by
 unfold vp;simp only[etas,wV h hs,Qa,Qo,Ql,c6,Aa];cases aP m.ae<;>rfl
theorem aaN:Yd (uk m) λ_=>True:=by
 have hev:=h.ev;have hlen:=h.len;unfold uk;simp only[etas,acL h hs,Qa]
 cases hz:aP m.ae with
 |true=>exact .some trivial
 |false=>
  simp only[Qp,Qo,Ql,Qa]
  cases decide (m.aQ=3)with
  |true=>exact .some trivial
  |false=>
   simp only[Ql];have ho:=KY h hs hz;have hm0:cU (de m).aa:=by rw[tZ];exact h.aN.sm
   have hall:∀e∈[de m]++m.ar,bc e=true/\cU e.aa:=by
    intro e he;rcases Qz.1 he with he|he
    ·rw[Q5.1 he];exact⟨ho,hm0⟩
    ·exact⟨(h.hv e he).1,(h.hv e he).2.1.sm⟩
   have hl1:([de m]++m.ar).length<=1000:=by simp;omega
   rw[bC (by simp;omega),Qk]
   rw[Fi ([de m]++m.ar) hl1 (λe=>decide (fG (de m)<=fG e)) (fin:=λs=>Option.bind (jj m.al m.aa ([de m]++m.ar)) λr8=>Option.bind (gu ([de m]++m.ar) s) λr9=>Option.bind (kW r8 r9) λr10=>if(br .u64 m.al)<0 then none else some (decide ((F1 .i64 (jH .i64 r10 (br .u64 m.al)) (1:Int))=(1:Int))))
    (λi e s hs' he hd hx hw=>by
     simp only[hd,hx,hw,Sb hx,Qk,Qa,Hk (hall e he).2 (hall e he).1,Hk hm0 ho]
     rw[bC (by simp;omega),Qk])
    (λs hd=>by simp only[hd,Ql])]
   have hsml:s5 ([de m]++m.ar):=⟨by omega,λe he=>(hall e he).2⟩
   have hn:=hev.aG;have hv:=AV hn.2 (t:=m.aa) hsml;rw[hn.1]at hv;have hin:w5 ([de m]++m.ar):=λe he=>kq (hall e he).1
   rw[hv,Qa,Bt ([de m]++m.ar) hl1 _ (λe he _=>hin e he),Qa,DO (ou h.aN.sm hsml) (mH hin),Qa]
   have hc:br .u64 m.al=m.al:=by
    rw[<-hn.1];exact aeL (by omega)
   rw[hc,Qs (by have:=h.n0;omega)]
   exact .some trivial
def wX(t:dp):Prop:=0<=t.ai/\t.ai<=1000000/\ -1<=t.CZ/\t.CZ<=212
 omit h hs in
theorem U1{t:dp}(ht:wX t):uD t=some true:=by
  obtain⟨h1,h2,h3,h4⟩:=ht;unfold uD;rw[Qg h1,Qg h2,Qg h3,Qg h4];rfl
 omit h hs in
theorem Oi{c:Int}(hc:0<=c)(hc2:c<=1000000):Yd (lQ c) λw=>1<=w/\w<=12:=by
  unfold lQ
  by_cases h:12<=c
  ·rw[Qg h];exact .some ⟨by decide,by decide⟩
  ·have hadd:aA .i64 c 1=c+1:=bH (by omega) (by omega)
   rw[Qh h,Ql,hadd];refine .some ?_;unfold bF;split<;>omega
 omit hs in
theorem aab:0<=m.ae.ai/\m.ae.ai<=1000:=by
  rcases h.body with k|k|k|k
  ·rw[k.aT];exact⟨by decide,by decide⟩
  ·exact⟨by have:=k.aT.1;omega,k.aT.2.1⟩
  ·exact⟨by have:=k.aT.1;omega,k.aT.2.1⟩
  ·exact⟨by have:=k.aT.1;omega,k.aT.2.1⟩
theorem afa{t:dp}(ht:wX t){now:Int}(h0:0<=now)(h1:now<=200):Yd (An t m now) λq=>wX q.1:=by
 obtain⟨b0,b1⟩:=aab h;unfold An;simp only[etas,U1 ht,Qa,Qo,Ql];rw[Qh (by omega:¬now<0),Qh (by omega:¬(200:Int)<now)]
 simp only[Ql,Qa];refine Yd.bind (aaN h hs) λb _=> ?_
 have off:wX ⟨m.ae.ai, -1⟩:=⟨b0,by show m.ae.ai<=1000000;omega,by show(-1:Int)<= -1;omega,by show(-1:Int)<=212;omega⟩
 cases b with
 |false=>exact .some off
 |true=>
  simp only[Qo,Ql];refine Yd.bind (p:=λ_=>True) (Yd.cond (λ_=> .some trivial) λ_=> .some trivial) λc _=> ?_
  cases c with
  |true=>
   rw[Qk];refine Yd.bind (Oi b0 (by omega)) λw ⟨w1,w2⟩=> ?_
   have hadd:aA .i64 now w=now+w:=bH (by omega) (by omega)
   rw[hadd];exact .some ⟨b0,by show m.ae.ai<=1000000;omega,by show -1<=now+w;omega,by show now+w<=212;omega⟩
  |false=>
   rw[Ql]
   cases decide (t.CZ<=now)with
   |true=>exact .some off
   |false=>exact .some ht
end
end
section
structure ug (nd sl:Int) (k:Int) (x:aM):Prop where
 iV:bs x.af
 lD:fR x.af
 aG:x.af.al=nd
 aJ:x.af.aK=sl
 oJ:cJ x.aB
 qI:1<=x.aB.aH/\x.aB.aH<=1+k
 tK:x.aB.al=nd
 ya:x.aB.aK=sl
 aN:x.aB.aa=x.af.aa
 timer:wX x.Timer
 round:1<=x.Round/\x.Round<=1000
 next:0<=x.Next/\x.Next<=212
structure rJ (nd sl:Int) (k:Int) (x:aM):Prop where
 pre:ug nd sl k x
 done:x.F4=decide (x.af.aQ=3)
 value:x.Value=bif decide (x.af.aQ=3)then x.af.ae.Value else gw
def ug.le{nd sl k k':Int}{x:aM}(h:ug nd sl k x)(hk:k<=k'):ug nd sl k' x:=⟨h.iV,h.lD,h.aG,h.aJ,h.oJ,⟨h.qI.1,by have:=h.qI.2;omega⟩,h.tK,h.ya,h.aN,h.timer,h.round,h.next⟩
def rJ.le{nd sl k k':Int}{x:aM}(h:rJ nd sl k x)(hk:k<=k'):rJ nd sl k' x:=⟨h.pre.le hk,h.done,h.value⟩
def ug.Rq{nd sl k:Int}{x:aM}(h:ug nd sl k x){m:ab}(hm:Dn x.af x.af.aa m):ug nd sl k {x with af:=m}:=⟨hm.inv,hm.seq,hm.aG.trans h.aG,hm.aJ.trans h.aJ,h.oJ,h.qI,h.tK,h.ya,h.aN.trans hm.aN.symm,h.timer,h.round,h.next⟩
def uJ{nd sl k:Int}{x:aM}(h:ug nd sl k x):Yd (eP x) λy=>rJ nd sl k y/\mu x.af y.af/\y.af.aa=x.af.aa:=by
 unfold eP;simp only[etas];refine Yd.join (λv=>ug nd sl k v.1/\mu x.af v.1.af/\v.1.af.aa=x.af.aa) (λv ⟨hv,hst⟩=> ?_) (λj' hj=> ?_)
 ·rw[AW hv.iV hv.lD,Qa];exact .some ⟨⟨⟨hv.iV,hv.lD,hv.aG,hv.aJ,hv.oJ,hv.qI,hv.tK,hv.ya,hv.aN,hv.timer,hv.round,hv.next⟩,rfl,rfl⟩,hst⟩
 ·have same:ug nd sl k x/\mu x.af x.af/\x.af.aa=x.af.aa:=⟨h,λe=>⟨e,rfl⟩,rfl⟩
  refine Yd.bind (Zi h.oJ.kL.sy) λc hc=> ?_
  rw[c6];simp only[Qa]
  have go:c.2.1=false\/kM c.1:=by
   cases e:c.2.1 with
   |false=>exact .inl rfl
   |true=>exact .inr (hc e)
  have hcond:∀b1 b2 b3:Bool,Yd (Option.bind (bif b1 then some b2 else some false) λb5=>Option.bind (bif b5 then some b3 else some false) λb7=>Option.bind (bif b7 then some (!decide (c.1=x.af.bg))else some false) λb8=>(some b8:Option Bool)) λb=>b=true->b1=true:=λb1 b2 b3=>by
   cases b1 with
   |true=>cases b2<;>cases b3<;>exact .some λ_=>rfl
   |false=>exact .some λe=>e
  obtain⟨b8,hb8,hb8'⟩:=hcond c.2.1 (decide (x.af.aQ=1)) (aP x.af.ax)
  have key:∀K:Bool->Option aM,(Option.bind (bif c.2.1 then some (decide (x.af.aQ=1))else some false) λb5=>Option.bind (bif b5 then some (aP x.af.ax)else some false) λb7=>Option.bind (bif b7 then some (!decide (c.1=x.af.bg))else some false) K)=K b8:=by
   intro K;revert hb8
   cases c.2.1 with
   |false=>intro e;cases e;rfl
   |true=>
    cases decide (x.af.aQ=1)with
    |false=>intro e;cases e;rfl
    |true=>
     cases aP x.af.ax with
     |false|true=>intro e;cases e;rfl
  rw[key]
  cases b8 with
  |false=>exact hj (x,()) same
  |true=>
   rw[Qk];have hv:=hc (hb8' rfl);refine Yd.bind (Hu h.iV h.lD hv) λq ⟨h0,hn⟩=> ?_
   rw[h0];exact hj (_,()) ⟨h.Rq hn,hn.ext,hn.aN⟩
def tH{nd sl k:Int}{x:aM}(h:rJ nd sl k x)(hk:k<=999999):kN x=some true:=by
 have p:=h.pre;obtain⟨b,f,hb⟩:=HX (a:=x.aB.aa) (b:=x.af.aa) p.oJ.ask.aN.sm;have hbt:=hb.2 p.aN;subst hbt;unfold kN;simp only[etas,wV p.iV p.lD,Gg p.oJ ⟨p.qI.1,by have:=p.qI.2;omega⟩,f,U1 p.timer,AW p.iV p.lD,Qa,Qo,Ql]
 rw[Qg (p.tK.trans p.aG.symm),Qg (p.ya.trans p.aJ.symm),Qg p.round.1,Qg p.round.2,Qg p.next.1,Qg p.next.2,Qg h.done,Qg h.value]
 rfl
def xw(nd sl:Int)(k:Int)(x y:aM):Prop:=rJ nd sl k y/\mu x.af y.af
def xw.self{nd sl k k':Int}{x:aM}(h:rJ nd sl k x)(hk:k<=k'):xw nd sl k' x x:=⟨h.le hk,λe=>⟨e,rfl⟩⟩
section
variable {nd sl k : Int} {x : aM} (h : rJ nd sl k x) (hk : k <= 999998)
 include h hk
theorem Zf{m:az}(hm:uX m)(hne:m.al≠nd):Yd (fO x m) λq=>(q.2.1=0/\xw nd sl (k+1) x q.1/\q.1.af.aa=x.af.aa)\/q.2.1≠0:=by
 have p:=h.pre;unfold fO;simp only[az.eta,etas,tH h (by omega),Qa,Qo,Ql]
 refine Yd.bind (aiP p.oJ ⟨p.qI.1,by have:=p.qI.2;omega⟩ hm (by rw[p.tK];exact hne)) λq hq=> ?_
 rcases hq with⟨h0,hq⟩|h9
 ·rw[h0];simp only[decide_true,Qo,Ql];have h1:=p.qI;refine Yd.bind (uJ (k:=k+1) (x:={x with aB:=q.1}) ⟨p.iV,p.lD,p.aG,p.aJ,hq.ok,?_,hq.aG.trans p.tK,hq.aJ.trans p.ya,hq.aN.trans p.aN,p.timer,p.round,p.next⟩) λy hy=> .some (.inl ⟨rfl,⟨hy.1,hy.2.1⟩,hy.2.2⟩)
  show 1<=q.1.aH/\q.1.aH<=1+(k+1);rcases hq.seq with e|e<;>rw[e]<;>omega
 ·rw[h9];exact .some (.inr (by show(9:Int)≠0;decide))
theorem aaT{e:ak}(he:Ah x.af e\/(cU e.aa/\bc e=false)):Yd (kV x e) λq=>(q.2.1=0/\xw nd sl k x q.1/\q.1.af.aa=x.af.aa)\/q.2.1≠0:=by
 have p:=h.pre;unfold kV;simp only[etas,tH h (by omega),Qa,Qo,Ql]
 rcases he with he|⟨ht,hv⟩
 ·refine Yd.bind (Vo p.iV p.lD he) λq hq=> ?_
  rcases hq with⟨h0,hq⟩|h9
  ·rw[h0];simp only[decide_true,Qo,Ql];refine Yd.bind (uJ (p.Rq hq)) λy hy=> .some (.inl ⟨rfl,⟨hy.1,λe=> ?_⟩,hy.2.2.trans hq.aN⟩)
   have e1:=hq.ext e;have e2:=hy.2.1 e1.1;exact⟨e2.1,e2.2.trans e1.2⟩
  ·rw[h9];exact .some (.inr (by show(9:Int)≠0;decide))
 ·rw[X1 p.iV p.lD ht (.inl hv)];exact .some (.inr (by show(61:Int)≠0;decide))
theorem aaP{v:ByteArray}(hv:kM v):Yd (pI x v) λq=>(q.2.1=0/\xw nd sl k x q.1/\q.1.af.aa=x.af.aa)\/q.2.1≠0:=by
 have p:=h.pre;unfold pI;simp only[etas,tH h (by omega),Qa,Qo,Ql]
 refine Yd.bind (Hu p.iV p.lD hv) λq ⟨h0,hq⟩=> ?_
 rw[h0];simp only[decide_true,Qo,Ql];refine Yd.bind (uJ (p.Rq hq)) λy hy=> .some (.inl ⟨rfl,⟨hy.1,λe=> ?_⟩,hy.2.2.trans hq.aN⟩)
 have e1:=hq.ext e;have e2:=hy.2.1 e1.1;exact⟨e2.1,e2.2.trans e1.2⟩
theorem Zh{t:aj}(ht:dq t):Yd (n5 x t) λq=>q.2.1=0/\xw nd sl (k+1) x q.1/\q.1.af.aa=t:=by
 have p:=h.pre;unfold n5;simp only[etas,tH h (by omega),Qa,Qo,Ql]
 have h1:=p.qI;refine Yd.bind (ahp p.oJ ⟨p.qI.1,by omega⟩ ht) λq ⟨h0,g1,g2,g3,g4,g5⟩=> ?_
 rw[h0];simp only[decide_true,Qo,Ql];refine Yd.bind (ade p.iV p.lD ht) λr ⟨r0,hr⟩=> ?_
 rw[r0];simp only[decide_true,Qo,Ql];refine Yd.bind (uJ (k:=k+1) (x:={x with aB:=q.1,af:=r.1}) ⟨hr.inv,hr.seq,hr.aG.trans p.aG,hr.aJ.trans p.aJ,g1,?_,g2.trans p.tK,g3.trans p.ya,g4.trans hr.aN.symm,p.timer,p.round,p.next⟩) λy hy=> .some ⟨rfl,⟨hy.1,λe=> ?_⟩,hy.2.2.trans hr.aN⟩
 ·show 1<=q.1.aH/\q.1.aH<=1+(k+1);rcases g5 with e|e<;>rw[e]<;>omega
 ·have e1:=hr.ext e;have e2:=hy.2.1 e1.1;exact⟨e2.1,e2.2.trans e1.2⟩
theorem ae9{now:Int}(h0:0<=now)(h1:now<=200):Yd (tc x now) λq=>q.2.1=0/\xw nd sl (k+1) x q.1/\q.1.af.aa=x.af.aa:=by
 have p:=h.pre;have hsq:=p.qI;have hrd:=p.round;unfold tc;simp only[etas,tH h (by omega),Qa,Qo,Ql]
 rw[Qh (by omega:¬now<0),Qh (by omega:¬(200:Int)<now)]
 simp only[Ql,Qa];refine Yd.join (λv=>xw nd sl (k+1) x v.1/\v.1.af.aa=x.af.aa) (λv ⟨hv,hvt⟩=> ?_) (λj4 hj4=> ?_)
 ·have pv:=hv.1.pre;refine Yd.bind (afa pv.iV pv.lD pv.timer h0 h1) λt ht=> ?_
  refine Yd.join (λw=>xw nd sl (k+1) x w.1/\w.1.af.aa=x.af.aa) (λw hw=> .some ⟨rfl,hw⟩) (λj7 hj7=> ?_)
  have pt:ug nd sl (k+1) {v.1 with Timer:=t.1}:=⟨pv.iV,pv.lD,pv.aG,pv.aJ,pv.oJ,pv.qI,pv.tK,pv.ya,pv.aN,ht,pv.round,pv.next⟩
  cases t.2.1 with
  |false=>exact hj7 (_,()) ⟨⟨⟨pt,hv.1.done,hv.1.value⟩,hv.2⟩,hvt⟩
  |true=>
   rw[Qk];refine Yd.join (λw=>ug nd sl (k+1) w.1/\mu v.1.af w.1.af/\w.1.af.aa=v.1.af.aa) (λw ⟨hw,hst,hwt⟩=> ?_) (λj9 hj9=> ?_)
   ·refine Yd.bind (uJ hw) λy hy=>hj7 (y,()) ⟨⟨hy.1,λe=> ?_⟩,hy.2.2.trans (hwt.trans hvt)⟩
    have e1:=hv.2 e;have e2:=hst e1.1;have e3:=hy.2.1 e2.1;exact⟨e3.1,e3.2.trans (e2.2.trans e1.2)⟩
   ·refine Yd.bind (adb pv.iV pv.lD) λr hr=> ?_
    rcases hr with⟨r0,hr⟩|hr
    ·rw[r0];exact hj9 (_,()) ⟨pt.Rq hr,hr.ext,hr.aN⟩
    ·rw[Qh hr];exact hj9 (_,()) ⟨pt,λe=>⟨e,rfl⟩,rfl⟩
 ·have skip:=hj4 (x,()) ⟨xw.self h (by omega),rfl⟩
  cases decide (((List.length x.aB.aR:Nat):Int)=(0:Int))with
  |false=>exact skip
  |true=>
   simp only[Qk,Qa]
   cases decide (x.Next<=now)with
   |false=>exact skip
   |true=>
    rw[Qk];refine Yd.join (λv=>ug nd sl (k+1) v.1/\v.1.af=x.af) (λv ⟨hv,hm⟩=> ?_) (λj14 hj14=> ?_)
    ·have hvr:=hv.round;have hadd:aA .i64 v.1.Round 1=v.1.Round+1:=bH (by omega) (by omega)
     have hmin:1<=dt (v.1.Round+1) 1000/\dt (v.1.Round+1) 1000<=1000:=by unfold dt;split<;>omega
     rw[hadd];refine Yd.bind (Oi (by omega) (by omega)) λw ⟨w1,w2⟩=> ?_
     have hadd2:aA .i64 now w=now+w:=bH (by omega) (by omega)
     rw[hadd2];refine Yd.bind (uJ (k:=k+1) (x:=⟨v.1.aB,v.1.af,v.1.Timer,dt (v.1.Round+1) 1000,now+w,v.1.F4,v.1.Value⟩) ⟨hv.iV,hv.lD,hv.aG,hv.aJ,hv.oJ,hv.qI,hv.tK,hv.ya,hv.aN,hv.timer,hmin,by show 0<=now+w/\now+w<=212;omega⟩) λy hy=>hj4 (y,()) ?_
     have h2:=hy.2;simp only at h2;rw[hm]at h2;exact⟨⟨hy.1,h2.1⟩,h2.2⟩
    ·refine Yd.bind (ahi p.oJ ⟨p.qI.1,by omega⟩) λq hq=> ?_
     rcases hq with⟨q0,g1,g2,g3,g4,g5⟩|q3
     ·rw[q0];refine hj14 (_,()) ⟨⟨p.iV,p.lD,p.aG,p.aJ,g1,?_,g2.trans p.tK,g3.trans p.ya,g4.trans p.aN,p.timer,p.round,p.next⟩,rfl⟩
      show 1<=q.1.aH/\q.1.aH<=1+(k+1);rcases g5 with e|e<;>rw[e]<;>omega
     ·rw[q3];exact hj14 (x,()) ⟨p.le (by omega),rfl⟩
end
def ai3{nd sl:Int}(hv0:0<=nd)(hv1:nd<10)(hs0:1<=sl)(hs1:sl<=1000000){t:aj}{own:ByteArray}{now:Int}(ht:dq t)(ho:own.size<=200)(h0:0<=now)(h1:now<=200):Yd (nh nd sl t own now) λq=>q.2.1=0/\rJ nd sl 0 q.1/\q.1.af.aa=t:=by
 unfold nh;simp only[etas];rw[Qh (by omega:¬now<0),Qh (by omega:¬(200:Int)<now)]
 simp only[Ql,Qa];rw[acK hv0 hv1 hs0 hs1 ht];simp only[Qa,decide_true,Qo,Ql];refine Yd.bind (Rz ht hv0 hv1 (by omega) hs1 ho) λq ⟨q0,g1,g2,g3,g4,g5⟩=> ?_
 rw[q0];simp only[decide_true,Qo,Ql];refine Yd.bind (Oi (by omega) (by omega)) λw ⟨w1,w2⟩=> ?_
 have hadd2:aA .i64 now w=now+w:=bH (by omega) (by omega)
 rw[hadd2];obtain⟨m1,m2⟩:=RG (aG:=nd) (aJ:=sl) hv0 hv1 hs0 hs1 ht;have ht0:wX ⟨0, -1⟩:=⟨by decide,by decide,by decide,by decide⟩
 refine Yd.bind (uJ (k:=0) (x:=⟨q.1,M4 nd sl t,⟨0, -1⟩,1,now+w,false,bE⟩) ⟨m1,m2,rfl,rfl,g1,by show 1<=q.1.aH/\q.1.aH<=1+0;rw[g5];decide,g2,g3,g4,ht0,⟨(by decide:(1:Int)<=1),(by decide:(1:Int)<=1000)⟩,by show 0<=now+w/\now+w<=212;omega⟩) λy hy=> .some ⟨rfl,hy.1,hy.2.2⟩
end
section
def DR(a b:ByteArray):fo a b=some (xo a b):=by
 simp[fo,xo]
def abW{a b:ByteArray}:decide (0<=xo a b)= !bO a b:=by
 rw[<-wc]
 by_cases h:xo a b<0
 ·rw[Qg h,Qh (by omega)];rfl
 ·rw[Qh h,Qg (by omega)];rfl
def aa1(x:ByteArray):rP x=some (decide (kM x)):=Oj x
def Oz{l:List ByteArray}(h:VL l):iG l=some true:=by
 unfold iG;refine Yd.eq_true (Yd.list l h.sy (λi (_:Unit)=>(i,())) (λ_ _=>True) ?_ ?_ (s:=()) trivial)
 ·intro i y s hs hd hy hi hdec hx hadd;simp only;rw[hdec,Qk,hx,Qa,aa1,Qa,Qg (h.rZ y hy),hadd];simp only[Qo,Ql]
  by_cases h0:i=0
  ·subst h0;rw[Qh (by omega:¬(0:Int)<((0:Nat):Int))]
   exact .some ⟨(),rfl,trivial⟩
  ·rw[Qg (by omega:(0:Int)<(i:Int))]
   simp only[Qk];have hsub:cQ .i64 (i:Int) 1=((i - 1:Nat):Int):=by rw[nT (by omega) (by have:=h.len;omega)];omega
   have hi1:i - 1<l.length:=by omega
   rw[hsub,bf,Qv hi1,Qa,DR,Qa,abW]
   have hyi:y=l[i]:=by
    rw[bf,Qv hi]at hx;exact(Option.some.inj hx).symm
   have hlt:bO l[i - 1] y=true:=by
    rw[hyi];exact List.pairwise_iff_getElem.1 h.GQ (i - 1) i hi1 hi (by omega)
   rw[hlt];exact .some ⟨(),rfl,trivial⟩
 ·intro s hs hdec;simp only;rw[hdec,Ql,Qg (by have:=h.len;omega:(l.length:Int)<=(40:Int))]
  exact .some rfl
def ahw(l:List ByteArray)(hl:l.length<=1000000)(x:ByteArray):Yd (jA l x) λr=>decide (0<=r)=decide (x∈l):=by
 unfold jA;refine Yd.list l hl (λi (_:Unit)=>(i,())) (λi _=>x∉l.take i) ?_ ?_ (s:=()) (by simp)
 ·intro i y s hs hd hy hi hdec hx hadd;simp only;rw[hdec,Qk,hx,Qa,hadd]
  by_cases hxy:x=y
  ·rw[Qg hxy,Qk];refine .some ?_;show decide ((0:Int)<=(i:Int))=decide (x∈l);rw[Qg (by omega:(0:Int)<=(i:Int))]
   exact(Qg (by rw[hxy];exact hy)).symm
  ·rw[Qh hxy,Ql];refine .some ⟨(),rfl,?_⟩
   have hi2:l[i]?=some y:=by
    rw[bf]at hx;exact hx
   rw[List.take_add_one,hi2];simp only[Option.toList_some,Qz,Q5];exact λh=>h.elim hs hxy
 ·intro s hs hdec;simp only;rw[hdec,Ql];rw[Qq62]at hs;refine .some ?_;show decide ((0:Int)<= -1)=decide (x∈l);rw[Qh hs];rfl
def Zw(l:List ByteArray)(hl:l.length<=1000000)(x:ByteArray):k7 l x=some (decide (x∈l)):=by
 obtain⟨r,h1,h2⟩:=ahw l hl x;unfold k7 lH;rw[h1,Qa,Qa,h2]
def Zv{v:Int}(h0:0<=v)(h1:v<10):mf v=some true:=by
 unfold mf;rw[Qg h0,Qg h1];rfl
def Yc{m:az}(h:uX m):nM m=some true:=by
 unfold nM;simp only[etas,Zv h.n0 h.n1,eJ h.aN,Oz h.du,Oz h.eI];rw[Qg h.seq];rfl
def aa7{n:au}(h:cJ n):fl n.aR n=some false:=by
 unfold fl iW;simp only[etas]
 have:=Yd.list (p:=λr:Int=>r= -1) (step:=λ(v1:Int×Unit)=>
   bif (decide (v1.1<((List.length n.aR:Nat):Int)))then
   Option.bind (idx n.aR v1.1) λx2=>
   Option.bind (po x2 n) λr3=>
   bif r3 then
   Option.map Sum.inr (some v1.1)
   else
   some (Sum.inl ((aA .i64 v1.1 (1:Int)),()))
   else
   Option.map Sum.inr (some (-1:Int))) n.aR h.kL.sy (λi (_:Unit)=>(i,())) (λ_ _=>True) ?_ ?_ (s:=()) trivial
 ·obtain⟨r,h1,rfl⟩:=this;rw[h1];rfl
 ·intro i x s _ hd hx' hi hdec hx hadd;simp only;unfold po;rw[hdec,Qk,hx,Qa,hadd,Zw _ h.eI.sy,Qg (h.sub x hx')];exact .some ⟨(),rfl,trivial⟩
 ·intro s _ hdec;simp only;rw[hdec,Ql];exact .some rfl
def X9{n:au}(h:cJ n)(hs:1<=n.aH/\n.aH<=1000000):nL n=some true:=by
 have hlen:=h.len;unfold nL uq;simp only[etas,Zv h.ask.v0 h.ask.v1,eJ h.ask.aN,Oz h.du,Oz h.eI,Oz h.kL,aa7 h];rw[Qg h.ask.s0,Qg h.ask.s1,Qg h.ask.r1,Qg h.ask.r2,Qg hs.1,Qg hs.2,Qh (by have:=h.own;omega:¬(200:Int)<((n.lI.size:Nat):Int))]
 simp only[Ql,Qk,Qa,decide_true,Qo];refine Yd.eq_true ?_;refine Yd.list n.ar (by omega) (λi (_:Unit)=>(i,())) (λ_ _=>True) ?_ ?_ (s:=()) trivial
 ·intro i m s _ hd hm hi hdec hx hadd;obtain⟨hm1,hm2⟩:=h.heard m hm;simp only[aS];rw[hdec,Qk,hx,Qa,hadd];simp only[az.eta];rw[Yc hm1,Qa,Qh hm2];simp only[Qo,Ql]
  by_cases h0:i=0
  ·subst h0;rw[Qh (by omega:¬(0:Int)<((0:Nat):Int))]
   exact .some ⟨(),rfl,trivial⟩
  ·rw[Qg (by omega:(0:Int)<(i:Int))]
   simp only[Qk];have hsub:cQ .i64 (i:Int) 1=((i - 1:Nat):Int):=by rw[nT (by omega) (by omega)];omega
   have hi1:i - 1<n.ar.length:=by omega
   rw[hsub,bf,Qv hi1,Qa]
   have hyi:m=n.ar[i]:=by
    rw[bf,Qv hi]at hx;exact(Option.some.inj hx).symm
   have hlt:n.ar[i - 1].al<m.al:=by
    rw[hyi];exact List.pairwise_iff_getElem.1 h.dn (i - 1) i hi1 hi (by omega)
   rw[Qh (by omega:¬m.al<=n.ar[i - 1].al)]
   exact .some ⟨(),rfl,trivial⟩
 ·intro s _ hdec;simp only;rw[hdec,Ql];exact .some rfl
def ahu{t:dp}(ht:wX t):Bu t=some true:=U1 ht
def M1{nd sl k:Int}{x:aM}(h:rJ nd sl k x)(hk:k<=999999):s9 x=some true:=by
 have p:=h.pre;obtain⟨b,f,hb⟩:=eqT (a:=x.aB.aa) (b:=x.af.aa) p.oJ.ask.aN.sm;have hbt:=hb.2 p.aN;subst hbt;unfold s9;simp only[etas,GK p.iV p.lD,X9 p.oJ ⟨p.qI.1,by have:=p.qI.2;omega⟩,f,ahu p.timer,MZ p.iV p.lD,Qa,Qk]
 rw[Qg (p.tK.trans p.aG.symm),Qg (p.ya.trans p.aJ.symm),Qg p.round.1,Qg p.round.2,Qg p.next.1,Qg p.next.2,Qg h.done,Qg h.value]
 rfl
def wg(l:List ByteArray)(h:l.length<=1000):bP l=some l:=by
 unfold bP;have hk:bl 16 (([]:List ByteArray).length+l.length)=true:=bC ⟨by simp;omega,by simp;omega⟩
 rw[hk]
 cases l with
 |nil|cons x l=>simp
def Ya{t:aj}(h:cU t):nJ t=some t:=(show nJ t=fB t from rfl).trans (ml h)
def aa4{m:az}(ht:cU m.aa)(hv:m.bj.length<=1000)(ha:m.aF.length<=1000):pn m=some m:=by
 unfold pn;simp only[etas,Ya ht,wg _ hv,wg _ ha,Qa]
def ac5{m:az}(ht:cU m.aa)(hv:m.bj.length<=1000)(ha:m.aF.length<=1000):qF m=some m:=by
 unfold qF;simp only[etas,ml ht,wg _ hv,wg _ ha,Qa]
end
section
def aiy{rec:(aj×Unit)->Option aj}{t:aj}(hm:cU t)(hr:∀u∈t.aO,rec (u,())=some u):nS rec t=some t:=by
 have hn:=hm.nodes;have hi:=hm.len;unfold nS;rw[bC ⟨by omega,by omega⟩,Qk]
 simp only[etas]
 have:=Yd.list (p:=λr=>r=t) (step:=λ(v1:Int×aj×(List Int)×(List aj)×Unit)=>
   bif (decide (v1.1<((List.length t.aO:Nat):Int)))then
   Option.bind (idx t.aO v1.1) λx2=>
   Option.bind (rec (x2,())) λr3=>
   bif bl 56 (List.length v1.2.2.2.1+List.length [r3])then
   some (Sum.inl ((aA .i64 v1.1 (1:Int)),(aj.mk v1.2.1.aI ([]:List Int) ([]:List aj)),v1.2.2.1,(v1.2.2.2.1++[r3]),()))
   else none
   else
   Option.map Sum.inr (some (aj.mk v1.2.1.aI v1.2.2.1 v1.2.2.2.1))) t.aO hi (λi (s:List aj)=>(i,(aj.mk t.aI [] []),t.bb,s,())) (λi s=>s=t.aO.take i) ?_ ?_ (s:=[]) (by simp)
 ·obtain⟨r,h1,rfl⟩:=this;exact h1
 ·rintro i x s rfl hd hx' hi' hdec hx hadd;have hi2:t.aO[i]?=some x:=by rw[bf]at hx;exact hx
  simp only;rw[hdec,Qk,hx,Qa,hr x hx',Qa,hadd,bC ⟨by simp;omega,by simp;omega⟩,Qk]
  refine .some ⟨_,rfl,?_⟩;rw[List.take_add_one,hi2];rfl
 ·rintro s rfl hdec;simp only;rw[hdec,Ql,Qq62];exact .some (aj.eta t)
def ait{n:Nat}:∀{t:aj},SizeOf.sizeOf t<n->cU t->wu n (t,())=some t:=by
 induction n with
 |zero=>intro t h;omega
 |succ n ih=>
  intro t hz hm;show nS (wu n) t=some t;exact aiy hm λu hu=>ih (t:=u) (by have:=sf hu;omega) (hm.inner u hu)
def Ve{t:aj}(h:cU t):rS t=some t:=ait (by omega) h
end
section
def ajm{n:Nat}(h:n<4611686018427387904):br .u64 (n:Int)=n:=by
 unfold br IntKind.wrap;simp[IntKind.signed,IntKind.bits];omega
def ahO{i j:Nat}(hi:i<=1000000)(hj:j<=1000000):br .i64 (jH .u64 (br .u64 (aA .i64 (i:Int) (j:Int))) (1:Int))=(((i+j) / 2:Nat):Int):=by
 have h1:aA .i64 (i:Int) (j:Int)=((i+j:Nat):Int):=bH (by omega) (by omega)
 have h4:jH .u64 (((i+j:Nat)):Int) (1:Int)=(((i+j) / 2:Nat):Int):=by
  show(((i+j:Nat)):Int).fdiv 2=_;rw[Int.fdiv_eq_ediv_of_nonneg _ (by decide)]
  exact(Int.natCast_ediv (i+j) 2).symm
 rw[h1,ajm (by omega),h4]
 exact DE _ (by omega)
def Ia{α ρ:Type}(l:List α)(hl:l.length<=1000000)(P:α->Bool)(hp:l.Pairwise λa b=>P b=true->P a=true){step:Int×Int×Unit->Option ((Int×Int×Unit)⊕ρ)}{fin:Nat->Option ρ}
  (h1:∀(i j m:Nat) (x:α),decide ((i:Int)<(j:Int))=true->j<=l.length->br .i64 (jH .u64 (br .u64 (aA .i64 (i:Int) (j:Int))) (1:Int))=(m:Int)->aA .i64 (m:Int) 1=((m+1:Nat):Int)->idx l (m:Int)=some x->step ((i:Int),(j:Int),())=some (.inl (bif P x then(((m+1:Nat):Int),(j:Int),())else((i:Int),(m:Int),()))))
  (h2:∀i:Nat,decide ((i:Int)<(i:Int))=false->i<=l.length->step ((i:Int),(i:Int),())=Option.map Sum.inr (fin i)):
  aD step ((0:Int),(l.length:Int),())=fin (l.takeWhile P).length:=by
 have htw:∀(l:List α),(l.Pairwise λa b=>P b=true->P a=true)->∀i x,l[i]?=some x->(P x=true↔i<(l.takeWhile P).length):=by
  intro l
  induction l with
  |nil=>intro _ i x h;simp at h
  |cons y l ih=>
   intro hp i x h;rw[Q4]at hp
   cases hy:P y with
   |false=>
    rw[List.takeWhile_cons,hy];simp only[Qq,Qu,QZ,Nat.not_lt_zero,iff_false]
    cases i with
    |zero=>simp only[List.getElem?_cons_zero,Qf]at h;rw[<-h,hy];simp
    |succ i=>
     intro hx;have:=hp.1 x (Q8 (by simpa using h)) hx
     rw[hy]at this;cases this
   |true=>
    rw[List.takeWhile_cons,hy];simp only[Qt,QE]
    cases i with
    |zero=>simp only[List.getElem?_cons_zero,Qf]at h;rw[<-h,hy];simp
    |succ i=>
     rw[ih hp.2 i x (by simpa using h)]
     omega
 have hk:(l.takeWhile P).length<=l.length:=(List.takeWhile_sublist P).length_le
 suffices key:∀(d i j:Nat),j=i+d->j<=l.length->i<=(l.takeWhile P).length->(l.takeWhile P).length<=j->aD step ((i:Int),(j:Int),())=fin (l.takeWhile P).length from key l.length 0 l.length (by omega) (QI _) (by omega) hk
 intro d
 induction d using Nat.strongRecOn with
 |_ d ih=>
  intro i j hij hjl hi hj
  by_cases h0:d=0
  ·obtain rfl:j=i:=by omega
   obtain rfl:(l.takeWhile P).length=j:=by omega
   rw[ff,h2 _ (Qh (Qq64 _)) hjl];cases fin (l.takeWhile P).length<;>rfl
  ·have hm:(i+j) / 2<l.length:=by omega
   have hs:=h1 i j ((i+j) / 2) l[(i+j) / 2] (Qg (by omega)) hjl (ahO (by omega) (by omega)) (bH (by omega) (by omega)) (by rw[bf];exact Qv hm)
   have ht:=htw l hp _ _ (Qv hm)
   cases hP:P l[(i+j) / 2]with
   |true=>
    rw[hP]at hs;have:=ht.1 hP;exact(bw hs).trans (ih (j - ((i+j) / 2+1)) (by omega) _ _ (by omega) hjl (by omega) hj)
   |false=>
    rw[hP]at hs;have:¬(i+j) / 2<(l.takeWhile P).length:=λe=>by rw[ht.2 e]at hP;cases hP
    exact(bw hs).trans (ih ((i+j) / 2 - i) (by omega) _ _ (by omega) (by omega) hi (by omega))
def Kr{a b:ByteArray}:decide (xo a b=0)=decide (a=b):=by
 rw[decide_eq_decide];constructor
 ·intro h;have h1:bO a b=false:=by rw[<-wc,h];rfl
  refine jt.total a b h1 ?_;unfold xo at h;unfold bO
  by_cases hs:a.size=b.size
  ·rw[Qr ((we _ _).2 (by rw[hs]))]at h
   rw[Qr hs.symm];unfold NK at h;split at h
   ·cases h
   ·split at h
    ·rename_i h2 h3;simp only[Qn,Qi]at h3;rcases h3 with h3|rfl
     ·exact absurd h3 h2
     ·exact DH _
    ·cases h
  ·rw[Qs (λe=>hs (by have:=(we _ _).1 e;omega))]at h
   exact absurd ((we _ _).1 h) (by omega)
 ·rintro rfl;unfold xo;rw[Qr ((we _ _).2 rfl)];unfold NK;rw[Qs (by rw[DH];simp)]
  simp
def abv{l:List ByteArray}{a:Nat}(ha:a<=l.length)(h:l.length<=1000)(x:ByteArray):jb l (a:Int) [x]=some (l.take a++[x]++l.drop a):=by
 unfold jb CC;rw[Qg (by omega:(0:Int)<=(a:Int)),Qg (by omega:(a:Int)<=(l.length:Int)),lY (by omega) (by simp;omega)]
 rfl
def BS{α:Type}(P:α->Bool):∀(l:List α),(∀j,j<(l.takeWhile P).length->∃y,l[j]?=some y/\P y=true)/\(∀y,l[(l.takeWhile P).length]?=some y->P y=false)
 |[]=>⟨λj h=>by simp at h,λy h=>by simp at h⟩
 |x::l=>by
  obtain⟨h1,h2⟩:=BS P l
  cases hx:P x with
  |false=>
   rw[List.takeWhile_cons,hx];simp only[Qq,Qu,QZ];exact⟨λj h=>by omega,λy h=>by simp only[List.getElem?_cons_zero,Qf]at h;rw[<-h];exact hx⟩
  |true=>
   rw[List.takeWhile_cons,hx];simp only[Qt,QE];refine⟨λj h=> ?_,λy h=>h2 y (by simpa using h)⟩
   cases j with
   |zero=>exact⟨x,rfl,hx⟩
   |succ j=>obtain⟨y,g1,g2⟩:=h1 j (by omega);exact⟨y,by simpa using g1,g2⟩
def MH{α:Type}(P:α->Bool)(l:List α):(l.takeWhile P).length<=l.length:=(List.takeWhile_sublist P).length_le
def aiW{l:List ByteArray}(h:VL l)(x:ByteArray):dB l x=some ((((l.takeWhile λy=>bO y x).length:Nat):Int),decide (x∈l),()):=by
 have hl:=h.len;unfold dB;refine(Ia l h.sy (λy=>bO y x) (h.GQ.imp λ{a b} hab hb=>jt.trans _ _ _ hab hb) (fin:=λk=>some (((k:Nat):Int),decide (l[k]?=some x),())) (λi j m y hd hj hm hadd hx=> ?_) (λi hd hi=> ?_)).trans ?_
 ·simp only[hd,hm,hadd,hx,DR,wc,Qa,Qk];cases bO y x<;>rfl
 ·simp only[hd,Ql]
  by_cases hi2:i<l.length
  ·rw[Qg (by omega:(i:Int)<(l.length:Int))]
   simp only[Qk,bf,Qv hi2,Qa,DR,Kr,Qe,Qf]
  ·rw[Qh (by omega:¬(i:Int)<(l.length:Int)),Qq72 (by omega)]
   rfl
 ·obtain⟨h1,h2⟩:=BS (λy=>bO y x) l
  congr 3;rw[decide_eq_decide];constructor
  ·exact Q8
  ·intro hm;obtain⟨i,hi⟩:=List.getElem?_of_mem hm;have hi':i<l.length:=(Qw.1 hi).1
   have hk:(l.takeWhile λy=>bO y x).length=i:=by
    rcases Nat.lt_trichotomy (l.takeWhile λy=>bO y x).length i with g|g|g
    ·have hk:(l.takeWhile λy=>bO y x).length<l.length:=by omega
     have:=h2 _ (Qv hk);have h3:=List.pairwise_iff_getElem.1 h.GQ _ i hk hi' g;rw[(Qw.1 hi).2,this]at h3;cases h3
    ·exact g
    ·obtain⟨y,g1,g2⟩:=h1 i g;rw[hi]at g1;cases g1;rw[jt.irrefl]at g2;cases g2
   rw[hk];exact hi
def Zu{l:List ByteArray}(h:VL l)(x:ByteArray):iq l x=some (mI l x):=by
 have hl:=h.len;unfold iq mI;rw[aiW h x,Qa]
 by_cases hx:x∈l
 ·rw[Qg hx,Qr (.inl hx)];rfl
 by_cases h40:40<=l.length
 ·rw[Qh hx,Qg (by omega:(40:Int)<=(l.length:Int)),Qr (.inr h40)];rfl
 rw[Qh hx,Qh (by omega:¬(40:Int)<=(l.length:Int)),Qs (λe=>e.elim hx h40)]
 simp only[Ql,Qa,wg l (by omega)]
 rw[abv (MH _ _) (by omega),Qa]
 obtain⟨h1,h2⟩:=BS (λy=>bO y x) l
 rw[R8 x l _ h1 h2,Qs (λe=>hx (Q8 e))]
 simp
def YU(a b:List ByteArray):List ByteArray:=b.foldl (λl x=>dQ bO x l) a
def aeX{a:List ByteArray}(ha:a.Pairwise (λx y=>bO x y=true))(b:List ByteArray):(YU a b).Pairwise (λx y=>bO x y=true)/\∀x,x∈YU a b↔x∈b\/x∈a:=Ka jt b a ha
def acp(a b:List ByteArray):(YU a b).length<=a.length+b.length:=Po b a
def Fv(m:az):List ByteArray:=m.bj++m.aF
def q8(L:List az):List ByteArray:=YU [] (L.flatMap Fv)
def G1(L:List az):(q8 L).Pairwise (λx y=>bO x y=true)/\∀x,x∈q8 L↔∃m∈L,x∈m.bj\/x∈m.aF:=by
 obtain⟨h1,h2⟩:=aeX (a:=[]) List.Pairwise.nil (L.flatMap Fv);refine⟨h1,λx=> ?_⟩
 rw[q8,h2];simp[Fv]
def MJ{l:List ByteArray}(L:List az)(h1:l.Pairwise (λx y=>bO x y=true))(h2:∀x,x∈l↔∃m∈L,x∈m.bj\/x∈m.aF):l=q8 L:=
 jt.unique h1 (G1 L).1 λx=>by rw[h2,(G1 L).2]
def Sg{L:List az}(h:∀m∈L,VL m.bj/\VL m.aF):(L.flatMap Fv).length<=80*L.length:=by
 induction L with
 |nil=>simp
 |cons m L ih=>
  have h1:=ih λx hx=>h x (Qy _ hx)
  have h2:=(h m Qx).1.len;have h3:=(h m Qx).2.len;simp only[List.flatMap_cons,QB,Fv,QE]at h1 ⊢;omega
def SE{L:List az}(h:∀m∈L,VL m.bj/\VL m.aF):(q8 L).length<=80*L.length:=by
 have h1:=acp [] (L.flatMap Fv);have h2:=Sg h;rw[q8];simp only[QZ]at h1;omega
def ahD{L:List az}(h:∀m∈L,VL m.bj/\VL m.aF)(hl:L.length<=100):mU L=some (q8 L):=by
 have hf:=Sg h
 have hsort:∀s:List ByteArray,s.length<1000000->(∀x,x∈s↔∃m∈L,x∈m.bj\/x∈m.aF)->(Option.bind (fY s) λp3=>Option.bind (eO p3.2) λr4=>some r4)=some (q8 L):=by
  intro s hs hmem;obtain⟨t,h1,h2,h3,h4⟩:=jt.YY (cmp:=λx y=>fo x y) DR (λx y=>wc x y) s (by omega)
  have hc:=Dj (eq:=λx y:ByteArray=>decide (x=y)) (ne:=λx y=> !decide (x=y)) (z:=bE) (λ_ _=>rfl) (λ_ _=>rfl) t (by omega)
  have h1':fY s=some ((),t):=h1;have hc':eO t=some (dd t):=hc;rw[h1',Qa,hc',Qa,MJ L h3 (λx=>by rw[h4,hmem])]
 unfold mU
 suffices key:Yd (aD _ ((0:Int),([]:List ByteArray),())) λr=>r=q8 L by
  obtain⟨r,h1,rfl⟩:=key;exact h1
 refine Yd.list L (by omega) (λi (s:List ByteArray)=>(i,s,())) (λi s=>s=(L.take i).flatMap Fv) ?_ ?_ (s:=[]) (by simp)
 ·rintro i m s rfl hd hm hi hdec hx hadd;have hi2:L[i]?=some m:=by rw[bf]at hx;exact hx
  have e:L.take (i+1)=L.take i++[m]:=by rw[List.take_add_one,hi2];rfl
  have hlen:((L.take i).flatMap Fv).length<=80*100:=QK (Sg λx hx=>h x (Q1 hx)) (Nat.mul_le_mul_left _ (by rw[List.length_take];omega))
  have l1:=(h m hm).1.len;have l2:=(h m hm).2.len;simp only;rw[hdec,Qk,hx,Qa,hadd,lY (by omega) (by omega),Qk,lY (by omega) (by rw[QB];omega),Qk]
  refine .some ⟨_,rfl,?_⟩;rw[e,List.flatMap_append];simp[Fv]
 ·rintro s rfl hdec;rw[Qq62];simp only;rw[hdec,Ql,hsort _ (by omega) (λx=>by simp[Fv])]
  exact .some rfl
def KW{a b:List ByteArray}(ha:a.Pairwise (λx y=>bO x y=true))(hb:b.Pairwise (λx y=>bO x y=true))(h:a.length+b.length<=100000):
  Yd (jr a b) λr=>r.Pairwise (λx y=>bO x y=true)/\(∀x,x∈r↔x∈a\/x∈b)/\r.length<=a.length+b.length:=by
 unfold jr;simp only[aS];refine Yd.Fg (λ(v:Int×Int×List ByteArray×Unit)=>∃i k:Nat,v.1=i/\v.2.1=k/\i<=a.length/\k<=b.length/\v.2.2.1.length<=i+k/\v.2.2.1.Pairwise (λx y=>bO x y=true)/\(∀x,x∈v.2.2.1↔x∈a.take i\/x∈b.take k)/\(∀x∈v.2.2.1,(∀y∈a.drop i,bO x y=true)/\∀y∈b.drop k,bO x y=true)) (λv=>a.length+b.length - (v.1.toNat+v.2.1.toNat)) ?_ ⟨0,0,rfl,rfl,by omega,by omega,by simp,List.Pairwise.nil,by simp,λx hx=>absurd hx QR⟩
 rintro⟨i',k',out,u⟩ ⟨i,k,e1,e2,hi,hk,hlen,hpw,hmem,hlt⟩;simp only at e1 e2 hlen hpw hmem hlt;subst e1 e2;have kk:∀x:ByteArray,bl 16 (out.length+[x].length)=true:=λx=>bC ⟨by simp only[Q6];omega,by simp only[Q6];omega⟩
 have hi1:aA .i64 (i:Int) 1=((i+1:Nat):Int):=bH (by omega) (by omega)
 have hk1:aA .i64 (k:Int) 1=((k+1:Nat):Int):=bH (by omega) (by omega)
 have ga:∀h:i<a.length,idx a (i:Int)=some a[i]:=λh=>by rw[bf];exact Qv h
 have gb:∀h:k<b.length,idx b (k:Int)=some b[k]:=λh=>by rw[bf];exact Qv h
 have tail:∀{l:List ByteArray} (hp:l.Pairwise (λx y=>bO x y=true)) {j:Nat} (hj:j<l.length),∀y∈l.drop (j+1),bO l[j] y=true:=by
  intro l hp j hj;have:=hp.sublist (List.drop_sublist j l);rw[QM hj,Q4]at this;exact this.1
 have fin1:∀(x:ByteArray) (j1 j2:Nat),j1<=a.length->j2<=b.length->i<=j1->k<=j2->i+k<j1+j2->(∀y,(y∈a.take j1\/y∈b.take j2)↔y=x\/y∈a.take i\/y∈b.take k)->(x∈a.drop i\/x∈b.drop k)->(∀y∈a.drop j1,bO x y=true)->(∀y∈b.drop j2,bO x y=true)->Yd (bif bl 16 (out.length+[x].length)then some (Sum.inl (((j1:Nat):Int),((j2:Nat):Int),(out++[x]),()))else(none:Option ((Int×Int×List ByteArray×Unit)⊕List ByteArray)))
   (Lp (λs'=>(∃i k:Nat,s'.1=i/\s'.2.1=k/\i<=a.length/\k<=b.length/\s'.2.2.1.length<=i+k/\s'.2.2.1.Pairwise (λx y=>bO x y=true)/\(∀x,x∈s'.2.2.1↔x∈a.take i\/x∈b.take k)/\(∀x∈s'.2.2.1,(∀y∈a.drop i,bO x y=true)/\∀y∈b.drop k,bO x y=true))/\a.length+b.length - (s'.1.toNat+s'.2.1.toNat)<a.length+b.length - ((i:Int).toNat+(k:Int).toNat)) (λr=>r.Pairwise (λx y=>bO x y=true)/\(∀x,x∈r↔x∈a\/x∈b)/\r.length<=a.length+b.length)):=by
  intro x j1 j2 h1 h2 h3 h4 h5 hm hxi hx1 hx2;rw[kk x,Qk];refine .some ⟨⟨j1,j2,rfl,rfl,h1,h2,?_,?_,λy=> ?_,λy hy=> ?_⟩,?_⟩
  ·simp only[QB,Q6];omega
  ·rw[Qq69];refine⟨hpw,List.pairwise_singleton _ _,λy hy z hz=> ?_⟩
   rw[Q5.1 hz];exact hxi.elim ((hlt y hy).1 x) ((hlt y hy).2 x)
  ·rw[Qz,Q5,hmem,hm];exact or_comm
  ·rcases Qz.1 hy with hy|hy
   ·refine⟨λz hz=>(hlt y hy).1 z ?_,λz hz=>(hlt y hy).2 z ?_⟩
    ·rw[show j1=i+(j1 - i)by omega,<-List.drop_drop]at hz
     exact Q2 hz
    ·rw[show j2=k+(j2 - k)by omega,<-List.drop_drop]at hz
     exact Q2 hz
   ·rw[Q5.1 hy];exact⟨hx1,hx2⟩
  ·simp only[QV];omega
 have ta:∀(h:i<a.length) (y:ByteArray),y∈a.take (i+1)↔y=a[i]\/y∈a.take i:=λh y=>by
  rw[Q7 h,Qz,Q5];exact or_comm
 have tb:∀(h:k<b.length) (y:ByteArray),y∈b.take (k+1)↔y=b[k]\/y∈b.take k:=λh y=>by
  rw[Q7 h,Qz,Q5];exact or_comm
 have da:∀h:i<a.length,a[i]∈a.drop i:=λh=>by rw[QM h];exact Qx
 have db:∀h:k<b.length,b[k]∈b.drop k:=λh=>by rw[QM h];exact Qx
 simp only
 by_cases c1:i<a.length
 ·rw[Qg (by omega:(i:Int)<(a.length:Int))]
  simp only[Qk,Qa]
  by_cases c2:k=b.length
  ·rw[Qg (by omega:(k:Int)=(b.length:Int)),ga c1,hi1]
   simp only[Qk,Qa];refine fin1 a[i] (i+1) k (by omega) hk (by omega) (by omega) (by omega) (λy=>by rw[ta c1,or_assoc]) (.inl (da c1)) (tail ha c1) ?_
   rw[c2,Qq66];exact λy hy=>absurd hy QR
  ·have c3:k<b.length:=by omega
   rw[Qh (by omega:¬(k:Int)=(b.length:Int)),ga c1,gb c3,Qh (by omega:¬(i:Int)=(a.length:Int))]
   simp only[Ql,Qa,AX,Fj,Ks,hi1,hk1]
   cases hxy:bO a[i] b[k]with
   |true=>
    refine fin1 a[i] (i+1) k (by omega) hk (by omega) (by omega) (by omega) (λy=>by rw[ta c1,or_assoc]) (.inl (da c1)) (tail ha c1) λy hy=> ?_
    rw[QM c3]at hy;rcases QA.1 hy with rfl|hy
    ·exact hxy
    ·exact jt.trans _ _ _ hxy (tail hb c3 y hy)
   |false=>
    cases hyx:bO b[k] a[i]with
    |true=>
     refine fin1 b[k] i (k+1) hi (by omega) (by omega) (by omega) (by omega) (λy=>by rw[tb c3,or_left_comm]) (.inr (db c3)) (λy hy=> ?_) (tail hb c3)
     rw[QM c1]at hy;rcases QA.1 hy with rfl|hy
     ·exact hyx
     ·exact jt.trans _ _ _ hyx (tail ha c1 y hy)
    |false=>
     have he:a[i]=b[k]:=jt.total _ _ hxy hyx;refine fin1 a[i] (i+1) (k+1) (by omega) (by omega) (by omega) (by omega) (by omega) (λy=> ?_) (.inl (da c1)) (tail ha c1) (by rw[he];exact tail hb c3)
     rw[ta c1,tb c3,<-he];constructor
     ·rintro((h|h)|(h|h))
      ·exact .inl h
      ·exact .inr (.inl h)
      ·exact .inl h
      ·exact .inr (.inr h)
     ·rintro(h|h|h)
      ·exact .inl (.inl h)
      ·exact .inl (.inr h)
      ·exact .inr (.inr h)
 ·rw[Qh (by omega:¬(i:Int)<(a.length:Int))]
  simp only[Ql];have ci:i=a.length:=by omega
  by_cases c2:k<b.length
  ·rw[Qg (by omega:(k:Int)<(b.length:Int)),Qh (by omega:¬(k:Int)=(b.length:Int)),gb c2,Qg (by omega:(i:Int)=(a.length:Int))]
   simp only[Ql,Qk,Qa,hk1];refine fin1 b[k] i (k+1) hi (by omega) (by omega) (by omega) (by omega) (λy=>by rw[tb c2,or_left_comm]) (.inr (db c2)) (λy hy=> ?_) (tail hb c2)
   rw[ci,Qq66]at hy;exact absurd hy QR
  ·rw[Qh (by omega:¬(k:Int)<(b.length:Int))]
   simp only[Ql,Qa];refine .some ⟨hpw,λx=> ?_,by omega⟩
   rw[hmem,ci,Qq62,show k=b.length by omega,Qq62]
def ae8{m:az}(h:VL m.bj/\VL m.aF):jr m.bj m.aF=some (q8 [m]):=by
 have l1:=h.1.len;have l2:=h.2.len;obtain⟨r,h1,h2,h3,_⟩:=KW h.1.GQ h.2.GQ (by omega)
 rw[h1,MJ [m] h2 (λx=>by rw[h3];simp)]
end
section
def yn(n:au):az:=⟨n.al,n.aH,n.aa,n.bj,n.aF⟩
def Yg(b:Bool)(s:Nat)(k:Int):Nat:=if b then s|||2 ^ k.toNat else s
def aa8{b:Bool}{s:Nat}{k:Int}(h:s<1024)(hk:k<10):Yg b s k<1024:=by
 unfold Yg;split
 ·exact Bz h hk
 ·exact h
def G9(x:ByteArray)(s:Nat×Nat)(m:az):Nat×Nat:=(Yg (decide (x∈m.bj)) s.1 m.al,Yg (decide (x∈m.aF)) s.2 m.al)
def lf(L:List az)(x:ByteArray):Nat×Nat:=L.foldl (G9 x) (0,0)
def Re(L:List az):Prop:=L.length<=100/\∀m∈L,0<=m.al/\m.al<10/\VL m.bj/\VL m.aF
def SK{x:ByteArray}:∀{L:List az} (h:∀m∈L,0<=m.al/\m.al<10/\VL m.bj/\VL m.aF) {s:Nat×Nat},s.1<1024->s.2<1024->(L.foldl (G9 x) s).1<1024/\(L.foldl (G9 x) s).2<1024
 |[],_,s,h1,h2=>⟨h1,h2⟩
 |m::L,h,s,h1,h2=>by
  obtain⟨_,g,_⟩:=h m Qx;exact SK (L:=L) (λy hy=>h y (Qy _ hy)) (aa8 h1 g) (aa8 h2 g)
def BT{L:List az}(h:Re L)(x:ByteArray):(lf L x).1<1024/\(lf L x).2<1024:=SK h.2 (by decide) (by decide)
def N4{L:List az}(h:Re L)(x:ByteArray){step:Int×Int×Int×Unit->Option ((Int×Int×Int×Unit)⊕(Int×Int×Unit))}
  (h1:∀(i a b:Nat) (m:az),decide ((i:Int)<(L.length:Int))=true->idx L (i:Int)=some m->L[Int.toNat (i:Int)]?=some m->aA .i64 (i:Int) 1=((i+1:Nat):Int)->0<=m.al->m.al<10->VL m.bj->VL m.aF->a<1024->b<1024->step ((a:Int),(b:Int),(i:Int),())=some (.inl (((G9 x (a,b) m).1:Int),((G9 x (a,b) m).2:Int),((i+1:Nat):Int),())))
  (h2:∀a b:Nat,decide ((L.length:Int)<(L.length:Int))=false->step ((a:Int),(b:Int),(L.length:Int),())=Option.map Sum.inr (some ((a:Int),(b:Int),()))):
  aD step ((0:Int),(0:Int),(0:Int),())=some (((lf L x).1:Int),((lf L x).2:Int),()):=by
 suffices key:Yd (aD step ((0:Int),(0:Int),(0:Int),())) λr=>r=(((lf L x).1:Int),((lf L x).2:Int),())by
  obtain⟨r,g,rfl⟩:=key;exact g
 refine Yd.list L (by have:=h.1;omega) (λi (s:Int×Int)=>(s.1,s.2,i,())) (λi s=>s=(((lf (L.take i) x).1:Int),((lf (L.take i) x).2:Int))) ?_ ?_ (s:=(0,0)) rfl
 ·rintro i m s rfl hd hm hi hdec hx hadd;obtain⟨g0,g1,gv,ga⟩:=h.2 m hm;have hlt:=BT (L:=L.take i) ⟨by rw[List.length_take];have:=h.1;omega,λy hy=>h.2 y (Q1 hy)⟩ x
  have e:L.take (i+1)=L.take i++[m]:=by rw[List.take_add_one,show L[i]?=some m by rw[bf]at hx;exact hx];rfl
  refine .of_eq (h1 i _ _ m hdec hx (Sb hx) hadd g0 g1 gv ga hlt.1 hlt.2) ⟨(_,_),rfl,?_⟩;rw[e];simp only[lf,List.foldl_append,QU,List.foldl_nil]
 ·rintro s rfl hdec;rw[Qq62];exact .of_eq (h2 _ _ hdec) rfl
def PU{b:Bool}{s:Nat}{k:Int}(h:s<1024)(h0:0<=k)(h1:k<10):(if b then sx .i64 (s:Int) (bW .i64 (1:Int) k)else(s:Int))=((Yg b s k:Nat):Int):=by
 cases b with
 |true=>simp only[Qt,Yg];exact qL h h0 h1
 |false=>rfl
def Yb{L:List az}(h:Re L)(x:ByteArray):gz L x=some (((lf L x).1:Int),((lf L x).2:Int),()):=by
 unfold gz;refine N4 h x (λi a b m hd hx hx2 hadd g0 g1 gv ga ha hb=> ?_) (λa b hd=> ?_)
 ·have e1:=PU (b:=decide (x∈m.bj)) ha g0 g1;have e2:=PU (b:=decide (x∈m.aF)) hb g0 g1;simp only[hd,hx,hadd,Qk,Qa,aS,Zw _ gv.sy,Zw _ ga.sy,G9,<-e1,<-e2,Qs (show¬m.al<0 by omega)]
  cases decide (x∈m.bj)<;>cases decide (x∈m.aF)<;>rfl
 ·simp only[hd,Ql]
def cJ.said{n:au}(h:cJ n):Re (n.ar++[yn n]):=⟨by have:=h.len;simp;omega,N6 h⟩
def X0{n:au}(h:cJ n)(x:ByteArray):kO n x=some (((lf (n.ar++[yn n]) x).1:Int),((lf (n.ar++[yn n]) x).2:Int),()):=by
 have hlen:=h.len;unfold kO BQ;simp only[etas,Qa,aS];rw[lY (by omega) (by simp;omega),Qk,lY (by omega) (by simp;omega),Qk]
 simp only[List.nil_append];refine N4 h.said x (λi a b m hd hx hx2 hadd g0 g1 gv ga ha hb=> ?_) (λa b hd=> ?_)
 ·have e1:=PU (b:=decide (x∈m.bj)) ha g0 g1;have e2:=PU (b:=decide (x∈m.aF)) hb g0 g1;show(λ_=>_) _=_
  unfold yn at hd hx hx2;simp only[hd,hx,hx2,hadd,Qk,Qa,Ju _ gv.sy,Ju _ ga.sy,G9,<-e1,<-e2,Qs (show¬m.al<0 by omega)]
  cases decide (x∈m.bj)<;>cases decide (x∈m.aF)<;>rfl
 ·unfold yn at hd ⊢;simp only[hd,Ql]
def Hv(m:az):cF:=⟨m.al,m.aH,m.aa,[],[]⟩
def Hb(l:List bh)(m:cF):List bh:=l.set m.al.toNat ⟨true,m.aa⟩
def oG(n:au):List bh:=((n.ar.map Hv).foldl Hb (List.replicate 10 ⟨false,xI⟩)).set n.al.toNat ⟨true,n.aa⟩
structure Cn (m:cF):Prop where
 n0:0<=m.al
 n1:m.al<10
 seq:1<=m.aH
 aN:dq m.aa
 du:m.bj=[]
 eI:m.aF=[]
def uX.msg{m:az}(h:uX m):Cn (Hv m):=⟨h.n0,h.n1,h.seq,h.aN,rfl,rfl⟩
def afd{m:cF}(h:Cn m):qX m=some true:=by
 have hc:oD []=some true:=by
  unfold oD;exact bM rfl
 unfold qX;simp only[etas,h.du,h.eI,hc,dH h.aN];rw[Qg h.n0,Qg h.n1,Qg h.seq];rfl
def afx{m:cF}(h:Cn m):sI m=some true:=by
 have hc:tz []=some true:=by
  unfold tz;exact bM rfl
 unfold sI qt;simp only[etas,h.du,h.eI,hc,eJ h.aN];rw[Qg h.n0,Qg h.n1,Qg h.seq];rfl
def Ha:∀{l:List cF} (h:∀m∈l,Cn m) {r:List bh},s6 r->s6 (l.foldl Hb r)
 |[],_,r,hr=>hr
 |m::l,h,r,hr=>Ha (l:=l) (λy hy=>h y (Qy _ hy)) (hr.set _ (h m Qx).aN.sm)
def Y4:s6 (List.replicate 10 ⟨false,xI⟩):=⟨by rw[List.length_replicate],λm hm=>by rw[(List.mem_replicate.1 hm).2];exact ON⟩
def UP{l:List cF}(h:∀m∈l,Cn m)(hl:l.length<=1000){fin:List bh->Option bd}{step:Int×bd×List bh×Unit->Option ((Int×bd×List bh×Unit)⊕bd)}
  (h1:∀(i:Nat) (m:cF) (s:List bh) (y:bh),decide ((i:Int)<(l.length:Int))=true->idx l (i:Int)=some m->aA .i64 (i:Int) 1=((i+1:Nat):Int)->m∈l->Cn m->idx s m.al=some y->s[m.al.toNat]?=some y->step ((i:Int),bd.mk [],s,())=some (.inl (((i+1:Nat):Int),bd.mk [],Hb s m,())))
  (h2:∀s,decide ((l.length:Int)<(l.length:Int))=false->s6 s->step ((l.length:Int),bd.mk [],s,())=Option.map Sum.inr (fin s)):
  aD step ((0:Int),bd.mk [],List.replicate 10 ⟨false,xI⟩,())=fin (l.foldl Hb (List.replicate 10 ⟨false,xI⟩)):=by
 suffices key:∀(k i:Nat),i+k=l.length->aD step ((i:Int),bd.mk [],(l.take i).foldl Hb (List.replicate 10 ⟨false,xI⟩),())=fin (l.foldl Hb (List.replicate 10 ⟨false,xI⟩))from key l.length 0 (by omega)
 intro k
 induction k with
 |zero=>
  intro i hi;obtain rfl:i=l.length:=by omega
  rw[Qq62,ff,h2 _ (Qh (Qq64 _)) (Ha h Y4)];cases fin (l.foldl Hb (List.replicate 10 ⟨false,xI⟩))<;>rfl
 |succ k ih=>
  intro i hi;have hlt:i<l.length:=by omega
  have hm:=h l[i] (Q0 hlt);obtain⟨y,g1,g2⟩:=(Ha (l:=l.take i) (λz hz=>h z (Q1 hz)) Y4).get hm.n0 hm.n1
  have hs:=h1 i l[i] _ y (Qg (by omega)) (by rw[bf];exact Qv hlt) (bH (by omega) (by omega)) (Q0 hlt) hm g1 g2
  refine(bw hs).trans ?_;have:=ih (i+1) (by omega)
  rw[Q7 hlt,List.foldl_append]at this;exact this
def UD:(decide ((10:Int)<=(10:Int))&&decide (0<=(10:Int))&&bl 64 (Int.toNat (10:Int)))=true:=by
 rw[bC (by decide)];rfl
section
variable {v : Int} {t : aj} (h0 : 0 <= v) (h1 : v < 10) (ht : dq t) {l : List cF} (hl : l.length <= 1000) (h : ∀ m ∈ l, Cn m)
 include h0 h1 ht hl h
theorem acI:ql v t l=some ⟨(l.foldl Hb (List.replicate 10 ⟨false,xI⟩)).set v.toNat ⟨true,t⟩⟩:=by
 unfold ql;rw[UD,Qk];simp only[etas,aS];refine(UP h hl (fin:=λs=>some ⟨s.set v.toNat ⟨true,t⟩⟩) (λi m s y hd hx hadd hm hmo g1 g2=> ?_) (λs hd hr=> ?_)).trans rfl
 ·simp only[hd,hx,hadd,Qk,Qa,cF.eta,afd hmo,g1,g2];rfl
 ·obtain⟨x,g1,g2⟩:=hr.get h0 h1;have hr2:=hr.set v.toNat (m:=⟨false,⟨0,[],[]⟩⟩) ON;obtain⟨x2,k1,k2⟩:=hr2.get h0 h1;simp only[hd,Ql,Qg h0,Qg h1,Qk,Qa,g1,g2,dH ht,decide_true,k1,k2,List.set_set]
theorem ac1(hne:∀m∈l,m.al≠v):qu v t l=some ⟨(l.foldl Hb (List.replicate 10 ⟨false,xI⟩)).set v.toNat ⟨true,t⟩⟩:=by
 unfold qu qt;rw[UD,Qk];simp only[etas,aS];refine(UP h hl (fin:=λs=>some ⟨s.set v.toNat ⟨true,t⟩⟩) (λi m s y hd hx hadd hm hmo g1 g2=> ?_) (λs hd hr=> ?_)).trans rfl
 ·simp only[hd,hx,hadd,Qk,Qa,cF.eta,Qh (hne m hm),Qp,afx hmo,Ve hmo.aN.sm,g1,g2];rfl
 ·obtain⟨x,g1,g2⟩:=hr.get h0 h1;simp only[hd,Ql,Qg h0,Qg h1,Qk,Qa,g1,g2,eJ ht,decide_true,Ve ht.sm]
end
def Tk{L:List az}(hl:L.length<=100){fin:List cF->Option bd}{step:Int×List cF×Unit->Option ((Int×List cF×Unit)⊕bd)}
  (h1:∀(i:Nat) (m:az) (s:List cF),decide ((i:Int)<(L.length:Int))=true->idx L (i:Int)=some m->aA .i64 (i:Int) 1=((i+1:Nat):Int)->s.length=i->step ((i:Int),s,())=some (.inl (((i+1:Nat):Int),s++[Hv m],())))
  (h2:∀s,decide ((L.length:Int)<(L.length:Int))=false->step ((L.length:Int),s,())=Option.map Sum.inr (fin s)):
  aD step ((0:Int),[],())=fin (L.map Hv):=by
 suffices key:∀(k i:Nat),i+k=L.length->aD step ((i:Int),(L.take i).map Hv,())=fin (L.map Hv)from key L.length 0 (by omega)
 intro k
 induction k with
 |zero=>
  intro i hi;obtain rfl:i=L.length:=by omega
  rw[Qq62,ff,h2 _ (Qh (Qq64 _))];cases fin (L.map Hv)<;>rfl
 |succ k ih=>
  intro i hi;have hlt:i<L.length:=by omega
  have hs:=h1 i L[i] ((L.take i).map Hv) (Qg (by omega)) (by rw[bf];exact Qv hlt) (bH (by omega) (by omega)) (by simp;omega)
  refine(bw hs).trans ?_;have:=ih (i+1) (by omega)
  rw[Q7 hlt,List.map_append]at this;exact this
section
variable {n : au} (h : cJ n)
 include h
theorem cJ.adf:∀m∈n.ar.map Hv,Cn m:=λm hm=>by
 obtain⟨x,hx,rfl⟩:=QP.1 hm;exact(h.heard x hx).1.msg
theorem C0:AO ⟨oG n⟩:=((Ha h.adf Y4).set n.al.toNat (m:=⟨true,n.aa⟩) h.ask.aN.sm).sc
theorem aaM:lS n=some ⟨oG n⟩:=by
 have hlen:=h.len;unfold lS;simp only[etas];refine(Tk (L:=n.ar) (by omega) (fin:=λs=>Option.bind (ql n.al n.aa s) λr3=>some r3) (λi m s hd hx hadd hs=> ?_) (λs hd=> ?_)).trans ?_
 ·simp only[hd,hx,hadd,Qk,Qa];rw[lY (by omega) (by simp only[Q6];have:=of_decide_eq_true hd;omega)]
  rfl
 ·simp only[hd,Ql]
 ·rw[acI h.ask.v0 h.ask.v1 h.ask.aN (by simp;omega) h.adf]
  rfl
theorem aht:oU n=some ⟨oG n⟩:=by
 have hlen:=h.len;unfold oU;simp only[etas];refine(Tk (L:=n.ar) (by omega) (fin:=λs=>Option.bind (qu n.al n.aa s) λr3=>some r3) (λi m s hd hx hadd hs=> ?_) (λs hd=> ?_)).trans ?_
 ·simp only[hd,hx,hadd,Qk,Qa];rw[lY (by omega) (by simp only[Q6];have:=of_decide_eq_true hd;omega)]
  rfl
 ·simp only[hd,Ql]
 ·rw[ac1 h.ask.v0 h.ask.v1 h.ask.aN (by simp;omega) h.adf (λm hm=>by
   obtain⟨x,hx,rfl⟩:=QP.1 hm
   exact(h.heard x hx).2)]
  rfl
end
 def sj(n:au)(x:ByteArray):Bool:= !decide (x∈n.aF)&&decide (n.aF.length<40)&&rC (oG n) n.al.toNat (lf (n.ar++[yn n]) x).1 (lf (n.ar++[yn n]) x).2
 def KM(n:au)(x:ByteArray):Bool:=(gq (oG n) (lf (n.ar++[yn n]) x).2).testBit n.al.toNat
def ft(n:au):List ByteArray:=q8 (n.ar++[yn n])
section
variable {n : au} (h : cJ n)
 include h
theorem aen(x:ByteArray):sv n x=some (sj n x):=by
 obtain⟨hn,hn10⟩:=Bb h;obtain⟨l1,l2⟩:=BT h.said x;have hf:=wJ (C0 h) hn10 l1 l2;rw[<-hn]at hf;unfold sv sj;simp only[etas,aS,X0 h,Ju _ h.eI.sy,aaM h,hf,Qa];have hd:decide ((n.aF.length:Int)<40)=decide (n.aF.length<40):=by rw[decide_eq_decide];omega
 rw[hd];cases decide (x∈n.aF)<;>cases decide (n.aF.length<40)<;>rfl
theorem HQ:∀m∈n.ar++[yn n],VL m.bj/\VL m.aF:=λm hm=>⟨(N6 h m hm).2.2.1,(N6 h m hm).2.2.2⟩
theorem To:(ft n).length<=880:=by
 have h1:=SE (HQ h);have:=h.len;rw[QB,Q6]at h1;unfold ft;omega
theorem abr{x:ByteArray}(hx:x∈ft n):kM x:=by
 obtain⟨m,hm,g⟩:=((G1 _).2 x).1 hx;exact g.elim ((HQ h m hm).1.rZ x) ((HQ h m hm).2.rZ x)
theorem aff:oC n=some (ft n):=by
 have hlen:=h.len;have l1:=h.du.len;have l2:=h.eI.len;unfold oC;obtain⟨r,k0,k1,k2,k3⟩:=KW h.du.GQ h.eI.GQ (by omega)
 rw[k0,Qa]
 suffices key:Yd (aD _ (r,(0:Int),())) λq=>q=ft n by
  obtain⟨q,g,rfl⟩:=key;exact g
 refine Yd.list n.ar (by omega) (λi (s:List ByteArray)=>(s,i,())) (λi s=>s.Pairwise (λx y=>bO x y=true)/\s.length<=80+80*i/\∀x,x∈s↔(x∈n.bj\/x∈n.aF)\/∃m∈n.ar.take i,x∈m.bj\/x∈m.aF) ?_ ?_ ⟨k1,by omega,λx=>by rw[k2];simp⟩
 ·rintro i m s ⟨s1,s2,s3⟩ hd hm hi hdec hx hadd;have hmy:=(h.heard m hm).1;have l3:=hmy.du.len;have l4:=hmy.eI.len;obtain⟨r4,g0,g1,g2,g3⟩:=KW hmy.du.GQ hmy.eI.GQ (by omega)
  obtain⟨r5,e0,e1,e2,e3⟩:=KW s1 g1 (by omega)
  simp only;rw[hdec,Qk,hx,Qa,hadd,g0,Qa,e0];refine .some ⟨r5,rfl,e1,by omega,λx=> ?_⟩
  have e:n.ar.take (i+1)=n.ar.take i++[m]:=by rw[List.take_add_one,show n.ar[i]?=some m by rw[bf]at hx;exact hx];rfl
  rw[e2,s3,g2,e];simp only[Qz,Q5,or_assoc];constructor
  ·rintro(a|a|⟨m',a,b⟩|a)
   ·exact .inl a
   ·exact .inr (.inl a)
   ·exact .inr (.inr ⟨m',.inl a,b⟩)
   ·exact .inr (.inr ⟨m,.inr rfl,a⟩)
  ·rintro(a|a|⟨m',a|rfl,b⟩)
   ·exact .inl a
   ·exact .inr (.inl a)
   ·exact .inr (.inr (.inl ⟨m',a,b⟩))
   ·exact .inr (.inr (.inr b))
 ·rintro s ⟨s1,s2,s3⟩ hdec;rw[Qq62]at s3;simp only;rw[hdec,Ql];refine .some (MJ _ s1 λx=> ?_)
  rw[s3];simp only[Qz,Q5];constructor
  ·rintro(a|⟨m',a,b⟩)
   ·exact⟨yn n,.inr rfl,a⟩
   ·exact⟨m',.inl a,b⟩
  ·rintro⟨m',a|rfl,b⟩
   ·exact .inr ⟨m',a,b⟩
   ·exact .inl b
theorem Wx:cn n.ar=some n.ar:=by
 have hlen:=h.len;unfold cn;have hk:bl 120 (([]:List az).length+n.ar.length)=true:=lY (by omega) (by simp;omega)
 rw[hk]
 cases n.ar with
 |nil|cons x l=>simp
theorem aa3:jO n ⟨oG n⟩=some (match(ft n).find? (sj n)with|some x=>(x,true,())|none=>(⟨#[]⟩,false,())):=by
 have hlen:=h.len;obtain⟨hn,hn10⟩:=Bb h;have hkl:=To h;unfold jO mT;simp only[etas,Wx h,Qa];rw[lY (by omega) (by simp;omega),Qk]
 have hall:mU (n.ar++[(⟨n.al,n.aH,n.aa,n.bj,n.aF⟩:az)])=some (ft n):=ahD (HQ h) h.said.1;rw[hall,Qa];refine(zC (ft n) (by omega) (sj n) (f:=λ_ x=>some (x,true,())) (fin:=some (⟨#[]⟩,false,())) (λi x hi hx0 hd hx hadd=> ?_) (λ_ hd=> ?_)).trans ?_
 ·obtain⟨l1,l2⟩:=BT h.said x;have hf:=CD (C0 h) hn10 l1 l2;rw[<-hn]at hf;have hsay:gz (n.ar++[(⟨n.al,n.aH,n.aa,n.bj,n.aF⟩:az)]) x=_:=Yb h.said x;have hd4:decide ((n.aF.length:Int)<40)=decide (n.aF.length<40):=by rw[decide_eq_decide];omega
  simp only[hd,hx,hadd,Qk,Qa,hsay,Zw _ h.eI.sy,hf,hd4,sj];cases decide (x∈n.aF)<;>cases decide (n.aF.length<40)<;>cases rC (oG n) n.al.toNat (lf (n.ar++[yn n]) x).1 (lf (n.ar++[yn n]) x).2<;>rfl
 ·simp only[hd,Ql]
 ·cases hf:(ft n).findIdx? (sj n)with
  |none=>
   have:(ft n).find? (sj n)=none:=List.find?_eq_none.2 λx hx=>by rw[List.findIdx?_eq_none_iff.1 hf x hx];simp
   rw[this]
  |some i=>
   obtain⟨hi,hp,hpre⟩:=List.findIdx?_eq_some_iff_getElem.1 hf;have:(ft n).find? (sj n)=some (ft n)[i]:=List.find?_eq_some_iff_getElem.2 ⟨hp,i,hi,rfl,λj hj=>by simpa using hpre j hj⟩
   rw[this];simp only[Qv hi,Qa]
end
end
section
def Sc(x:Int):List aj->Bool
 |[]=>false
 |u::_=>decide (x∈u.bb)
def VY(t:aj)(x:Int):Bool:=decide (x∈t.bb)||Sc x t.aO
def ub(t:aj):Int:=((t.bb.length+t.aO.length:Nat):Int)
def Ir(t:aj)(x:Int):eV×Bool×Unit:=if VY t x then(⟨t.aI,ub t⟩,true,())else(⟨0,0⟩,false,())
def den_add(t:aj)(h:t.bb.length+t.aO.length<=1000):aA .i64 (t.bb.length:Int) (t.aO.length:Int)=ub t:=by
 rw[bH (by omega) (by omega)]
 unfold ub;omega
def aeu{a b:Int}(h0:0<=a*b)(h:a*b<=9223372036854775807):pX .i64 a b=a*b:=wrap64 (by omega) h
def ahB(l:List Int)(hl:l.length<=1000000)(x:Int):lA l x=some (decide (x∈l)):=by
 unfold lA ss
 have:=Yd.list (p:=λr=>decide (0<=r)=decide (x∈l)) (step:=λ(v1:Int×Unit)=>
   bif (decide (v1.1<((List.length l:Nat):Int)))then
   Option.bind (idx l v1.1) λx2=>
   bif (decide (x=x2))then
   Option.map Sum.inr (some v1.1)
   else
   some (Sum.inl ((aA .i64 v1.1 (1:Int)),()))
   else
   Option.map Sum.inr (some (-1:Int))) l hl (λi (_:Unit)=>(i,())) (λi _=>x∉l.take i) ?_ ?_ (s:=()) (by simp)
 ·obtain⟨r,h1,h2⟩:=this;rw[h1,Qa,h2]
 ·intro i y s hs hd hy hi hdec hx hadd;simp only;rw[hdec,Qk,hx,Qa,hadd]
  by_cases hxy:x=y
  ·rw[Qg hxy,Qk];refine .some ?_;show decide ((0:Int)<=(i:Int))=decide (x∈l);rw[Qg (by omega:(0:Int)<=(i:Int))]
   exact(Qg (by rw[hxy];exact hy)).symm
  ·rw[Qh hxy,Ql];refine .some ⟨(),rfl,?_⟩;rw[List.take_add_one,show l[i]?=some y by rw[bf]at hx;exact hx]
   simp only[Option.toList_some,Qz,Q5];exact λh=>h.elim hs hxy
 ·intro s hs hdec;simp only;rw[hdec,Ql];rw[Qq62]at hs;refine .some ?_;show decide ((0:Int)<= -1)=decide (x∈l);rw[Qh hs];rfl
def abe{ρ:Type}(l:List Int)(hl:l.length<=1000000)(x:Int)(z:eV){hit:Option ρ}{fin:Option ρ}{step:Int×eV×Unit->Option ((Int×eV×Unit)⊕ρ)}
  (h1:∀(i:Nat) (y:Int),decide ((i:Int)<(l.length:Int))=true->idx l (i:Int)=some y->aA .i64 (i:Int) 1=((i+1:Nat):Int)->step ((i:Int),z,())=bif decide (y=x)then Option.map Sum.inr hit else some (.inl (((i+1:Nat):Int),z,())))
  (h2:decide ((l.length:Int)<(l.length:Int))=false->step ((l.length:Int),z,())=Option.map Sum.inr fin):
  aD step ((0:Int),z,())=if x∈l then hit else fin:=by
 suffices key:∀(k i:Nat),i+k=l.length->aD step ((i:Int),z,())=if x∈l.drop i then hit else fin from by
  have:=key l.length 0 (by omega)
  rw[List.drop_zero]at this;exact this
 intro k
 induction k with
 |zero=>
  intro i hi;obtain rfl:i=l.length:=by omega
  rw[ff,h2 (Qh (Qq64 _)),Qq66,Qs QR];cases fin<;>rfl
 |succ k ih=>
  intro i hi;have hlt:i<l.length:=by omega
  have hs:=h1 i l[i] (Qg (by omega)) (by rw[bf];exact Qv hlt) (bH (by omega) (by omega))
  rw[QM hlt]
  by_cases hy:l[i]=x
  ·rw[Qg hy,Qk]at hs;rw[ff,hs,Qr (by rw[<-hy];exact Qx)]
   cases hit<;>rfl
  ·rw[Qh hy,Ql]at hs;rw[bw hs,ih (i+1) (by omega)]
   by_cases hm:x∈l.drop (i+1)
   ·rw[Qr hm,Qr (Qy _ hm)]
   ·rw[Qs hm,Qs (λe=>(QA.1 e).elim (λe=>hy e.symm) hm)]
def Pp{l:List aj}(hl:l=[]\/∃y,l=[⟨1,[y],[]⟩]){x:Int}{th n:Int}(hth:1<=th/\th<=1000)(hn:1<=n/\n<=1000)(z:eV){rec:aj->Option (eV×Bool×Unit)}
  (hr:∀y,l=[⟨1,[y],[]⟩]->rec ⟨1,[y],[]⟩=some (Ir ⟨1,[y],[]⟩ x)) {step:Int×eV×Unit->Option ((Int×eV×Unit)⊕(eV×Bool×Unit))}
  (h1:∀(i:Nat) (u:aj),decide ((i:Int)<(l.length:Int))=true->idx l (i:Int)=some u->aA .i64 (i:Int) 1=((i+1:Nat):Int)->step ((i:Int),z,())=Option.bind (rec u) λr=>bif r.2.1 then Option.map Sum.inr (some (⟨pX .i64 th r.1.TS,pX .i64 n r.1.TT⟩,true,()))else some (.inl (((i+1:Nat):Int),z,())))
  (h2:decide ((l.length:Int)<(l.length:Int))=false->step ((l.length:Int),z,())=Option.map Sum.inr (some (⟨0,0⟩,false,()))):
  aD step ((0:Int),z,())=some (if Sc x l then(⟨th,n⟩,true,())else(⟨0,0⟩,false,())):=by
 rcases hl with rfl|⟨y,rfl⟩
 ·exact bM (h2 (by decide))
 ·have g:=h1 0 _ (by simp) rfl rfl
  rw[hr y rfl]at g;simp only[Qa,Ir,VY,Sc,Bool.or_false,ub,Q6,QZ]at g
  by_cases hx:x∈[y]
  ·simp only[Qg hx,Qt,Qk]at g;rw[aeu (by omega) (by omega),aeu (by simp;omega) (by simp;omega)]at g
   refine bM (g.trans ?_);simp only[Sc,Qg hx,Qt,Int.mul_one];simp
  ·simp only[Qh hx,Qq,Qu,Ql]at g;refine(bw g).trans ((bM (h2 (by simp))).trans ?_)
   simp only[Sc,Qh hx,Qq,Qu]
def dq.abw{t:aj}(h:dq t):t.aO=[]\/∃y,t.aO=[⟨1,[y],[]⟩]:=h.inner.elim .inl λ⟨x,_,_,e⟩=> .inr ⟨x,e⟩
def dq.total{t:aj}(h:dq t):t.bb.length+t.aO.length<=11/\1<=t.bb.length+t.aO.length:=by
 have h1:=h.len;have h2:=h.th;rcases h.inner with e|⟨_,_,_,e⟩<;>rw[e]at h2 ⊢<;>simp only[QZ,Q6]at h2 ⊢<;>omega
def X8{rec:(aj×Int×Unit)->Option (eV×Bool×Unit)}{t:aj}{x:Int}(h1:t.aO=[]\/∃y,t.aO=[⟨1,[y],[]⟩])(hn:t.bb.length<=100)(hth:1<=t.aI/\t.aI<=1000)(hd:1<=t.bb.length+t.aO.length)
  (hr:∀y,t.aO=[⟨1,[y],[]⟩]->rec (⟨1,[y],[]⟩,x,())=some (Ir ⟨1,[y],[]⟩ x)):mW rec t x=some (Ir t x):=by
 have hl:t.aO.length<=1:=by rcases h1 with e|⟨_,e⟩<;>rw[e]<;>simp
 unfold mW;simp only[ahB t.bb (by omega),den_add t (by omega),Qa]
 unfold Ir VY
 cases decide (x∈t.bb)with
 |true=>rfl
 |false=>
  simp only[Ql,Bool.false_or];rcases h1 with e|⟨y,e⟩
  ·rw[e];exact bM rfl
  ·refine(Pp (l:=t.aO) (.inr ⟨y,e⟩) (th:=t.aI) (n:=ub t) hth (by unfold ub;omega) ⟨0,0⟩ (rec:=λu=>rec (u,x,())) hr (λi u hdc hx hadd=> ?_) (λhdc=> ?_)).trans rfl
   ·simp only[hdc,hx,hadd,Qk,Qa,etas]
   ·simp only[hdc,Ql]
def XY{rec:(aj×Int×Unit)->Option (eV×Bool×Unit)}{t:aj}{x:Int}(h1:t.aO=[]\/∃y,t.aO=[⟨1,[y],[]⟩])(hn:t.bb.length<=100)(hth:1<=t.aI/\t.aI<=1000)(hd:1<=t.bb.length+t.aO.length)
  (hr:∀y,t.aO=[⟨1,[y],[]⟩]->rec (⟨1,[y],[]⟩,x,())=some (Ir ⟨1,[y],[]⟩ x)):jC rec t x=some (Ir t x):=by
 have hl:t.aO.length<=1:=by rcases h1 with e|⟨_,e⟩<;>rw[e]<;>simp
 unfold jC;refine(abe t.bb (by omega) x ⟨0,0⟩ (hit:=some (⟨t.aI,ub t⟩,true,())) (fin:=some (if Sc x t.aO then(⟨t.aI,ub t⟩,true,())else(⟨0,0⟩,false,()))) (λi y hdc hx hadd=> ?_) (λhdc=> ?_)).trans ?_
 ·simp only[hdc,hx,hadd,Qk,Qa,den_add t (by omega)]
 ·simp only[hdc,Ql,den_add t (by omega)]
  congr 1;rcases h1 with e|⟨y,e⟩
  ·rw[e];exact bM rfl
  ·refine(Pp (l:=t.aO) (.inr ⟨y,e⟩) (th:=t.aI) (n:=ub t) hth (by unfold ub;omega) ⟨0,0⟩ (rec:=λu=>rec (u,x,())) hr (λi u hdc hx hadd=> ?_) (λhdc=> ?_)).trans rfl
   ·simp only[hdc,hx,hadd,Qk,Qa,etas]
   ·simp only[hdc,Ql]
 ·unfold Ir VY
  by_cases hx:x∈t.bb
  ·rw[Qr hx,Qg hx];rfl
  ·rw[Qs hx,Qh hx,Bool.false_or]
def pW{t:aj}(h:dq t)(x:Int):yN t x=some (Ir t x):=by
 have h1:=h.total;have h2:=h.th;have h3:=h.len;show mW (yK (SizeOf.sizeOf t+SizeOf.sizeOf x)) t x=_;refine X8 h.abw (by omega) (by omega) h1.2 λy e=> ?_
 obtain⟨n,hn⟩:∃n,SizeOf.sizeOf t+SizeOf.sizeOf x=n+1:=by
  obtain⟨n,hn⟩:=F9 t;exact⟨n+SizeOf.sizeOf x,by omega⟩
 rw[hn];show mW (yK n) ⟨1,[y],[]⟩ x=_;exact X8 (.inl rfl) (by simp) (by simp) (by simp) λy e=>by cases e
def rW{t:aj}(h:dq t)(x:Int):w9 t x=some (Ir t x):=by
 have h1:=h.total;have h2:=h.th;have h3:=h.len;show jC (s8 (SizeOf.sizeOf t+SizeOf.sizeOf x)) t x=_;refine XY h.abw (by omega) (by omega) h1.2 λy e=> ?_
 obtain⟨n,hn⟩:∃n,SizeOf.sizeOf t+SizeOf.sizeOf x=n+1:=by
  obtain⟨n,hn⟩:=F9 t;exact⟨n+SizeOf.sizeOf x,by omega⟩
 rw[hn];show jC (s8 n) ⟨1,[y],[]⟩ x=_;exact XY (.inl rfl) (by simp) (by simp) (by simp) λy e=>by cases e
def Lb(a b c d:Int):∃r,nH a b c d=some r/\pO a b c d=some r/\0<=r/\r<4294967296:=by
 have key:∀n:Int,0<=br .u32 n/\br .u32 n<4294967296:=λn=>by
  unfold br IntKind.wrap;simp[IntKind.signed,IntKind.bits];omega
 unfold nH pO;exact⟨_,rfl,rfl,key _⟩
 def nW(a b c d:Int):Int:=Classical.choose (Lb a b c d)
def U4(a b c d:Int):nH a b c d=some (nW a b c d):=(Classical.choose_spec (Lb a b c d)).1
def aa6(a b c d:Int):pO a b c d=some (nW a b c d):=(Classical.choose_spec (Lb a b c d)).2.1
def V2(a b c d:Int):0<=nW a b c d/\nW a b c d<4294967296:=(Classical.choose_spec (Lb a b c d)).2.2
 def xJ(t:aj)(v aJ round k:Int):Bool:=decide (k=v)||(VY t k&&decide (nW 1 aJ round k*ub t<t.aI*4294967296))
section
variable {t : aj} {v aJ round : Int} (h : Dq t v aJ round)
 include h
theorem Yl(k:Int):pX .u64 (br .u64 (nW 1 aJ round k)) (br .u64 (ub t))=nW 1 aJ round k*ub t/\bW .u64 (br .u64 t.aI) (32:Int)=t.aI*4294967296/\pX .i64 (br .i64 (nW 1 aJ round k)) (ub t)=nW 1 aJ round k*ub t/\bW .i64 t.aI (32:Int)=t.aI*4294967296:=by
 obtain⟨h1,h2⟩:=V2 1 aJ round k;have h3:=h.aN.total;have h4:=h.aN.th;generalize nW 1 aJ round k=a at h1 h2;have hd:1<=ub t/\ub t<=11:=by unfold ub;omega
 generalize ub t=d at hd;have ht:1<=t.aI/\t.aI<=11:=by omega
 generalize t.aI=th at ht;have hm:0<=a*d/\a*d<=4294967296*11:=⟨Int.mul_nonneg h1 (by omega),Int.mul_le_mul (by omega) hd.2 (by omega) (by omega)⟩
 have u64:∀n:Int,0<=n->n<9223372036854775808->IntKind.u64.wrap n=n:=λn a b=>by
  unfold IntKind.wrap;simp[IntKind.signed,IntKind.bits];omega
 have c1:br .u64 a=a:=u64 a h1 (by omega)
 have c2:br .u64 d=d:=u64 d (by omega) (by omega)
 have c3:br .u64 th=th:=u64 th (by omega) (by omega)
 have c4:br .i64 a=a:=wrap64 (by omega) (by omega)
 rw[c1,c2,c3,c4];refine⟨u64 _ hm.1 (by omega),?_,wrap64 (by omega) (by omega),?_⟩
 ·exact u64 (th*2 ^ 32) (by omega) (by omega)
 ·exact wrap64 (n:=th*2 ^ 32) (by omega) (by omega)
theorem pNb(k:Int):qE t v aJ round k=some (xJ t v aJ round k):=by
 obtain⟨c1,c2,_,_⟩:=Yl h k;unfold qE xJ;simp only[etas,pW h.aN,aa6,Qa,aS]
 cases decide (k=v)with
 |true=>rfl
 |false=>
  unfold Ir
  cases VY t k with
  |true=>
   simp only[Qt,Qk,Ql,c1,c2];rfl
  |false=>rfl
theorem rNb(k:Int)(h0:0<=k)(h1:k<10):ma t v aJ round k=some (xJ t v aJ round k):=by
 obtain⟨_,_,c1,c2⟩:=Yl h k;unfold ma xJ;simp only[etas,Oo h,rW h.aN,U4,Qa,aS,decide_true,Qo,Ql];rw[Qh (by omega:¬k<0),Qh (by omega:¬(10:Int)<=k)]
 simp only[Ql,Qa]
 cases decide (k=v)with
 |true=>rfl
 |false=>
  unfold Ir
  cases VY t k with
  |true=>
   simp only[Qt,Qk,Ql,c1,c2];rfl
  |false=>rfl
def yh(aJ round j b:Int):Prop:=nW 2 aJ round j<nW 2 aJ round b\/nW 2 aJ round j=nW 2 aJ round b/\j<=b
structure Co (t:aj) (v aJ round b:Int):Prop where
 b0:0<=b
 b1:b<10
 nb:xJ t v aJ round b=true
 top:∀j,0<=j->j<10->xJ t v aJ round j=true->yh aJ round j b
 omit h in
theorem Co.unique{a b:Int}(ha:Co t v aJ round a)(hb:Co t v aJ round b):a=b:=by
  have h1:=ha.top b hb.b0 hb.b1 hb.nb;have h2:=hb.top a ha.b0 ha.b1 ha.nb;unfold yh at h1 h2;omega
theorem ac6:Yd (mV t v aJ round) (Co t v aJ round):=by
 have hv0:=h.v0;have hv1:=h.v1;unfold mV;simp only[etas,aS];refine Yd.Fg (λ(s:Int×Int×Int×Unit)=>0<=s.2.2.1/\s.2.2.1<=10/\((s.2.1=0/\(∀j,0<=j->j<s.2.2.1->xJ t v aJ round j=false))\/(0<=s.1/\s.1<s.2.2.1/\xJ t v aJ round s.1=true/\s.2.1=nW 2 aJ round s.1/\∀j,0<=j->j<s.2.2.1->xJ t v aJ round j=true->yh aJ round j s.1))) (λs=>(10 - s.2.2.1).toNat) ?_ ⟨Int.le_refl _,by show(0:Int)<=10;omega,.inl ⟨rfl,λj h0 h1=>by simp only at h1;omega⟩⟩
 rintro⟨b,m,k,u⟩ ⟨h1,h2,h3⟩;simp only at h1 h2 h3;simp only
 by_cases hk:k<10
 ·rw[Qg hk];have hadd:aA .i64 k 1=k+1:=bH (by omega) (by omega)
  simp only[Qk];rw[hadd,pNb h,Qa];have hm:(10 - (k+1)).toNat<(10 - k).toNat:=by omega
  have split1:∀j,j<k+1->j<k\/j=k:=λj hj=>by omega
  cases hn:xJ t v aJ round k with
  |false=>
   refine .some ⟨⟨by show 0<=k+1;omega,by show k+1<=10;omega,?_⟩,hm⟩
   rcases h3 with⟨h4,h5⟩|⟨h4,h5,h6,h7,h8⟩
   ·refine .inl ⟨h4,λj j0 j1=> ?_⟩
    rcases split1 j j1 with j1|rfl
    ·exact h5 j j0 j1
    ·exact hn
   ·refine .inr ⟨h4,by show b<k+1;omega,h6,h7,λj j0 j1 hj=> ?_⟩
    rcases split1 j j1 with j1|rfl
    ·exact h8 j j0 j1 hj
    ·rw[hn]at hj;cases hj
  |true=>
   rw[aa6];simp only[Qo,Ql,Qa]
   by_cases hle:m<=nW 2 aJ round k
   ·rw[Qg hle,Qk];refine .some ⟨⟨by show 0<=k+1;omega,by show k+1<=10;omega,.inr ⟨h1,by show k<k+1;omega,hn,rfl,λj j0 j1 hj=> ?_⟩⟩,hm⟩
    show yh aJ round j k;rcases split1 j j1 with j1|rfl
    ·rcases h3 with⟨h4,h5⟩|⟨h4,h5,h6,h7,h8⟩
     ·have:=h5 j j0 j1;rw[this]at hj;cases hj
     ·have:=h8 j j0 j1 hj;unfold yh at this ⊢;omega
    ·exact .inr ⟨rfl,Int.le_refl _⟩
   ·rw[Qh hle,Ql];refine .some ⟨⟨by show 0<=k+1;omega,by show k+1<=10;omega,?_⟩,hm⟩
    have hr:=V2 2 aJ round k;rcases h3 with⟨h4,h5⟩|⟨h4,h5,h6,h7,h8⟩
    ·omega
    ·refine .inr ⟨h4,by show b<k+1;omega,h6,h7,λj j0 j1 hj=> ?_⟩
     rcases split1 j j1 with j1|rfl
     ·exact h8 j j0 j1 hj
     ·show yh aJ round j b;unfold yh;omega
 ·rw[Qh hk];have hself:xJ t v aJ round v=true:=by unfold xJ;simp
  rcases h3 with⟨h4,h5⟩|⟨h4,h5,h6,h7,h8⟩
  ·have:=h5 v hv0 (by omega)
   rw[hself]at this;cases this
  ·exact .some ⟨h4,by omega,h6,λj j0 j1 hj=>h8 j j0 (by omega) hj⟩
theorem acS:Yd (ln t v aJ round) λq=>Co t v aJ round q.1/\q.2.1=0:=by
 have hv0:=h.v0;have hv1:=h.v1;have hself:xJ t v aJ round v=true:=by unfold xJ;simp
 unfold ln;simp only[etas,Oo h,Qa,aS];simp only[decide_true,Qo,Ql];refine Yd.Fg (λ(s:Int×Int×Unit)=>0<=s.2.1/\s.2.1<=10/\0<=s.1/\s.1<10/\xJ t v aJ round s.1=true/\∀j,0<=j->j<s.2.1->xJ t v aJ round j=true->yh aJ round j s.1) (λs=>(10 - s.2.1).toNat) ?_ ⟨Int.le_refl _,by show(0:Int)<=10;omega,hv0,hv1,hself,λj h0 h1=>by simp only at h1;omega⟩
 rintro⟨b,k,u⟩ ⟨h1,h2,h3,h4,h5,h6⟩;simp only at h1 h2 h3 h4 h5 h6;simp only
 by_cases hk:k<10
 ·rw[Qg hk];have hadd:aA .i64 k 1=k+1:=bH (by omega) (by omega)
  simp only[Qk];rw[hadd,rNb h k h1 hk,Qa];have hm:(10 - (k+1)).toNat<(10 - k).toNat:=by omega
  have split1:∀j,j<k+1->j<k\/j=k:=λj hj=>by omega
  have fin:∀x:Int,0<=x->x<10->xJ t v aJ round x=true->(∀j,0<=j->j<k+1->xJ t v aJ round j=true->yh aJ round j x)->Yd (some (Sum.inl (x,k+1,())):Option ((Int×Int×Unit)⊕(Int×Int×Unit))) (Lp (λs'=>(0<=s'.2.1/\s'.2.1<=10/\0<=s'.1/\s'.1<10/\xJ t v aJ round s'.1=true/\∀j,0<=j->j<s'.2.1->xJ t v aJ round j=true->yh aJ round j s'.1)/\(10 - s'.2.1).toNat<(10 - k).toNat) (λq=>Co t v aJ round q.1/\q.2.1=0)):=
   λx g1 g2 g3 g4=> .some ⟨⟨by show 0<=k+1;omega,by show k+1<=10;omega,g1,g2,g3,g4⟩,hm⟩
  cases hn:xJ t v aJ round k with
  |false=>
   refine fin b h3 h4 h5 λj j0 j1 hj=> ?_
   rcases split1 j j1 with j1|rfl
   ·exact h6 j j0 j1 hj
   ·rw[hn]at hj;cases hj
  |true=>
   rw[U4,U4];simp only[Qo,Ql,Qa]
   by_cases hlt:nW 2 aJ round b<nW 2 aJ round k
   ·rw[Qg hlt];refine fin k h1 hk hn λj j0 j1 hj=> ?_
    rcases split1 j j1 with j1|rfl
    ·have:=h6 j j0 j1 hj;unfold yh at this ⊢;omega
    ·exact .inr ⟨rfl,Int.le_refl _⟩
   ·rw[Qh hlt];simp only[Ql]
    by_cases heq:nW 2 aJ round k=nW 2 aJ round b
    ·rw[Qg heq];simp only[Qk,Qa]
     by_cases hbk:b<k
     ·rw[Qg hbk];refine fin k h1 hk hn λj j0 j1 hj=> ?_
      rcases split1 j j1 with j1|rfl
      ·have:=h6 j j0 j1 hj;unfold yh at this ⊢;omega
      ·exact .inr ⟨rfl,Int.le_refl _⟩
     ·rw[Qh hbk];refine fin b h3 h4 h5 λj j0 j1 hj=> ?_
      rcases split1 j j1 with j1|rfl
      ·exact h6 j j0 j1 hj
      ·exact .inr ⟨heq,by omega⟩
    ·rw[Qh heq];refine fin b h3 h4 h5 λj j0 j1 hj=> ?_
     rcases split1 j j1 with j1|rfl
     ·exact h6 j j0 j1 hj
     ·exact .inl (by omega)
 ·rw[Qh hk];exact .some ⟨⟨h3,h4,h5,λj j0 j1 hj=>h6 j j0 (by omega) hj⟩,rfl⟩
end
 def wO(t:aj)(v aJ round:Int):Int:=(mV t v aJ round).getD 0
 def jW(t:aj)(v aJ:Int):Nat->Nat
 |0=>0
 |k+1=>jW t v aJ k|||2 ^ (wO t v aJ ((k+1:Nat):Int)).toNat
section
variable {t : aj} {v aJ round : Int} (h : Dq t v aJ round)
 include h
theorem Dq.at{r:Int}(h1:1<=r)(h2:r<=round):Dq t v aJ r:=⟨h.aN,h.v0,h.v1,h.s0,h.s1,h1,by have:=h.r2;omega⟩
theorem Up:mV t v aJ round=some (wO t v aJ round)/\Co t v aJ round (wO t v aJ round):=by
 obtain⟨b,h1,h2⟩:=ac6 h;unfold wO;rw[h1];exact⟨rfl,h2⟩
theorem ael:ln t v aJ round=some (wO t v aJ round,0,()):=by
 obtain⟨⟨b,e,u⟩,h1,h2,h3⟩:=acS h;simp only at h3;subst h3;have h4:Co t v aJ round b:=h2;rw[h1,h4.unique (Up h).2]
theorem HC:∀k:Nat,(k:Int)<=round->jW t v aJ k<1024
 |0,_=>by unfold jW;omega
 |k+1,hk=>by
  have h1:=HC k (by omega)
  have h2:=(Up (h.at (r:=((k+1:Nat):Int)) (by omega) hk)).2
  unfold jW;exact Bz h1 h2.b1
theorem aa5:sH t v aJ round=some (((jW t v aJ round.toNat:Nat):Int),0,()):=by
 have e1:=h.v0;have e2:=h.v1;have e3:=h.s0;have e4:=h.s1;have e5:=h.r1;have e6:=h.r2;unfold sH Ax;simp only[etas,eJ h.aN,Qa,decide_true,Qo,Ql];rw[Qh (by omega:¬v<0),Qh (by omega:¬(10:Int)<=v),Qh (by omega:¬aJ<0),Qh (by omega:¬(1000000:Int)<aJ),Qh (by omega:¬round<1),Qh (by omega:¬(1000:Int)<round)]
 simp only[Ql,Qa,decide_true,Qo]
 suffices key:∀(d k:Nat),k+d=round.toNat->aD _ (((jW t v aJ k:Nat):Int),(k:Int),())=some (((jW t v aJ round.toNat:Nat):Int),(0:Int),())from key round.toNat 0 (by omega)
 intro d
 induction d with
 |zero=>
  intro k hk;obtain rfl:k=round.toNat:=by omega
  refine bM ?_;rw[Qh (by omega:¬((round.toNat:Nat):Int)<round)]
  rfl
 |succ d ih=>
  intro k hk;have hadd:aA .i64 (k:Int) 1=((k+1:Nat):Int):=bH (by omega) (by omega)
  obtain⟨g1,g2⟩:=Up (h.at (r:=((k+1:Nat):Int)) (by omega) (by omega))
  refine(bw ?_).trans (ih (k+1) (by omega))
  rw[Qg (by omega:(k:Int)<round)]
  simp only[hadd,g1,Qk,Qa];rw[Qs (by have:=g2.b0;omega),qL (HC h k (by omega)) g2.b0 g2.b1]
  rfl
theorem aaQ:oe t v aJ round=some (((jW t v aJ round.toNat:Nat):Int),0,()):=by
 have e5:=h.r1;have e6:=h.r2;unfold oe;simp only[etas,aS,ael h,Qa,decide_true,Qo,Ql]
 suffices key:∀(d k:Nat),k+d=round.toNat->aD _ (((jW t v aJ k:Nat):Int),((k+1:Nat):Int),())=some (((jW t v aJ round.toNat:Nat):Int),(0:Int),())from key round.toNat 0 (by omega)
 intro d
 induction d with
 |zero=>
  intro k hk;obtain rfl:k=round.toNat:=by omega
  refine bM ?_;rw[Qh (by omega:¬((round.toNat+1:Nat):Int)<=round)]
  rfl
 |succ d ih=>
  intro k hk;have hadd:aA .i64 ((k+1:Nat):Int) 1=((k+1+1:Nat):Int):=bH (by omega) (by omega)
  have ha:=h.at (r:=((k+1:Nat):Int)) (by omega) (by omega)
  have g1:=ael ha;have g2:=(Up ha).2;have hlt:=HC h k (by omega)
  refine(bw ?_).trans (ih (k+1) (by omega))
  rw[Qg (by omega:((k+1:Nat):Int)<=round)]
  have hh:kC ((jW t v aJ k:Nat):Int) (wO t v aJ ((k+1:Nat):Int))=some (xn ((jW t v aJ k:Nat):Int) (wO t v aJ ((k+1:Nat):Int))):=mR _ _
  have hs:xn ((jW t v aJ k:Nat):Int) (wO t v aJ ((k+1:Nat):Int))=(jW t v aJ k).testBit (wO t v aJ ((k+1:Nat):Int)).toNat:=by
   unfold xn fP;rw[Qg (by omega:(0:Int)<=((jW t v aJ k:Nat):Int)),Qg (by omega:((jW t v aJ k:Nat):Int)<1024),Qg g2.b0,Qg g2.b1]
   simp
  simp only[hadd,g1,hh,hs,Qk,Qa];show _=some (Sum.inl (((jW t v aJ k|||2 ^ (wO t v aJ ((k+1:Nat):Int)).toNat:Nat):Int),((k+1+1:Nat):Int),()))
  cases hb:(jW t v aJ k).testBit (wO t v aJ ((k+1:Nat):Int)).toNat with
  |true=>
   have:jW t v aJ k|||2 ^ (wO t v aJ ((k+1:Nat):Int)).toNat=jW t v aJ k:=by
    refine Nat.eq_of_testBit_eq λi=> ?_
    rw[Nat.testBit_or,Nat.testBit_two_pow]
    by_cases hi:(wO t v aJ ((k+1:Nat):Int)).toNat=i
    ·rw[<-hi,hb];rfl
    ·rw[Qh hi,Bool.or_false]
   rw[this];rfl
  |false=>
   simp only[Qp,Qk];rw[Qs (by have:=g2.b0;omega),qL hlt g2.b0 g2.b1]
theorem OX:jW t v aJ round.toNat<1024:=HC h round.toNat (by have:=h.r1;omega)
end
end
section
def fold_eq{α σ τ ρ:Type}(l:List α)(hl:l.length<=1000000)(f:σ->α->σ)(mk:Int->σ->τ)(Inv:σ->Prop)(hI:∀s x,x∈l->Inv s->Inv (f s x)){step:τ->Option (τ⊕ρ)}{fin:σ->Option ρ}
  (h1:∀(i:Nat) (x:α) (s:σ),Inv s->x∈l->decide ((i:Int)<(l.length:Int))=true->idx l (i:Int)=some x->aA .i64 (i:Int) 1=((i+1:Nat):Int)->step (mk (i:Int) s)=some (.inl (mk ((i+1:Nat):Int) (f s x))))
  (h2:∀s,Inv s->decide ((l.length:Int)<(l.length:Int))=false->step (mk (l.length:Int) s)=Option.map Sum.inr (fin s))
  {s:σ} (h0:Inv s):aD step (mk 0 s)=fin (l.foldl f s):=by
 suffices key:∀(k i:Nat) (s:σ),i+k=l.length->Inv s->aD step (mk (i:Int) s)=fin ((l.drop i).foldl f s)from key l.length 0 s (by omega) h0
 intro k
 induction k with
 |zero=>
  intro i s hi hs;obtain rfl:i=l.length:=by omega
  rw[ff,h2 s hs (Qh (Qq64 _)),Qq66,List.foldl_nil];cases fin s<;>rfl
 |succ k ih=>
  intro i s hi hs;have hlt:i<l.length:=by omega
  have hx:=Q0 hlt;refine(bw (h1 i l[i] s hs hx (Qg (by omega)) (by rw[bf];exact Qv hlt) (bH (by omega) (by omega)))).trans ((ih (i+1) _ (by omega) (hI s _ hx hs)).trans ?_)
  rw[QM hlt,QU]
def Eh{α σ:Type}{f:σ->α->σ}{Inv:σ->Prop}:∀(l:List α) (hI:∀s x,x∈l->Inv s->Inv (f s x)) {s:σ},Inv s->Inv (l.foldl f s)
 |[],_,_,h=>h
 |x::l,hI,s,h=>Eh l (λs y hy=>hI s y (Qy _ hy)) (hI s x Qx h)
def Vg(n:au)(l:List ByteArray):List ByteArray:=if n.lI=bE then l else mI l n.lI
def HS(u:Int)(l:List ByteArray)(m:az):List ByteArray:=if m.al=u then(q8 [m]).foldl mI l else l
def G0(n:au)(l:List ByteArray)(u:Int):List ByteArray:=if u=n.al then Vg n l else n.ar.foldl (HS u) l
 def zk(n:au):List ByteArray:=(oK (jW n.aa n.al n.aK n.Round.toNat)).foldl (G0 n) n.bj
def ahF{x:ByteArray}(h:x.size<=200)(hx:x≠bE):kM x:=by
 refine⟨?_,h⟩;rcases Nat.eq_zero_or_pos x.size with h0|h0
 ·exact absurd (ByteArray.ext (Array.eq_empty_of_size_eq_zero h0)) hx
 ·exact h0
def YS{m:az}(h:VL m.bj/\VL m.aF):(q8 [m]).length<=80/\∀x∈q8 [m],kM x:=by
 refine⟨SE (L:=[m]) (λy hy=>by rw[Q5.1 hy];exact h),λx hx=> ?_⟩
 obtain⟨y,hy,hxy⟩:=((G1 _).2 x).1 hx;rw[Q5.1 hy]at hxy;exact hxy.elim (h.1.rZ x) (h.2.rZ x)
section
variable {n : au} (h : cJ n)
 include h
theorem afD{l:List ByteArray}(hl:VL l):VL (Vg n l):=by
 unfold Vg;split
 ·exact hl
 ·rename_i hx;exact(uK hl (ahF h.own hx)).1
theorem Kc{m:az}(hm:m∈n.ar):VL m.bj/\VL m.aF:=⟨(h.heard m hm).1.du,(h.heard m hm).1.eI⟩
theorem Ns{u:Int}{l:List ByteArray}(hl:VL l){m:az}(hm:m∈n.ar):VL (HS u l m):=by
 unfold HS;split
 ·exact Eh (Inv:=VL) (q8 [m]) (λs x hx hs=>(uK hs ((YS (Kc h hm)).2 x hx)).1) hl
 ·exact hl
theorem MI{u:Int}{l:List ByteArray}(hl:VL l):VL (G0 n l u):=by
 unfold G0;split
 ·exact afD h hl
 ·exact Eh (Inv:=VL) n.ar (λs m hm hs=>Ns h hs hm) hl
theorem EO:VL (zk n):=Eh (Inv:=VL) _ (λs u _ hs=>MI h hs) h.du
theorem aft:rO n=some (zk n):=by
 have hlen:=h.len;have hlt:=OX h.ask;have hnl:=zG (jW n.aa n.al n.aK n.Round.toNat);unfold rO;simp only[etas,aa5 h.ask,WY hlt,Qa,aS];refine fold_eq (oK (jW n.aa n.al n.aK n.Round.toNat)) (by omega) (G0 n) (λi s=>(s,i,())) VL (λs u _ hs=>MI h hs) (λi u s hs hu hd hx hadd=> ?_) (λs hs hd=> ?_) h.du
 ·simp only[hd,hx,hadd,Qk,Qa];unfold G0
  by_cases hun:u=n.al
  ·rw[Qr hun,Qg hun];unfold Vg
   by_cases ho:n.lI=bE
   ·rw[Qr ho,Qg ho];rfl
   ·rw[Qs ho,Qh ho];simp only[Qk,Qp,Zu hs,Qa]
  ·rw[Qs hun,Qh hun,Ql];refine fold_eq n.ar (by omega) (HS u) (λi s=>(s,i,())) VL (λs m hm hs=>Ns h hs hm) (fin:=λs=>some (Sum.inl (s,((i+1:Nat):Int),()))) (λj m s2 hs2 hm hd2 hx2 hadd2=> ?_) (λs2 hs2 hd2=> ?_) hs
   ·simp only[hd2,hx2,hadd2,Qk,Qa,az.eta];unfold HS
    by_cases hmu:m.al=u
    ·obtain⟨v1,v2⟩:=YS (Kc h hm);rw[Qr hmu,Qg hmu];simp only[Qo,Ql,ahD (L:=[m]) (λy hy=>by rw[Q5.1 hy];exact Kc h hm) (by simp),Qa]
     refine fold_eq (q8 [m]) (by omega) mI (λi s=>(s,i,())) VL (λs x hx hs=>(uK hs (v2 x hx)).1) (fin:=λs=>some (Sum.inl (s,((j+1:Nat):Int),()))) (λk x s3 hs3 hxm hd3 hx3 hadd3=> ?_) (λs3 hs3 hd3=> ?_) hs2
     ·simp only[hd3,hx3,hadd3,Qk,Qa,Zu hs3]
     ·simp only[hd3,Ql]
    ·rw[Qs hmu,Qh hmu];rfl
   ·simp only[hd2,Ql]
 ·simp only[hd,Ql]
theorem acN:pK n=some {n with bj:=zk n}:=by
 have hlen:=h.len;have hlt:=OX h.ask;have hnl:=zG (jW n.aa n.al n.aK n.Round.toNat);unfold pK;simp only[etas,aaQ h.ask,Jt hlt,Qa,aS];refine(fold_eq (oK (jW n.aa n.al n.aK n.Round.toNat)) (by omega) (G0 n) (λi s=>(i,{n with bj:=s},())) VL (λs u _ hs=>MI h hs) (fin:=λs=>some {n with bj:=s}) (λi u s hs hu hd hx hadd=> ?_) (λs hs hd=> ?_) h.du).trans rfl
 ·simp only[hd,hx,hadd,Qk,Qa];unfold G0
  by_cases hun:u=n.al
  ·rw[Qr hun,Qg hun];unfold Vg
   by_cases ho:n.lI=bE
   ·rw[Qr ho,Qg ho];rfl
   ·rw[Qs ho,Qh ho];simp only[Qk,Qp,Jr hs,Qa]
  ·rw[Qs hun,Qh hun,Ql];refine fold_eq n.ar (by omega) (HS u) (λi s=>(i,{n with bj:=s},())) VL (λs m hm hs=>Ns h hs hm) (fin:=λs=>some (Sum.inl (((i+1:Nat):Int),{n with bj:=s},()))) (λj m s2 hs2 hm hd2 hx2 hadd2=> ?_) (λs2 hs2 hd2=> ?_) hs
   ·simp only[hd2,hx2,hadd2,Qk,Qa];unfold HS
    by_cases hmu:m.al=u
    ·obtain⟨v1,v2⟩:=YS (Kc h hm);rw[Qr hmu,Qg hmu];simp only[Qo,Ql,ae8 (Kc h hm),Qa];refine fold_eq (q8 [m]) (by omega) mI (λi s=>(i,{n with bj:=s},())) VL (λs x hx hs=>(uK hs (v2 x hx)).1) (fin:=λs=>some (Sum.inl (((j+1:Nat):Int),{n with bj:=s},()))) (λk x s3 hs3 hxm hd3 hx3 hadd3=> ?_) (λs3 hs3 hd3=> ?_) hs2
     ·simp only[hd3,hx3,hadd3,Qk,Qa,Jr hs3]
     ·simp only[hd3,Ql]
    ·rw[Qs hmu,Qh hmu];rfl
   ·simp only[hd2,Ql]
 ·simp only[hd,Ql]
end
 def pb:Nat->au->au
 |0,n=>n
 |k+1,n=>match(ft n).find? (sj n)with
  |none=>n
  |some x=>pb k {n with aF:=mI n.aF x}
def NM{n:au}(h:cJ n){x:ByteArray}(hf:(ft n).find? (sj n)=some x):cJ {n with aF:=mI n.aF x}/\(mI n.aF x).length=n.aF.length+1:=by
 have hc:=List.find?_some hf;have hm:=List.mem_of_find?_eq_some hf;unfold sj at hc;simp only[Qm,Bool.not_eq_true',Qj,Qi]at hc;obtain⟨p1,p2,p3,p4⟩:=uK h.eI (abr h hm);exact⟨h.aha p1 p2,p4 hc.1.1 hc.1.2⟩
def PB:∀(k:Nat) {n:au},cJ n->sA n (pb k n)/\(pb k n).bj=n.bj/\(pb k n).aR=n.aR
 |0,n,h=>⟨.refl h,rfl,rfl⟩
 |k+1,n,h=>by
  unfold pb
  cases hf:(ft n).find? (sj n)with
  |none=>exact⟨.refl h,rfl,rfl⟩
  |some x=>
   obtain⟨h1,h2,h3⟩:=PB k (NM h hf).1;exact⟨⟨h1.ok,h1.aG,h1.aJ,h1.round,h1.seq,h1.aN,h1.own,h1.heard⟩,h2,h3⟩
def aem{fin:au->Option au}{step:Bool×au×Unit->Option ((Bool×au×Unit)⊕au)}
  (h1:∀n,cJ n->step (true,n,())=some (.inl (match(ft n).find? (sj n)with|some x=>(true,{n with aF:=mI n.aF x},())|none=>(false,n,()))))
  (h2:∀n,cJ n->step (false,n,())=Option.map Sum.inr (fin n)):∀(k:Nat) {n:au},cJ n->41<=k+n.aF.length->aD step (true,n,())=fin (pb k n)
 |0,n,h,hk=>by have:=h.eI.len;omega
 |k+1,n,h,hk=>by
  have g:=h1 n h;unfold pb
  cases hf:(ft n).find? (sj n)with
  |none=>
   rw[hf]at g;rw[bw g,ff,h2 n h];cases fin n<;>rfl
  |some x=>
   rw[hf]at g;obtain⟨g1,g2⟩:=NM h hf;exact(bw g).trans (aem h1 h2 k g1 (by show 41<=k+(mI n.aF x).length;omega))
 def Tj(n:au):ByteArray×Bool×Unit:=match(ft n).find? (sj n)with|some x=>(x,true,())|none=>(⟨#[]⟩,false,())
def aeq{fin:au->Option au}{step:ByteArray×Bool×au×Unit->Option ((ByteArray×Bool×au×Unit)⊕au)}{c:List bh}
  (h1:∀n x,cJ n->oG n=c->cJ {n with aF:=mI n.aF x}->step (x,true,n,())=some (.inl ((Tj {n with aF:=mI n.aF x}).1,(Tj {n with aF:=mI n.aF x}).2.1,{n with aF:=mI n.aF x},())))
  (h2:∀n x,cJ n->oG n=c->step (x,false,n,())=Option.map Sum.inr (fin n)):∀(k:Nat) {n:au},cJ n->oG n=c->41<=k+n.aF.length->aD step ((Tj n).1,(Tj n).2.1,n,())=fin (pb k n)
 |0,n,h,_,hk=>by have:=h.eI.len;omega
 |k+1,n,h,hv,hk=>by
  unfold pb
  cases hf:(ft n).find? (sj n)with
  |none=>
   have e:Tj n=(⟨#[]⟩,false,()):=by unfold Tj;rw[hf]
   rw[e,ff,h2 n _ h hv];cases fin n<;>rfl
  |some x=>
   have e:Tj n=(x,true,()):=by unfold Tj;rw[hf]
   obtain⟨g1,g2⟩:=NM h hf;rw[e];exact(bw (h1 n x h hv g1)).trans (aeq h1 h2 k g1 hv (by show 41<=k+(mI n.aF x).length;omega))
 def G6(n:au)(c:List ByteArray)(x:ByteArray):List ByteArray:=if KM n x then mI c x else c
 def BM(n:au):List ByteArray:=n.aF.foldl (G6 n) n.aR
 def uP(n:au):au:={pb 41 (if n.aR.length=0 then{n with bj:=zk n}else n)with aR:=BM (pb 41 (if n.aR.length=0 then{n with bj:=zk n}else n))}
structure EG (n:au) (c:List ByteArray):Prop where
 vl:VL c
 sub:∀x∈c,x∈n.aF
def MM{n:au}(h:cJ n){c:List ByteArray}(hc:EG n c){x:ByteArray}(hx:x∈n.aF):EG n (G6 n c x):=by
 unfold G6;split
 ·obtain⟨p1,_,p3,_⟩:=uK hc.vl (h.eI.rZ x hx);exact⟨p1,λy hy=>(p3 y hy).elim (λe=>by rw[e];exact hx) (hc.sub y)⟩
 ·exact hc
def cJ.adL{n:au}(h:cJ n):EG n n.aR:=⟨h.kL,h.sub⟩
def adB{n:au}(h:cJ n):EG n (BM n):=Eh (Inv:=EG n) n.aF (λs x hx hs=>MM h hs hx) h.adL
def aiU{n:au}(h:cJ n)(x:ByteArray):fp ⟨oG n⟩ n.al (((lf (n.ar++[yn n]) x).2:Nat):Int)=some (KM n x):=by
 obtain⟨hn,hn10⟩:=Bb h;have hf:=Bk (C0 h) hn10 (BT h.said x).2;rw[<-hn]at hf;exact hf
def aiN{n:au}(h:cJ n)(x:ByteArray):ik ⟨oG n⟩ n.al (((lf (n.ar++[yn n]) x).2:Nat):Int)=some (KM n x):=by
 obtain⟨hn,hn10⟩:=Bb h;have hf:=vf (C0 h) hn10 (BT h.said x).2;rw[<-hn]at hf;exact hf
section
variable {n : au} (h : cJ n)
 include h
theorem agE:cJ (if n.aR.length=0 then{n with bj:=zk n}else n)/\sA n (if n.aR.length=0 then{n with bj:=zk n}else n):=by
 split
 ·exact⟨h.Jg (EO h),(sA.refl h).Jg (EO h)⟩
 ·exact⟨h,.refl h⟩
theorem EU:sA n (uP n):=by
 obtain⟨h1,h2⟩:=agE h;obtain⟨g,_,_⟩:=PB 41 h1;obtain⟨c1,c2⟩:=adB g.ok;exact⟨g.ok.acw c1 c2,g.aG.trans h2.aG,g.aJ.trans h2.aJ,g.round.trans h2.round,g.seq.trans h2.seq,g.aN.trans h2.aN,g.own.trans h2.own,g.heard.trans h2.heard⟩
theorem Te:lT n=some (uP n):=by
 have body:∀n:au,cJ n->(Option.bind (oU n) λr3=>
   Option.bind (jO n r3) λr4=>
   aD (λ(v5:ByteArray×Bool×au×Unit)=>
   bif v5.2.1 then
   Option.bind (iq v5.2.2.1.aF v5.1) λr6=>
   Option.bind (jO {v5.2.2.1 with aa:=(aq v5.2.2.1.aa),aF:=r6} r3) λr7=>
   some (Sum.inl (r7.1,r7.2.1,{v5.2.2.1 with aa:=(aq v5.2.2.1.aa),aF:=r6},()))
   else
   Option.map Sum.inr (Option.bind (cn v5.2.2.1.ar) λr8=>
   Option.bind (mT (eT0 v5.2.2.1)) λr9=>
   bif bl 120 (List.length r8+List.length [{r9 with aa:=(aq r9.aa)}])then
   aD (λ(v10:Int×au×Unit)=>
   bif (decide (v10.1<((List.length v5.2.2.1.aF:Nat):Int)))then
   aY (λ(v11:au×Unit)=>
   some (Sum.inl ((aA .i64 v10.1 (1:Int)),(eT0 v11.1),()))) λj12=>
   Option.bind (idx v5.2.2.1.aF v10.1) λx13=>
   Option.bind (gz (r8++[{r9 with aa:=(aq r9.aa)}]) x13) λr14=>
   Option.bind (fp r3 v10.2.1.al r14.2.1) λr15=>
   bif r15 then
   Option.bind (iq v10.2.1.aR x13) λr16=>
   j12 ({v10.2.1 with aa:=(aq v10.2.1.aa),aR:=r16},())
   else
   j12 ((eT0 v10.2.1),())
   else
   Option.map Sum.inr (some (eT0 v10.2.1))) ((0:Int),(eT0 v5.2.2.1),())
   else none)) (r4.1,r4.2.1,n,()))=some {pb 41 n with aR:=BM (pb 41 n)}:=by
  intro n h;rw[aht h,Qa,aa3 h,Qa];refine aeq (c:=oG n) (fin:=λn2=>some {n2 with aR:=BM n2}) (λm x hm hv hm2=> ?_) (λm x hm hv=> ?_) 41 h rfl (by omega)
  ·have hx:=aa3 hm2;have hv2:oG {m with aF:=mI m.aF x}=oG n:=hv
   rw[hv2]at hx;simp only[Qk,etas,Zu hm.eI,Qa,hx];rfl
  ·have hlen:=hm.len;have hal:=hm.eI.len;simp only[Ql,etas,Wx hm,mT,Qa,aS];rw[lY (by omega) (by simp;omega),Qk]
   congr 1;refine(fold_eq m.aF (by omega) (G6 m) (λi c=>(i,{m with aR:=c},())) (EG m) (λs x hx hs=>MM hm hs hx) (fin:=λc=>some {m with aR:=c}) (λi y s hs hy hd hx hadd=> ?_) (λs hs hd=> ?_) hm.adL).trans rfl
   ·have hsay:gz (m.ar++[(⟨m.al,m.aH,m.aa,m.bj,m.aF⟩:az)]) y=_:=Yb hm.said y;simp only[hd,hx,hadd,Qk,Qa,hsay,<-hv,aiU hm y];unfold G6
    cases KM m y with
    |true=>simp only[Qk,Zu hs.vl,Qa,Qt]
    |false=>rfl
   ·simp only[hd,Ql]
 unfold lT;simp only[etas,aS,aft h,Qa];unfold uP
 by_cases h0:n.aR.length=0
 ·rw[Qg (by omega:(n.aR.length:Int)=0),Qk,Qr h0]
  have:=body {n with bj:=zk n} (h.Jg (EO h))
  simp only[etas,aS]at this;exact this
 ·rw[Qh (by omega:¬(n.aR.length:Int)=0),Ql,Qs h0]
  have:=body n h;simp only[etas,aS]at this;exact this
end
end
section
open Classical in
 def Hc(b r:au):Bool:=decide (b.bj=r.bj/\b.aF=r.aF/\b.aa=r.aa)
open Classical in
def EV{b r:au}:Hc b r=true↔b.bj=r.bj/\b.aF=r.aF/\b.aa=r.aa:=by
 unfold Hc;rw[Qi]
 def ly(b n:au):au:=if Hc b (uP n)=true then uP n else{uP n with aH:=b.aH+1}
def ML{b n:au}(h:cJ n):WX b n (ly b n):=by
 have k:=EU h;unfold ly;split
 ·exact⟨k.ok,k.aG,k.aJ,k.round,k.aN,.inl k.seq⟩
 ·exact⟨⟨k.ok.ask,k.ok.own,k.ok.du,k.ok.eI,k.ok.kL,k.ok.sub,k.ok.heard,k.ok.dn⟩,k.aG,k.aJ,k.round,k.aN,.inr rfl⟩
def Md{b n:au}(h:cJ n):(ly b n).ar=n.ar/\(ly b n).lI=n.lI:=by
 have k:=EU h;unfold ly;split<;>exact⟨k.heard,k.own⟩
def ahA{s t:List ByteArray}(h:s.length<=1000000):∃b,gH s t=some b/\(b=true↔s=t):=by
 unfold gH
 by_cases hl:s.length=t.length
 ·rw[Qg (by omega:(s.length:Int)=(t.length:Int)),Qo,Ql]
  refine WN hl h (λi hi hi' hd hx hy hw=> ?_) (λhd=> ?_)
  ·simp only;rw[hd,Qk,hx,hy,Qa,Qa,hw]
   by_cases he:s[i]=t[i]
   ·rw[Qg he];exact⟨true,rfl,by simp[he]⟩
   ·rw[Qh he];exact⟨false,rfl,by simp[he]⟩
  ·simp only;rw[hd,Ql];rfl
 ·rw[Qh (by omega:¬(s.length:Int)=(t.length:Int))]
  exact⟨false,rfl,OV hl⟩
def Jq{b n:au}(hb:cU b.aa/\b.bj.length<=1000000/\b.aF.length<=1000000)(hs:0<=b.aH/\b.aH<=1000000)(h:cJ n):fZ b n=some (ly b n):=by
 have body:∀n:au,cJ n->aD (λ(v3:Bool×au×Unit)=>
   bif v3.1 then
   Option.bind (oC (eT0 v3.2.1)) λr4=>
   aD (λ(v5:Bool×Int×au×Unit)=>
   bif (decide (v5.2.1<((List.length r4:Nat):Int)))then
   Option.bind (idx r4 v5.2.1) λx6=>
   Option.bind (sv (eT0 v5.2.2.1) x6) λr7=>
   bif r7 then
   Option.bind (nj v5.2.2.1.aF x6) λr8=>
   Option.map Sum.inr (some (Sum.inl (true,{v5.2.2.1 with aa:=(aq v5.2.2.1.aa),aF:=r8},())))
   else
   some (Sum.inl (v5.1,(aA .i64 v5.2.1 (1:Int)),(eT0 v5.2.2.1),()))
   else
   Option.map Sum.inr (some (Sum.inl (v5.1,(eT0 v5.2.2.1),())))) (false,(0:Int),(eT0 v3.2.1),())
   else
   Option.map Sum.inr (aD (λ(v9:Int×au×Unit)=>
   bif (decide (v9.1<((List.length v3.2.1.aF:Nat):Int)))then
   aY (λ(v10:au×Unit)=>
   some (Sum.inl ((aA .i64 v9.1 (1:Int)),(eT0 v10.1),()))) λj11=>
   Option.bind (idx v3.2.1.aF v9.1) λx12=>
   Option.bind (kO (eT0 v9.2.1) x12) λr13=>
   Option.bind (lS (eT0 v9.2.1)) λr14=>
   Option.bind (ik r14 v9.2.1.al r13.2.1) λr15=>
   bif r15 then
   Option.bind (nj v9.2.1.aR x12) λr16=>
   j11 ({v9.2.1 with aa:=(aq v9.2.1.aa),aR:=r16},())
   else
   j11 ((eT0 v9.2.1),())
   else
   Option.map Sum.inr (aY (λ(v17:au×Unit)=>
   some (eT0 v17.1)) λj18=>
   Option.bind (gd b.bj v9.2.1.bj) λr19=>
   Option.bind (bif (!r19)then some true
   else
   Option.bind (gd b.aF v9.2.1.aF) λr20=>
   some (!r20)) λb21=>
   Option.bind (bif b21 then some true
   else
   Option.bind (jl (aq b.aa) (aq v9.2.1.aa)) λr22=>
   some (!r22)) λb23=>
   bif b23 then
   j18 ({v9.2.1 with aH:=(aA .i64 b.aH (1:Int)),aa:=(aq v9.2.1.aa)},())
   else
   j18 ((eT0 v9.2.1),()))) ((0:Int),(eT0 v3.2.1),()))) (true,n,())=
   some (if Hc b {pb 41 n with aR:=BM (pb 41 n)}=true then{pb 41 n with aR:=BM (pb 41 n)}else{pb 41 n with aR:=BM (pb 41 n),aH:=b.aH+1}):=by
  intro n h;refine aem (fin:=λm=>some (if Hc b {m with aR:=BM m}=true then{m with aR:=BM m}else{m with aR:=BM m,aH:=b.aH+1})) (λm hm=> ?_) (λm hm=> ?_) 41 h (by omega)
  ·have hkl:=To hm;simp only[Qk,etas,aff hm,Qa]
   suffices key:∀(k i:Nat),i+k=(ft m).length->(∀x∈(ft m).take i,sj m x=false)->aD _ (false,(i:Int),m,())=some (Sum.inl (match(ft m).find? (sj m)with|some x=>(true,{m with aF:=mI m.aF x},())|none=>(false,m,())))from key (ft m).length 0 (by omega) (by simp)
   intro k
   induction k with
   |zero=>
    intro i hi hpre;obtain rfl:i=(ft m).length:=by omega
    rw[Qq62]at hpre;have hf:(ft m).find? (sj m)=none:=List.find?_eq_none.2 λx hx=>by rw[hpre x hx];simp
    rw[hf];exact bM (by simp only[Qh (Qq64 _),Ql,Qe])
   |succ k ih=>
    intro i hi hpre;have hlt:i<(ft m).length:=by omega
    have hx:idx (ft m) (i:Int)=some (ft m)[i]:=by rw[bf];exact Qv hlt
    have hadd:aA .i64 (i:Int) 1=((i+1:Nat):Int):=bH (by omega) (by omega)
    have hd:decide ((i:Int)<(((ft m).length:Nat):Int))=true:=Qg (by omega)
    cases hc:sj m (ft m)[i]with
    |true=>
     have hf:(ft m).find? (sj m)=some (ft m)[i]:=by
      rw[List.find?_eq_some_iff_getElem];refine⟨hc,i,hlt,rfl,λj hj=> ?_⟩
      rw[hpre _ (List.mem_take_iff_getElem.2 ⟨j,by omega,rfl⟩)]
      rfl
     rw[hf];refine bM ?_;simp only[hd,hx,Qk,Qa,aen hm,hc,Jr hm.eI,Qe]
    |false=>
     refine(bw ?_).trans (ih (i+1) (by omega) λx hx2=> ?_)
     ·simp only[hd,hx,hadd,Qk,Ql,Qa,aen hm,hc]
     ·rw[Q7 hlt,Qz,Q5]at hx2;rcases hx2 with hx2|rfl
      ·exact hpre x hx2
      ·exact hc
  ·have hal:=hm.eI.len;simp only[Ql,etas,aS];congr 1;refine(fold_eq m.aF (by omega) (G6 m) (λi c=>(i,{m with aR:=c},())) (EG m) (λs x hx hs=>MM hm hs hx) (fin:=λc=>some (if Hc b {m with aR:=c}=true then{m with aR:=c}else{m with aR:=c,aH:=b.aH+1})) (λi y s hs hy hd hx hadd=> ?_) (λs hs hd=> ?_) hm.adL).trans rfl
   ·have hms:=hm.acw hs.vl hs.sub;have hsd:kO {m with aR:=s} y=_:=X0 hms y
    have hvw:lS {m with aR:=s}=_:=aaM hms
    have hsu:ik ⟨oG {m with aR:=s}⟩ m.al _=some (KM m y):=aiN hms y
    simp only[hd,hx,hadd,Qk,Qa,hsd,hvw,hsu];unfold G6
    cases KM m y with
    |true=>simp only[Qk,Jr hs.vl,Qa,Qt]
    |false=>rfl
   ·obtain⟨b1,f1,g1⟩:=Om (s:=b.bj) (t:=m.bj) hb.2.1;obtain⟨b2,f2,g2⟩:=Om (s:=b.aF) (t:=m.aF) hb.2.2;obtain⟨b3,f3,g3⟩:=HX (a:=b.aa) (b:=m.aa) hb.1;have hadd:aA .i64 b.aH 1=b.aH+1:=bH (by omega) (by omega)
    simp only[hd,Ql,f1,f2,f3,Qa,hadd]
    by_cases e:b.bj=m.bj/\b.aF=m.aF/\b.aa=m.aa
    ·rw[Qr ((EV (b:=b) (r:={m with aR:=s})).2 e),g1.2 e.1,g2.2 e.2.1,g3.2 e.2.2]
     rfl
    ·rw[Qs (λe'=>e ((EV (b:=b) (r:={m with aR:=s})).1 e'))]
     cases b1 with
     |false=>rfl
     |true=>
      cases b2 with
      |false=>rfl
      |true=>
       cases b3 with
       |false=>rfl
       |true=>exact absurd ⟨g1.1 rfl,g2.1 rfl,g3.1 rfl⟩ e
 unfold fZ;simp only[etas,aS,acN h,Qa];unfold ly uP
 by_cases h0:n.aR.length=0
 ·rw[Qg (by omega:(n.aR.length:Int)=0),Qk]
  simp only[Qr h0];have:=body {n with bj:=zk n} (h.Jg (EO h))
  simp only[etas,aS]at this;exact this
 ·rw[Qh (by omega:¬(n.aR.length:Int)=0),Ql]
  simp only[Qs h0];have:=body n h;simp only[etas,aS]at this;exact this
def JF{n:au}(h:cJ n):nK n=some n:=by
 have hlen:=h.len;have hv:=h.du.len;have ha:=h.eI.len;have hc:=h.kL.len;unfold nK;simp only[etas,Ya h.ask.aN.sm,wg _ (QK hv (by omega)),wg _ (QK ha (by omega)),wg _ (QK hc (by omega)),Qa]
 suffices key:∀(k i:Nat),i+k=n.ar.length->aD _ ((i:Int),{n with bj:=[],aF:=[],aR:=[],ar:=[]},n.bj,n.aF,n.aR,n.ar.take i,())=some n from key n.ar.length 0 (by omega)
 intro k
 induction k with
 |zero=>
  intro i hi;obtain rfl:i=n.ar.length:=by omega
  refine bM ?_;simp only[Qh (Qq64 _),Ql,Qq62,Qe]
 |succ k ih=>
  intro i hi;have hlt:i<n.ar.length:=by omega
  have hx:idx n.ar (i:Int)=some n.ar[i]:=by rw[bf];exact Qv hlt
  have hm:=(h.heard _ (Q0 hlt)).1;have hvl:=hm.du.len;have hal:=hm.eI.len;refine(bw ?_).trans (ih (i+1) (by omega))
  simp only[Qg (by omega:(i:Int)<(n.ar.length:Int)),hx,Qk,Qa,az.eta,aa4 hm.aN.sm (QK hvl (by omega)) (QK hal (by omega))]
  rw[lY (by omega) (by simp;omega),bH (by omega) (by omega),Q7 hlt]
  rfl
def ac2{b n:au}(hb:cU b.aa/\b.bj.length<=1000000/\b.aF.length<=1000000)(hs:0<=b.aH/\b.aH<=1000000)(hq:n.aH=b.aH)(h:cJ n):mF b n=some (ly b n):=by
 have k:=EU h;have hok:=(ML (b:=b) h).ok;have hadd:aA .i64 (uP n).aH 1=b.aH+1:=by rw[k.seq,hq];exact bH (by omega) (by omega)
 obtain⟨b1,f1,g1⟩:=ahA (s:=b.bj) (t:=(uP n).bj) hb.2.1;obtain⟨b2,f2,g2⟩:=ahA (s:=b.aF) (t:=(uP n).aF) hb.2.2;obtain⟨b3,f3,g3⟩:=eqT (a:=b.aa) (b:=(uP n).aa) hb.1;unfold mF;simp only[etas,aS,Te h,f1,f2,f3,Qa,hadd];unfold ly at hok ⊢
 by_cases e':Hc b (uP n)=true
 ·have e:=EV.1 e';rw[Qr e']at hok ⊢;rw[g1.2 e.1,g2.2 e.2.1,g3.2 e.2.2];simp only[Qo,Ql,Qa,JF hok]
 ·have e:¬(b.bj=(uP n).bj/\b.aF=(uP n).aF/\b.aa=(uP n).aa):=λe=>e' (EV.2 e)
  rw[Qs e']at hok ⊢
  cases b3 with
  |false=>simp only[Qp,Qk,Qa,JF hok]
  |true=>
   cases b1 with
   |false=>simp only[Qp,Qo,Qk,Ql,Qa,JF hok]
   |true=>
    cases b2 with
    |false=>simp only[Qp,Qo,Qk,Ql,Qa,JF hok]
    |true=>exact absurd ⟨g1.1 rfl,g2.1 rfl,g3.1 rfl⟩ e
end
section
def iz(l:List az)(m:az):List az:=l.filter (λx=>decide (x.al<m.al))++m::l.filter (λx=>decide (m.al<x.al))
def uR(l:List az)(m:az):Bool:=l.any λx=>decide (x.al=m.al)&&decide (m.aH<=x.aH)
def Tr{l:List az}{m x:az}:x∈iz l m↔x=m\/(x∈l/\x.al≠m.al):=by
 unfold iz;simp only[Qz,QA,List.mem_filter,Qi];constructor
 ·rintro(⟨h1,h2⟩|h|⟨h1,h2⟩)
  ·exact .inr ⟨h1,by omega⟩
  ·exact .inl h
  ·exact .inr ⟨h1,by omega⟩
 ·rintro(h|⟨h1,h2⟩)
  ·exact .inr (.inl h)
  ·rcases Int.lt_or_gt_of_ne h2 with h3|h3
   ·exact .inl ⟨h1,h3⟩
   ·exact .inr (.inr ⟨h1,h3⟩)
def HT{n:au}(h:cJ n){m:az}(hm:uX m)(hne:m.al≠n.al):cJ {n with ar:=iz n.ar m}:=by
 refine⟨h.ask,h.own,h.du,h.eI,h.kL,h.sub,λx hx=> ?_,?_⟩
 ·rcases Tr.1 hx with rfl|⟨hx,_⟩
  ·exact⟨hm,hne⟩
  ·exact h.heard x hx
 ·show(iz n.ar m).Pairwise _;unfold iz;rw[Qq69,Q4];refine⟨h.dn.filter _,⟨λx hx=>of_decide_eq_true (List.mem_filter.1 hx).2,h.dn.filter _⟩,λx hx y hy=> ?_⟩
  have h1:=of_decide_eq_true (List.mem_filter.1 hx).2;rcases QA.1 hy with rfl|hy
  ·exact h1
  ·have h2:=of_decide_eq_true (List.mem_filter.1 hy).2;omega
def N2{a:Int}:∀{l:List az},l.Pairwise (λx y=>x.al<y.al)->l.filter (λx=>decide (x.al<a))=l.takeWhile (λx=>decide (x.al<a))/\∀x∈l.drop (l.takeWhile λx=>decide (x.al<a)).length,a<=x.al
 |[],_=>⟨rfl,λx hx=>by simp at hx⟩
 |y::l,hp=>by
  rw[Q4]at hp
  by_cases hy:y.al<a
  ·obtain⟨h1,h2⟩:=N2 (a:=a) hp.2;rw[List.filter_cons,List.takeWhile_cons,Qg hy];simp only[Qt,QE,List.drop_succ_cons];exact⟨by rw[h1],h2⟩
  ·rw[List.filter_cons,List.takeWhile_cons,Qh hy];simp only[Qq,Qu,QZ,List.drop_zero];refine⟨List.filter_eq_nil_iff.2 λx hx=> ?_,λx hx=> ?_⟩
   ·have:=hp.1 x hx;rw[Qi];omega
   ·rcases QA.1 hx with rfl|hx
    ·omega
    ·have:=hp.1 x hx;omega
def SI{a:Int}:∀{l:List az},l.Pairwise (λx y=>x.al<y.al)->l.filter (λx=>decide (a<x.al))=match l.drop (l.takeWhile λx=>decide (x.al<a)).length with|[]=>[]|y::r=>if y.al=a then r else y::r
 |[],_=>rfl
 |y::l,hp=>by
  rw[Q4]at hp
  by_cases hy:y.al<a
  ·have h1:=SI (a:=a) hp.2;rw[List.filter_cons,List.takeWhile_cons,Qg hy,Qh (by omega:¬a<y.al)]
   simp only[Qt,Qq,Qu,QE,List.drop_succ_cons];exact h1
  ·have hall:∀x∈l,a<x.al:=λx hx=>by have:=hp.1 x hx;omega
   rw[List.filter_cons,List.takeWhile_cons,Qh hy];simp only[Qq,Qu,QZ,List.drop_zero];rw[List.filter_eq_self.2 λx hx=>Qg (hall x hx)]
   by_cases he:y.al=a
   ·rw[Qr he,Qh (by omega:¬a<y.al)];rfl
   ·rw[Qs he,Qg (by omega:a<y.al)];rfl
def aeA(x:az)(a:Int):mG x a=some (yG x.al a):=by
 unfold mG;simp
section
variable {n : au} (h : cJ n)
 include h
theorem ahz(a:Int):cv n.ar a=some ((((n.ar.takeWhile λx=>decide (x.al<a)).length:Nat):Int),(match n.ar.drop (n.ar.takeWhile λx=>decide (x.al<a)).length with|[]=>false|y::_=>decide (y.al=a)),()):=by
 have hlen:=h.len;unfold cv;refine(Ia n.ar (by omega) (λy=>decide (y.al<a)) (h.dn.imp λ{x y} hxy hy=>by simp only[Qi]at hy ⊢;omega) (fin:=λk=>some (((k:Nat):Int),(match n.ar.drop k with|[]=>false|y::_=>decide (y.al=a)),())) (λi j m y hd hj hm hadd hx=> ?_) (λi hd hi=> ?_)).trans rfl
 ·have hc:decide (yG y.al a<0)=decide (y.al<a):=by rw[decide_eq_decide];exact H9 _ _
  simp only[hd,hm,hadd,hx,az.eta,etas,aeA,hc,Qa,Qk];cases decide (y.al<a)<;>rfl
 ·simp only[hd,Ql]
  by_cases hi2:i<n.ar.length
  ·have hc:decide (yG n.ar[i].al a=0)=decide (n.ar[i].al=a):=by rw[decide_eq_decide];exact we _ _
   rw[Qg (by omega:(i:Int)<(n.ar.length:Int)),QM hi2]
   simp only[Qk,bf,Qv hi2,Qa,az.eta,etas,aeA,hc,Qe]
  ·rw[Qh (by omega:¬(i:Int)<(n.ar.length:Int)),List.drop_eq_nil_of_le (by omega)]
   rfl
theorem ahy(hs:1<=n.aH/\n.aH<=1000000){m:az}(hm:uX m)(hne:m.al≠n.al):sG n m=some (if uR n.ar m then(EN,9,())else(ly n {n with ar:=iz n.ar m},0,())):=by
 have hlen:=h.len;have hno:=HT h hm hne;have hk:=MH (λx:az=>decide (x.al<m.al)) n.ar
 obtain⟨s1,s2⟩:=N2 (a:=m.al) h.dn;have s3:=SI (a:=m.al) h.dn
 have htake:n.ar.take (n.ar.takeWhile λx=>decide (x.al<m.al)).length=n.ar.takeWhile λx=>decide (x.al<m.al):=by
  conv=>lhs;arg 2;rw[<-List.takeWhile_append_dropWhile (p:=λx=>decide (x.al<m.al)) (l:=n.ar)]
  exact List.take_left
 have hturn:mF n {n with ar:=iz n.ar m}=some (ly n {n with ar:=iz n.ar m}):=ac2 h.Fo ⟨by omega,hs.2⟩ rfl hno
 unfold sG;simp only[etas,az.eta,X9 h hs,Yc hm,ahz h,Wx h,Qa,Qo,Ql,Qh hne,aS]
 have hold:uR n.ar m=match n.ar.drop (n.ar.takeWhile λx=>decide (x.al<m.al)).length with|[]=>false|y::_=>decide (y.al=m.al)&&decide (m.aH<=y.aH):=by
  have hsplit:n.ar=(n.ar.takeWhile λx=>decide (x.al<m.al))++n.ar.drop (n.ar.takeWhile λx=>decide (x.al<m.al)).length:=by
   conv=>lhs;rw[<-List.take_append_drop (n.ar.takeWhile λx=>decide (x.al<m.al)).length n.ar]
   rw[htake]
  have hpre:∀x∈n.ar.takeWhile λx=>decide (x.al<m.al),x.al<m.al:=λx hx=>by
   rw[<-s1]at hx;exact of_decide_eq_true (List.mem_filter.1 hx).2
  have hsd:=h.dn;unfold uR;rw[hsplit]at hsd
  conv=>lhs;rw[hsplit]
  rw[List.any_append,List.any_eq_false.2 λx hx=>by have:=hpre x hx;rw[Qh (by omega:¬x.al=m.al)];simp,Bool.false_or]
  cases hd:n.ar.drop (n.ar.takeWhile λx=>decide (x.al<m.al)).length with
  |nil=>rfl
  |cons y r=>
   rw[hd,Qq69,Q4]at hsd;have hy:m.al<=y.al:=s2 y (by rw[hd];exact Qx)
   rw[List.any_cons,List.any_eq_false.2 λx hx=>by have:=hsd.2.1.1 x hx;rw[Qh (by omega:¬x.al=m.al)];simp,Bool.or_false]
 have hl:iz n.ar m=(n.ar.takeWhile λx=>decide (x.al<m.al))++m::(match n.ar.drop (n.ar.takeWhile λx=>decide (x.al<m.al)).length with|[]=>[]|y::r=>if y.al=m.al then r else y::r):=by
  unfold iz;rw[s1,s3]
 rw[hold];generalize hkk:(n.ar.takeWhile λx=>decide (x.al<m.al)).length=k at*
 cases hd:n.ar.drop k with
 |nil=>
  rw[hd]at hl
  have hkl:k=n.ar.length:=by
   have:=congrArg List.length hd;simp only[List.length_drop,QZ]at this;omega
  have hins:cx n.ar (k:Int) [m]=some (iz n.ar m):=by
   unfold cx CC;rw[Qg (by omega:(0:Int)<=(k:Int)),Qg (by omega:(k:Int)<=(n.ar.length:Int)),lY (by omega) (by simp;omega),hl]
   simp only[QV,htake,hd];simp
  simp only[Ql,hins,hturn,Qa,Qq,Qu]
 |cons y r=>
  rw[hd]at hl
  have hk1:k<n.ar.length:=by
   have:=congrArg List.length hd;simp only[List.length_drop,QE]at this;omega
  have hyk:n.ar[k]=y:=by
   rw[QM hk1]at hd;exact(List.cons.inj hd).1
  have hr:n.ar.drop (k+1)=r:=by
   rw[QM hk1]at hd;exact(List.cons.inj hd).2
  have hx:idx n.ar (k:Int)=some y:=by rw[bf,Qv hk1,hyk]
  have hx2:n.ar[k]?=some y:=by rw[Qv hk1,hyk]
  by_cases hyn:y.al=m.al
  ·simp only[Qr hyn]at hl;simp only[Qg hyn,Qk,hx,Qa,Bool.true_and,QV,hx2]
   cases decide (m.aH<=y.aH)with
   |true=>rfl
   |false=>
    have hset:n.ar.set k m=iz n.ar m:=by
     rw[hl,List.set_eq_take_append_cons_drop,Qr hk1,htake,hr]
    simp only[Ql,hset,hturn,Qa,Qq,Qu]
  ·simp only[Qs hyn]at hl
   have hins:cx n.ar (k:Int) [m]=some (iz n.ar m):=by
    unfold cx CC;rw[Qg (by omega:(0:Int)<=(k:Int)),Qg (by omega:(k:Int)<=(n.ar.length:Int)),lY (by omega) (by simp;omega),hl]
    simp only[QV,htake,hd];simp
   simp only[Qh hyn,Ql,hins,hturn,Qa,Bool.false_and,Qq,Qu]
theorem aaR(hs:1<=n.aH/\n.aH<=1000000){m:az}(hm:uX m)(hne:m.al≠n.al):tk n m=some (if uR n.ar m then(EN,9,())else(ly n {n with ar:=iz n.ar m},0,())):=by
 have hlen:=h.len;have hset:fZ n {n with ar:=iz n.ar m}=some (ly n {n with ar:=iz n.ar m}):=Jq h.Fo ⟨by omega,hs.2⟩ (HT h hm hne)
 have kk:∀(a:List az) (x:az),a.length<=100->bl 120 (a.length+[x].length)=true:=λa x ha=>bC ⟨by simp only[Q6];omega,by simp only[Q6];omega⟩
 unfold tk;simp only[etas,az.eta,Gg h hs,RA hm,Qa,Qo,Ql];rw[Qh hne];simp only[Ql,aS]
 suffices key:Yd (aD _ (false,(0:Int),EN,{n with ar:=[]},[],())) λr=>r=if uR n.ar m then(EN,(9:Int),())else(ly n {n with ar:=iz n.ar m},(0:Int),())by
  obtain⟨r,g,rfl⟩:=key;exact g
 refine Yd.list n.ar (by omega) (λi (s:Bool×List az)=>(s.1,i,EN,{n with ar:=[]},s.2,()))
  (λi s=>s.2.length<=i+1/\uR (n.ar.take i) m=false/\s.1=(n.ar.take i).any (λx=>decide (m.al<x.al))/\s.2=(n.ar.take i).filter (λx=>decide (x.al<m.al))++(if s.1 then[m]else[])++(n.ar.take i).filter (λx=>decide (m.al<x.al))) ?_ ?_ (s:=(false,[])) ⟨by simp,rfl,rfl,rfl⟩
 ·rintro i x ⟨d,acc⟩ ⟨a1,a2,a3,a4⟩ hd hx' hi hdec hx hadd;simp only at a1 a2 a3 a4;have e:n.ar.take (i+1)=n.ar.take i++[x]:=by rw[List.take_add_one,show n.ar[i]?=some x by rw[bf]at hx;exact hx];rfl
  have hlt:∀y∈n.ar.take i,y.al<x.al:=by
   have:=h.dn.sublist (List.take_sublist (i+1) n.ar);rw[e,Qq69]at this;exact λy hy=>this.2.2 y hy x (by simp)
  have k1:=kk acc m (by omega)
  have k2:=kk acc x (by omega)
  have k3:=kk (acc++[m]) x (by simp only[QB,Q6];omega)
  simp only;rw[hdec,Qk,hx,Qa,hadd]
  by_cases hn:x.al=m.al
  ·rw[Qg hn,Qk]
   by_cases hq:m.aH<=x.aH
   ·rw[Qg hq];refine .some ?_;have:uR n.ar m=true:=List.any_eq_true.2 ⟨x,hx',by rw[Qg hn,Qg hq];rfl⟩
    show _=_;rw[Qr this];rfl
   ·rw[Qh hq];refine .some ⟨(d,acc),rfl,by show acc.length<=i+1+1;omega,?_,?_,?_⟩
    ·rw[e];unfold uR at a2 ⊢;rw[List.any_append,a2];simp[hq]
    ·rw[e,List.any_append];simp only;rw[<-a3];simp[hn]
    ·rw[e];simp only[List.filter_append,List.filter_cons,List.filter_nil,Qh (by omega:¬x.al<m.al),Qh (by omega:¬m.al<x.al),Qq,Qu,List.append_nil]
     exact a4
  ·rw[Qh hn,Ql,k1,k2,k3]
   have holdx:uR (n.ar.take (i+1)) m=false:=by
    rw[e];unfold uR at a2 ⊢;rw[List.any_append,a2];simp[hn]
   by_cases hlx:m.al<x.al
   ·rw[Qg hlx]
    have hany:(n.ar.take (i+1)).any (λx=>decide (m.al<x.al))=true:=by
     rw[e,List.any_append];simp[hlx]
    have hfl:(n.ar.take (i+1)).filter (λx=>decide (x.al<m.al))=(n.ar.take i).filter (λx=>decide (x.al<m.al)):=by
     rw[e,List.filter_append,List.filter_cons,Qh (by omega:¬x.al<m.al)]
     simp
    have hfg:(n.ar.take (i+1)).filter (λx=>decide (m.al<x.al))=(n.ar.take i).filter (λx=>decide (m.al<x.al))++[x]:=by
     rw[e,List.filter_append,List.filter_cons,Qg hlx];rfl
    cases d with
    |true=>
     simp only[Qo,Ql,Qk,Qa];refine .some ⟨(true,acc++[x]),rfl,by simp only[QB,Q6];omega,holdx,hany.symm,?_⟩
     simp only;rw[hfl,hfg,a4];simp
    |false=>
     simp only[Qp,Qk,Qa]
     have hnil:(n.ar.take i).filter (λx=>decide (m.al<x.al))=[]:=by
      refine List.filter_eq_nil_iff.2 λy hy=> ?_
      have:=List.any_eq_false.1 a3.symm y hy;exact this
     rw[hnil]at a4;refine .some ⟨(true,acc++[m]++[x]),rfl,?_,holdx,hany.symm,?_⟩
     ·have hb:acc.length<=i:=by
       rw[a4];simp only[Qq,Qu,List.append_nil];refine QK (List.length_filter_le _ _) ?_;rw[List.length_take];omega
      simp only[QB,Q6];omega
     ·simp only;rw[hfl,hfg,hnil,a4];simp
   ·have hxm:x.al<m.al:=by omega
    rw[Qh hlx];have hnone:∀y∈n.ar.take i,¬m.al<y.al:=λy hy=>by have:=hlt y hy;omega
    have hd0:d=false:=by
     rw[a3];exact List.any_eq_false.2 λy hy=>by rw[Qh (hnone y hy)];simp
    have hnil:(n.ar.take i).filter (λx=>decide (m.al<x.al))=[]:=List.filter_eq_nil_iff.2 λy hy=>by rw[Qh (hnone y hy)];simp
    subst hd0;rw[hnil]at a4;simp only[Qp,Qk,Ql,Qa];refine .some ⟨(false,acc++[x]),rfl,by simp only[QB,Q6];omega,holdx,?_,?_⟩
    ·rw[e,List.any_append];simp only;rw[<-a3];simp[hlx]
    ·simp only;rw[e,List.filter_append,List.filter_append,hnil,a4];simp[hxm,hlx]
 ·rintro⟨d,acc⟩ ⟨a1,a2,a3,a4⟩ hdec;rw[Qq62]at a2 a3 a4;simp only at a1 a2 a3 a4;simp only;rw[hdec,Ql];have k1:=kk acc m (by omega)
  have hold:uR n.ar m=false:=a2;rw[k1,hold]
  cases d with
  |true=>
   have:acc=iz n.ar m:=by rw[a4];simp[iz]
   rw[this];simp only[Qo,Ql,hset,Qa,Qe];exact .some rfl
  |false=>
   have hnil:n.ar.filter (λx=>decide (m.al<x.al))=[]:=List.filter_eq_nil_iff.2 λy hy=>List.any_eq_false.1 a3.symm y hy
   have:acc++[m]=iz n.ar m:=by
    rw[hnil]at a4;unfold iz;rw[hnil,a4];simp
   simp only[Qp,Qk,this,hset,Qa,Qe];exact .some rfl
end
def afu{t:aj}{v aJ:Int}{own:ByteArray}(ht:dq t)(h0:0<=v)(h1:v<10)(h2:0<=aJ)(h3:aJ<=1000000)(ho:own.size<=200):rQ v aJ t own=mo v aJ t own:=by
 have hn:cJ ⟨v,aJ,1,1,t,own,[],[],[],[]⟩:=⟨⟨ht,h0,h1,h2,h3,by show(1:Int)<=1;omega,by show(1:Int)<=1000;omega⟩,ho,.nil,.nil,.nil,λx hx=>absurd hx QR,λx hx=>absurd hx QR,List.Pairwise.nil⟩
 have k:=EU hn;have hq:(uP ⟨v,aJ,1,1,t,own,[],[],[],[]⟩).aH=1:=k.seq;unfold mo rQ;simp only[etas,dH ht,eJ ht,Zv h0 h1];rw[Qh (by omega:¬v<0),Qh (by omega:¬(10:Int)<=v),Qh (by omega:¬aJ<0),Qh (by omega:¬(1000000:Int)<aJ),Qh (by omega:¬(200:Int)<((own.size:Nat):Int))]
 simp only[Ql,Qa,decide_true,Qo,Te hn,JF k.ok];rw[Jq hn.Fo ⟨by show(0:Int)<=1;omega,by show(1:Int)<=1000000;omega⟩ hn,Qa]
 unfold ly;split
 ·generalize uP ⟨v,aJ,1,1,t,own,[],[],[],[]⟩=r at hq;obtain⟨a1,a2,a3,a4,a5,a6,a7,a8,a9,a10⟩:=r;simp only at hq;subst hq;rfl
 ·generalize uP ⟨v,aJ,1,1,t,own,[],[],[],[]⟩=r at hq;obtain⟨a1,a2,a3,a4,a5,a6,a7,a8,a9,a10⟩:=r;simp only at hq;subst hq;rfl
end
section
def Ge{a b:ab}(hq:a.aH=b.aH){s:Int}:({a with aH:=s}:ab)={b with aH:=s}↔a=b:=by
 constructor
 ·intro h;cases a;cases b;simp only[ab.mk.injEq]at h hq ⊢;obtain⟨h1,h2,_,h3⟩:=h;exact⟨h1,h2,hq,h3⟩
 ·rintro rfl;rfl
def step_seq{m:ab}(h:bs m){s:Int}(hs:0<=s/\s<=1000000):c7 {m with aH:=s}={c7 m with aH:=s}:=by
 have e1:c8 {m with aH:=s}={m with aH:=s}↔c8 m=m:=by rw[JB h hs];exact Ge (BX m).seq
 have e2:gB {m with aH:=s}={m with aH:=s}↔gB m=m:=by rw[JA h hs];exact Ge (yS m).seq
 have e3:fW {m with aH:=s}={m with aH:=s}↔fW m=m:=by rw[JD h hs];exact Ge (yU m).seq
 have e4:ja {m with aH:=s}={m with aH:=s}↔ja m=m:=by rw[JC h hs];exact Ge (yT m).seq
 unfold c7
 by_cases hP:c8 m=m
 ·rw[Qr (e1.2 hP),Qr hP]
  by_cases hS:gB m=m
  ·rw[Qr (e2.2 hS),Qr hS]
   by_cases hC:fW m=m
   ·rw[Qr (e3.2 hC),Qr hC]
    by_cases hF:ja m=m
    ·rw[Qr (e4.2 hF),Qr hF,S9 h hs]
    ·rw[Qs (mt e4.1 hF),Qs hF,JC h hs]
   ·rw[Qs (mt e3.1 hC),Qs hC,JD h hs]
  ·rw[Qs (mt e2.1 hS),Qs hS,JA h hs]
 ·rw[Qs (mt e1.1 hP),Qs hP,JB h hs]
 def Mr:Nat->ab->ab
 |0,m=>m
 |k+1,m=>c7 (Mr k m)
def R4{m:ab}(h:c7 m=m):∀k,Mr k m=m
 |0=>rfl
 |k+1=>by rw[Mr,R4 h k,h]
def R5(m:ab)(k:Nat):∀j,Mr (j+k) m=Mr j (Mr k m)
 |0=>by rw[Nat.zero_add];rfl
 |j+1=>by rw[Nat.add_right_comm,Mr,Mr,R5 m k j]
def Ey(m1 x:ab):Prop:=bs x/\∃k,({x with aH:=0}:ab)=Mr k {m1 with aH:=0}
def Ey.self{m1:ab}(h:bs m1):Ey m1 m1:=⟨h,0,rfl⟩
def Uo{m1:ab}:∀m,bs m->Ey m1 m->Ey m1 (c7 m):=λm h ⟨_,k,e⟩=>⟨ET h,k+1,by rw[Mr,<-e,step_seq (s:=0) h ⟨by decide,by decide⟩]⟩
def Un{m1:ab}:∀m,Ey m1 m->Ey m1 (dh m):=λm ⟨h,k,e⟩=>⟨yq h,k,by
 rw[<-e];unfold dh
 split<;>rfl⟩
def aal{m0 m1 a b:ab}(ha:Iq (Ey m1) m0 a)(hb:Iq (Ey m1) m0 b)(hq:0<=m0.aH):a=b:=by
 have fixed:∀{x:ab},Iq (Ey m1) m0 x->c7 {x with aH:=0}={x with aH:=0}:=λ{x} hx=>by rw[step_seq (s:=0) hx.inv ⟨by decide,by decide⟩,adq hx.fix]
 obtain⟨_,k,ea⟩:=ha.rel;obtain⟨_,j,eb⟩:=hb.rel
 have core:({a with aH:=0}:ab)={b with aH:=0}:=by
  rcases Nat.le_total k j with h|h
  ·have e2:=R5 {m1 with aH:=0} k (j - k)
   rw[show j - k+k=j by omega,<-eb,<-ea,R4 (fixed ha)]at e2
   exact e2.symm
  ·have e2:=R5 {m1 with aH:=0} j (k - j)
   rw[show k - j+j=k by omega,<-eb,<-ea,R4 (fixed hb)]at e2
   exact e2
 have hz:a.ae=b.ae:=by
  have:=congrArg ab.ae core;exact this
 have hs:a.aH=b.aH:=by
  have n1:=ha.num;have n2:=hb.num
  cases hc:aP a.ae with
  |true=>
   rw[ha.seq.zero hc,hb.seq.zero (by rw[<-hz];exact hc)]
  |false=>
   have p1:=ha.seq.pos hc;have p2:=hb.seq.pos (by rw[<-hz];exact hc)
   omega
 exact(Ge hs).1 core
def Th{m m1:ab}{q q':ab×Int×Unit}(h1:0<=(dh m1).aH)(h:IM (Ey m1) m m1 q)(h':IM (Ey m1) m m1 q'):q=q':=by
 obtain⟨a,rfl,ha⟩:=h;obtain⟨b,rfl,hb⟩:=h';rw[aal ha hb h1]
section
variable {m : ab} (h : bs m) (hs : fR m)
 include h hs
theorem abI{v:ByteArray}(hv:1<=v.size/\v.size<=200):oV m v=kc m v:=by
 have hi:=Hn h hv;obtain⟨q,e1,h1⟩:=ac4 Uo Un h hs hv (Ey.self hi);obtain⟨q',e2,h2⟩:=MU Uo Un h hs hv (Ey.self hi);rw[e1,e2,Th (yq hi).seq.1 h1 h2]
theorem abH{e:ak}(he:Ah m e):jP m e=kb m e:=by
 have hi:=HR h he;obtain⟨q,e1,h1⟩:=ac3 Uo Un h hs he (Ey.self hi);obtain⟨q',e2,h2⟩:=U3 Uo Un h hs he (Ey.self hi);rw[e1,e2];rcases h1 with⟨h1,a⟩|⟨rfl,a⟩<;>rcases h2 with⟨h2,b⟩|⟨rfl,b⟩
 ·rw[Th (yq hi).seq.1 h1 h2]
 ·rw[a]at b;cases b
 ·rw[a]at b;cases b
 ·rfl
end
end
section
def adF{a b:ByteArray}:decide (0<xo a b)=bO b a:=by
 cases h:bO b a with
 |true=>
  have h1:¬xo a b<0:=λe=>by
   have:=wc a b;rw[Qg e,jt.asymm h]at this;cases this
  have h2:¬xo a b=0:=λe=>by
   have h3:=Kr (a:=a) (b:=b);rw[Qg e]at h3;rw[of_decide_eq_true h3.symm,jt.irrefl]at h;cases h
  exact Qg (by omega)
 |false=>
  refine Qh λe=> ?_
  have h1:bO a b=false:=by rw[<-wc];exact Qh (by omega)
  have h2:=jt.total _ _ h1 h;have h3:=Kr (a:=a) (b:=b);rw[Qg h2]at h3;have:=of_decide_eq_true h3;omega
def na(l:List ByteArray):ByteArray:=l.getLast?.getD bE
def JP{l:List ByteArray}(h:l≠[]):na l∈l:=by
 unfold na
 cases hl:l.getLast? with
 |none=>exact absurd (List.getLast?_eq_none_iff.1 hl) h
 |some a=>exact List.mem_of_getLast? hl
def adi{x:ByteArray}(h:kM x):bO bE x=true:=by
 have:=h.1;have h0:bE.size=0:=rfl;unfold bO;rw[Qs (by rw[h0];omega),h0]
 exact Qg (by omega)
def HD{l:List ByteArray}{i:Nat}{x:ByteArray}(hx:l[i]?=some x):na (l.take (i+1))=x:=by
 unfold na;rw[List.take_add_one,hx];simp
def Tm{l:List ByteArray}(h:VL l){i:Nat}{x:ByteArray}(hx:l[i]?=some x):bO (na (l.take i)) x=true:=by
 have hi:i<l.length:=(Qw.1 hx).1;have hxe:l[i]=x:=(Qw.1 hx).2
 by_cases h0:i=0
 ·subst h0;exact adi (h.rZ x (Q8 hx))
 ·have e:=HD (l:=l) (i:=i - 1) (Qv (by omega))
  rw[show i - 1+1=i by omega]at e
  rw[e,<-hxe];exact List.pairwise_iff_getElem.1 h.GQ (i - 1) i (by omega) hi (by omega)
def aaS{l:List ByteArray}(h:VL l):l9 l=some (na l,decide (l≠[]),()):=by
 unfold l9;simp only[aS]
 suffices key:Yd (aD _ (bE,false,(0:Int),())) λr=>r=(na l,decide (l≠[]),())by
  obtain⟨r,g,rfl⟩:=key;exact g
 refine Yd.list l h.sy (λi (s:ByteArray×Bool)=>(s.1,s.2,i,())) (λi s=>s=(na (l.take i),decide (i≠0))) ?_ ?_ (s:=(_,false)) rfl
 ·rintro i x s rfl hd hx' hi hdec hx hadd;have hx2:l[i]?=some x:=by rw[bf]at hx;exact hx
  have hl:=Tm h hx2;simp only;rw[hdec,Qk,hx,Qa,Oj,Qa,hadd,Qg (h.rZ x hx'),AX];simp only[Qk,Qa,Ks,hl];have g:∃s':ByteArray×Bool,((x,true,((i+1:Nat):Int),()):ByteArray×Bool×Int×Unit)=(s'.1,s'.2,((i+1:Nat):Int),())/\s'=(na (l.take (i+1)),decide (i+1≠0)):=⟨(x,true),rfl,by rw[HD hx2];rfl⟩
  cases decide (i≠0)<;>exact .some g
 ·rintro s rfl hdec;simp only;rw[hdec,Ql,Qq62];refine .some ?_;show _=_;congr 2;rw[decide_eq_decide];cases l<;>simp
def ahC{l:List ByteArray}(h:VL l):nm l=some (na l,decide (l≠[]),()):=by
 unfold nm;simp only[aS]
 suffices key:Yd (aD _ (bE,(0:Int),())) λr=>r=(na l,decide (l≠[]),())by
  obtain⟨r,g,rfl⟩:=key;exact g
 refine Yd.list l h.sy (λi (s:ByteArray)=>(s,i,())) (λi s=>s=na (l.take i)) ?_ ?_ rfl
 ·rintro i x s rfl hd hx' hi hdec hx hadd;have hx2:l[i]?=some x:=by rw[bf]at hx;exact hx
  have hl:=Tm h hx2;simp only;rw[hdec,Qk,hx,Qa,aa1,Qa,hadd,Qg (h.rZ x hx'),DR];simp only[Qk,Qa,adF,hl];exact .some ⟨x,rfl,by rw[HD hx2]⟩
 ·rintro s rfl hdec;simp only;rw[hdec,Ql,Qq62];refine .some ?_;show _=_;congr 2
  cases hl:l with
  |nil=>rfl
  |cons y r=>
   have hm:na l∈l:=JP (by rw[hl];simp)
   have hv:=h.rZ _ hm;rw[<-hl]
   have hne:na l≠bE:=λe=>by
    rw[e]at hv;exact absurd hv.1 (by decide)
   rw[Qh hne,Qg (by rw[hl];simp)]
   rfl
def ai0{l:List az}(hlen:l.length<=100)(h:∀m∈l,cU m.aa/\m.bj.length<=1000/\m.aF.length<=1000):fI l=some l:=by
 unfold fI
 suffices key:∀(k i:Nat),i+k=l.length->aD _ ((i:Int),l.take i,())=some l from key l.length 0 (by omega)
 intro k
 induction k with
 |zero=>
  intro i hi;obtain rfl:i=l.length:=by omega
  refine bM ?_;simp only[Qh (Qq64 _),Ql,Qq62,Qe]
 |succ k ih=>
  intro i hi;have hlt:i<l.length:=by omega
  have hx:idx l (i:Int)=some l[i]:=by rw[bf];exact Qv hlt
  obtain⟨h1,h2,h3⟩:=h _ (Q0 hlt);refine(bw ?_).trans (ih (i+1) (by omega))
  simp only[Qg (by omega:(i:Int)<(l.length:Int)),hx,Qk,Qa,etas,az.eta,ac5 h1 h2 h3]
  rw[lY (by omega) (by simp;omega),bH (by omega) (by omega),Q7 hlt]
  rfl
section
variable {nd sl k : Int} {x : aM}
def Vd(h:ug nd sl k x):qZ x=some x:=by
 have n:=h.oJ;have l1:=n.du.len;have l2:=n.eI.len;have l3:=n.kL.len;have l4:=n.len;have l5:=h.iV.len;have hN:fI x.aB.ar=some x.aB.ar:=ai0 (by omega) λm hm=>⟨(n.heard m hm).1.aN.sm,QK (n.heard m hm).1.du.len (by omega),QK (n.heard m hm).1.eI.len (by omega)⟩
 have hE:dU x.af.ar=some x.af.ar:=Xb (λe he=>(h.iV.hv e he).2.1.sm) (by omega)
 unfold qZ;simp only[aM.eta,au.eta,ab.eta,etas,ml n.ask.aN.sm,ml h.iV.aN.sm,wg _ (QK l1 (by omega)),wg _ (QK l2 (by omega)),wg _ (QK l3 (by omega)),hN,hE,Qa]
def Nx(h:ug nd sl k x):qT x=eP x:=by
 unfold qT eP;simp only[etas,aS,ahC h.oJ.kL,aaS h.oJ.kL,dm,c6,Qa,MZ h.iV h.lD,AW h.iV h.lD]
 by_cases hc:x.aB.aR=[]
 ·have e1:decide ((0:Int)<(x.aB.aR.length:Int))=false:=by rw[hc];rfl
  rw[e1,hc];cases decide (x.af.aQ=1)<;>cases aP x.af.ax<;>rfl
 ·have hpos:0<x.aB.aR.length:=List.length_pos_iff.2 hc;have hlv:kM (na x.aB.aR):=h.oJ.kL.rZ _ (JP hc);rw[Qg (by omega:(0:Int)<(x.aB.aR.length:Int)),Qg hc,abI h.iV h.lD hlv]
  obtain⟨q,e,q0,hn⟩:=Hu h.iV h.lD hlv;rw[e];simp only[Qa,q0,decide_true,Qk,MZ hn.inv hn.seq,AW hn.inv hn.seq];cases decide (x.af.aQ=1)<;>cases aP x.af.ax<;>cases decide (na x.aB.aR=x.af.bg)<;>rfl
def abi{m:ab}(h:bs m)(hs:fR m){v:ByteArray}(hv:kM v):Yd (kc m v) λq=>q.2.1=0/\Dn m m.aa q.1/\q.1.bg=v/\q.1.ar=m.ar:=by
 obtain⟨q,e,h1,h2⟩:=Hu h hs hv;obtain⟨q',e',m2,rfl,ha⟩:=MU (R:=λ_=>True) (λ_ _ _=>trivial) (λ_ _=>trivial) h hs hv trivial
 rw[e]at e';obtain rfl:=Option.some.inj e';obtain⟨_,_,_,e4,e5,_⟩:=DU (gA m v);obtain⟨s,es,_⟩:=NN m m2;have g1:(gA m v).bg=v:=by unfold gA;split<;>rfl
 have g2:(gA m v).ar=m.ar:=by unfold gA;split<;>rfl
 refine⟨_,e,h1,h2,?_,?_⟩
 ·show(ue m m2).bg=v;rw[es];exact ha.env.2.2.2.1.trans (e4.trans g1)
 ·show(ue m m2).ar=m.ar;rw[es];exact ha.env.2.2.2.2.trans (e5.trans g2)
structure YN (x y:aM):Prop where
 oJ:y.aB=x.aB
 round:y.Round=x.Round
 next:y.Next=x.Next
 timer:y.Timer=x.Timer
 heard:y.af.ar=x.af.ar
 tI:x.aB.aR≠[]->y.af.aQ=1->aP y.af.ax=true->y.af.bg=na x.aB.aR
def U2(h:ug nd sl k x):Yd (eP x) λy=>rJ nd sl k y/\mu x.af y.af/\YN x y:=by
 obtain⟨y,e,h1,h2,_⟩:=uJ h;refine⟨y,e,h1,h2,?_⟩;unfold eP at e;simp only[etas,aS,aaS h.oJ.kL,c6,Qa,AW h.iV h.lD]at e
 have same:(x.aB.aR≠[]->x.af.aQ=1->aP x.af.ax=true->x.af.bg=na x.aB.aR)->∀{a:Bool} {b:ByteArray},y=⟨x.aB,x.af,x.Timer,x.Round,x.Next,a,b⟩->YN x y:=λhp a b ey=>by
  subst ey;exact⟨rfl,rfl,rfl,rfl,rfl,hp⟩
 by_cases hc:x.aB.aR=[]
 ·rw[hc]at e;exact same (λhn=>absurd hc hn) (Option.some.inj e).symm
 ·have hlv:kM (na x.aB.aR):=h.oJ.kL.rZ _ (JP hc);rw[Qg hc]at e
  by_cases h3:x.af.aQ=1
  ·rw[Qg h3]at e
   cases hz:aP x.af.ax with
   |false=>
    rw[hz]at e;exact same (λ_ _ e2=>by rw[hz]at e2;cases e2) (Option.some.inj e).symm
   |true=>
    rw[hz]at e
    by_cases hp:na x.aB.aR=x.af.bg
    ·rw[Qg hp]at e;exact same (λ_ _ _=>hp.symm) (Option.some.inj e).symm
    ·rw[Qh hp]at e;obtain⟨q,eq,q0,hn,qp,qh⟩:=abi h.iV h.lD hlv;rw[eq]at e;simp only[Qk,Qp,Qa,q0,decide_true,AW hn.inv hn.seq]at e;obtain rfl:=Option.some.inj e;exact⟨rfl,rfl,rfl,rfl,qh,λ_ _ _=>qp⟩
  ·rw[Qh h3]at e;exact same (λ_ e2=>absurd e2 h3) (Option.some.inj e).symm
end
end
section
def ah9{c:Int}(hc:0<=c)(hc2:c<=1000000):uB c=lQ c:=by
 have h1:∀d:Int,0<=d->d<=1000000->aA .i64 d 1=d+1:=λd a b=>bH (by omega) (by omega)
 unfold uB lQ;have hm:0<=bF (dt c 11) 0/\bF (dt c 11) 0<=11:=by unfold bF dt;split<;>split<;>omega
 rw[h1 _ hm.1 (by omega)]
 by_cases h:12<=c
 ·have:bF (dt c 11) 0=11:=by unfold bF dt;split<;>split<;>omega
  rw[Qg h,this];rfl
 ·have e1:bF (dt c 11) 0=c:=by unfold bF dt;split<;>split<;>omega
  have e2:bF (c+1) 1=c+1:=by unfold bF;split<;>omega
  rw[Qh h,Ql,h1 c hc hc2,e1,e2]
section
variable {m : ab} (h : bs m) (hs : fR m)
 include h hs
end
section
variable {nd sl k : Int} {x : aM} (h : rJ nd sl k x) (hk : k <= 999998)
 include h hk
theorem XF{m:az}(hm:uX m)(hne:m.al≠nd):ui x m=fO x m:=by
 have p:=h.pre;have hsq:1<=x.aB.aH/\x.aB.aH<=1000000:=⟨p.qI.1,by have:=p.qI.2;omega⟩
 have hne2:m.al≠x.aB.al:=by rw[p.tK];exact hne
 unfold ui xr wv Ai fO;simp only[az.eta,etas,aS,tH h (by omega),M1 h (by omega),Vd p,ahy p.oJ hsq hm hne2,aaR p.oJ hsq hm hne2,Qa,Qo,Ql]
 have hs:=ML (b:=x.aB) (HT p.oJ hm hne2)
 cases uR x.aB.ar m with
 |true=>rfl
 |false=>
  have h1:=p.qI;have hp:ug nd sl (k+1) {x with aB:=ly x.aB {x.aB with ar:=iz x.aB.ar m}}:=⟨p.iV,p.lD,p.aG,p.aJ,hs.ok,by show 1<=(ly x.aB {x.aB with ar:=iz x.aB.ar m}).aH/\(ly x.aB {x.aB with ar:=iz x.aB.ar m}).aH<=1+(k+1);rcases hs.seq with e|e<;>rw[e]<;>(try show 1<=x.aB.aH/\x.aB.aH<=1+(k+1))<;>omega,hs.aG.trans p.tK,hs.aJ.trans p.ya,hs.aN.trans p.aN,p.timer,p.round,p.next⟩
  simp only[Qq,Qu,decide_true,Qo,Ql,Qk,Qa,Nx hp];obtain⟨y,ey,_⟩:=uJ hp;rw[ey];rfl
theorem ZU{e:ak}(he:Ah x.af e\/(cU e.aa/\(bc e=false\/e.al=x.af.al\/e.aK≠x.af.aK))):vn x e=kV x e:=by
 have p:=h.pre;unfold vn xq xt CF kV;simp only[etas,aS,tH h (by omega),M1 h (by omega),Vd p,Qa,Qo,Ql]
 rcases he with he|⟨ht,hv⟩
 ·rw[abH p.iV p.lD he];obtain⟨q,e1,hq⟩:=Vo p.iV p.lD he;rw[e1];rcases hq with⟨q0,hn⟩|q9
  ·simp only[Qa,q0,decide_true,Qo,Ql,Qk,Nx (p.Rq hn)];obtain⟨y,ey,_⟩:=uJ (p.Rq hn);rw[ey];rfl
  ·simp only[Qa,q9];rfl
 ·rw[X1 p.iV p.lD ht hv,afw p.iV p.lD ht hv];rfl
end
def ajk{nd sl:Int}(hv0:0<=nd)(hv1:nd<10)(hs0:1<=sl)(hs1:sl<=1000000){t:aj}{own:ByteArray}{now:Int}(ht:dq t)(ho:own.size<=200)(h0:0<=now)(h1:now<=200):uj nd sl t own now=nh nd sl t own now:=by
 unfold uj nh CE;simp only[etas,Qg h0,Qg h1,Qh (by omega:¬now<0),Qh (by omega:¬(200:Int)<now),Ql,Qk,Qo,Qa]
 rw[acK hv0 hv1 hs0 hs1 ht,akc hv0 hv1 hs0 hs1 ht,afu ht hv0 hv1 (by omega) hs1 ho]
 obtain⟨q,eq,q0,g1,g2,g3,g4,g5⟩:=Rz ht hv0 hv1 (show(0:Int)<=sl by omega) hs1 ho
 obtain⟨w,ew,w1,w2⟩:=Oi (c:=1) (by omega) (by omega)
 have hadd2:aA .i64 now w=now+w:=bH (by omega) (by omega)
 have ew2:uB 1=some w:=(ah9 (by omega) (by omega)).trans ew
 obtain⟨m1,m2⟩:=RG (aG:=nd) (aJ:=sl) hv0 hv1 hs0 hs1 ht;have ht0:wX ⟨0, -1⟩:=⟨by decide,by decide,by decide,by decide⟩
 have hp:ug nd sl 0 ⟨q.1,M4 nd sl t,⟨0, -1⟩,1,now+w,false,bE⟩:=⟨m1,m2,rfl,rfl,g1,by show 1<=q.1.aH/\q.1.aH<=1+0;rw[g5];decide,g2,g3,g4,ht0,⟨(by decide:(1:Int)<=1),(by decide:(1:Int)<=1000)⟩,by show 0<=now+w/\now+w<=212;omega⟩
 rw[eq];simp only[Qa,decide_true,Qo,Ql,q0,ew,ew2,hadd2,Nx hp]
end
section
section
variable {nd sl k : Int} {x : aM} (h : rJ nd sl k x) (hk : k <= 999998)
 include h hk
theorem aiO{m:az}(hm:uX m)(hne:m.al≠nd):Yd (fO x m) λq=>(uR x.aB.ar m=false/\q.2.1=0/\rJ nd sl (k+1) q.1/\mu x.af q.1.af/\uR q.1.aB.ar m=true/\(q.1.aB.aR≠[]->q.1.af.aQ=1->aP q.1.af.ax=true->q.1.af.bg=na q.1.aB.aR))\/(uR x.aB.ar m=true/\q.2.1=9):=by
 have p:=h.pre;have h1:=p.qI;have hsq:1<=x.aB.aH/\x.aB.aH<=1000000:=⟨p.qI.1,by omega⟩
 have hne2:m.al≠x.aB.al:=by rw[p.tK];exact hne
 have hno:=HT p.oJ hm hne2;have hs:=ML (b:=x.aB) hno;have hh:=(Md (b:=x.aB) hno).1;unfold fO;simp only[az.eta,etas,tH h (by omega),aaR p.oJ hsq hm hne2,Qa,Qo,Ql]
 cases ho:uR x.aB.ar m with
 |true=>exact .some (.inr ⟨by trivial,rfl⟩)
 |false=>
  have hq:(ly x.aB {x.aB with ar:=iz x.aB.ar m}).aH=x.aB.aH\/(ly x.aB {x.aB with ar:=iz x.aB.ar m}).aH=x.aB.aH+1:=hs.seq
  have hp:ug nd sl (k+1) {x with aB:=ly x.aB {x.aB with ar:=iz x.aB.ar m}}:=⟨p.iV,p.lD,p.aG,p.aJ,hs.ok,by show 1<=(ly x.aB {x.aB with ar:=iz x.aB.ar m}).aH/\(ly x.aB {x.aB with ar:=iz x.aB.ar m}).aH<=1+(k+1);omega,hs.aG.trans p.tK,hs.aJ.trans p.ya,hs.aN.trans p.aN,p.timer,p.round,p.next⟩
  simp only[Qq,Qu,decide_true,Qo,Ql];refine Yd.bind (U2 hp) λy ⟨hy,hst,hq⟩=> .some (.inl ⟨by trivial,rfl,hy,hst,?_,λh1 h2 h3=> ?_⟩)
  ·show uR y.aB.ar m=true;rw[hq.oJ];show uR (ly x.aB {x.aB with ar:=iz x.aB.ar m}).ar m=true
   rw[hh];exact List.any_eq_true.2 ⟨m,Tr.2 (.inl rfl),by simp⟩
  ·have e:=hq.oJ;simp only at h1 h2 h3 ⊢;rw[e]at h1 ⊢;exact hq.tI h1 h2 h3
end
def afb{t:aj}{v aJ:Int}{own:ByteArray}(ht:dq t)(h0:0<=v)(h1:v<10)(h2:0<=aJ)(h3:aJ<=1000000)(ho:own.size<=200):Yd (mo v aJ t own) λq=>q.1.ar=[]:=by
 have hn:cJ ⟨v,aJ,1,1,t,own,[],[],[],[]⟩:=⟨⟨ht,h0,h1,h2,h3,by show(1:Int)<=1;omega,by show(1:Int)<=1000;omega⟩,ho,.nil,.nil,.nil,λx hx=>absurd hx QR,λx hx=>absurd hx QR,List.Pairwise.nil⟩
 unfold mo;simp only[etas,dH ht];rw[Qh (by omega:¬v<0),Qh (by omega:¬(10:Int)<=v),Qh (by omega:¬aJ<0),Qh (by omega:¬(1000000:Int)<aJ),Qh (by omega:¬(200:Int)<((own.size:Nat):Int))]
 simp only[Ql,Qa,decide_true,Qo];rw[Jq hn.Fo ⟨by show(0:Int)<=1;omega,by show(1:Int)<=1000000;omega⟩ hn,Qa]
 exact .some (Md hn).1
def ahN{nd sl:Int}(hv0:0<=nd)(hv1:nd<10)(hs0:1<=sl)(hs1:sl<=1000000){t:aj}{own:ByteArray}{now:Int}(ht:dq t)(ho:own.size<=200)(h0:0<=now)(h1:now<=200):Yd (nh nd sl t own now) λq=>q.2.1=0/\rJ nd sl 0 q.1/\q.1.aB.ar=[]/\q.1.af.ar=[]/\q.1.Round=1/\∀w,lQ 1=some w->q.1.Next=now+w:=by
 unfold nh;simp only[etas];rw[Qh (by omega:¬now<0),Qh (by omega:¬(200:Int)<now)]
 simp only[Ql,Qa];rw[acK hv0 hv1 hs0 hs1 ht];simp only[Qa,decide_true,Qo,Ql];obtain⟨q,eq,q0,g1,g2,g3,g4,g5⟩:=Rz ht hv0 hv1 (show(0:Int)<=sl by omega) hs1 ho
 obtain⟨q',eq',hh⟩:=afb ht hv0 hv1 (show(0:Int)<=sl by omega) hs1 ho
 rw[eq]at eq';obtain rfl:=Option.some.inj eq';rw[eq,Qa,q0];simp only[decide_true,Qo,Ql];obtain⟨w,ew,w1,w2⟩:=Oi (c:=1) (by omega) (by omega)
 have hadd2:aA .i64 now w=now+w:=bH (by omega) (by omega)
 rw[ew,Qa,hadd2];obtain⟨m1,m2⟩:=RG (aG:=nd) (aJ:=sl) hv0 hv1 hs0 hs1 ht;have ht0:wX ⟨0, -1⟩:=⟨by decide,by decide,by decide,by decide⟩
 refine Yd.bind (U2 (k:=0) (x:=⟨q.1,M4 nd sl t,⟨0, -1⟩,1,now+w,false,bE⟩) ⟨m1,m2,rfl,rfl,g1,by show 1<=q.1.aH/\q.1.aH<=1+0;rw[g5];decide,g2,g3,g4,ht0,⟨(by decide:(1:Int)<=1),(by decide:(1:Int)<=1000)⟩,by show 0<=now+w/\now+w<=212;omega⟩) λy ⟨hy,_,hsq⟩=> .some ⟨rfl,hy,?_,hsq.heard,hsq.round,λw' hw'=> ?_⟩
 ·show y.aB.ar=[];rw[hsq.oJ];exact hh
 ·obtain rfl:=Option.some.inj hw';exact hsq.next
end
section
def Yd.is{α:Type}{o:Option α}{x:α}(h:Yd o λr=>r=x):o=Option.some x:=by
 obtain⟨y,e,rfl⟩:=h;exact e
def abk{α β:Type}{R:α->β->Prop}:∀{l:List α},(∀x∈l,∃y,R x y)->∃ys:List β,ys.length=l.length/\∀(i:Nat) (x:α),l[i]?=some x->∃y,ys[i]?=some y/\R x y
 |[],_=>⟨[],rfl,λi x h=>by simp at h⟩
 |a::l,h=>by
  obtain⟨y,hy⟩:=h a Qx;obtain⟨ys,h1,h2⟩:=abk λx hx=>h x (Qy _ hx)
  refine⟨y::ys,by simp[h1],λi x hx=> ?_⟩
  cases i with
  |zero=>simp only[List.getElem?_cons_zero,Qf]at hx;subst hx;exact⟨y,rfl,hy⟩
  |succ i=>simpa using h2 i x (by simpa using hx)
def acv{α:Type}{ys l:List α}(h:ys.length=l.length){i:Nat}(hi:i<l.length){y:α}(hy:ys[i]?=some y):(ys.take i++l.drop i).set i y=ys.take (i+1)++l.drop (i+1):=by
 have e:ys.take (i+1)=ys.take i++[y]:=by rw[List.take_add_one,hy];rfl
 rw[e,QM hi,List.set_append_right _ _ (by rw[List.length_take];omega),List.length_take,Nat.min_eq_left (by omega),Nat.sub_self,List.set_cons_zero,QL]
 rfl
def afM{α:Type}{ys l:List α}(h:ys.length=l.length)(i:Nat):(ys.take i++l.drop i)[i]?=l[i]?:=by
 rcases Nat.lt_or_ge i l.length with hi|hi
 ·rw[List.getElem?_append_right (by rw[List.length_take];omega),List.length_take,Nat.min_eq_left (by omega),Nat.sub_self,List.getElem?_drop]
  rfl
 ·rw[Qq72 hi,Qq72 (by rw[QB,List.length_take,List.length_drop];omega)]
def Rl{α:Type}{P:α->Bool}:∀{l:List α} {i:Nat},i<=l.length->(∀j,j<i->∃y,l[j]?=some y/\P y=true)->(∀y,l[i]?=some y->P y=false)->(l.takeWhile P).length=i
 |[],i,h,_,_=>by simp at h;subst h;rfl
 |x::l,0,_,_,h2=>by rw[List.takeWhile_cons,h2 x rfl];rfl
 |x::l,i+1,h,h1,h2=>by
  obtain⟨y,e,hy⟩:=h1 0 (by omega)
  obtain rfl:x=y:=by simpa using e
  rw[List.takeWhile_cons,hy,Qr rfl,QE,Rl (by simpa using h) (λj hj=>by simpa using h1 (j+1) (by omega)) λy hy=>h2 y (by simpa using hy)]
def Ex(nd k:Int)(x:aM):Prop:=1<=x.af.aK/\x.af.aK<=1000000/\rJ nd x.af.aK k x
def Ex.le{nd k k':Int}{x:aM}(h:Ex nd k x)(hk:k<=k'):Ex nd k' x:=⟨h.1,h.2.1,h.2.2.le hk⟩
def Ex.Wi{nd k k':Int}{x y:aM}(h:Ex nd k x)(hd:xw nd x.af.aK k' x y):Ex nd k' y/\y.af.aK=x.af.aK:=by
 have e:=hd.1.pre.aJ;exact⟨⟨by rw[e];exact h.1,by rw[e];exact h.2.1,by rw[e];exact hd.1⟩,e⟩
structure kT (nd k:Int) (p:aw):Prop where
 aG:p.al=nd
 n0:0<=nd
 n1:nd<10
 aN:dq p.aa
 len:p.aE.length<=8
 aJ:∀x∈p.aE,Ex nd k x
 dn:p.aE.Pairwise λx y=>x.af.aK<y.af.aK
 same:∀x∈p.aE,x.af.aa=p.aa
def kT.le{nd k k':Int}{p:aw}(h:kT nd k p)(hk:k<=k'):kT nd k' p:=⟨h.aG,h.n0,h.n1,h.aN,h.len,λx hx=>(h.aJ x hx).le hk,h.dn,h.same⟩
def aih{nd k:Int}{p:aw}(h:kT nd k p){C:aM->Option Bool}{S:aj->aj->Option Bool}(hC:∀x∈p.aE,C x=some true)(hS:∀x∈p.aE,S x.af.aa p.aa=some true):
  aD (λ(v5:Int×Unit)=>
   bif (decide (v5.1<((List.length p.aE:Nat):Int)))then
   Option.bind (idx p.aE v5.1) λx6=>
   aY (λ(v7:Bool×Unit)=>bif v7.1 then Option.map Sum.inr (some false)else some (Sum.inl ((aA .i64 v5.1 (1:Int)),()))) λj8=>
   Option.bind (C x6) λr9=>
   bif (!r9)then j8 (true,())else
   bif (!decide (x6.af.al=p.al))then j8 (true,())else
   Option.bind (S x6.af.aa p.aa) λr10=>
   bif (!r10)then j8 (true,())else
   bif (decide ((0:Int)<v5.1))then
   Option.bind (idx p.aE (cQ .i64 v5.1 (1:Int))) λx11=>j8 ((decide (x6.af.aK<=x11.af.aK)),())
   else j8 (false,())
   else Option.map Sum.inr (some true)) ((0:Int),())=some true:=by
 have hlen:=h.len;refine Yd.eq_true (Yd.list p.aE (by omega) (λi (_:Unit)=>(i,())) (λ_ _=>True) (λi x _ _ _ hx hi hd hw ha=> ?_) (λ_ _ hd=> ?_) (s:=()) trivial)
 ·simp only[hd,Qk,hw,Qa,hC x hx,hS x hx,Qo,Ql,Qg ((h.aJ x hx).2.2.pre.aG.trans h.aG.symm),aS]
  by_cases h0:(0:Int)<(i:Int)
  ·obtain⟨m,rfl⟩:∃m:Nat,i=m+1:=⟨i - 1,by omega⟩
   have hlt:=List.pairwise_iff_getElem.1 h.dn m (m+1) (by omega) hi (by omega)
   obtain rfl:p.aE[m+1]=x:=by rw[bf,Qv hi]at hw;exact Option.some.inj hw
   rw[Qg h0,Qk,nT (by omega) (by omega),show(((m+1:Nat):Int)) - 1=(m:Int)by omega,bf,Qv (show m<p.aE.length by omega),Qa,Qh (by omega),Ql,ha]
   exact .some ⟨(),rfl,trivial⟩
  ·rw[Qh h0,Ql,ha];exact .some ⟨(),rfl,trivial⟩
 ·simp only[hd,Ql];exact .some rfl
def GL{nd k:Int}{p:aw}(h:kT nd k p)(hk:k<=999999):mm p=some true:=by
 have hlen:=h.len;unfold mm;simp only[aM.eta,au.eta,ab.eta,etas,AS h.aN.sm,vC h.aN,Qa,decide_true,Qo];rw[Qh (show¬p.al<0 by rw[h.aG];have:=h.n0;omega),Qh (show¬(9:Int)<p.al by rw[h.aG];have:=h.n1;omega),Qh (show¬(8:Int)<(p.aE.length:Int)by omega)]
 simp only[Ql,Qa];refine aih h (λx hx=>tH (h.aJ x hx).2.2 hk) λx hx=> ?_
 obtain⟨r,hr,hb⟩:=HX (a:=x.af.aa) (b:=p.aa) (h.aJ x hx).2.2.pre.iV.aN.sm;rw[hr,hb.2 (h.same x hx)]
def mg(l:List aM)(n:Int):Nat:=(l.takeWhile λx=>decide (x.af.aK<n)).length
def u9(l:List aM)(n:Int):Bool:=match l[mg l n]? with|some x=>decide (x.af.aK=n)|none=>false
def NS(l:List aM)(n:Int):mg l n<=l.length:=MH _ _
def agZ{l:List aM}{n:Int}{x:aM}(hx:x∈l.take (mg l n)):x.af.aK<n:=by
 obtain⟨j,hj,rfl⟩:=List.getElem_of_mem hx;rw[List.length_take]at hj;obtain⟨y,e,hy⟩:=(BS (λx:aM=>decide (x.af.aK<n)) l).1 j (by show j<mg l n;omega)
 rw[List.getElem_take];rw[Qv (by omega)]at e
 obtain rfl:=Option.some.inj e;exact of_decide_eq_true hy
def ag0{l:List aM}(hs:l.Pairwise λx y=>x.af.aK<y.af.aK){n:Int}(ht:u9 l n=false){x:aM}(hx:x∈l.drop (mg l n)):n<x.af.aK:=by
 obtain⟨j,hj,rfl⟩:=List.getElem_of_mem hx;rw[List.length_drop]at hj;have hw:mg l n<l.length:=by omega
 have e:=Qv hw;have h1:=of_decide_eq_false ((BS (λx:aM=>decide (x.af.aK<n)) l).2 _ e)
 have h2:¬l[mg l n].af.aK=n:=by
  unfold u9 at ht;rw[e]at ht;exact of_decide_eq_false ht
 rw[List.getElem_drop];rcases Nat.eq_zero_or_pos j with rfl|hp
 ·show n<(l[mg l n]).af.aK;omega
 ·have:=List.pairwise_iff_getElem.1 hs (mg l n) (mg l n+j) hw (by omega) (by omega)
  omega
def acq{l:List aM}{n:Int}(h:u9 l n=true):∃x,l[mg l n]?=some x/\x.af.aK=n:=by
 unfold u9 at h;split at h
 ·rename_i x hx;exact⟨x,hx,of_decide_eq_true h⟩
 ·cases h
def aay{l:List aM}(hs:l.Pairwise λx y=>x.af.aK<y.af.aK){i:Nat}{x:aM}(hx:l[i]?=some x):mg l x.af.aK=i:=by
 obtain⟨hi,rfl⟩:=Qw.1 hx;refine Rl (by omega) (λj hj=>⟨_,Qv (show j<l.length by omega),?_⟩) λy hy=> ?_
 ·exact Qg (List.pairwise_iff_getElem.1 hs j i (by omega) hi hj)
 ·rw[hx]at hy;obtain rfl:=Option.some.inj hy;exact Qh (by omega)
def ag4{l:List aM}(hs:l.Pairwise λx y=>x.af.aK<y.af.aK){i:Nat}{x:aM}(hx:l[i]?=some x):u9 l x.af.aK=true:=by
 unfold u9;rw[aay hs hx,hx];exact Qg rfl
def aae{p:aw}(hl:p.aE.length<=8)(n:Int):Aj p n=some (((mg p.aE n:Nat):Int),u9 p.aE n,()):=by
 obtain⟨i,h1,h2,h3,h4⟩:=UC p.aE (by omega) (λx=>decide (x.af.aK<n)) (r:=λi=>some ((i:Int),(match p.aE[i]? with|some x=>decide (x.af.aK=n)|none=>false),()))
  (step:=λ(v1:Int×Unit)=>
   Option.bind (bif (decide (v1.1<((List.length p.aE:Nat):Int)))then Option.bind (idx p.aE v1.1) λx2=>some (decide (x2.af.aK<n))else some false) λb3=>
   bif b3 then some (Sum.inl ((aA .i64 v1.1 (1:Int)),()))
   else Option.map Sum.inr (aY (λ(v4:Int×Bool×Unit)=>some (v4.1,v4.2.1,())) λj5=>
    bif (decide (v1.1<((List.length p.aE:Nat):Int)))then Option.bind (idx p.aE v1.1) λx6=>j5 (v1.1,(decide (x6.af.aK=n)),())else j5 (v1.1,false,())))
  (λi y hy hd hx hP ha=>by simp only[hd,Qk,hx,Qa,hP,ha])
  (λi y hy hd hx hP=>by simp only[hd,Qk,hx,Qa,hP,Ql,aS,hy])
  (λhd=>by simp only[hd,Ql,Qa,aS];rw[Qq72 (QI _)])
 have e:mg p.aE n=i:=Rl h1 h2 h3;unfold u9;rw[e];exact h4
def zP:aw:=⟨0,false,⟨0,[],[]⟩,[]⟩
structure KC (nd k n:Int) (p:aw) (own:ByteArray) (now:Int) (s:aM):Prop where
 e:nh nd n p.aa own now=some (s,0,())
 ok:Ex nd k s
 aJ:s.af.aK=n
 aN:s.af.aa=p.aa
def J9(p:aw)(n:Int)(s:aM):aw:={p with aE:=p.aE.take (mg p.aE n)++[s]++p.aE.drop (mg p.aE n)}
def GP(p:aw)(n:Int)(s:aM):aw×Int×Unit:=if u9 p.aE n=true then(zP,6,())else if p.aE.length=8 then(zP,3,())else(J9 p n s,0,())
def mh(p:aw)(n:Int)(s:aM):aw:=if u9 p.aE n=true then p else J9 p n s
def MQ(p:aw)(i:Nat)(s:aM):aw:={p with aE:=p.aE.set i s}
def yd(p:aw)(n:Int)(s:aM)(g:aM->Option (aM×Int×Unit)):Option (aw×Int×Unit):=
 if u9 p.aE n=false/\p.aE.length=8 then some (zP,3,())else
 Option.bind (mh p n s).aE[mg (mh p n s).aE n]? λx=>Option.bind (g x) λr=>some (if r.2.1=0 then(MQ (mh p n s) (mg (mh p n s).aE n) r.1,0,())else(zP,r.2.1,()))
section
variable {nd k : Int} {p : aw} (h : kT nd k p)
 include h
theorem Vm{n:Int}(hn0:1<=n)(hn1:n<=1000000){own:ByteArray}(ho:own.size<=200){now:Int}(h0:0<=now)(h1:now<=200)(hk0:0<=k):∃s,KC nd k n p own now s:=by
 obtain⟨⟨s,e,u⟩,e1,e2,e3,e4⟩:=ai3 h.n0 h.n1 hn0 hn1 h.aN ho h0 h1;obtain rfl:e=0:=e2;have hs:s.af.aK=n:=e3.pre.aJ;exact⟨s,e1,⟨by omega,by omega,by rw[hs];exact e3.le hk0⟩,hs,e4⟩
section
variable {n : Int} {own : ByteArray} {now : Int} {s : aM} (hs : KC nd k n p own now s)
 include hs
theorem R7(ht:u9 p.aE n=false)(h8:p.aE.length≠8):kT nd k (J9 p n s):=by
 have hlen:=h.len;have hw:=NS p.aE n
 have e:∀x,x∈(J9 p n s).aE↔x∈p.aE\/x=s:=λx=>by
  show x∈p.aE.take _++[s]++p.aE.drop _↔_
  conv=>rhs;rw[<-List.take_append_drop (mg p.aE n) p.aE]
  simp only[Qz,Q5]
  grind
 refine⟨h.aG,h.n0,h.n1,h.aN,?_,λx hx=> ?_,?_,λx hx=> ?_⟩
 ·show(p.aE.take _++[s]++p.aE.drop _).length<=8;simp only[QB,List.length_take,List.length_drop,QE,QZ];omega
 ·rcases(e x).1 hx with hx|rfl
  ·exact h.aJ x hx
  ·exact hs.ok
 ·show(p.aE.take (mg p.aE n)++[s]++p.aE.drop (mg p.aE n)).Pairwise _;have hp:=h.dn;rw[<-List.take_append_drop (mg p.aE n) p.aE,Qq69]at hp;rw[QL,Qq69];refine⟨hp.1,Q4.2 ⟨λy hy=> ?_,hp.2.1⟩,λx hx y hy=> ?_⟩
  ·rw[hs.aJ];exact ag0 h.dn ht hy
  ·rcases QA.1 hy with rfl|hy
   ·rw[hs.aJ];exact agZ hx
   ·exact hp.2.2 x hx y hy
 ·rcases(e x).1 hx with hx|rfl
  ·exact h.same x hx
  ·exact hs.aN
theorem afX(ht:u9 p.aE n=false)(h8:p.aE.length≠8):(J9 p n s).aE[mg p.aE n]?=some s:=by
 have hw:=NS p.aE n;show(p.aE.take _++[s]++p.aE.drop _)[_]?=_;rw[QL,List.getElem?_append_right (by rw[List.length_take];omega),List.length_take,Nat.min_eq_left hw,Nat.sub_self]
 rfl
theorem Um(hb:¬(u9 p.aE n=false/\p.aE.length=8)):kT nd k (mh p n s)/\u9 (mh p n s).aE n=true/\∃x,(mh p n s).aE[mg (mh p n s).aE n]?=some x/\x.af.aK=n/\x∈(mh p n s).aE:=by
 have key:kT nd k (mh p n s)/\u9 (mh p n s).aE n=true:=by
  unfold mh
  cases ht:u9 p.aE n with
  |true=>exact⟨h,ht⟩
  |false=>
   have h8:p.aE.length≠8:=λe=>hb ⟨ht,e⟩
   have hi:=R7 h hs ht h8;refine⟨hi,?_⟩;have:=ag4 hi.dn (afX h hs ht h8);rw[hs.aJ]at this;exact this
 obtain⟨x,h1,h2⟩:=acq key.2;exact⟨key.1,key.2,x,h1,h2,Q8 h1⟩
theorem YJ:uC p n own now=some (GP p n s):=by
 have hlen:=h.len;have hw:=NS p.aE n;unfold uC GP J9;simp only[aM.eta,au.eta,ab.eta,etas,aw.eta,aae h.len,Qa]
 cases u9 p.aE n with
 |true=>rfl
 |false=>
  simp only[Ql,Qq,Qu]
  by_cases h8:p.aE.length=8
  ·rw[Qr h8,Qg (by omega)];rfl
  ·rw[Qs h8,Qh (by omega),Ql,h.aG,hs.e,Qa,Qg rfl]
   simp only[Qo,Ql,tG,yl];have hlt:=List.length_take_le (mg p.aE n) p.aE;rw[DI hw,Qk,bC (by omega),Qk,bC (by simp;omega),Qk,DJ hw,Qk,bC (by simp;omega),Qk]
theorem ae5:qU p n own now=some (if u9 p.aE n=false/\p.aE.length=8 then(zP,0,3,())else(mh p n s,((mg (mh p n s).aE n:Nat):Int),0,())):=by
 have hlen:=h.len;unfold qU;simp only[etas,aw.eta,aae h.len,Qa,YJ h hs]
 cases ht:u9 p.aE n with
 |true=>
  rw[Qk,Qs (by rintro⟨e,_⟩;cases e)]
  unfold mh;rw[Qr ht]
 |false=>
  rw[Ql];unfold GP;rw[Qs (by rw[ht];simp)]
  by_cases h8:p.aE.length=8
  ·rw[Qr h8,Qr ⟨rfl,h8⟩,aae (show zP.aE.length<=8 by decide),Qa]
   rfl
  ·rw[Qs h8,Qs λe=>h8 e.2,aae (R7 h hs ht h8).len,Qa]
   unfold mh;rw[Qs (by rw[ht];simp)]
end
theorem agY{i:Nat}(hi:i<p.aE.length){s:aM}{e:Int}:gI p (i:Int) s e=some (if e=0 then(MQ p i s,0,())else(zP,e,())):=by
 have hlen:=h.len;unfold gI;simp only[etas]
 by_cases he:e=0
 ·rw[Qr he,Qg he,Qo,Ql,bC (by omega),Qk,bf,Qv hi,Qa,QV,Qv hi]
  rfl
 ·rw[Qs he,Qh he];rfl
theorem ae3{k':Int}(hk:k<=k'){i:Nat}{x y:aM}(hx:p.aE[i]?=some x)(hy:Ex nd k' y)(hs:y.af.aK=x.af.aK)(ht:y.af.aa=x.af.aa):kT nd k' (MQ p i y):=by
 have hm:=Q8 hx;obtain⟨hi,rfl⟩:=Qw.1 hx;refine⟨h.aG,h.n0,h.n1,h.aN,by show(p.aE.set i y).length<=8;rw[QY];exact h.len,λz hz=> ?_,?_,λz hz=> ?_⟩
 ·rcases List.mem_or_eq_of_mem_set (show z∈p.aE.set i y from hz)with hz|rfl
  ·exact(h.aJ z hz).le hk
  ·exact hy
 ·show(p.aE.set i y).Pairwise _;rw[List.pairwise_iff_getElem];intro a b ha hb hab;rw[QY]at ha hb;have:=List.pairwise_iff_getElem.1 h.dn a b ha hb hab;rw[List.getElem_set,List.getElem_set]
  grind
 ·rcases List.mem_or_eq_of_mem_set (show z∈p.aE.set i y from hz)with hz|rfl
  ·exact h.same z hz
  ·exact ht.trans (h.same _ hm)
end
structure pj (p q:aw):Prop where
 len:p.aE.length<=q.aE.length
 has:∀x∈p.aE,∃y∈q.aE,y.af.aK=x.af.aK/\mu x.af y.af
def pj.refl(p:aw):pj p p:=⟨QI _,λx hx=>⟨x,hx,rfl,λe=>⟨e,rfl⟩⟩⟩
def YX{a b c:ab}(h:mu a b)(h':mu b c):mu a c:=λe=>(let e1:=h e;let e2:=h' e1.1;⟨e2.1,e2.2.trans e1.2⟩)
def pj.trans{p q r:aw}(h:pj p q)(h':pj q r):pj p r:=⟨QK h.len h'.len,λx hx=>by
 obtain⟨y,hy,e1,e2⟩:=h.has x hx;obtain⟨z,hz,e3,e4⟩:=h'.has y hy
 exact⟨z,hz,e3.trans e1,YX e2 e4⟩⟩
def Pq(nd k:Int)(p:aw)(q:aw×Int×Unit):Prop:=(q.2.1=0/\kT nd k q.1/\pj p q.1/\q.1.bV=p.bV)\/q.2.1≠0
section
variable {nd k : Int} {p : aw} (h : kT nd k p) {n : Int} {own : ByteArray} {now : Int} {s : aM} (hs : KC nd k n p own now s)
 include h hs
theorem adO:Pq nd k p (GP p n s):=by
 unfold GP;split
 ·exact .inr (by decide)
 ·rename_i ht;split
  ·exact .inr (by decide)
  ·rename_i h8;refine .inl ⟨rfl,R7 h hs (by simpa using ht) h8,⟨?_,λx hx=>⟨x,?_,rfl,λe=>⟨e,rfl⟩⟩⟩,rfl⟩
   ·show _<=(p.aE.take _++[s]++p.aE.drop _).length;simp only[QB,List.length_take,List.length_drop,QE,QZ];omega
   ·show x∈p.aE.take _++[s]++p.aE.drop _;rw[<-List.take_append_drop (mg p.aE n) p.aE]at hx;simp only[Qz,Q5]at hx ⊢
    grind
theorem XW:pj p (mh p n s)/\(∀x∈p.aE,x∈(mh p n s).aE)/\∀x∈(mh p n s).aE,x∈p.aE\/x=s:=by
 unfold mh;split
 ·exact⟨pj.refl p,λx hx=>hx,λx hx=> .inl hx⟩
 ·have e:∀x,x∈(J9 p n s).aE↔x∈p.aE\/x=s:=λx=>by
   show x∈p.aE.take _++[s]++p.aE.drop _↔_
   conv=>rhs;rw[<-List.take_append_drop (mg p.aE n) p.aE]
   simp only[Qz,Q5]
   grind
  refine⟨⟨?_,λx hx=>⟨x,(e x).2 (.inl hx),rfl,λe=>⟨e,rfl⟩⟩⟩,λx hx=>(e x).2 (.inl hx),λx hx=>(e x).1 hx⟩
  show _<=(p.aE.take _++[s]++p.aE.drop _).length;simp only[QB,List.length_take,List.length_drop,QE,QZ];omega
theorem Lg{k':Int}(hk:k<=k'){g:aM->Option (aM×Int×Unit)}(hg:∀x,Ex nd k x->x.af.aK=n->Yd (g x) λq=>(q.2.1=0/\xw nd x.af.aK k' x q.1/\q.1.af.aa=x.af.aa)\/q.2.1≠0):
  Yd (yd p n s g) λq=>Pq nd k' p q/\(q.2.1=0->(∀x∈p.aE,x.af.aK≠n->x∈q.1.aE)/\(∀y∈q.1.aE,y∈p.aE\/y.af.aK=n)/\∃y∈q.1.aE,y.af.aK=n):=by
 unfold yd;split
 ·exact .some ⟨.inr (by decide),λe=>by cases e⟩
 ·rename_i hb;obtain⟨hi,ht,x,hx,hxn,hxm⟩:=Um h hs hb;obtain⟨g1,g2,g3⟩:=XW h hs;rw[hx,Qa];refine(hg x (hi.aJ x hxm) hxn).bind λr hr=> .some ?_
  rcases hr with⟨r0,hd,hrt⟩|r0
  ·rw[Qr r0];obtain⟨d1,d2⟩:=(hi.aJ x hxm).Wi hd;have hw:=(Qw.1 hx).1;have hwx:=(Qw.1 hx).2
   have hmem:∀z,z∈(mh p n s).aE->z.af.aK≠n->z∈(mh p n s).aE.set (mg (mh p n s).aE n) r.1:=λz hz hne=>by
    obtain⟨j,hj,rfl⟩:=List.getElem_of_mem hz;have hjw:mg (mh p n s).aE n≠j:=λe=>hne (by subst e;rw[hwx];exact hxn)
    have:=Q0 (l:=(mh p n s).aE.set (mg (mh p n s).aE n) r.1) (n:=j) (by rw[QY];exact hj)
    rw[List.getElem_set_ne hjw]at this;exact this
   have hin:r.1∈(mh p n s).aE.set (mg (mh p n s).aE n) r.1:=List.mem_set hw _;refine⟨.inl ⟨rfl,ae3 hi hk hx d1 d2 hrt,⟨by show _<=((mh p n s).aE.set _ _).length;rw[QY];exact g1.len,λz hz=> ?_⟩,?_⟩,λ_=>⟨λz hz hne=>hmem z (g2 z hz) hne,λz hz=> ?_,r.1,hin,d2.trans hxn⟩⟩
   ·by_cases hzn:z.af.aK=n
    ·refine⟨r.1,hin,by rw[d2,hxn,hzn],?_⟩
     have hzx:z=x:=by
      obtain⟨j,hj⟩:=List.getElem?_of_mem (g2 z hz);have:=aay hi.dn hj;rw[hzn]at this;rw[this,hj]at hx;exact Option.some.inj hx
     rw[hzx];exact hd.2
    ·exact⟨z,hmem z (g2 z hz) hzn,rfl,λe=>⟨e,rfl⟩⟩
   ·show(mh p n s).bV=p.bV;unfold mh;split<;>rfl
   ·rcases List.mem_or_eq_of_mem_set (show z∈(mh p n s).aE.set _ _ from hz)with hz|rfl
    ·rcases g3 z hz with hz|rfl
     ·exact .inl hz
     ·exact .inr hs.aJ
    ·exact .inr (d2.trans hxn)
  ·rw[Qs r0];exact⟨.inr r0,λe=>absurd e r0⟩
theorem RB{g:aM->Option (aM×Int×Unit)}{F:Option (aw×Int×Unit)}(hF:F=Option.bind (qU p n own now) λq=>bif (!decide (q.2.2.1=(0:Int)))then some (zP,q.2.2.1,())else
   Option.bind (idx q.1.aE q.2.1) λx=>Option.bind (g x) λr=>Option.bind (gI q.1 q.2.1 r.1 r.2.1) λw=>some (w.1,w.2.1,())):F=yd p n s g:=by
 rw[hF,ae5 h hs,Qa];unfold yd;split
 ·rfl
 ·rename_i hb;obtain⟨hi,ht,x,hx,hxn,hxm⟩:=Um h hs hb;simp only[decide_true,Qo,Ql,bf,hx,Qa];congr 1
  funext r
  rw[agY hi (Qw.1 hx).1,Qa]
end
section
variable {nd k : Int} {p : aw} (h : kT nd k p) (hk0 : 0 <= k) (hk : k <= 999998)
 include h hk0 hk
section
variable {n : Int} {own : ByteArray} {now : Int} {s : aM} (hs : KC nd k n p own now s)
 include hs
theorem ahI:yi p n own now=some (if p.bV=true then(p,0,())else GP p n s):=by
 unfold yi;simp only[etas,aw.eta,GL h (by omega),Qa,Qo,Ql,YJ h hs]
 cases p.bV<;>rfl
theorem acX:w7 p n own now=if p.bV=true then some (p,0,())else yd p n s λx=>pI x own:=by
 unfold w7;simp only[aM.eta,au.eta,ab.eta,etas,aw.eta,GL h (by omega),Qa,Qo,Ql]
 cases p.bV with
 |true=>rfl
 |false=>exact RB h hs rfl
end
end
def Ep(l:eC):Bool:= !(decide (l.bx=1)||(decide (l.bx=2)&&decide (l.aK=l.ay.aK)))
 def ki(l:eC)(x:aM):Option (aM×Int×Unit):=bif decide (l.bx=1)then fO x l.aX else kV x l.ay
def ahV{nd k:Int}{p:aw}(h:kT nd k p)(hk:k<=999998){now:Int}{l:eC}{s:aM}(hs:KC nd k l.aK p (ByteArray.mk #[48]) now s):
  Al p l now=if p.bV=true then some (p,0,())else if Ep l=true then some (zP,1,())else yd p l.aK s (ki l):=by
 unfold Al Ep;simp only[aM.eta,au.eta,ab.eta,az.eta,ak.eta,etas,aw.eta,GL h (by omega),Qa,Qo,Ql]
 cases p.bV with
 |true=>rfl
 |false=>
  rw[Ql,Qs (by simp)]
  by_cases k1:l.bx=1
  ·rw[<-RB h hs (g:=ki l) rfl];simp[ki,k1,zP]
  ·by_cases k2:l.bx=2
   ·by_cases k3:l.aK=l.ay.aK
    ·rw[<-RB h hs (g:=ki l) rfl];simp[ki,k2,<-k3,zP]
    ·simp[k2,k3,zP]
   ·simp[k1,k2,zP]
structure Rf (nd:Int) (l:eC):Prop where
 oJ:l.bx=1->uX l.aX/\l.aX.al=nd
 env:l.bx=2->cU l.ay.aa/\(bc l.ay=true->dq l.ay.aa/\l.ay.al=nd)
 s0:1<=l.aK
 s1:l.aK<=1000000
def HU{nd k:Int}(hk:k<=999998){l:eC}{src:Int}(hl:Rf src l)(hne:src≠nd)(hb:Ep l=false){x:aM}(hx:Ex nd k x)(hs:x.af.aK=l.aK):
  Yd (ki l x) λq=>(q.2.1=0/\xw nd x.af.aK (k+1) x q.1/\q.1.af.aa=x.af.aa)\/q.2.1≠0:=by
 unfold ki;refine Yd.cond (λk1=> ?_) (λk1=> ?_)
 ·obtain⟨g1,g2⟩:=hl.oJ (of_decide_eq_true k1);exact Zf hx.2.2 hk g1 (by rw[g2];exact hne)
 ·have k1:=of_decide_eq_false k1;simp only[Ep,Bool.not_eq_false',Qn,Qi,Qm]at hb;have hb:=hb.resolve_left k1;obtain⟨g1,g2⟩:=hl.env hb.1;refine(aaT hx.2.2 hk ?_).mono λy hy=>hy.imp (λhy=>⟨hy.1,⟨hy.2.1.1.le (by omega),hy.2.1.2⟩,hy.2.2⟩) id
  cases hv:bc l.ay with
  |true=>
   obtain⟨g3,g4⟩:=g2 hv;exact .inl ⟨hv,g3,by rw[hs,hb.2],by rw[g4,hx.2.2.pre.aG];exact hne⟩
  |false=>exact .inr ⟨g1,rfl⟩
structure aao (g:aM->Option (aM×Int×Unit)) (l ys:List aM):Prop where
 len:ys.length=l.length
 at_:∀(i:Nat) (x:aM),l[i]?=some x->∃y,ys[i]?=some y/\g x=some (y,0,())
def Ae(p:aw)(t:aj)(ys:List aM):aw:={p with aa:=t,aE:=ys}
def abO{p:aw}{g:aM->Option (aM×Int×Unit)}(hlen:p.aE.length<=8){ys:List aM}(hy:aao g p.aE ys)(t:aj)(z:aw)
  (hw:∀(q:aw) (i:Nat) (y:aM),q.aE.length<=8->i<q.aE.length->gI q (i:Int) y 0=some (MQ q i y,0,())):
  aD (λ(v2:Int×aw×aw×Unit)=>
   bif (decide (v2.1<((List.length p.aE:Nat):Int)))then
    Option.bind (idx v2.2.1.aE v2.1) λx3=>Option.bind (g x3) λr4=>Option.bind (gI v2.2.1 v2.1 r4.1 r4.2.1) λr5=>
    bif (!decide (r5.2.1=(0:Int)))then Option.map Sum.inr (some (z,r5.2.1,()))else some (Sum.inl ((aA .i64 v2.1 (1:Int)),r5.1,v2.2.2.1,()))
   else Option.map Sum.inr (some (v2.2.1,(0:Int),()))) ((0:Int),{p with aa:=t},z,())=some (Ae p t ys,0,()):=by
 refine Yd.is (Yd.list p.aE (by omega) (λi (s:aw×aw)=>(i,s.1,s.2,())) (λi s=>s.1=Ae p t (ys.take i++p.aE.drop i)) (λi x s g1 _ hx hi hd hw' ha=> ?_) (λs g1 hd=> ?_) (s:=({p with aa:=t},z)) ?_)
 ·have hx':p.aE[i]?=some x:=by rw[<-hw',bf]
  obtain⟨y,e1,e2⟩:=hy.at_ i x hx'
  have hl':(ys.take i++p.aE.drop i).length=p.aE.length:=by
   have:=hy.len;simp only[QB,List.length_take,List.length_drop];omega
  simp only[hd,Qk,g1];rw[bf,show(Ae p t (ys.take i++p.aE.drop i)).aE=ys.take i++p.aE.drop i from rfl,afM hy.len,hx',Qa,e2,Qa,hw _ i y (by show(ys.take i++p.aE.drop i).length<=8;omega) (by show i<(ys.take i++p.aE.drop i).length;omega),Qa,ha]
  refine .some ⟨(MQ (Ae p t (ys.take i++p.aE.drop i)) i y,s.2),rfl,?_⟩;show Ae p t ((ys.take i++p.aE.drop i).set i y)=_;rw[acv hy.len hi e1]
 ·simp only[hd,Ql,g1];refine .some ?_;show(Ae p t (ys.take p.aE.length++p.aE.drop p.aE.length),(0:Int),())=_;rw[<-hy.len,Qq62,hy.len,Qq66,List.append_nil]
 ·rfl
def aeh(q:aw)(i:Nat)(y:aM)(hl:q.aE.length<=8)(hi:i<q.aE.length):gI q (i:Int) y 0=some (MQ q i y,0,()):=by
 unfold gI;simp only[aM.eta,au.eta,ab.eta,etas,decide_true,Qo,Ql];rw[bC (by omega),Qk,bf,Qv hi,Qa,QV,Qv hi]
 rfl
section
variable {nd k : Int} {p : aw} (h : kT nd k p) (hk0 : 0 <= k) (hk : k <= 999998)
 include h hk0 hk
theorem Ym{g:aM->Option (aM×Int×Unit)}{t:aj}(ht:dq t)(hg:∀x,Ex nd k x->x∈p.aE->Yd (g x) λq=>q.2.1=0/\xw nd x.af.aK (k+1) x q.1/\q.1.af.aa=t):
  ∃ys,aao g p.aE ys/\kT nd (k+1) (Ae p t ys)/\pj p (Ae p t ys):=by
 obtain⟨ys,h1,h2⟩:=abk (R:=λx y=>g x=some (y,0,())/\xw nd x.af.aK (k+1) x y/\y.af.aa=t) (l:=p.aE) λx hx=>by
  obtain⟨⟨y,e,u⟩,e1,e2,e3⟩:=hg x (h.aJ x hx) hx;obtain rfl:e=0:=e2;exact⟨y,e1,e3⟩
 have back:∀(i:Nat) (hi:i<ys.length),∃hi':i<p.aE.length,xw nd (p.aE[i]).af.aK (k+1) p.aE[i] ys[i]/\(ys[i]).af.aa=t/\Ex nd k p.aE[i]:=λi hi=>by
  have hi':i<p.aE.length:=by omega
  obtain⟨y,e1,_,e2,e3⟩:=h2 i _ (Qv hi');rw[Qv hi]at e1;obtain rfl:=Option.some.inj e1;exact⟨hi',e2,e3,h.aJ _ (Q0 hi')⟩
 refine⟨ys,⟨h1,λi x hx=> ?_⟩,⟨h.aG,h.n0,h.n1,ht,by show ys.length<=8;rw[h1];exact h.len,λy hy=> ?_,?_,λy hy=> ?_⟩,⟨by show _<=ys.length;omega,λx hx=> ?_⟩⟩
 ·obtain⟨y,e1,e2,_⟩:=h2 i x hx;exact⟨y,e1,e2⟩
 ·obtain⟨i,hi,rfl⟩:=List.getElem_of_mem (show y∈ys from hy)
  obtain⟨_,e1,_,e3⟩:=back i hi;exact(e3.Wi e1).1
 ·show ys.Pairwise _;rw[List.pairwise_iff_getElem];intro a b ha hb hab;obtain⟨ha',e1,_,e3⟩:=back a ha;obtain⟨hb',e4,_,e6⟩:=back b hb;rw[(e3.Wi e1).2,(e6.Wi e4).2];exact List.pairwise_iff_getElem.1 h.dn a b ha' hb' hab
 ·obtain⟨i,hi,rfl⟩:=List.getElem_of_mem (show y∈ys from hy)
  obtain⟨_,_,e,_⟩:=back i hi;exact e
 ·obtain⟨i,hi⟩:=List.getElem?_of_mem hx;obtain⟨y,e1,_,e2,_⟩:=h2 i x hi;exact⟨y,Q8 e1,((h.aJ x hx).Wi e2).2,e2.2⟩
theorem ag3{now:Int}(h0:0<=now)(h1:now<=200):∃ys,aao (λx=>tc x now) p.aE ys/\kT nd (k+1) (Ae p p.aa ys)/\pj p (Ae p p.aa ys)/\Ak p now=some (if p.bV=true then(p,0,())else(Ae p p.aa ys,0,())):=by
 obtain⟨ys,hy,hi,hq⟩:=Ym h hk0 hk (g:=λx=>tc x now) h.aN λx hx hm=>(ae9 hx.2.2 hk h0 h1).mono λq hq=>⟨hq.1,hq.2.1,hq.2.2.trans (h.same x hm)⟩
 refine⟨ys,hy,hi,hq,?_⟩;unfold Ak;simp only[aM.eta,au.eta,ab.eta,etas,aw.eta,GL h (by omega),Qa,Qo,Ql]
 cases p.bV with
 |true=>rfl
 |false=>exact abO h.len hy p.aa _ aeh
theorem aid{t:aj}(ht:dq t):∃ys,aao (λx=>n5 x t) p.aE ys/\kT nd (k+1) (Ae p t ys)/\pj p (Ae p t ys)/\vo p t=some (if p.bV=true then(p,0,())else(Ae p t ys,0,())):=by
 obtain⟨ys,hy,hi,hq⟩:=Ym h hk0 hk (g:=λx=>n5 x t) ht λx hx _=>Zh hx.2.2 hk ht
 refine⟨ys,hy,hi,hq,?_⟩;unfold vo;simp only[aM.eta,au.eta,ab.eta,etas,aw.eta,GL h (by omega),Qa,Qo,Ql,AS ht.sm,vC ht,decide_true]
 rw[Bool.cond_eq_ite]
 by_cases hst:p.bV=true
 ·rw[Qr hst,Qr hst]
 ·rw[Qs hst,Qs hst];exact abO h.len hy t _ aeh
end
end
section
def NO{α β:Type}(o:Option (α×β×Unit)):(o.bind λr=>some (r.1,r.2.1,()))=o:=by cases o<;>rfl
section
variable {m : ab} (h : bs m) (hs : fR m)
 include h hs
end
def aiZ{nd k:Int}{l:List aM}(hlen:l.length<=8)(h:∀x∈l,Ex nd k x):kQ l=some l:=by
 unfold kQ;refine Yd.is (Yd.list l (by omega) (λi (s:List aM)=>(i,s,())) (λi s=>s=l.take i) (λi x s e _ hx hi hd hw ha=> ?_) (λs e hd=> ?_) (s:=[]) rfl)
 ·subst e;simp only[hd,Qk,hw,Qa,aM.eta,au.eta,ab.eta,etas,Vd (h x hx).2.2.pre,ha];rw[bC (by simp;omega),Qk]
  refine .some ⟨_,rfl,?_⟩;rw[bf]at hw;rw[List.take_add_one,hw];rfl
 ·subst e;simp only[hd,Ql,Qq62];exact .some rfl
section
variable {nd k : Int} {p : aw} (h : kT nd k p) (hk : k <= 999998)
 include h hk
theorem Ye:mE p=some true:=by
 have hlen:=h.len;have h0:=h.n0;have h1:=h.n1;have hn:=h.aG;unfold mE nI;simp only[aM.eta,au.eta,ab.eta,etas,KJ h.aN.sm,vC h.aN,Qa,decide_true,Qo];rw[Qg (show(0:Int)<=p.al by omega),Qg (show p.al<10 by omega),Qh (show¬(8:Int)<(p.aE.length:Int)by omega)]
 simp only[Ql,Qk,Qa,Qo];refine aih h (λx hx=>M1 (h.aJ x hx).2.2 (by omega)) λx hx=> ?_
 obtain⟨r,hr,hb⟩:=eqT (a:=x.af.aa) (b:=p.aa) (h.aJ x hx).2.2.pre.iV.aN.sm;rw[hr,hb.2 (h.same x hx)]
 omit hk in
theorem aa2{n:Int}(hn0:0<=n)(hn1:n<=1000000):bD p.aE n=some (((mg p.aE n:Nat):Int),u9 p.aE n,()):=by
  have hlen:=h.len
  have hsub:∀y∈p.aE,cQ .i64 y.af.aK n=y.af.aK - n:=λy hy=>by
   have h1:=(h.aJ y hy).1;have h2:=(h.aJ y hy).2.1;exact nT (by omega) (by omega)
  unfold bD;refine(Ia p.aE (by omega) (λy=>decide (y.af.aK<n)) (h.dn.imp λ{x y} hxy hy=>by simp only[Qi]at hy ⊢;omega) (fin:=λk=>some (((k:Nat):Int),(match p.aE[k]? with|some y=>decide (y.af.aK=n)|none=>false),())) (λi j m y hd hj hm hadd hx=> ?_) (λi hd hi=> ?_)).trans rfl
  ·have hy:y∈p.aE:=by rw[bf]at hx;exact Q8 hx
   have hc:decide (y.af.aK - n<0)=decide (y.af.aK<n):=by rw[decide_eq_decide];omega
   simp only[hd,hm,hadd,hx,aM.eta,au.eta,ab.eta,etas,lp,hsub y hy,hc,Qa,Qk];cases decide (y.af.aK<n)<;>rfl
  ·simp only[hd,Ql]
   by_cases hi2:i<p.aE.length
   ·have hc:decide (p.aE[i].af.aK - n=0)=decide (p.aE[i].af.aK=n):=by rw[decide_eq_decide];omega
    rw[Qg (by omega:(i:Int)<(p.aE.length:Int))]
    simp only[Qk,bf,Qv hi2,Qa,aM.eta,au.eta,ab.eta,etas,lp,hsub _ (Q0 hi2),hc,Qe]
   ·rw[Qh (by omega:¬(i:Int)<(p.aE.length:Int)),Qq72 (by omega)]
    rfl
section
variable {n : Int} {own : ByteArray} {now : Int} {s : aM} (hs : KC nd k n p own now s) (ho : own.size <= 200) (h0 : 0 <= now) (h1 : now <= 200)
 include hs
 omit hk in
theorem akd(h8:p.aE.length≠8):ep p.aE ((mg p.aE n:Nat):Int) [s]=some (J9 p n s).aE:=by
  have hlen:=h.len;have hw:=NS p.aE n;unfold ep CC;rw[Qg (by omega:(0:Int)<=((mg p.aE n:Nat):Int)),Qg (by omega:((mg p.aE n:Nat):Int)<=(p.aE.length:Int)),bC (by simp;omega)]
  rfl
  include ho h0 h1
 omit hk in
theorem aiV:uj p.al n p.aa own now=some (s,0,()):=by
  have h2:=hs.aJ;have h3:=hs.ok.1;have h4:=hs.ok.2.1;rw[<-hs.e,h.aG];exact ajk h.n0 h.n1 (by omega) (by omega) h.aN ho h0 h1
end
 def Uz(g:aM->Option (aM×Int×Unit))(n:Int)(v4:Int×aw×(List aM)×Unit):Option (aw×Int×Unit):=
 Option.bind (bif (!decide (v4.1=(0:Int)))then some (!decide (v4.1=(6:Int)))else some false) λb6=>
 bif b6 then
 bif (!decide (v4.1=(0:Int)))then some (zP,v4.1,())else some ((aw.mk v4.2.1.al v4.2.1.bV v4.2.1.aa v4.2.2.1),(0:Int),())
 else
 Option.bind (bD v4.2.2.1 n) λr7=>
 Option.bind (idx v4.2.2.1 r7.1) λx8=>
 Option.bind (v4.2.2.1[(Int.toNat r7.1)]?) λx9=>
 Option.bind (g x9) λr10=>
 aY (λ(v11:aw×(List aM)×Unit)=>
 bif (!decide (r10.2.1=(0:Int)))then some (zP,r10.2.1,())else some ((aw.mk v11.1.al v11.1.bV v11.1.aa v11.2.1),(0:Int),())) λj12=>
 bif (decide (r10.2.1=(0:Int)))then
 Option.bind (idx v4.2.2.1 r7.1) λx13=>
 Option.bind (v4.2.2.1[(Int.toNat r7.1)]?) λx14=>
 j12 ((aw.mk v4.2.1.al v4.2.1.bV v4.2.1.aa ([]:List aM)),(v4.2.2.1.set (Int.toNat r7.1) r10.1),())
 else
 j12 ((aw.mk v4.2.1.al v4.2.1.bV v4.2.1.aa ([]:List aM)),v4.2.2.1,())
 omit hk in
theorem abN{n:Int}(hn0:0<=n)(hn1:n<=1000000){x:aM}(hx:p.aE[mg p.aE n]?=some x){e:Int}(he:e=0\/e=6)(g:aM->Option (aM×Int×Unit)):
   Uz g n (e,⟨p.al,p.bV,p.aa,[]⟩,p.aE,())=Option.bind (g x) λr=>some (if r.2.1=0 then(MQ p (mg p.aE n) r.1,0,())else(zP,r.2.1,())):=by
  have hb:(Option.bind (bif (!decide (e=(0:Int)))then some (!decide (e=(6:Int)))else some false) λb6=>(some b6:Option Bool))=some false:=by rcases he with rfl|rfl<;>rfl
  unfold Uz;simp only[aa2 h hn0 hn1,Qa,bf,hx,QV,aS];rcases he with rfl|rfl
  all_goals
   simp only[decide_true,Qo,Ql,Qa,Qk,Qp,show decide ((6:Int)=0)=false from rfl]
   congr 1
   funext r
   by_cases hr:r.2.1=0
   ·rw[Qg hr,Qr hr];rfl
   ·rw[Qh hr,Qs hr];rfl
section
variable {n : Int} {own : ByteArray} {now : Int} {s : aM} (hs : KC nd k n p own now s) (ho : own.size <= 200) (h0 : 0 <= now) (h1 : now <= 200)
 include hs ho h0 h1
 omit hk in
theorem aer{g g':aM->Option (aM×Int×Unit)}(hg:∀x,Ex nd k x->x.af.aK=n->g x=g' x):
   (aY (Uz g n) λj5=>
    Option.bind (bD p.aE n) λr15=>
    bif r15.2.1 then j5 ((6:Int),(aw.mk p.al p.bV p.aa ([]:List aM)),p.aE,())else
    bif (decide (((List.length p.aE:Nat):Int)=(8:Int)))then j5 ((3:Int),(aw.mk p.al p.bV p.aa ([]:List aM)),p.aE,())else
    Option.bind (uj p.al n p.aa own now) λr16=>
    aY (λ(v17:aw×(List aM)×Unit)=>j5 (r16.2.1,(aw.mk v17.1.al v17.1.bV v17.1.aa ([]:List aM)),v17.2.1,())) λj18=>
    bif (decide (r16.2.1=(0:Int)))then
    Option.bind (ep p.aE r15.1 [r16.1]) λr19=>j18 ((aw.mk p.al p.bV p.aa ([]:List aM)),r19,())
    else j18 ((aw.mk p.al p.bV p.aa ([]:List aM)),p.aE,()))=yd p n s g':=by
  have h2:=hs.aJ;have h3:=hs.ok.1;have h4:=hs.ok.2.1
  have fin:¬(u9 p.aE n=false/\p.aE.length=8)->∀e:Int,e=0\/e=6->Uz g n (e,⟨(mh p n s).al,(mh p n s).bV,(mh p n s).aa,[]⟩,(mh p n s).aE,())=yd p n s g':=λhb e he=>by
   obtain⟨hi,ht,x,hx,hxn,hxm⟩:=Um h hs hb;rw[abN hi (by omega) (by omega) hx he,hg x (hi.aJ x hxm) hxn]
   unfold yd;rw[Qs hb,hx];rfl
  rw[aS,aa2 h (by omega) (by omega),Qa,aiV h hs ho h0 h1]
  cases ht:u9 p.aE n with
  |true=>
   have:=fin (λe=>by rw[ht]at e;cases e.1) 6 (.inr rfl)
   unfold mh at this;rw[Qr ht]at this;exact this
  |false=>
   by_cases h8:p.aE.length=8
   ·rw[Qg (by omega)]
    unfold yd;rw[Qr ⟨ht,h8⟩];rfl
   ·have:=fin (λe=>h8 e.2) 0 (.inl rfl)
    unfold mh at this;rw[Qs (by rw[ht];simp)]at this
    rw[Qh (by omega)]
    simp only[Ql,Qk,Qa,decide_true,akd h hs h8,aS,<-this];rfl
end
theorem aep{l:eC}{src:Int}(hl:Rf src l)(hne:src≠nd){now:Int}(h0:0<=now)(h1:now<=200){s:aM}(hs:KC nd k l.aK p (ByteArray.mk #[48]) now s):
  lq p l now=if p.bV=true then some (p,0,())else if Ep l=true then some (zP,1,())else yd p l.aK s (ki l):=by
 unfold lq qm Ep;simp only[aM.eta,au.eta,ab.eta,az.eta,ak.eta,eC.eta,etas,aw.eta,Ye h hk,ml h.aN.sm,aiZ h.len h.aJ,Qa,Qo,Ql];rw[NO,Bool.cond_eq_ite]
 by_cases hst:p.bV=true
 ·rw[Qr hst,Qr hst]
 ·rw[Qs hst,Qs hst]
  by_cases k1:l.bx=1
  ·have h1':=hl.oJ k1;rw[Qg k1,Qk,Bool.true_or,Qo,Qs (by simp)]
   refine aer h hs (by decide) h0 h1 (g:=λx=>kE x l) (g':=ki l) λx hx hxs=> ?_
   show kE x l=ki l x;unfold kE ki;simp only[aM.eta,au.eta,ab.eta,az.eta,etas,XF hx.2.2 hk h1'.1 (by rw[h1'.2];exact hne),Qg k1,Qk]
   exact NO _
  ·rw[Qh k1,Ql,Bool.false_or]
   by_cases k2:l.bx=2
   ·by_cases k3:l.aK=l.ay.aK
    ·obtain⟨g1,g2⟩:=hl.env k2;rw[Qg k2,Qg k3,Qk,Qa,Qk,Bool.and_self,Qo,Qs (by simp)]
     refine aer h hs (by decide) h0 h1 (g:=λx=>kD x l) (g':=ki l) λx hx hxs=> ?_
     show kD x l=ki l x;unfold kD ki
     have he:Ah x.af l.ay\/(cU l.ay.aa/\(bc l.ay=false\/l.ay.al=x.af.al\/l.ay.aK≠x.af.aK)):=by
      cases hv:bc l.ay with
      |true=>
       obtain⟨g3,g4⟩:=g2 hv;exact .inl ⟨hv,g3,by rw[hxs,k3],by rw[g4,hx.2.2.pre.aG];exact hne⟩
      |false=>exact .inr ⟨g1,.inl rfl⟩
     simp only[aM.eta,au.eta,ab.eta,ak.eta,etas,ZU hx.2.2 hk he,Qh k1,Ql];exact NO _
    ·rw[Qg k2,Qh k3];rfl
   ·rw[Qh k2];rfl
end
end
section
def Jb{α:Type}{a b:List α}(hl:a.length<=1000000)(hab:a.length=b.length){f:α->α->Option Bool}(hf:∀x∈a,∀y∈b,∃r,f x y=some r/\(x=y->r=true)):
  ∃r,aD (λ(v:Int×Unit)=>bif (decide (v.1<((List.length a:Nat):Int)))then Option.bind (idx a v.1) λx2=>Option.bind (idx b v.1) λx3=>Option.bind (f x2 x3) λr4=>
   bif (!r4)then Option.map Sum.inr (some false)else some (Sum.inl ((aA .i64 v.1 (1:Int)),()))else Option.map Sum.inr (some true)) ((0:Int),())=some r/\(a=b->r=true):=by
 refine Yd.list (p:=λr=>a=b->r=true) a hl (λi (_:Unit)=>(i,())) (λ_ _=>True) (λi x _ _ _ hx hi hd hw ha=> ?_) (λ_ _ hd=> ?_) (s:=()) trivial
 ·have hi':i<b.length:=by omega
  have hw':idx b (i:Int)=some b[i]:=by rw[bf];exact Qv hi'
  obtain⟨r,e,h⟩:=hf x hx b[i] (Q0 hi');simp only[hd,Qk,hw,hw',Qa,e,ha]
  cases r with
  |true=>exact .some ⟨(),rfl,trivial⟩
  |false=>
   refine .some λhab'=> ?_
   subst hab';rw[hw]at hw';exact absurd (h (Option.some.inj hw')) (by simp)
 ·simp only[hd,Ql];exact .some λ_=>rfl
def F6(a b:List ByteArray)(hl:a.length<=1000000):∃r,gd a b=some r/\(a=b->r=true):=by
 unfold gd
 by_cases hab:a.length=b.length
 ·obtain⟨r,e,h⟩:=Jb hl hab (f:=λx y=>some (decide (x=y))) λx _ y _=>⟨_,rfl,λe=>Qg e⟩
  rw[Qg (by omega),Qo,Ql]
  exact⟨r,e,h⟩
 ·rw[Qh (by omega)]
  exact⟨false,rfl,λe=>absurd (congrArg List.length e) hab⟩
def ahM{m m':az}(h:uX m):∃r,ky m m'=some r/\(m=m'->r=true):=by
 obtain⟨r1,e1,h1⟩:=HX (a:=m.aa) (b:=m'.aa) h.aN.sm;obtain⟨r2,e2,h2⟩:=F6 m.bj m'.bj h.du.sy;obtain⟨r3,e3,h3⟩:=F6 m.aF m'.aF h.eI.sy;unfold ky;simp only[etas,e1,e2,e3,Qa,ib];refine⟨_,rfl,λe=> ?_⟩
 subst e;rw[h1.2 rfl,h2 rfl,h3 rfl];simp
def afI{n n':au}(h:cJ n):∃r,As n n'=some r/\(n=n'->r=true):=by
 have hlen:=h.len;obtain⟨r1,e1,h1⟩:=HX (a:=n.aa) (b:=n'.aa) h.ask.aN.sm;obtain⟨r2,e2,h2⟩:=F6 n.bj n'.bj h.du.sy;obtain⟨r3,e3,h3⟩:=F6 n.aF n'.aF h.eI.sy;obtain⟨r4,e4,h4⟩:=F6 n.aR n'.aR h.kL.sy;unfold As;simp only[az.eta,etas,e1,e2,e3,e4,Qa,ib];generalize hb:(bif (bif (bif (bif (bif (bif (bif (bif !decide (n.al=n'.al)then true else !decide (n.aK=n'.aK))then true else !decide (n.Round=n'.Round))then true else !decide (n.aH=n'.aH))then true else !decide (n.lI=n'.lI))then true else !r1)then true else !r2)then true else !r3)then true else !r4)=b
 cases b with
 |true=>
  refine⟨_,rfl,λe=> ?_⟩
  subst e;rw[h1.2 rfl,h2 rfl,h3 rfl,h4 rfl]at hb;simp at hb
 |false=>
  rw[Ql]
  by_cases hl:n.ar.length=n'.ar.length
  ·obtain⟨r,e,h'⟩:=Jb (by omega) hl (f:=ky) λx hx y _=>ahM (h.heard x hx).1
   rw[Qg (by omega),Qo,Ql,e]
   exact⟨r,rfl,λe=>h' (by rw[e])⟩
  ·rw[Qh (by omega)]
   exact⟨false,rfl,λe=>absurd (by rw[e]) hl⟩
def agk{a b:List ak}(hl:a.length<=1000000)(h:∀e∈a,cU e.aa):∃r,sE a b=some r/\(a=b->r=true):=by
 unfold sE;simp only[ak.eta,etas]
 by_cases hab:a.length=b.length
 ·obtain⟨r,e,h'⟩:=Jb hl hab (f:=ti) λx hx y _=>(let⟨r,e,h⟩:=aia (a:=x) (b:=y) (h x hx);⟨r,e,h.2⟩)
  rw[Qg (by omega),Qo,Ql]
  exact⟨r,e,h'⟩
 ·rw[Qh (by omega)]
  exact⟨false,rfl,λe=>absurd (congrArg List.length e) hab⟩
def afO{m m':ab}(h:bs m):∃r,Ao m m'=some r/\(m=m'->r=true):=by
 have hlen:=h.len;obtain⟨r1,e1,h1⟩:=HX (a:=m.aa) (b:=m'.aa) h.aN.sm;obtain⟨r2,e2,h2⟩:=agk (a:=m.ar) (b:=m'.ar) (by omega) λe he=>(h.hv e he).2.1.sm
 unfold Ao kx;simp only[ab.eta,etas,e1,e2,Qa,ib];refine⟨_,rfl,λe=> ?_⟩
 subst e;rw[h1.2 rfl,h2 rfl];simp
def ae1{nd sl k:Int}{x y:aM}(h:rJ nd sl k x):∃r,Am x y=some r/\(x=y->r=true):=by
 obtain⟨r1,e1,h1⟩:=afI (n:=x.aB) (n':=y.aB) h.pre.oJ;obtain⟨r2,e2,h2⟩:=afO (m:=x.af) (m':=y.af) h.pre.iV;unfold Am;simp only[au.eta,ab.eta,etas,e1,e2,Qa,ib];refine⟨_,rfl,λe=> ?_⟩
 subst e;rw[h1 rfl,h2 rfl];simp
def ai2{t:aj}(ht:dq t):BN 0 t=some (⟨0,false,t,[]⟩,0,()):=by
 unfold BN;simp only[etas,AS ht.sm,vC ht,Qa];rfl
def aey{t:aj}(ht:dq t):kT 0 0 ⟨0,false,t,[]⟩:=⟨rfl,by decide,by decide,ht,QS _,(λx hx=>by cases hx),List.Pairwise.nil,λx hx=>by cases hx⟩
def vl1{v:ByteArray}(h:kM v):VL [v]:=⟨λx hx=>by rw[Q5.1 hx];exact h,List.pairwise_singleton _ _,by simp⟩
def Vs{s:dR}(hO:nG s){v:Int}(h0:0<=v)(h1:v<10):Yd (tu s v) λq=>nG q.2/\Rf v q.1/\Ep q.1=false:=by
 unfold tu;refine Yd.bind (lO hO (by omega) (by omega) (by omega)) λp1 ⟨hO1,s0,s1,_⟩=> ?_
 have s1:=s1 (by omega)
 refine Yd.bind (sq hO1 (by omega)) λp2 ⟨hO2,_,_,_⟩=> ?_
 simp only[etas,az.eta];refine Yd.cond (λ_=> ?_) (λ_=> ?_)
 ·refine Yd.bind (lO hO2 (by omega) (by omega) (by omega)) λp3 ⟨hO3,q0,_,_⟩=> ?_
  refine Yd.bind (Ii hO3 (n:=4) (by omega) (by omega)) λp4 ⟨hO4,ht,_,_⟩=> ?_
  refine Yd.bind (Bs hO4) λp5 ⟨hO5,hv⟩=> ?_
  refine Yd.join (λw=>nG w.1/\uX w.2.1/\w.2.1.al=v) (λw ⟨g1,g2,g3⟩=> .some ⟨g1,⟨λ_=>⟨g2,g3⟩,λe=>(by cases e),by show 1<=p1.1;omega,by show p1.1<=1000000;omega⟩,rfl⟩) (λj' hj=> ?_)
  refine Yd.bind (sq hO5 (by omega)) λp8 ⟨hO8,_,_,_⟩=> ?_
  refine Yd.cond (λ_=> ?_) (λ_=>hj _ ⟨hO8,⟨h0,h1,q0,ht,vl1 (F7 hv),VL.nil⟩,rfl⟩)
  exact Yd.bind (Bs hO8) λp9 ⟨hO9,hv'⟩=>hj _ ⟨hO9,⟨h0,h1,q0,ht,vl1 (F7 hv),vl1 (F7 hv')⟩,rfl⟩
 ·refine Yd.bind (XO hO2 h0 h1 (by omega) (by omega) (n:=4) (by omega) (by omega)) λp10 ⟨hO10,he⟩=> ?_
  refine Yd.bind (sq hO10 (by omega)) λp11 ⟨hO11,_,_,_⟩=> ?_
  refine .some ⟨hO11,⟨λe=>(by cases e),λ_=>⟨he.aN.sm,λ_=>⟨he.aN,he.aG⟩⟩,by show 1<=p1.1;omega,by show p1.1<=1000000;omega⟩,?_⟩
  show Ep _=false;simp only[Ep,he.aJ];simp
def Rp{nd k:Int}{p:aw}(h:kT nd k p){q:aw×Int×Unit}(hq:Pq nd k p q):Pq nd k p (if p.bV=true then(p,0,())else q):=by
 split
 ·exact .inl ⟨rfl,h,pj.refl p,rfl⟩
 ·exact hq
def ag7{k:Int}{p:aw}(h:kT 0 k p)(hk0:0<=k)(hk:k<=999998){s:dR}(hO:nG s){now:Int}(h0:0<=now)(h1:now<=200):Yd (Ay s p now) λq=>nG q.2/\kT 0 (k+1) q.1/\pj p q.1/\q.1.bV=p.bV:=by
 unfold Ay;simp only[aM.eta,au.eta,ab.eta,etas,aw.eta];have out:∀{q:aw×Int×Unit} {k':Int},k'<=k+1->Pq 0 k' p q->q.2.1=0->kT 0 (k+1) q.1/\pj p q.1/\q.1.bV=p.bV:=λ{q k'} hk' hq e=>hq.elim (λg=>⟨g.2.1.le hk',g.2.2.1,g.2.2.2⟩) λg=>absurd e g
 have self:kT 0 (k+1) p:=h.le (by omega)
 refine Yd.join (λv=>nG v.2.1/\(v.1=0->kT 0 (k+1) v.2.2.1/\pj p v.2.2.1/\v.2.2.1.bV=p.bV)) (λv ⟨v1,v2⟩=> ?_) (λj' hj=> ?_)
 ·by_cases e:v.1=0
  ·rw[Qg e];exact .some ⟨v1,v2 e⟩
  ·rw[Qh e];exact .some ⟨v1,self,pj.refl p,rfl⟩
 ·refine Yd.bind (sq hO (by omega)) λp3 ⟨hO3,_,_,_⟩=> ?_
  refine Yd.cond (λ_=> ?_) (λ_=>Yd.cond (λ_=> ?_) (λ_=>Yd.cond (λ_=> ?_) (λ_=>Yd.cond (λ_=> ?_) (λ_=> ?_))))
  ·refine Yd.bind (lO hO3 (by omega) (by omega) (by omega)) λp4 ⟨hO4,n0,n1,_⟩=> ?_
   have n1:=n1 (by omega)
   refine Yd.bind (Bs hO4) λp5 ⟨hO5,hv⟩=> ?_
   obtain⟨x,hs⟩:=Vm h (n:=p4.1) n0 (by omega) (F7 hv).2 h0 h1 hk0
   rw[ahI h hk0 hk hs,Qa];exact hj _ ⟨hO5,out (by omega) (Rp h (adO h hs))⟩
  ·refine Yd.bind (lO hO3 (by omega) (by omega) (by omega)) λp4 ⟨hO4,n0,n1,_⟩=> ?_
   have n1:=n1 (by omega)
   refine Yd.bind (Bs hO4) λp5 ⟨hO5,hv⟩=> ?_
   obtain⟨x,hs⟩:=Vm h (n:=p4.1) n0 (by omega) (F7 hv).2 h0 h1 hk0
   rw[acX h hk0 hk hs];split
   ·exact hj _ ⟨hO5,λ_=>⟨self,pj.refl p,rfl⟩⟩
   ·refine(Lg h hs (Int.le_refl k) (g:=λx=>pI x p5.1) λy hy _=>aaP hy.2.2 hk (F7 hv)).bind λq hq=> ?_
    exact hj _ ⟨hO5,out (by omega) hq.1⟩
  ·obtain⟨ys,_,hi,hq,e⟩:=ag3 h hk0 hk h0 h1;rw[e,Qa];exact hj _ ⟨hO3,out (Int.le_refl _) (Rp self (.inl ⟨rfl,hi,hq,rfl⟩))⟩
  ·refine Yd.bind (Ii hO3 (n:=4) (by omega) (by omega)) λp11 ⟨hO11,ht,_,_⟩=> ?_
   obtain⟨ys,_,hi,hq,e⟩:=aid h hk0 hk ht;rw[e,Qa];exact hj _ ⟨hO11,out (Int.le_refl _) (Rp self (.inl ⟨rfl,hi,hq,rfl⟩))⟩
  ·refine Yd.bind (lO hO3 (by omega) (by omega) (by omega)) λp13 ⟨hO13,n0,n1,_⟩=> ?_
   have n1:=n1 (by omega)
   refine Yd.bind (Vs hO13 (by omega) (by omega)) λp14 ⟨hO14,hl,hb⟩=> ?_
   simp only[az.eta,ak.eta,eC.eta,etas];obtain⟨x,hs⟩:=Vm h hl.s0 hl.s1 (own:=ByteArray.mk #[48]) (by decide) h0 h1 hk0
   rw[ahV h hk hs,hb];split
   ·exact hj _ ⟨hO14,λ_=>⟨self,pj.refl p,rfl⟩⟩
   ·rw[Qs (by simp)]
    refine(Lg h hs (show k<=k+1 by omega) λy hy hys=>HU hk hl (by omega) hb hy hys).bind λq hq=> ?_
    exact hj _ ⟨hO14,out (Int.le_refl _) hq.1⟩
def ahQ{s:dR}(hO:nG s):Yd (Az s) λq=>nG q.2/\kT 0 10 q.1/\q.1.bV=false:=by
 unfold Az;refine Yd.bind (Ii hO (n:=4) (by omega) (by omega)) λp1 ⟨hO1,ht,_,_⟩=> ?_
 simp only[etas,aw.eta,ai2 ht,Qa];refine Yd.bind (sq hO1 (by omega)) λp3 ⟨hO3,g0,g1,_⟩=> ?_
 have g1:=g1 (by omega)
 refine Yd.Fg (λ(v:Int×dR×aw×Unit)=>0<=v.1/\v.1<=9/\nG v.2.1/\kT 0 (9 - v.1) v.2.2.1/\v.2.2.1.bV=false) (λv=>v.1.toNat) ?_ ⟨g0,by show p3.1<=9;omega,hO3,(aey ht).le (by show(0:Int)<=9 - p3.1;omega),rfl⟩
 rintro⟨k,s',x,u⟩ ⟨a1,a2,a3,a4,a5⟩;simp only at a1 a2 a3 a4 a5;simp only
 by_cases hk:0<k
 ·rw[Qg hk,Qk,nT (by omega) (by omega),nT (by omega) (by omega)]
  refine Yd.bind (ag7 a4 (by omega) (by omega) a3 (by omega) (by omega)) λq ⟨b1,b2,_,b3⟩=> ?_
  exact .some ⟨⟨by show 0<=k - 1;omega,by show k - 1<=9;omega,b1,b2.le (by show 9 - k+1<=9 - (k - 1);omega),b3.trans a5⟩,by show(k - 1).toNat<k.toNat;omega⟩
 ·rw[Qh hk,Ql];exact .some ⟨a3,a4.le (by omega),a5⟩
def ac7{nd k n:Int}{q:aw}(h:kT nd k q)(h1:∀y∈q.aE,y.af.aK=n)(h2:∃y∈q.aE,y.af.aK=n):∃y,q.aE=[y]/\y.af.aK=n:=by
 obtain⟨y,hy,hn⟩:=h2;have hs:=h.dn
 cases hl:q.aE with
 |nil=>rw[hl]at hy;cases hy
 |cons a l=>
  cases l with
  |nil=>exact⟨a,rfl,h1 a (by rw[hl];exact Qx)⟩
  |cons b l=>
   rw[hl,Q4]at hs;have e1:=h1 a (by rw[hl];exact Qx)
   have e2:=h1 b (by rw[hl];exact Qy _ Qx)
   have:=hs.1 b Qx;omega
def agd{t:aj}(ht:dq t){l:eC}{src:Int}(hl:Rf src l)(hne:src≠0)(hb:Ep l=false){now:Int}(h0:0<=now)(h1:now<=200):
  Yd (lq ⟨0,false,t,[]⟩ l now) λq=>(q.2.1=0->∃y,q.1.aE=[y]/\y.af.aK=l.aK/\kT 0 1 q.1)/\(∀m,l.bx=1->m=l.aX->q.2.1=0):=by
 have h:=aey ht;obtain⟨x,hs⟩:=Vm h hl.s0 hl.s1 (own:=ByteArray.mk #[48]) (by decide) h0 h1 (Int.le_refl 0)
 rw[aep h (by omega) hl hne h0 h1 hs,hb]
 simp only[Qq,Qu];obtain⟨q,e,hq1,hq2⟩:=Lg h hs (show(0:Int)<=0+1 by omega) (g:=ki l) λy hy hys=>HU (by omega) hl hne hb hy hys
 refine⟨q,e,λq0=> ?_,λm k1 _=> ?_⟩
 ·rcases hq1 with⟨_,hi,_⟩|hq1
  ·obtain⟨_,g2,g3⟩:=hq2 q0;obtain⟨y,e1,e2⟩:=ac7 hi (λy hy=>(g2 y hy).resolve_left λe=>(by cases e)) g3
   exact⟨y,e1,e2,hi⟩
  ·exact absurd q0 hq1
 ·have hb2:¬(u9 ([]:List aM) l.aK=false/\([]:List aM).length=8):=λe=>by cases e.2
  unfold yd at e;rw[Qs hb2]at e;obtain⟨hi,_,y,hy,hyn,hym⟩:=Um h hs hb2;have hyx:y=x:=((XW h hs).2.2 y hym).resolve_left λe=>(by cases e)
  rw[hy,Qa,hyx]at e;obtain⟨g1,g2⟩:=hl.oJ k1;obtain⟨z,ez,_,_,hz,_⟩:=ahN (nd:=0) (sl:=l.aK) (by omega) (by omega) hl.s0 hl.s1 ht (own:=ByteArray.mk #[48]) (by decide) h0 h1
  have hx0:=hs.e;rw[ez]at hx0;obtain rfl:=Option.some.inj hx0;obtain⟨r,er,hr⟩:=aiO hs.ok.2.2 (by omega) g1 (by rw[g2];exact hne)
  rw[show ki l x=fO x l.aX from by unfold ki;rw[Qg k1];rfl,er,Qa]at e
  rcases hr with⟨_,r0,_⟩|⟨hr,_⟩
  ·rw[Qr r0]at e;rw[<-Option.some.inj e]
  ·rw[show x.aB.ar=[]from hz]at hr
   cases hr
def ahb:wC=some true:=by
 have ht:dq ⟨2,xz 2,[]⟩:=Tw 2 (by omega) 2 (by omega) (by omega)
 have hF:uO 2 2=some ⟨2,xz 2,[]⟩:=agU 2 (by omega) 2
 have hN:sF 0 ⟨2,xz 2,[]⟩=some (⟨0,false,⟨2,xz 2,[]⟩,[]⟩,0,()):=by
  unfold sF nI;simp only[etas,KJ ht.sm,vC ht,ml ht.sm,Qa];rfl
 unfold wC;refine Yd.eq_true ?_;simp only[hF,Qa,etas,aw.eta,hN];generalize hL:(eC.mk (1:Int) (3:Int) _ _)=L
 have hl:Rf 1 L:=by
  subst hL;exact⟨λ_=>⟨⟨by decide,by decide,by decide,ht,vl1 (by decide),VL.nil⟩,rfl⟩,λe=>(by cases e),by decide,by decide⟩
 have hk1:L.bx=1/\L.aK=3:=by subst hL;exact⟨rfl,rfl⟩
 refine Yd.bind (agd ht hl (by decide) (by simp[Ep,hk1.1]) (now:=4) (by decide) (by decide)) λq ⟨q1,q2⟩=> ?_
 have q0:=q2 _ hk1.1 rfl;obtain⟨y,e1,e2,hi⟩:=q1 q0;have hyi:idx q.1.aE (0:Int)=some y:=by rw[e1];rfl
 simp only[q0,decide_true,Qk,Qa,e2,hk1.2,hyi,aM.eta,au.eta,ab.eta,etas,aw.eta,Ye hi (by omega)]
 rw[show decide (((List.length q.1.aE:Nat):Int)=1)=true by rw[e1];rfl]
 exact .some rfl
end
section
def ahs(l:List Int):qq l=some true:=by
 unfold qq;refine Yd.eq_true ?_;refine Yd.bind (air l) λs hO=> ?_
 refine Yd.bind (ahQ hO) λp2 ⟨hO2,h,hst⟩=> ?_
 refine Yd.bind (lO hO2 (by omega) (by omega) (by omega)) λp3 ⟨hO3,n0,n1,_⟩=> ?_
 have n1:=n1 (by omega)
 refine Yd.bind (Vs hO3 (by omega) (by omega)) λp4 ⟨hO4,hl,hb⟩=> ?_
 simp only[aM.eta,au.eta,ab.eta,az.eta,ak.eta,eC.eta,etas,aw.eta,ahb,Qa];obtain⟨x,hs⟩:=Vm h hl.s0 hl.s1 (own:=ByteArray.mk #[48]) (by decide) (now:=15) (by decide) (by decide) (by decide)
 rw[aep h (by omega) hl (by omega) (by decide) (by decide) hs,hb,hst]
 simp only[Qq,Qu];refine(Lg h hs (show(10:Int)<=10+1 by omega) (g:=ki p4.1) λy hy hys=>HU (by omega) hl (by omega) hb hy hys).bind λq ⟨hq1,hq2⟩=> ?_
 refine Yd.cond (λ_=> .some rfl) (λq0=> ?_)
 simp only[Bool.not_eq_false',Qi]at q0;obtain⟨g1,_,_⟩:=hq2 q0;have hi:kT 0 11 q.1:=(hq1.resolve_right λe=>e q0).2.1
 have hlen:=h.len;have hqlen:=hi.len;refine Yd.list p2.1.aE (by omega) (λi (_:Unit)=>(i,())) (λ_ _=>True) (λi y _ _ _ hy hil hd hw ha=> ?_) (λ_ _ hd=>by simp only[hd,Ql];exact .some rfl) (s:=()) trivial
 simp only[hd,Qk,hw,Qa,aS,ha];refine Yd.cond (λ_=> .some ⟨(),rfl,trivial⟩) (λhne=> ?_)
 have hm:=g1 y hy (of_decide_eq_false hne);refine Yd.list q.1.aE (by omega) (λi (b:Bool)=>(b,i,())) (λi b=>∀j,j<i->q.1.aE[j]?=some y->b=true) (λj z b hinv _ hz hjl hd' hw' ha'=> ?_) (λb hinv hd'=> ?_) (s:=false) (λj hj=>absurd hj (Nat.not_lt_zero _))
 ·obtain⟨r,er,hr⟩:=ae1 (y:=z) (h.aJ y hy).2.2;have hzj:q.1.aE[j]?=some z:=by rw[<-hw',bf]
  simp only[hd',Qk,hw',Qa,er,ib,ha'];refine .some ⟨_,rfl,λi' hi' he=> ?_⟩
  rcases Nat.lt_or_ge i' j with h1|h1
  ·rw[hinv i' h1 he];rfl
  ·obtain rfl:i'=j:=by omega
   rw[hzj]at he;rw[hr (Option.some.inj he).symm];cases b<;>rfl
 ·obtain⟨j,hj⟩:=List.getElem?_of_mem hm;rw[hinv j (Qw.1 hj).1 hj];simp only[hd',Ql,Qo];exact .some ⟨(),rfl,trivial⟩
end
end Go.Proofs.YtofedieniojipaaGreat
end
noncomputable section
namespace Go.TQ
open Go.RowKit
def acD{w:World}{M:Nat->Prop}{G:Gh}{a:Option Addr}{len cap:Nat}{zs:List Int}(hM:∀b,¬M b)
  (h:(a=none/\len=0/\cap=0/\zs=[])\/∃x,a=some x/\len<=cap/\cap<=maxLen/\zs.length=cap/\(∀i,i<zs.length->w.cell? (x.add i)=some (.int .i64 (zs.getD i 0)))/\∀n∈zs,(Lit.int .i64 n).wf=true):
  bp w M G (.sl ((zs.take len).map λn=>[.int .i64 n])) (.slice a len cap):=by
 rcases h with⟨rfl,rfl,rfl,rfl⟩|⟨x,rfl,h1,h2,h3,h4,_⟩
 ·exact .slnil
 ·have hfl:∀l:List Int,(l.map λn=>[PV.int .i64 n]).flatten=l.map λn=> .int .i64 n:=by
   intro l
   induction l with
   |nil=>rfl
   |cons n l ih=>simp only[QD,List.flatten_cons,ih];rfl
  have hlen:((zs.take len).map λn=>[PV.int .i64 n]).length=len:=by simp;omega
  have:=bp.sl (w:=w) (M:=M) (G:=G) ((zs.take len).map λn=>[.int .i64 n]) x cap 1 ((zs.take len).map λn=> .int .i64 n) (λe he=>by obtain⟨n,_,rfl⟩:=QP.1 he;rfl) (by rw[hfl];simp)
   (λi v hv=> ?_) (λi y v hy hv=> ?_) (by rw[hlen];exact h1) h2
  ·rw[hlen]at this;exact this
  ·refine⟨?_,hM _⟩;rw[QT,Qb]at hv;obtain⟨n,hn,rfl⟩:=hv;rw[Qq68]at hn;split at hn
   ·have hi:i<zs.length:=(Qw.1 hn).1;rw[h4 i hi,List.getD_eq_getElem?_getD,hn];rfl
   ·cases hn
  ·rw[hfl]at hy;rw[QT]at hy hv;rw[Qb]at hy hv;obtain⟨n,hn,rfl⟩:=hy;obtain⟨n',hn',rfl⟩:=hv;rw[hn]at hn';injection hn' with e
   subst e;exact .int _ _
def abq{P:Program}{f:FuncId}{args:List PV}{vs:List Value}{w:World}(hG:GI w)(h:Con P f false [] args (.bool true) [])(hr:bo w (λ_=>False) dV args vs):
  Calls P f vs.toArray w λe w'=>e= .returned (.bool true)/\Below w.heap.size w w':=by
 refine(h w (λ_=>False) (.nil hG) 0 0 [] vs (λhq=>by cases hq) ?_).mono ?_
 ·exact⟨hr.1,λi x v hx hv=>(hr.2 i x v hx hv).mono (cW.of λ_ _=>λhq=>by rcases hq with⟨hq,_⟩|hq;cases hq;exact hq) (Gh.le.refl _)⟩
 ·rintro e w' ⟨v,_,rfl,hv,_,hF⟩;refine⟨by rw[hv.oz],hF.os,hF.tape,hF.output,hF.size,λk hk=>hF.block k hk (by simp)⟩
end Go.TQ
end
