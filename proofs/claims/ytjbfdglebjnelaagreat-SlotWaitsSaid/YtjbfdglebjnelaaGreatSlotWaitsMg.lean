/-
  Texts made small by a program (see NOTES). Conditions: those that each theorem names.
-/
import Derived.Test.YtjbfdglebjnelaaGreatSlotWaitsMf
set_option linter.unusedVariables false
set_option linter.unusedSimpArgs false
set_option linter.unusedSectionVars false
set_option maxHeartbeats 2000000
noncomputable section
namespace Go.Proofs.YtjbfdglebjnelaaGreat
open Go.TQ
section
structure Sc (m:az):Prop where
 n0:0<=m.aq
 n1:m.aq<10
 seq:1<=m.aF
 aM:fe m.ai
 dn:VL m.ba
 eJ:VL m.aB
structure cY (n:ar):Prop where
 ask:Bd n.ai n.aq n.bl n.Round
 own:n.lL.size<=200
 dn:VL n.ba
 eJ:VL n.aB
 lG:VL n.aG
 sub:∀x∈n.aG,x∈n.aB
 heard:∀m∈n.aw,Sc m/\m.aq≠n.aq
 ib:n.aw.Pairwise (fun a b=>a.aq<b.aq)
theorem WC:∀(l:List az) (k:Nat),k<=10->(∀e∈l,(k:Int)<=e.aq/\e.aq<10)->l.Pairwise (fun a b=>a.aq<b.aq)->l.length+k<=10
 |[],k,hk,_,_=>by simp;omega
 |e::l,k,hk,h,hp=>by
  rw[Q4]at hp;have h1:=h e Qx;have h2:=WC l (k+1) (by omega) (fun x hx=>⟨by have:=hp.1 x hx;omega,(h x (Qy _ hx)).2⟩) hp.2
  rw[QE];omega
theorem cY.len{n:ar}(h:cY n):n.aw.length<=10:=by
 have:=WC n.aw 0 (by omega) (fun e he=>⟨by have:=(h.heard e he).1.n0;omega,(h.heard e he).1.n1⟩) h.ib
 omega
theorem Kf{n:ar}(h:cY n):∀m∈n.aw++[(⟨n.aq,n.aF,n.ai,n.ba,n.aB⟩:az)],0<=m.aq/\m.aq<10/\VL m.ba/\VL m.aB:=by
 intro m hm;rcases Qz.1 hm with hm|hm
 ·have:=(h.heard m hm).1;exact⟨this.n0,this.n1,this.dn,this.eJ⟩
 ·rw[Q5.1 hm];exact⟨h.ask.v0,h.ask.v1,h.dn,h.eJ⟩
theorem HH{α:Type}{l:List α}{i:Nat}{x:α}(h:idx l (i:Int)=some x):l[Int.toNat (i:Int)]?=some x:=by
 rw[bh]at h;exact h
theorem Wa{n:ar}(h:cY n)(x:ByteArray):Yd (lB n x) fun q=>∃a b:Nat,q.1=a/\q.2.1=b/\a<1024/\b<1024:=by
 have hlen:=h.len;have hall:=Kf h;unfold lB Dr;simp only[etas,Qa,aP];rw[bz (by simp;omega),Qk,bz (by simp;omega),Qk]
 simp only[List.nil_append];have hl2:(n.aw++[(⟨n.aq,n.aF,n.ai,n.ba,n.aB⟩:az)]).length<=1000000:=by simp;omega
 refine Yd.list (n.aw++[(⟨n.aq,n.aF,n.ai,n.ba,n.aB⟩:az)]) hl2 (fun i (s:Int×Int)=>(s.1,s.2,i,())) (fun _ s=>∃a b:Nat,s.1=a/\s.2=b/\a<1024/\b<1024) ?_ ?_ (s:=(0,0)) ⟨0,0,rfl,rfl,by omega,by omega⟩
 ·rintro i y ⟨s1,s2⟩ ⟨a,b,e1,e2,ha,hb⟩ hd hy hi hdec hx hadd;simp only at e1 e2;subst e1 e2;obtain⟨g0,g1,gv,ga⟩:=hall y hy;simp only;rw[hdec,Qk,hx,Qa,HH hx,Qa,hadd,Ge _ gv.tf,Qa]
  have fin:∀c:Nat,c<1024->Yd (Option.bind (nX y.aB x) fun r9=>
    bif r9 then
     if y.aq<0 then none else
     some (Sum.inl ((c:Int),(oi .i64 (b:Int) (bS .i64 (1:Int) y.aq)),((i+1:Nat):Int),()))
    else
     some (Sum.inl ((c:Int),(b:Int),((i+1:Nat):Int),())):Option ((Int×Int×Int×Unit)⊕(Int×Int×Unit))) (Lp (fun t=>∃s':Int×Int,t=(s'.1,s'.2,((i+1:Nat):Int),())/\(∃a b:Nat,s'.1=a/\s'.2=b/\a<1024/\b<1024)) (fun r=>∃a b:Nat,r.1=a/\r.2.1=b/\a<1024/\b<1024)):=by
   intro c hc;rw[Ge _ ga.tf,Qa]
   cases decide (x∈y.aB)with
   |false=>exact .some ⟨((c:Int),(b:Int)),rfl,c,b,rfl,rfl,hc,hb⟩
   |true=>
    rw[Qk,Qs (by omega),mL hb g0 g1]
    exact .some ⟨((c:Int),_),rfl,c,_,rfl,rfl,hc,zp hb g1⟩
  cases decide (x∈y.ba)with
  |false=>exact fin a ha
  |true=>
   rw[Qk,Qs (by omega),mL ha g0 g1]
   exact fin _ (zp ha g1)
 ·rintro⟨s1,s2⟩ ⟨a,b,e1,e2,ha,hb⟩ hdec;simp only at e1 e2;simp only;rw[hdec,Ql];exact .some ⟨a,b,e1,e2,ha,hb⟩
theorem RP:Yd (o5 []) fun _=>True:=by
 unfold o5;refine Yd.list ([]:List gR) (by simp) (fun i (_:Unit)=>(i,())) (fun _ _=>True) (fun i x s _ _ hx=>absurd hx QR) (fun s _ hdec=> ?_) (s:=()) trivial
 simp only;rw[hdec,Ql];exact .some trivial
def VE(m:cu):Prop:=0<=m.aq/\m.aq<10/\c5 m.ai/\m.ba=[]/\m.aB=[]
theorem aat{m:cu}(h:VE m):Yd (sf m) fun _=>True:=by
 obtain⟨h0,h1,ht,hv,ha⟩:=h;unfold sf;simp only[etas];refine Yd.bind (p:=fun _=>True) (Yd.cond (fun _=> .some trivial) fun _=> .some trivial) fun b1 _=> ?_
 refine Yd.bind (p:=fun _=>True) (Yd.cond (fun _=> .some trivial) fun _=> .some trivial) fun b2 _=> ?_
 refine Yd.bind (p:=fun _=>True) (Yd.cond (fun _=>by rw[I2 ht];exact .some trivial) fun _=> .some trivial) fun b4 _=> ?_
 rw[hv,ha];refine Yd.bind (p:=fun _=>True) (Yd.cond (fun _=>Yd.bind RP fun _ _=> .some trivial) fun _=> .some trivial) fun b6 _=> ?_
 exact Yd.bind (p:=fun _=>True) (Yd.cond (fun _=>Yd.bind RP fun _ _=> .some trivial) fun _=> .some trivial) fun b8 _=> .some trivial
def vi:al:=⟨0,[],[]⟩
theorem Gr:c5 vi:= .mk _ (by simp[vi]) (by simp[vi]) (fun u hu=>by cases hu)
structure qI (l:List aR):Prop where
 len:l.length=10
 sm:∀m∈l,c5 m.ai
theorem qI.set{l:List aR}(h:qI l)(k:Nat){m:aR}(hm:c5 m.ai):qI (l.set k m):=
 ⟨by rw[QY];exact h.len,fun x hx=>(List.mem_or_eq_of_mem_set hx).elim (h.sm x) fun e=>by rw[e];exact hm⟩
theorem qI.get{l:List aR}(h:qI l){v:Int}(h0:0<=v)(h1:v<10):∃x,idx l v=some x/\l[v.toNat]?=some x:=by
 have hl:=h.len;have hv:v.toNat<l.length:=by omega
 exact⟨l[v.toNat],by rw[Lh _ h0];exact Qv hv,Qv hv⟩
theorem qI.sc{l:List aR}(h:qI l):xU ⟨l⟩:=⟨by show l.length<=1000000;rw[h.len];omega,h.sm⟩
theorem abZ{v:Int}{t:al}(hv0:0<=v)(hv1:v<10)(ht:c5 t){l:List cu}(hl:l.length<=1000000)(hm:∀m∈l,VE m):Yd (qT v t l) xU:=by
 unfold qT
 have h1:(decide ((10:Int)=(10:Int))&&decide (0<=(10:Int))&&bp 64 (Int.toNat (10:Int)))=true:=by
  rw[bz (by decide)];rfl
 rw[h1,Qk];simp only[etas,aP]
 have h0:qI (List.replicate (Int.toNat (10:Int)) (aR.mk false (al.mk (0:Int) ([]:List Int) ([]:List al)))):=
  ⟨by rw[List.length_replicate];rfl,fun m hm=>by rw[(List.mem_replicate.1 hm).2];exact Gr⟩
 refine Yd.list l hl (fun i (s:List aR)=>(i,aU.mk [],s,())) (fun _ s=>qI s) ?_ ?_ h0
 ·intro i y s hs hd hy hi hdec hx hadd;have hmy:=hm y hy;simp only;rw[hdec,Qk,hx,Qa,hadd];simp only[cu.eta];refine Yd.bind (aat hmy) fun r _=> ?_
  cases r with
  |false=>exact .some ⟨s,rfl,hs⟩
  |true=>
   obtain⟨x,g1,g2⟩:=hs.get hmy.1 hmy.2.1;rw[Qk,g1,Qa,g2,Qa];exact .some ⟨_,rfl,hs.set _ hmy.2.2.1⟩
 ·intro s hs hdec;simp only;rw[hdec,Ql,Qg hv0,Qg hv1];simp only[Qk,Qa];obtain⟨x,g1,g2⟩:=hs.get hv0 hv1;have hs2:=hs.set v.toNat (m:=⟨false,⟨0,[],[]⟩⟩) Gr;obtain⟨x2,k1,k2⟩:=hs2.get hv0 hv1;rw[g1,g2,I2 ht];simp only[Qa]
  cases decide (Ef t=0)with
  |false=>exact .some hs2.sc
  |true=>
   simp only[Qk];rw[k1,k2];exact .some (hs2.set _ ht).sc
theorem Th{n:ar}(h:cY n):Yd (mz n) xU:=by
 have hlen:=h.len;unfold mz;simp only[etas];refine Yd.list n.aw (by omega) (fun i (s:List cu)=>(i,s,())) (fun i s=>s.length<=i/\∀m∈s,VE m) ?_ ?_ (s:=[]) ⟨by simp,fun m hm=>absurd hm QR⟩
 ·intro i y s ⟨hs1,hs2⟩ hd hy hi hdec hx hadd;have hmy:=(h.heard y hy).1;simp only;rw[hdec,Qk,hx,Qa,hadd,bz ⟨by simp only[Q6];omega,by simp only[Q6];omega⟩,Qk]
  refine .some ⟨_,rfl,by simp only[QB,Q6];omega,fun m hm=> ?_⟩
  rcases Qz.1 hm with hm|hm
  ·exact hs2 m hm
  ·rw[Q5.1 hm];exact⟨hmy.n0,hmy.n1,hmy.aM.sm,rfl,rfl⟩
 ·intro s ⟨hs1,hs2⟩ hdec;simp only;rw[hdec,Ql];exact Yd.map (Yd.bind (abZ h.ask.v0 h.ask.v1 h.ask.aM.sm (by omega) hs2) fun c hc=> .some hc)
theorem yL{n:ar}(h:cY n):n.aq=((n.aq.toNat:Nat):Int)/\n.aq.toNat<10:=by
 have h0:=h.ask.v0;have h1:=h.ask.v1;omega
theorem afc{n:ar}(h:cY n)(x:ByteArray):Yd (su n x) fun b=>b=true->x∉n.aB/\n.aB.length<40:=by
 obtain⟨hn,hn10⟩:=yL h;unfold su;simp only[etas,aP];refine Yd.bind (Wa h x) fun q ⟨a,b,e1,e2,ha,hb⟩=> ?_
 rw[e1,e2,Ge _ h.eJ.tf,Qa]
 by_cases hx:x∈n.aB
 ·rw[Qg hx];exact .some fun e=>by cases e
 ·rw[Qh hx];simp only[Qp,Qk]
  by_cases hl:n.aB.length<40
  ·rw[Qg (by omega:((n.aB.length:Nat):Int)<40),Qk]
   refine Yd.bind (Th h) fun c hc=> ?_
   rw[hn,tZ hc hn10 ha hb];exact .some fun _=>⟨hx,hl⟩
  ·rw[Qh (by omega:¬((n.aB.length:Nat):Int)<40)]
   exact .some fun e=>by cases e
theorem acj{n:ar}(h:cY n):Yd (o4 n) fun r=>r.length<=1000/\∀x∈r,jU x:=by
 have hlen:=h.len;have l1:=h.dn.len;have l2:=h.eJ.len;unfold o4;refine Yd.bind (Kt (n:=80) (by omega) (by omega)) fun r1 ⟨k1,k2⟩=> ?_
 refine Yd.list n.aw (by omega) (fun i (s:List ByteArray)=>(s,i,())) (fun i s=>s.length<=80+80*i/\∀x∈s,jU x) ?_ ?_ ⟨by omega,fun x hx=>(k2 x hx).elim (h.dn.pQ x) (h.eJ.pQ x)⟩
 ·intro i y s ⟨hs1,hs2⟩ hd hy hi hdec hx hadd;have hmy:=(h.heard y hy).1;have l3:=hmy.dn.len;have l4:=hmy.eJ.len;simp only;rw[hdec,Qk,hx,Qa,hadd];refine Yd.bind (Kt (n:=80) (by omega) (by omega)) fun r4 ⟨g1,g2⟩=> ?_
  refine Yd.bind (Kt (n:=80+80*(i+1)) (by omega) (by omega)) fun r5 ⟨g3,g4⟩=> ?_
  exact .some ⟨r5,rfl,g3,fun x hx=>(g4 x hx).elim (hs2 x) fun hx=>(g2 x hx).elim (hmy.dn.pQ x) (hmy.eJ.pQ x)⟩
 ·intro s ⟨hs1,hs2⟩ hdec;simp only;rw[hdec,Ql];exact .some ⟨by omega,hs2⟩
theorem cY.F0{n:ar}(h:cY n){v:List ByteArray}(hv:VL v):cY {n with ba:=v}:=⟨h.ask,h.own,hv,h.eJ,h.lG,h.sub,h.heard,h.ib⟩
theorem cY.ab7{n:ar}(h:cY n){a:List ByteArray}(ha:VL a)(hs:∀y∈n.aB,y∈a):cY {n with aB:=a}:=⟨h.ask,h.own,h.dn,ha,h.lG,fun x hx=>hs x (h.sub x hx),h.heard,h.ib⟩
theorem cY.XX{n:ar}(h:cY n){c:List ByteArray}(hc:VL c)(hs:∀y∈c,y∈n.aB):cY {n with aG:=c}:=⟨h.ask,h.own,h.dn,h.eJ,hc,hs,h.heard,h.ib⟩
structure qj (n r:ar):Prop where
 ok:cY r
 aC:r.aq=n.aq
 aK:r.bl=n.bl
 round:r.Round=n.Round
 seq:r.aF=n.aF
 aM:r.ai=n.ai
 own:r.lL=n.lL
 heard:r.aw=n.aw
theorem qj.refl{n:ar}(h:cY n):qj n n:=⟨h,rfl,rfl,rfl,rfl,rfl,rfl,rfl⟩
theorem qj.F0{n r:ar}(h:qj n r){v:List ByteArray}(hv:VL v):qj n {r with ba:=v}:=⟨h.ok.F0 hv,h.aC,h.aK,h.round,h.seq,h.aM,h.own,h.heard⟩
theorem aal{n:ar}(h:cY n):Yd (qS n) (qj n):=by
 unfold qS;simp only[etas,aP];refine Yd.bind (X7 h.ask) fun q ⟨s,e1,hs⟩=> ?_
 rw[e1,Gd hs,Qa];have hl:=xy s;refine Yd.list (mq s) (by omega) (fun i (r:ar)=>(i,r,())) (fun _ r=>qj n r) ?_ ?_ (.refl h)
 ·intro i y r hr hd hy hi hdec hx hadd;simp only;rw[hdec,Qk,hx,Qa,hadd];have hlen:=hr.ok.len
  by_cases hyn:y=r.aq
  ·rw[Qg hyn,Qk]
   by_cases hown:r.lL=ByteArray.mk #[]
   ·rw[Qg hown];exact .some ⟨r,rfl,hr⟩
   ·rw[Qh hown];simp only[Qp,Qk]
    have hv:jU r.lL:=by
     refine⟨?_,hr.ok.own⟩;rcases Nat.eq_zero_or_pos r.lL.size with h0|h0
     ·exact absurd (ByteArray.ext (Array.eq_empty_of_size_eq_zero h0)) hown
     ·exact h0
    rw[Gb hr.ok.dn,Qa];exact .some ⟨_,rfl,hr.F0 (sk hr.ok.dn hv).1⟩
  ·rw[Qh hyn,Ql];refine Yd.list r.aw (by omega) (fun i (r:ar)=>(i,r,())) (fun _ r=>qj n r) ?_ ?_ hr
   ·intro j m r2 hr2 hd2 hm hj hdec2 hx2 hadd2;simp only;rw[hdec2,Qk,hx2,Qa,hadd2];have hmy:=(hr.ok.heard m hm).1;have l3:=hmy.dn.len;have l4:=hmy.eJ.len
    cases decide (m.aq=y)with
    |false=>exact .some ⟨r2,rfl,hr2⟩
    |true=>
     simp only[Qo,Ql];refine Yd.bind (Kt (n:=80) (by omega) (by omega)) fun u ⟨g1,g2⟩=> ?_
     refine Yd.list u (by omega) (fun i (r:ar)=>(i,r,())) (fun _ r=>qj n r) ?_ ?_ hr2
     ·intro k x r3 hr3 hd3 hxu hk hdec3 hx3 hadd3;simp only;rw[hdec3,Qk,hx3,Qa,hadd3,Gb hr3.ok.dn,Qa];have hv:jU x:=(g2 x hxu).elim (hmy.dn.pQ x) (hmy.eJ.pQ x);exact .some ⟨_,rfl,hr3.F0 (sk hr3.ok.dn hv).1⟩
     ·intro r3 hr3 hdec3;simp only;rw[hdec3,Ql];exact .some ⟨r3,rfl,hr3⟩
   ·intro r2 hr2 hdec2;simp only;rw[hdec2,Ql];exact .some ⟨r2,rfl,hr2⟩
 ·intro r hr hdec;simp only;rw[hdec,Ql];exact .some hr
structure adp (b n r:ar):Prop where
 ok:cY r
 aC:r.aq=n.aq
 aK:r.bl=n.bl
 round:r.Round=n.Round
 aM:r.ai=n.ai
 seq:r.aF=n.aF\/r.aF=b.aF+1
theorem Pw{b n:ar}(hb:c5 b.ai/\b.ba.length<=1000000/\b.aB.length<=1000000)(hs:0<=b.aF/\b.aF<=1000000)(h:cY n):Yd (mV b n) (adp b n):=by
 unfold mV;simp only[etas];refine Yd.join (fun v=>qj n v.1) (fun v hv=> ?_) (fun j' hj=> ?_)
 ·refine Yd.A7 (fun(s:Bool×ar×Unit)=>qj n s.2.1) (fun s=>(if s.1=true then 1 else 0)+2*(40 - s.2.1.aB.length)) ?_ hv
  rintro⟨again,r,u⟩ hr;simp only at hr;simp only
  cases again with
  |true=>
   rw[Qk];refine Yd.bind (acj hr.ok) fun l ⟨hl,hvals⟩=> ?_
   refine Yd.list l (by omega) (fun i (s:ar)=>(false,i,s,())) (fun _ s=>s=r) ?_ ?_ rfl
   ·rintro i x s rfl hd hx' hi hdec hx hadd;simp only;rw[hdec,Qk,hx,Qa,hadd];refine Yd.bind (afc hr.ok x) fun c hc=> ?_
    cases c with
    |false=>exact .some ⟨s,rfl,rfl⟩
    |true=>
     obtain⟨hc1,hc2⟩:=hc rfl;obtain⟨p1,p2,p3,p4⟩:=sk hr.ok.eJ (hvals x hx');rw[Qk,Gb hr.ok.eJ,Qa];refine .some ⟨⟨hr.ok.ab7 p1 p2,hr.aC,hr.aK,hr.round,hr.seq,hr.aM,hr.own,hr.heard⟩,?_⟩;have:=p4 hc1 hc2;show(if true=true then 1 else 0)+2*(40 - (lQ s.aB x).length)<(if true=true then 1 else 0)+2*(40 - s.aB.length)
     rw[this];omega
   ·rintro s rfl hdec;simp only;rw[hdec,Ql];refine .some ⟨hr,?_⟩;show(if false=true then 1 else 0)+2*(40 - s.aB.length)<(if true=true then 1 else 0)+2*(40 - s.aB.length)
    simp
  |false=>
   rw[Ql];refine Yd.map ?_;have hl:=hr.ok.eJ.len;refine Yd.list r.aB (by omega) (fun i (s:ar)=>(i,s,())) (fun _ s=>qj n s/\s.aB=r.aB) ?_ ?_ ⟨hr,rfl⟩
   ·rintro i x s ⟨hs',hsa⟩ hd hx' hi hdec hx hadd;obtain⟨hn,hn10⟩:=yL hs'.ok;simp only[aP];rw[hdec,Qk,hx,Qa,hadd];refine Yd.bind (Wa hs'.ok x) fun q ⟨a,c,e1,e2,ha,hc⟩=> ?_
    refine Yd.bind (Th hs'.ok) fun cf hcf=> ?_
    have hfc:=sL hcf hn10 hc;rw[<-hn]at hfc;rw[e2,hfc,Qa]
    cases (gq cf.bj c).testBit s.aq.toNat with
    |false=>exact .some ⟨s,rfl,hs',hsa⟩
    |true=>
     rw[Qk,Gb hs'.ok.lG,Qa];obtain⟨p1,p2,p3,p4⟩:=sk hs'.ok.lG (hr.ok.eJ.pQ x hx');refine .some ⟨_,rfl,⟨hs'.ok.XX p1 (fun y hy=> ?_),hs'.aC,hs'.aK,hs'.round,hs'.seq,hs'.aM,hs'.own,hs'.heard⟩,hsa⟩
     rcases p3 y hy with rfl|hy
     ·rw[hsa];exact hx'
     ·exact hs'.ok.sub y hy
   ·rintro s ⟨hs',hsa⟩ hdec;simp only[aP];rw[hdec,Ql];obtain⟨b1,f1,_⟩:=Kv (s:=b.ba) (t:=s.ba) hb.2.1;obtain⟨b2,f2,_⟩:=Kv (s:=b.aB) (t:=s.aB) hb.2.2;obtain⟨b3,f3,_⟩:=Vb (a:=b.ai) (b:=s.ai) hb.1;rw[f1,f2,f3];simp only[Qa];refine Yd.map (Yd.bind (p:=fun _=>True) (Yd.cond (fun _=> .some trivial) fun _=> .some trivial) fun c1 _=> ?_)
    refine Yd.bind (p:=fun _=>True) (Yd.cond (fun _=> .some trivial) fun _=> .some trivial) fun c2 _=> ?_
    cases c2 with
    |false=>exact .some ⟨hs'.ok,hs'.aC,hs'.aK,hs'.round,hs'.aM,.inl hs'.seq⟩
    |true=>
     have hadd:ay .i64 b.aF 1=b.aF+1:=bE (by omega) (by omega)
     rw[Qk,hadd];exact .some ⟨⟨hs'.ok.ask,hs'.ok.own,hs'.ok.dn,hs'.ok.eJ,hs'.ok.lG,hs'.ok.sub,hs'.ok.heard,hs'.ok.ib⟩,hs'.aC,hs'.aK,hs'.round,hs'.aM,.inr rfl⟩
 ·cases decide (((List.length n.aG:Nat):Int)=(0:Int))with
  |true=>
   rw[Qk];refine Yd.bind (aal h) fun r hr=> ?_
   exact hj (r,()) hr
  |false=>exact hj (n,()) (.refl h)
end
section
theorem aag{m:az}(h:Sc m):Aw m=some true:=by
 have e1:=h.n0;have e2:=h.n1;have e3:=h.seq;unfold Aw;simp only[etas,eV h.aM,Gc h.dn,Gc h.eJ];rw[Qg e1,Qg e2,Qg e3];rfl
theorem Mp{n:ar}(h:cY n)(hs:1<=n.aF/\n.aF<=1000000):vW n=some true:=by
 have hlen:=h.len;have e1:=h.ask.v0;have e2:=h.ask.v1;have e3:=h.ask.s0;have e4:=h.ask.s1;have e5:=h.ask.r1;have e6:=h.ask.r2;have e7:=h.own;unfold vW;simp only[etas,eV h.ask.aM,Gc h.dn,Gc h.eJ,Gc h.lG];rw[Qh (by omega:¬n.aq<0),Qh (by omega:¬(10:Int)<=n.aq),Qh (by omega:¬n.bl<0),Qh (by omega:¬(1000000:Int)<n.bl),Qh (by omega:¬n.Round<1),Qh (by omega:¬(1000:Int)<n.Round),Qh (by omega:¬n.aF<1),Qh (by omega:¬(1000000:Int)<n.aF),Qh (by omega:¬(200:Int)<((n.lL.size:Nat):Int))]
 simp only[Ql,Qa,decide_true,Qo];refine Yd.eq_true ?_;refine Yd.list n.aG h.lG.tf (fun i (_:Unit)=>(i,())) (fun _ _=>True) ?_ ?_ (s:=()) trivial
 ·intro i x s _ hd hx' hi hdec hx hadd;simp only;rw[hdec,Qk,hx,Qa,hadd,Ge _ h.eJ.tf,Qg (h.sub x hx')];exact .some ⟨(),rfl,trivial⟩
 ·intro s _ hdec;simp only;rw[hdec,Ql];refine Yd.map ?_;refine Yd.list n.aw (by omega) (fun i (_:Unit)=>(i,())) (fun _ _=>True) ?_ ?_ (s:=()) trivial
  ·intro i m s _ hd hm hi hdec hx hadd;obtain⟨hm1,hm2⟩:=h.heard m hm;simp only[aP];rw[hdec,Qk,hx,Qa,hadd];simp only[az.eta];rw[aag hm1,Qa,Qh hm2];simp only[Qo,Ql]
   by_cases h0:i=0
   ·subst h0;rw[Qh (by omega:¬(0:Int)<((0:Nat):Int))]
    exact .some ⟨(),rfl,trivial⟩
   ·rw[Qg (by omega:(0:Int)<(i:Int))]
    simp only[Qk];have hsub:dm .i64 (i:Int) 1=((i - 1:Nat):Int):=by rw[rl (by omega) (by omega)];omega
    have hi1:i - 1<n.aw.length:=by omega
    rw[hsub,bh,Qv hi1,Qa]
    have hyi:m=n.aw[i]:=by
     rw[bh,Qv hi]at hx;exact(Option.some.inj hx).symm
    have hlt:n.aw[i - 1].aq<m.aq:=by
     rw[hyi];exact List.pairwise_iff_getElem.1 h.ib (i - 1) i hi1 hi (by omega)
    rw[Qh (by omega:¬m.aq<=n.aw[i - 1].aq)]
    exact .some ⟨(),rfl,trivial⟩
  ·intro s _ hdec;simp only;rw[hdec,Ql];exact .some rfl
theorem cY.HS{n:ar}(h:cY n):c5 n.ai/\n.ba.length<=1000000/\n.aB.length<=1000000:=⟨h.ask.aM.sm,h.dn.tf,h.eJ.tf⟩
theorem V9{n:ar}(h:cY n)(hs:1<=n.aF/\n.aF<=1000000):Yd (tL n) fun q=>(q.2.1=0/\cY q.1/\q.1.aq=n.aq/\q.1.bl=n.bl/\q.1.ai=n.ai/\(q.1.aF=n.aF\/q.1.aF=n.aF+1))\/q.2.1=3:=by
 unfold tL;simp only[etas,Mp h hs,Qa,Qo,Ql];have e5:=h.ask.r1;have e6:=h.ask.r2
 by_cases hr:n.Round=1000
 ·rw[Qg hr];exact .some (.inr rfl)
 ·have hadd:ay .i64 n.Round 1=n.Round+1:=bE (by omega) (by omega)
  rw[Qh hr,Ql,hadd];refine Yd.bind (Pw h.HS (by omega) (n:={n with Round:=n.Round+1}) ⟨⟨h.ask.aM,h.ask.v0,h.ask.v1,h.ask.s0,h.ask.s1,by show 1<=n.Round+1;omega,by show n.Round+1<=1000;omega⟩,h.own,h.dn,h.eJ,h.lG,h.sub,h.heard,h.ib⟩) fun r hr=> .some (.inl ⟨rfl,hr.ok,hr.aC,hr.aK,hr.aM,hr.seq⟩)
theorem Tj{t:al}{v aK:Int}{own:ByteArray}(ht:fe t)(h0:0<=v)(h1:v<10)(h2:0<=aK)(h3:aK<=1000000)(ho:own.size<=200):Yd (nk v aK t own) fun q=>q.2.1=0/\cY q.1/\q.1.aq=v/\q.1.bl=aK/\q.1.ai=t/\q.1.aF=1:=by
 unfold nk;simp only[etas,eV ht];rw[Qh (by omega:¬v<0),Qh (by omega:¬(10:Int)<=v),Qh (by omega:¬aK<0),Qh (by omega:¬(1000000:Int)<aK),Qh (by omega:¬(200:Int)<((own.size:Nat):Int))]
 simp only[Ql,Qa,decide_true,Qo];have hn:cY ⟨v,aK,1,1,t,own,[],[],[],[]⟩:=⟨⟨ht,h0,h1,h2,h3,by show(1:Int)<=1;omega,by show(1:Int)<=1000;omega⟩,ho,.nil,.nil,.nil,fun x hx=>absurd hx QR,fun x hx=>absurd hx QR,List.Pairwise.nil⟩
 refine Yd.bind (Pw hn.HS ⟨by show(0:Int)<=1;omega,by show(1:Int)<=1000000;omega⟩ hn) fun r hr=> .some ⟨rfl,⟨hr.ok.ask,hr.ok.own,hr.ok.dn,hr.ok.eJ,hr.ok.lG,hr.ok.sub,hr.ok.heard,hr.ok.ib⟩,hr.aC,hr.aK,hr.aM,rfl⟩
end
section
theorem ab5{m:ab}(h:m.aH=3):cp m=m:=by
 have h1:cF m=m:=by unfold cF;rw[Qr (.inl h)]
 have h2:fI m=m:=by unfold fI;rw[Qr (.inl (by rw[h];decide))]
 have h3:fo m=m:=by unfold fo;rw[Qs (by rw[h];decide),Qs (by rw[h];decide)]
 have h4:ig m=m:=by unfold ig;rw[Qs (by rw[h];rintro⟨e,_⟩;exact absurd e (by decide))]
 have h5:fb m=m:=by unfold fb;rw[Qr (.inl h)]
 unfold cp;rw[Qr h1,Qr h2,Qr h3,Qr h4];exact h5
structure Fs (m:ab) (t:al) (x:ab):Prop where
 inv:bm x
 seq:fX x
 aC:x.aq=m.aq
 aK:x.bl=m.bl
 aM:x.ai=t
 ext:m.aH=3->x.aH=3/\x.aa.Value=m.aa.Value
theorem Fs.refl{m:ab}(h:bm m)(hs:fX m):Fs m m.ai m:=⟨h,hs,rfl,rfl,rfl,fun e=>⟨e,rfl⟩⟩
def nR(m x:ab):Prop:=m.aH=3->x.aH=3/\x.aa.Value=m.aa.Value
theorem Mk{m:ab}:∀x,bm x->nR m x->nR m (cp x):=fun x _ h e=>by
 have h2:=h e;rw[ab5 h2.1];exact h2
theorem Mj{m:ab}:∀x,nR m x->nR m (c6 x):=fun x h e=>by
 have h2:=h e;unfold c6;split
 ·exact h2
 ·exact h2
theorem Fi{m m1:ab}(h:bm m)(hb:Ag m m1):nR m m1:=by
 intro e;rcases hb with⟨v,hv,rfl⟩|⟨x,hx,rfl⟩|⟨h3,hv,hc,rfl⟩|⟨t,ht,rfl⟩
 ·have hz:aI m.aa=false:=by
   rcases h.body with k|k|k|k
   ·exact absurd (k.aT.symm.trans e) (by decide)
   ·exact k.aQ.nz
   ·exact k.aQ.nz
   ·exact k.aQ.nz
  unfold dP;rw[Qs (by rw[hz];decide)]
  exact⟨e,rfl⟩
 ·exact⟨e,rfl⟩
 ·exact absurd e h3
 ·exact⟨e,rfl⟩
theorem Mx{m m1:ab}(h:bm m)(hb:Ag m m1){q:ab×Int×Unit}(hq:IW (nR m) m m1 q):q.2.1=0/\Fs m m1.ai q.1:=by
 obtain⟨m2,rfl,ha⟩:=hq;have hf:=Y5 h hb;obtain⟨f1,f2,f3,f4,f5,f6⟩:=BH m1;obtain⟨s,e,_⟩:=Fg m m2;refine⟨rfl,Y2 ha.inv,abF ha.inv ha.seq (fun hz=>ha.nz (by rw[f6];exact hf.nz hz)),?_,?_,?_,?_⟩
 ·rw[e];exact ha.env.1.trans (f1.trans hf.aC)
 ·rw[e];exact ha.env.2.1.trans (f2.trans hf.aK)
 ·rw[e];exact ha.env.2.2.1.trans f3
 ·rw[e];exact ha.rel
section
variable {m : ab} (h : bm m) (hs : fX m)
 include h hs
theorem Jk{v:ByteArray}(hv:jU v):Yd (mT m v) fun q=>q.2.1=0/\Fs m m.ai q.1:=by
 have hb:Ag m (dP m v):= .inl ⟨v,hv,rfl⟩;refine(Jb (R:=nR m) Mk Mj h hs hv (Fi h hb)).mono fun q hq=> ?_
 have e:(dP m v).ai=m.ai:=by unfold dP;split<;>rfl
 exact e▸Mx h hb hq
theorem PT:Yd (kY m) fun q=>(q.2.1=0/\Fs m m.ai q.1)\/q.2.1≠0:=by
 have hR:∃R:ab->Prop,(∀m,bm m->R m->R (cp m))/\(∀m,R m->R (c6 m))/\R (lE m)/\(Ag m (lE m)->∀x,R x->nR m x):=by
  by_cases hi:Ag m (lE m)
  ·exact⟨nR m,Mk,Mj,Fi h hi,fun _ x hx=>hx⟩
  ·exact⟨fun _=>True,fun _ _ _=>trivial,fun _ _=>trivial,trivial,fun hi'=>absurd hi' hi⟩
 obtain⟨R,hR1,hR2,hR0,hRR⟩:=hR;refine(Pv hR1 hR2 h hs hR0).mono fun q hq=> ?_
 rcases hq with⟨⟨m2,rfl,ha⟩,h3,hv,hc⟩|⟨rfl,_⟩|⟨rfl,_⟩
 ·have hb:Ag m (lE m):= .inr (.inr (.inl ⟨h3,hv,hc,rfl⟩));exact .inl (Mx h hb ⟨m2,rfl,ha.inv,ha.seq,ha.env,ha.num,ha.nz,hRR hb _ ha.rel,ha.fix⟩)
 ·exact .inr (by show(62:Int)≠0;decide)
 ·exact .inr (by show(3:Int)≠0;decide)
theorem yD:sO m=some (bif decide (m.aH=3)then m.aa.Value else fD,decide (m.aH=3),()):=by
 unfold sO;simp only[etas,yX h hs,Qa,Qo,Ql];cases decide (m.aH=3)<;>rfl
theorem Px:xY m=some (bif aI m.aa then(aj.mk (0:Int) (0:Int) (0:Int) (al.mk (0:Int) ([]:List Int) ([]:List al)) (0:Int) zB zB zB (0:Int) (0:Int))else bF m,!aI m.aa,()):=by
 unfold xY;simp only[etas,yX h hs,Qa,Qo,Ql,cU,xQ];cases aI m.aa<;>rfl
theorem V8:Yd (oA m) fun _=>True:=by
 have hev:=h.ev;have hlen:=h.len;unfold oA;simp only[etas,Px h hs,Qa]
 cases hz:aI m.aa with
 |true=>exact .some trivial
 |false=>
  simp only[Qp,Qo,Ql,Qa]
  cases decide (m.aH=3)with
  |true=>exact .some trivial
  |false=>
   simp only[Ql];have ho:=Bg h hs hz;have hm0:c5 (bF m).ai:=by rw[nM];exact h.aM.sm
   have hall:∀e∈[bF m]++m.aw,aX e=true/\c5 e.ai:=by
    intro e he;rcases Qz.1 he with he|he
    ·rw[Q5.1 he];exact⟨ho,hm0⟩
    ·exact⟨(h.hv e he).1,(h.hv e he).2.1.sm⟩
   have hl1:([bF m]++m.aw).length<=1000:=by simp;omega
   rw[bz (by simp;omega),Qk]
   rw[Aa ([bF m]++m.aw) hl1 (fun e=>decide (cd (bF m)<=cd e)) (fin:=fun s=>Option.bind (iS m.aq m.ai ([bF m]++m.aw)) fun r8=>Option.bind (fQ ([bF m]++m.aw) s) fun r9=>Option.bind (kc r8 r9) fun r10=>if(bq .u64 m.aq)<0 then none else some (decide ((B7 .i64 (lC .i64 r10 (bq .u64 m.aq)) (1:Int))=(1:Int))))
    (fun i e s hs' he hd hx hw=>by
     simp only[hd,hx,hw,HH hx,Qk,Qa,yE (hall e he).2 (hall e he).1,yE hm0 ho]
     rw[bz (by simp;omega),Qk])
    (fun s hd=>by simp only[hd,Ql])]
   have hsml:oO ([bF m]++m.aw):=⟨by omega,fun e he=>(hall e he).2⟩
   have hn:=hev.aC;have hv:=wm hn.2 (t:=m.ai) hsml;rw[hn.1]at hv;have hin:qK ([bF m]++m.aw):=fun e he=>gy (hall e he).1
   rw[hv,Qa,wJ ([bF m]++m.aw) hl1 _ (fun e he _=>hin e he),Qa,xo (jX h.aM.sm hsml) (jE hin),Qa]
   have hc:bq .u64 m.aq=m.aq:=by
    rw[<-hn.1];exact Vk (by omega)
   rw[hc,Qs (by have:=h.n0;omega)]
   exact .some trivial
def ss(t:dy):Prop:=0<=t.ae/\t.ae<=1000000/\ -1<=t.yx/\t.yx<=212
 omit h hs in
theorem Ku{t:dy}(ht:ss t):vT t=some true:=by
  obtain⟨h1,h2,h3,h4⟩:=ht;unfold vT;rw[Qg h1,Qg h2,Qg h3,Qg h4];rfl
 omit h hs in
theorem Ey{c:Int}(hc:0<=c)(hc2:c<=1000000):Yd (fK c) fun w=>1<=w/\w<=12:=by
  unfold fK
  by_cases h:12<=c
  ·rw[Qg h];exact .some ⟨by decide,by decide⟩
  ·have hadd:ay .i64 c 1=c+1:=bE (by omega) (by omega)
   rw[Qh h,Ql,hadd];refine .some ?_;unfold bB;split<;>omega
 omit hs in
theorem LR:0<=m.aa.ae/\m.aa.ae<=1000:=by
  rcases h.body with k|k|k|k
  ·rw[k.aQ];exact⟨by decide,by decide⟩
  ·exact⟨by have:=k.aQ.1;omega,k.aQ.2.1⟩
  ·exact⟨by have:=k.aQ.1;omega,k.aQ.2.1⟩
  ·exact⟨by have:=k.aQ.1;omega,k.aQ.2.1⟩
theorem Ti{t:dy}(ht:ss t){now:Int}(h0:0<=now)(h1:now<=200):Yd (qN t m now) fun q=>ss q.1:=by
 obtain⟨b0,b1⟩:=LR h;unfold qN;simp only[etas,Ku ht,Qa,Qo,Ql];rw[Qh (by omega:¬now<0),Qh (by omega:¬(200:Int)<now)]
 simp only[Ql,Qa];refine Yd.bind (V8 h hs) fun b _=> ?_
 have off:ss ⟨m.aa.ae, -1⟩:=⟨b0,by show m.aa.ae<=1000000;omega,by show(-1:Int)<= -1;omega,by show(-1:Int)<=212;omega⟩
 cases b with
 |false=>exact .some off
 |true=>
  simp only[Qo,Ql];refine Yd.bind (p:=fun _=>True) (Yd.cond (fun _=> .some trivial) fun _=> .some trivial) fun c _=> ?_
  cases c with
  |true=>
   rw[Qk];refine Yd.bind (Ey b0 (by omega)) fun w ⟨w1,w2⟩=> ?_
   have hadd:ay .i64 now w=now+w:=bE (by omega) (by omega)
   rw[hadd];exact .some ⟨b0,by show m.aa.ae<=1000000;omega,by show -1<=now+w;omega,by show now+w<=212;omega⟩
  |false=>
   rw[Ql]
   cases decide (t.yx<=now)with
   |true=>exact .some off
   |false=>exact .some ht
end
end
section
structure oU (nd sl:Int) (k:Int) (x:bJ):Prop where
 jY:bm x.ak
 lR:fX x.ak
 aC:x.ak.aq=nd
 aK:x.ak.bl=sl
 qx:cY x.aD
 td:1<=x.aD.aF/\x.aD.aF<=1+k
 xz:x.aD.aq=nd
 xw:x.aD.bl=sl
 aM:x.aD.ai=x.ak.ai
 timer:ss x.Timer
 round:1<=x.Round/\x.Round<=1000
 next:0<=x.Next/\x.Next<=212
structure mR (nd sl:Int) (k:Int) (x:bJ):Prop where
 pre:oU nd sl k x
 done:x.wP=decide (x.ak.aH=3)
 value:x.Value=bif decide (x.ak.aH=3)then x.ak.aa.Value else fD
theorem oU.le{nd sl k k':Int}{x:bJ}(h:oU nd sl k x)(hk:k<=k'):oU nd sl k' x:=⟨h.jY,h.lR,h.aC,h.aK,h.qx,⟨h.td.1,by have:=h.td.2;omega⟩,h.xz,h.xw,h.aM,h.timer,h.round,h.next⟩
theorem mR.le{nd sl k k':Int}{x:bJ}(h:mR nd sl k x)(hk:k<=k'):mR nd sl k' x:=⟨h.pre.le hk,h.done,h.value⟩
theorem oU.XW{nd sl k:Int}{x:bJ}(h:oU nd sl k x){m:ab}(hm:Fs x.ak x.ak.ai m):oU nd sl k {x with ak:=m}:=⟨hm.inv,hm.seq,hm.aC.trans h.aC,hm.aK.trans h.aK,h.qx,h.td,h.xz,h.xw,h.aM.trans hm.aM.symm,h.timer,h.round,h.next⟩
theorem Mq{nd sl k:Int}{x:bJ}(h:oU nd sl k x):Yd (gB x) fun y=>mR nd sl k y/\nR x.ak y.ak:=by
 unfold gB;simp only[etas];refine Yd.join (fun v=>oU nd sl k v.1/\nR x.ak v.1.ak) (fun v ⟨hv,hst⟩=> ?_) (fun j' hj=> ?_)
 ·rw[yD hv.jY hv.lR,Qa];exact .some ⟨⟨⟨hv.jY,hv.lR,hv.aC,hv.aK,hv.qx,hv.td,hv.xz,hv.xw,hv.aM,hv.timer,hv.round,hv.next⟩,rfl,rfl⟩,hst⟩
 ·have same:oU nd sl k x/\nR x.ak x.ak:=⟨h,fun e=>⟨e,rfl⟩⟩
  refine Yd.bind (UB h.qx.lG.tf) fun c hc=> ?_
  rw[cU];simp only[Qa]
  have go:c.2.1=false\/jU c.1:=by
   cases e:c.2.1 with
   |false=>exact .inl rfl
   |true=>exact .inr (hc e)
  have hcond:∀b1 b2 b3:Bool,Yd (Option.bind (bif b1 then some b2 else some false) fun b5=>Option.bind (bif b5 then some b3 else some false) fun b7=>Option.bind (bif b7 then some (!decide (c.1=x.ak.aY))else some false) fun b8=>(some b8:Option Bool)) fun b=>b=true->b1=true:=fun b1 b2 b3=>by
   cases b1 with
   |true=>cases b2<;>cases b3<;>exact .some fun _=>rfl
   |false=>exact .some fun e=>e
  obtain⟨b8,hb8,hb8'⟩:=hcond c.2.1 (decide (x.ak.aH=1)) (aI x.ak.au)
  have key:∀K:Bool->Option bJ,(Option.bind (bif c.2.1 then some (decide (x.ak.aH=1))else some false) fun b5=>Option.bind (bif b5 then some (aI x.ak.au)else some false) fun b7=>Option.bind (bif b7 then some (!decide (c.1=x.ak.aY))else some false) K)=K b8:=by
   intro K;revert hb8
   cases c.2.1 with
   |false=>intro e;cases e;rfl
   |true=>
    cases decide (x.ak.aH=1)with
    |false=>intro e;cases e;rfl
    |true=>
     cases aI x.ak.au with
     |false=>intro e;cases e;rfl
     |true=>intro e;cases e;rfl
  rw[key]
  cases b8 with
  |false=>exact hj (x,()) same
  |true=>
   rw[Qk];have hv:=hc (hb8' rfl);refine Yd.bind (Jk h.jY h.lR hv) fun q ⟨h0,hn⟩=> ?_
   rw[h0];exact hj (_,()) ⟨h.XW hn,hn.ext⟩
theorem Pz{nd sl k:Int}{x:bJ}(h:mR nd sl k x)(hk:k<=999999):Au x=some true:=by
 have p:=h.pre;obtain⟨b,f,hb⟩:=Vb (a:=x.aD.ai) (b:=x.ak.ai) p.qx.ask.aM.sm;have hbt:=hb.2 p.aM;subst hbt;unfold Au;simp only[etas,yX p.jY p.lR,Mp p.qx ⟨p.td.1,by have:=p.td.2;omega⟩,f,Ku p.timer,yD p.jY p.lR,Qa,Qo,Ql]
 rw[Qg (p.xz.trans p.aC.symm),Qg (p.xw.trans p.aK.symm),Qg p.round.1,Qg p.round.2,Qg p.next.1,Qg p.next.2,Qg h.done,Qg h.value]
 rfl
def adw(nd sl:Int)(k:Int)(x y:bJ):Prop:=mR nd sl k y/\nR x.ak y.ak
theorem adw.self{nd sl k k':Int}{x:bJ}(h:mR nd sl k x)(hk:k<=k'):adw nd sl k' x x:=⟨h.le hk,fun e=>⟨e,rfl⟩⟩
section
variable {nd sl k : Int} {x : bJ} (h : mR nd sl k x) (hk : k <= 999998)
 include h hk
end
end
section
theorem wo(a b:ByteArray):dZ a b=some (tE a b):=by
 simp[dZ,tE]
theorem Xm{a b:ByteArray}:decide (0<=tE a b)= !bH a b:=by
 rw[<-rG]
 by_cases h:tE a b<0
 ·rw[Qg h,Qh (by omega)];rfl
 ·rw[Qh h,Qg (by omega)];rfl
theorem PG(x:ByteArray):pI x=some (decide (jU x)):=Ks x
theorem KE{l:List ByteArray}(h:VL l):iz l=some true:=by
 unfold iz;refine Yd.eq_true (Yd.list l h.tf (fun i (_:Unit)=>(i,())) (fun _ _=>True) ?_ ?_ (s:=()) trivial)
 ·intro i y s hs hd hy hi hdec hx hadd;simp only;rw[hdec,Qk,hx,Qa,PG,Qa,Qg (h.pQ y hy),hadd];simp only[Qo,Ql]
  by_cases h0:i=0
  ·subst h0;rw[Qh (by omega:¬(0:Int)<((0:Nat):Int))]
   exact .some ⟨(),rfl,trivial⟩
  ·rw[Qg (by omega:(0:Int)<(i:Int))]
   simp only[Qk];have hsub:dm .i64 (i:Int) 1=((i - 1:Nat):Int):=by rw[rl (by omega) (by have:=h.len;omega)];omega
   have hi1:i - 1<l.length:=by omega
   rw[hsub,bh,Qv hi1,Qa,wo,Qa,Xm]
   have hyi:y=l[i]:=by
    rw[bh,Qv hi]at hx;exact(Option.some.inj hx).symm
   have hlt:bH l[i - 1] y=true:=by
    rw[hyi];exact List.pairwise_iff_getElem.1 h.D3 (i - 1) i hi1 hi (by omega)
   rw[hlt];exact .some ⟨(),rfl,trivial⟩
 ·intro s hs hdec;simp only;rw[hdec,Ql,Qg (by have:=h.len;omega:((l.length:Nat):Int)<=(40:Int))]
  exact .some rfl
theorem acw(l:List ByteArray)(hl:l.length<=1000000)(x:ByteArray):Yd (ji l x) fun r=>decide (0<=r)=decide (x∈l):=by
 unfold ji;refine Yd.list l hl (fun i (_:Unit)=>(i,())) (fun i _=>x∉l.take i) ?_ ?_ (s:=()) (by simp)
 ·intro i y s hs hd hy hi hdec hx hadd;simp only;rw[hdec,Qk,hx,Qa,hadd]
  by_cases hxy:x=y
  ·rw[Qg hxy,Qk];refine .some ?_;show decide ((0:Int)<=(i:Int))=decide (x∈l);rw[Qg (by omega:(0:Int)<=(i:Int))]
   exact(Qg (by rw[hxy];exact hy)).symm
  ·rw[Qh hxy,Ql];refine .some ⟨(),rfl,?_⟩
   have hi2:l[i]?=some y:=by
    rw[bh]at hx;exact hx
   rw[List.take_add_one,hi2];simp only[Option.toList_some,Qz,Q5];exact fun h=>h.elim hs hxy
 ·intro s hs hdec;simp only;rw[hdec,Ql];rw[Qq62]at hs;refine .some ?_;show decide ((0:Int)<= -1)=decide (x∈l);rw[Qh hs];rfl
theorem Gn(l:List ByteArray)(hl:l.length<=1000000)(x:ByteArray):kh l x=some (decide (x∈l)):=by
 obtain⟨r,h1,h2⟩:=acw l hl x;unfold kh kN;rw[h1,Qa,Qa,h2]
theorem KD{v:Int}(h0:0<=v)(h1:v<10):ln v=some true:=by
 unfold ln;rw[Qg h0,Qg h1];rfl
theorem aaD{m:az}(h:Sc m):pJ m=some true:=by
 unfold pJ;simp only[etas,KD h.n0 h.n1,cP h.aM,KE h.dn,KE h.eJ];rw[Qg h.seq];rfl
theorem Wu{n:ar}(h:cY n):ff n.aG n=some false:=by
 unfold ff iQ;simp only[etas]
 have:=Yd.list (p:=fun r:Int=>r= -1) (step:=fun(v1:Int×Unit)=>
   bif (decide (v1.1<((List.length n.aG:Nat):Int)))then
   Option.bind (idx n.aG v1.1) fun x2=>
   Option.bind (nS x2 n) fun r3=>
   bif r3 then
   Option.map Sum.inr (some v1.1)
   else
   some (Sum.inl ((ay .i64 v1.1 (1:Int)),()))
   else
   Option.map Sum.inr (some (-1:Int))) n.aG h.lG.tf (fun i (_:Unit)=>(i,())) (fun _ _=>True) ?_ ?_ (s:=()) trivial
 ·obtain⟨r,h1,rfl⟩:=this;rw[h1];rfl
 ·intro i x s _ hd hx' hi hdec hx hadd;simp only;unfold nS;rw[hdec,Qk,hx,Qa,hadd,Gn _ h.eJ.tf,Qg (h.sub x hx')];exact .some ⟨(),rfl,trivial⟩
 ·intro s _ hdec;simp only;rw[hdec,Ql];exact .some rfl
theorem Tt{n:ar}(h:cY n)(hs:1<=n.aF/\n.aF<=1000000):mC n=some true:=by
 have hlen:=h.len;unfold mC rP;simp only[etas,KD h.ask.v0 h.ask.v1,cP h.ask.aM,KE h.dn,KE h.eJ,KE h.lG,Wu h];rw[Qg h.ask.s0,Qg h.ask.s1,Qg h.ask.r1,Qg h.ask.r2,Qg hs.1,Qg hs.2,Qh (by have:=h.own;omega:¬(200:Int)<((n.lL.size:Nat):Int))]
 simp only[Ql,Qk,Qa,decide_true,Qo];refine Yd.eq_true ?_;refine Yd.list n.aw (by omega) (fun i (_:Unit)=>(i,())) (fun _ _=>True) ?_ ?_ (s:=()) trivial
 ·intro i m s _ hd hm hi hdec hx hadd;obtain⟨hm1,hm2⟩:=h.heard m hm;simp only[aP];rw[hdec,Qk,hx,Qa,hadd];simp only[az.eta];rw[aaD hm1,Qa,Qh hm2];simp only[Qo,Ql]
  by_cases h0:i=0
  ·subst h0;rw[Qh (by omega:¬(0:Int)<((0:Nat):Int))]
   exact .some ⟨(),rfl,trivial⟩
  ·rw[Qg (by omega:(0:Int)<(i:Int))]
   simp only[Qk];have hsub:dm .i64 (i:Int) 1=((i - 1:Nat):Int):=by rw[rl (by omega) (by omega)];omega
   have hi1:i - 1<n.aw.length:=by omega
   rw[hsub,bh,Qv hi1,Qa]
   have hyi:m=n.aw[i]:=by
    rw[bh,Qv hi]at hx;exact(Option.some.inj hx).symm
   have hlt:n.aw[i - 1].aq<m.aq:=by
    rw[hyi];exact List.pairwise_iff_getElem.1 h.ib (i - 1) i hi1 hi (by omega)
   rw[Qh (by omega:¬m.aq<=n.aw[i - 1].aq)]
   exact .some ⟨(),rfl,trivial⟩
 ·intro s _ hdec;simp only;rw[hdec,Ql];exact .some rfl
theorem Wn{t:dy}(ht:ss t):uy t=some true:=Ku ht
theorem Ji{nd sl k:Int}{x:bJ}(h:mR nd sl k x)(hk:k<=999999):qM x=some true:=by
 have p:=h.pre;obtain⟨b,f,hb⟩:=eqT (a:=x.aD.ai) (b:=x.ak.ai) p.qx.ask.aM.sm;have hbt:=hb.2 p.aM;subst hbt;unfold qM;simp only[etas,Bp p.jY p.lR,Tt p.qx ⟨p.td.1,by have:=p.td.2;omega⟩,f,Wn p.timer,ED p.jY p.lR,Qa,Qk]
 rw[Qg (p.xz.trans p.aC.symm),Qg (p.xw.trans p.aK.symm),Qg p.round.1,Qg p.round.2,Qg p.next.1,Qg p.next.2,Qg h.done,Qg h.value]
 rfl
theorem qG(l:List ByteArray)(h:l.length<=1000):bI l=some l:=by
 unfold bI;have hk:bp 16 (([]:List ByteArray).length+l.length)=true:=bz ⟨by simp;omega,by simp;omega⟩
 rw[hk]
 cases l with
 |nil=>simp
 |cons x l=>simp
theorem Mu{t:al}(h:c5 t):mB t=some t:=(show mB t=gF t from rfl).trans (py h)
theorem NI{m:az}(ht:c5 m.ai)(hv:m.ba.length<=1000)(ha:m.aB.length<=1000):k7 m=some m:=by
 unfold k7;simp only[etas,Mu ht,qG _ hv,qG _ ha,Qa]
theorem PK{m:az}(ht:c5 m.ai)(hv:m.ba.length<=1000)(ha:m.aB.length<=1000):lO m=some m:=by
 unfold lO;simp only[etas,py ht,qG _ hv,qG _ ha,Qa]
theorem OZ{m:ab}(h:bm m):aI m.aa=decide (m.aa.ae=0):=by
 rcases h.body with k|k|k|k
 ·rw[k.aQ];rfl
 all_goals
  rw[k.aQ.nz,Qh (by have:=k.aQ.1;omega)]
theorem Yq{nd sl k:Int}{x:bJ}(h:mR nd sl k x)(hk:k<=999999):Yd (uz x) fun l=>l.length=(bif x.wP then 0 else 1)+(bif decide (x.ak.aa.ae=0)then 0 else 1):=by
 have p:=h.pre;obtain⟨e,he,_⟩:=PI p.jY p.lR;have l1:=p.qx.dn.len;have l2:=p.qx.eJ.len;unfold uz wN fR;simp only[az.eta,etas,Ji h hk,Qa,Qo,Ql,he,aP];rw[NI p.qx.ask.aM.sm (by show x.aD.ba.length<=1000;omega) (by show x.aD.aB.length<=1000;omega)]
 simp only[Qa];rw[PK p.qx.ask.aM.sm (by show x.aD.ba.length<=1000;omega) (by show x.aD.aB.length<=1000;omega)]
 rw[<-OZ p.jY];simp only[Qa,List.nil_append];rw[bz (by simp),bz (by simp),bz (by simp)]
 cases x.wP<;>cases aI x.ak.aa<;>exact .some rfl
end
section
def tA:al:=⟨1,sJ 1,[]⟩
def vA:ByteArray:=ByteArray.mk #[97]
theorem tW:fe tA:=by
 refine⟨fun x hx=> ?_,?_,?_,.inl rfl,?_⟩
 ·obtain⟨k,hk,rfl⟩:=HC.1 hx;omega
 ·decide
 ·decide
 ·decide
theorem Hl:jU vA:=by decide
theorem vlA:VL [vA]:=⟨fun x hx=>by rw[Q5.1 hx];exact Hl,List.pairwise_singleton _ _,by decide⟩
theorem aaH(l:List Int)(hl:l.length<=1000000)(x:Int):Yd (jL l x) fun r=>decide (0<=r)=true->x∈l:=by
 unfold jL;refine Yd.list l hl (fun i (_:Unit)=>(i,())) (fun _ _=>True) ?_ ?_ (s:=()) trivial
 ·intro i y s hs hd hy hi hdec hx hadd;simp only;rw[hdec,Qk,hx,Qa,hadd]
  by_cases hxy:x=y
  ·rw[Qg hxy,Qk];exact .some fun _=>by rw[hxy];exact hy
  ·rw[Qh hxy,Ql];exact .some ⟨(),rfl,trivial⟩
 ·intro s hs hdec;simp only;rw[hdec,Ql];exact .some fun e=>by cases e
theorem adT(a b c d:Int):∃r,l9 a b c d=some r:=⟨_,rfl⟩
theorem aaG{k:Int}(h:k≠0):gf tA 0 1 1 k=some false:=by
 unfold gf;rw[Qh h];simp only[etas,Ql,aP]
 have hw:Yd (rQ tA k) fun q=>q.2.1=false:=by
  show Yd (iZ (rI (SizeOf.sizeOf tA+SizeOf.sizeOf k)) tA k) fun q=>q.2.1=false
  unfold iZ
  have hc:fY tA.bb k=some false:=by
   obtain⟨r,h1,h2⟩:=aaH tA.bb (by decide) k
   unfold fY;rw[h1,Qa]
   cases e:decide (0<=r)with
   |false=>rfl
   |true=>
    obtain⟨j,hj,rfl⟩:=HC.1 (h2 e);exact absurd (by omega) h
  rw[hc,Qa,Ql];refine Yd.list tA.aN (by decide) (fun i (s:eA)=>(i,s,())) (fun _ _=>True) (fun i x s _ _ hx=>absurd hx QR) (fun s _ hdec=> ?_) trivial
  simp only;rw[hdec,Ql];exact .some rfl
 obtain⟨q,h1,h2⟩:=hw;rw[h1,Qa,h2];rfl
theorem Ys:hU tA 0 1 1=some 0:=by
 have:Yd (hU tA 0 1 1) fun r=>r=0:=by
  unfold hU;simp only[etas,aP];refine Yd.A7 (fun(s:Int×Int×Int×Unit)=>s.1=0/\0<=s.2.2.1/\s.2.2.1<=10) (fun s=>(10 - s.2.2.1).toNat) ?_ ⟨rfl,Int.le_refl _,by show(0:Int)<=10;omega⟩
  rintro⟨b,hsh,k,u⟩ ⟨h1,h2,h3⟩;simp only at h1 h2 h3;subst h1;simp only
  by_cases hk:k<10
  ·rw[Qg hk];have hadd:ay .i64 k 1=k+1:=bE (by omega) (by omega)
   simp only[Qk];rw[hadd]
   have fin:∀x:Int,Yd (some (Sum.inl ((0:Int),x,k+1,())):Option ((Int×Int×Int×Unit)⊕Int)) (Lp (fun s'=>(s'.1=0/\0<=s'.2.2.1/\s'.2.2.1<=10)/\(10 - s'.2.2.1).toNat<(10 - k).toNat) (fun r=>r=0)):=
    fun x=> .some ⟨⟨rfl,by show 0<=k+1;omega,by show k+1<=10;omega⟩,by show(10 - (k+1)).toNat<(10 - k).toNat;omega⟩
   by_cases h0:k=0
   ·subst h0
    have hn:gf tA 0 1 1 0=some true:=by
     unfold gf;rfl
    rw[hn,Qa];obtain⟨hsv,eh⟩:=adT 2 1 1 0;rw[eh];simp only[Qo,Ql,Qa];refine Yd.cond (fun _=> ?_) fun _=> ?_
    ·exact fin _
    ·exact fin _
   ·rw[aaG h0,Qa];exact fin _
  ·rw[Qh hk];exact .some rfl
 obtain⟨r,h1,rfl⟩:=this;exact h1
theorem Ws:lq tA 0 1 1=some (((1:Nat):Int),0,()):=by
 unfold lq sS;simp only[etas,cP tW,Qa,decide_true,Qo,Ql];rw[Qh (by omega:¬(0:Int)<0),Qh (by omega:¬(10:Int)<=0),Qh (by omega:¬(1:Int)<0),Qh (by omega:¬(1000000:Int)<1),Qh (by omega:¬(1:Int)<1),Qh (by omega:¬(1000:Int)<1)]
 simp only[Ql,Qa,decide_true,Qo];rw[bd (s':=(((1:Nat):Int),1,())) ?_,bw ?_]
 ·rfl
 ·simp only;rw[Qg (by omega:(0:Int)<1),show ay .i64 0 1=1 from rfl,Ys,Qa,Qk,Qs (by omega)]
  have:=mL (s:=0) (x:=0) (by omega) (by omega) (by omega)
  rw[show oi .i64 (0:Int) (bS .i64 1 0)=((0|||2 ^ (0:Int).toNat:Nat):Int)from this]
  rfl
theorem adh:bI []=some []:=qG [] (by decide)
theorem T0:bN []=some []:=by
 unfold bN;rw[bz (by decide)]
 simp
theorem UO:fm [] vA=some [vA]:=by
 unfold fm cx;rw[bw (r:=((0:Int),false,())) (by rfl),Qa]
 simp only[Ql,Qa];rw[Qh (by decide),Ql,adh,Qa]
 unfold fZ MP;rw[bz (by decide)]
 rfl
theorem aaz{n:ar}(hT:n.ai=tA)(hN:n.aq=0)(hS:n.bl=1)(hR:n.Round=1)(hO:n.lL=vA)(hV:n.ba=[]):kD n=some [vA]:=by
 unfold kD;simp only[etas,aP];rw[hT,hN,hS,hR,hO,hV,Ws,Qa,JX (by omega),Qa,show mq 1=[0]from by decide]
 rw[bd (s':=([vA],1,())) ?_,bw (r:=[vA]) ?_]
 ·rfl
 ·simp only;rw[Qg (by decide:(0:Int)<((List.length [(0:Int)]:Nat):Int)),show idx [(0:Int)] 0=some 0 from rfl]
  simp only[Qk,Qa,decide_true];rw[Qh (by decide:¬vA=ByteArray.mk #[])]
  simp only[Qp,Qk];rw[UO];rfl
theorem ady{rec:(al×Unit)->Option al}{t:al}(hm:c5 t)(hr:∀u∈t.aN,rec (u,())=some u):mI rec t=some t:=by
 have hn:=hm.nodes;have hi:=hm.len;unfold mI;rw[bz ⟨by omega,by omega⟩,Qk]
 simp only[etas]
 have:=Yd.list (p:=fun r=>r=t) (step:=fun(v1:Int×al×(List Int)×(List al)×Unit)=>
   bif (decide (v1.1<((List.length t.aN:Nat):Int)))then
   Option.bind (idx t.aN v1.1) fun x2=>
   Option.bind (rec (x2,())) fun r3=>
   bif bp 56 (List.length v1.2.2.2.1+List.length [r3])then
   some (Sum.inl ((ay .i64 v1.1 (1:Int)),(al.mk v1.2.1.aL ([]:List Int) ([]:List al)),v1.2.2.1,(v1.2.2.2.1++[r3]),()))
   else none
   else
   Option.map Sum.inr (some (al.mk v1.2.1.aL v1.2.2.1 v1.2.2.2.1))) t.aN hi (fun i (s:List al)=>(i,(al.mk t.aL [] []),t.bb,s,())) (fun i s=>s=t.aN.take i) ?_ ?_ (s:=[]) (by simp)
 ·obtain⟨r,h1,rfl⟩:=this;exact h1
 ·rintro i x s rfl hd hx' hi' hdec hx hadd;have hi2:t.aN[i]?=some x:=by rw[bh]at hx;exact hx
  simp only;rw[hdec,Qk,hx,Qa,hr x hx',Qa,hadd,bz ⟨by simp;omega,by simp;omega⟩,Qk]
  refine .some ⟨_,rfl,?_⟩;rw[List.take_add_one,hi2];rfl
 ·rintro s rfl hdec;simp only;rw[hdec,Ql,Qq62];exact .some (al.eta t)
theorem ads{n:Nat}:∀{t:al},SizeOf.sizeOf t<n->c5 t->tJ n (t,())=some t:=by
 induction n with
 |zero=>intro t h;omega
 |succ n ih=>
  intro t hz hm;show mI (tJ n) t=some t;exact ady hm fun u hu=>ih (t:=u) (by have:=pZ hu;omega) (hm.inner u hu)
theorem Jh{t:al}(h:c5 t):pL t=some t:=ads (by omega) h
def cA:List aR:=(List.replicate 10 ⟨false,⟨0,[],[]⟩⟩).set 0 ⟨true,tA⟩
theorem acr{n:ar}(hT:n.ai=tA)(hN:n.aq=0)(hH:n.aw=[]):jt n=some ⟨cA⟩:=by
 unfold jt;simp only[etas];rw[hT,hN,hH]
 have hv:kj 0 tA []=some ⟨cA⟩:=by
  unfold kj
  have h1:(decide ((10:Int)=(10:Int))&&decide (0<=(10:Int))&&bp 64 (Int.toNat (10:Int)))=true:=by
   rw[bz (by decide)];rfl
  rw[h1,Qk];refine bw ?_;simp only[etas,aP,QZ];rw[Qh (by decide:¬(0:Int)<((0:Nat):Int)),Ql]
  have hcp:=Jh tW.sm;rw[show ma 0=some true from KD (v:=0) (by omega) (by omega),cP tW,hcp]
  rfl
 refine bw ?_;simp only[QZ];rw[Qh (by decide:¬(0:Int)<((0:Nat):Int)),Ql,hv]
 rfl
theorem Vs:xU ⟨cA⟩:=⟨by decide,fun m hm=>by
 rcases List.mem_or_eq_of_mem_set hm with hm|rfl
 ·rw[(List.mem_replicate.1 hm).2];exact Gr
 ·exact tW.sm⟩
theorem gqA:(gq cA 1).testBit 0=true:=by
 refine(xM Vs (s:=1) (by omega)).max 1 (fun k hk=> ?_) 0 (by decide)
 have h0:k=0:=by
  rcases Nat.eq_zero_or_pos k with h|h
  ·exact h
  ·rw[Nat.testBit_one_eq_true_iff_self_eq_zero]at hk;exact hk
 subst h0;exact⟨by decide,by decide,by decide⟩
theorem Jg{a:List ByteArray}(ha:a=[]\/a=[vA]):eE [(⟨0,1,tA,[vA],a⟩:az)] vA=some (((1:Nat):Int),((if a=[]then 0 else 1:Nat):Int),()):=by
 unfold eE;simp only[aP];have hb:oi .i64 (0:Int) (bS .i64 1 0)=((1:Nat):Int):=mL (s:=0) (x:=0) (by omega) (by omega) (by omega)
 rw[bd (s':=(((1:Nat):Int),((if a=[]then 0 else 1:Nat):Int),1,())) ?_,bw ?_]
 ·rfl
 ·simp only;rw[Qg (show(0:Int)<((List.length [(⟨0,1,tA,[vA],a⟩:az)]:Nat):Int)from(by decide:(0:Int)<1)),show idx [(⟨0,1,tA,[vA],a⟩:az)] 0=some ⟨0,1,tA,[vA],a⟩from rfl]
  simp only[Qk,Qa];rw[Gn _ (by decide),Gn _ (by rcases ha with rfl|rfl<;>decide),Qa,Qg (Q5.2 rfl),Qk,Qs (by omega),hb,Qa]
  rcases ha with rfl|rfl
  ·rw[Qh QR];rfl
  ·rw[Qg (Q5.2 rfl),Qk,Qs (by omega)]
   rfl
theorem adY{a:List ByteArray}(ha:a=[]\/a=[vA]):iV [(⟨0,1,tA,[vA],a⟩:az)]=some [vA]:=by
 unfold iV;have hal:a.length<=1:=by rcases ha with rfl|rfl<;>decide
 rw[bd (s':=(1,[vA]++a,())) ?_]
 ·refine bw ?_;simp only;rw[Qh (show¬(1:Int)<((List.length [(⟨0,1,tA,[vA],a⟩:az)]:Nat):Int)from(by decide:¬(1:Int)<1)),Ql]
  obtain⟨t,h1,h2,h3,h4⟩:=gX.Pe (cmp:=fun x y=>dZ x y) wo (fun x y=>rG x y) ([vA]++a) (by simp only[QB,Q6];omega)
  have hs:eo ([vA]++a)=some ((),t):=h1;have hc:dE t=some (dd t):=xR (eq:=fun a b=>decide (a=b)) (ne:=fun a b=> !decide (a=b)) (z:=ByteArray.mk #[]) (fun _ _=>rfl) (fun _ _=>rfl) t (by rw[h2];simp only[QB,Q6];omega)
  rw[hs,Qa,hc]
  have he:dd t=[vA]:=by
   refine gX.unique h3 (List.pairwise_singleton _ _) fun x=> ?_
   rw[h4];rcases ha with rfl|rfl<;>simp
  rw[he];rfl
 ·simp only;rw[Qg (show(0:Int)<((List.length [(⟨0,1,tA,[vA],a⟩:az)]:Nat):Int)from(by decide:(0:Int)<1)),show idx [(⟨0,1,tA,[vA],a⟩:az)] 0=some ⟨0,1,tA,[vA],a⟩from rfl]
  simp only[Qk,Qa];rw[bz (by simp),bz (by simp;omega)]
  rfl
theorem Wq{n:ar}{a:List ByteArray}(ha:a=[]\/a=[vA])(hT:n.ai=tA)(hN:n.aq=0)(hH:n.aw=[])(hQ:n.aF=1)(hV:n.ba=[vA])(hA:n.aB=a):gm n ⟨cA⟩=some (if a=[]then(vA,true,())else(ByteArray.mk #[],false,())):=by
 unfold gm fR;simp only[etas,Qa];rw[hT,hN,hH,hQ,hV,hA,T0,Qa,bz (by show(0+1)*120<=140737488355328/\0+1<=1000000;decide),Qk]
 simp only[List.nil_append];rw[adY ha,Qa];have hl:a.length<=1:=by rcases ha with rfl|rfl<;>decide
 rcases ha with rfl|rfl
 ·refine bw ?_;simp only;rw[Qg (by decide:(0:Int)<((List.length [vA]:Nat):Int)),show idx [vA] 0=some vA from rfl]
  simp only[Qk,Qa];rw[Jg (.inl rfl),Qa,Gn _ (by decide),Qa,Qh QR]
  have:=vN Vs (v:=0) (dn:=1) (accepts:=0) (by omega) (by omega) (by omega)
  have hacc:jT cA 0 1 0=true:=by
   unfold jT;rw[show(1|||0:Nat)=1 from rfl,gqA,Bool.or_true]
  rw[hacc]at this;simp only[Qp,Qk,Qa,Qt];rw[Qg (by decide:((List.length ([]:List ByteArray):Nat):Int)<40),Qk]
  rw[show gg ⟨cA⟩ 0 ((1:Nat):Int) ((0:Nat):Int)=some true from this]
  rfl
 ·rw[bd (s':=(1,())) ?_,bw (r:=(ByteArray.mk #[],false,())) ?_]
  ·rw[Qs (by decide)]
  ·rfl
  ·simp only;rw[Qg (by decide:(0:Int)<((List.length [vA]:Nat):Int)),show idx [vA] 0=some vA from rfl]
   simp only[Qk,Qa];rw[Jg (.inr rfl),Qa,Gn _ (by decide),Qa,Qg (Q5.2 rfl)]
   rfl
def nA:ar:=⟨0,1,1,1,tA,vA,[vA],[vA],[vA],[]⟩
theorem Wo:gZ ⟨0,1,1,1,tA,vA,[],[],[],[]⟩=some nA:=by
 unfold gZ fR;simp only[etas,aP,QZ];rw[Qg (by decide:((0:Nat):Int)=0),Qk,aaz rfl rfl rfl rfl rfl rfl,Qa,acr rfl rfl rfl,Qa,Wq (.inl rfl) rfl rfl rfl rfl rfl rfl,Qa,Qr rfl]
 rw[bd (s':=(ByteArray.mk #[],false,⟨0,1,1,1,tA,vA,[vA],[vA],[],[]⟩,())) ?_]
 ·refine bw ?_;simp only[Ql];rw[T0];simp only[Qa];rw[bz (by decide),Qk]
  rw[bd (s':=(1,nA,())) ?_,bw (r:=nA) ?_]
  ·rfl
  ·rfl
  ·simp only;rw[Qg (by decide:(0:Int)<((List.length [vA]:Nat):Int)),show idx [vA] 0=some vA from rfl]
   simp only[Qk,Qa,List.nil_append];rw[Jg (.inr rfl),Qa];have:=uj Vs (v:=0) (accepts:=1) (by omega) (by omega)
   rw[gqA]at this;simp only;rw[Qs (by decide),show ec ⟨cA⟩ 0 ((1:Nat):Int)=some true from this,Qa,Qk,UO]
   rfl
 ·simp only[Qk];rw[UO,Qa,Wq (.inr rfl) rfl rfl rfl rfl rfl rfl,Qa,Qs (by decide)]
theorem afg:cY nA:=⟨⟨tW,by decide,by decide,by decide,by decide,by decide,by decide⟩,by decide,vlA,vlA,vlA,fun x hx=>hx,fun m hm=>absurd hm QR,List.Pairwise.nil⟩
theorem aaJ:iU nA=some nA:=by
 unfold iU;simp only[etas];rw[show nA.ai=tA from rfl,Mu tW.sm,Qa,show nA.ba=[vA]from rfl,show nA.aB=[vA]from rfl,show nA.aG=[vA]from rfl,qG _ (by decide)]
 simp only[Qa];exact bw rfl
theorem aaB:iW 0 1 tA vA=some (nA,0,()):=by
 unfold iW;simp only[etas,KD (v:=0) (by omega) (by omega),cP tW,Qa,Qo,Ql,decide_true]
 rw[Qh (by omega:¬(1:Int)<0),Qh (by omega:¬(1000000:Int)<1),Qh (by decide:¬(200:Int)<((vA.size:Nat):Int)),Wo]
 simp only[Ql,Qa];rw[aaJ];rfl
theorem SH:fS [vA]=some (vA,true,()):=by
 unfold fS;simp only[aP];rw[bd (s':=(vA,1,())) ?_,bw (r:=(vA,true,())) ?_]
 ·rfl
 ·simp only;rw[Qg (by decide:(0:Int)<((List.length [vA]:Nat):Int)),show idx [vA] 0=some vA from rfl]
  simp only[Qk,Qa];rw[PG,Qg Hl,Qa,Qk,wo,Qa];rw[Qg (by decide:(0:Int)<tE vA (ByteArray.mk #[]))]
  rfl
def mA:ab:=BI 0 1 tA
def zA:ab:=(runT 1 1 20 (dP mA vA)).getD mA
theorem afb:runT 1 1 20 (dP mA vA)=some zA/\zA.aH=3/\zA.aa.Value=vA:=by
 refine⟨?_,by decide+kernel,by decide+kernel⟩
 have h:(runT 1 1 20 (dP mA vA)).isSome=true:=by decide+kernel
 unfold zA
 cases e:runT 1 1 20 (dP mA vA)with
 |none=>rw[e]at h;cases h
 |some z=>rfl
theorem ab8:yj=some true:=by
 obtain⟨m1,m2⟩:=Mz (aC:=0) (aK:=1) (by omega) (by omega) (by omega) (by omega) tW
 have hp:=BC m1 (v:=vA) Hl
 have hflat:vS 1 1 (dP mA vA):=⟨by omega,by omega,by omega,by unfold dP;split<;>rfl,fun e he=>by
  have:(dP mA vA).aw=[]:=by unfold dP;split<;>rfl
  rw[this]at he
  exact absurd he QR⟩
 obtain⟨r1,r2,r3⟩:=afb;obtain⟨q,e1,x2,hq,ha⟩:=PH (R:=fun x=>Reach (dP mA vA) x/\nR mA x) (fun x h1 h2=>⟨aaa hp x h1 h2.1,Mk x h1 h2.2⟩) (fun x h=>⟨Z9 x h.1,Mj x h.2⟩) m1 m2 Hl ⟨aab hp,Fi m1 (.inl ⟨vA,Hl,rfl⟩)⟩
 have hb:Ag mA (dP mA vA):= .inl ⟨vA,Hl,rfl⟩;have hop:=Mx m1 hb (q:=q) ⟨x2,hq,ha.inv,ha.seq,ha.env,ha.num,ha.nz,ha.rel.2,ha.fix⟩;have hx2:x2={zA with aF:=x2.aF}:=aep hp hflat r1 ⟨ha.inv,ha.seq,ha.env,ha.num,ha.nz,ha.rel.1,ha.fix⟩
 have hph:q.1.aH=3/\q.1.aa=zA.aa:=by
  obtain⟨s,e,_⟩:=Fg mA x2;rw[hq];show(pA mA x2).aH=3/\(pA mA x2).aa=zA.aa;rw[e,hx2];exact⟨r2,rfl⟩
 have hn:=hop.2;have ht1:(dP mA vA).ai=tA:=by unfold dP;split<;>rfl
 unfold yj;simp only[etas];rw[show qf 1 1=some tA from Ub 1 (by omega) 1,Qa]
 let y:bJ:=⟨nA,q.1,⟨0, -1⟩,1,2,true,vA⟩
 have hval:q.1.aa.Value=vA:=by rw[hph.2];exact r3
 have ht0:ss ⟨0, -1⟩:=⟨by decide,by decide,by decide,by decide⟩
 have hy:mR 0 1 0 y:=⟨⟨hn.inv,hn.seq,hn.aC,hn.aK,afg,⟨(by decide:(1:Int)<=1),(by decide:(1:Int)<=1+0)⟩,rfl,rfl,(hn.aM.trans ht1).symm,ht0,⟨(by decide:(1:Int)<=1),(by decide:(1:Int)<=1000)⟩,⟨(by decide:(0:Int)<=2),(by decide:(2:Int)<=212)⟩⟩,(Qg hph.1).symm,by
  show vA=bif decide (q.1.aH=3)then q.1.aa.Value else fD
  rw[Qg hph.1,hval];rfl⟩
 have hnew:rK 0 1 tA (ByteArray.mk #[97]) 0=some (y,0,()):=by
  unfold rK oZ jV;simp only[etas];rw[Qg (by omega:(0:Int)<=0),Qg (by omega:(0:Int)<=200),acv (by omega) (by omega) (by omega) (by omega) tW]
  simp only[Qk,Ql,Qa,Qo,decide_true];rw[show iW 0 1 tA (ByteArray.mk #[97])=some (nA,0,())from aaB]
  simp only[Qa,decide_true,Qo,Ql];rw[show ay .i64 0 (ay .i64 (bB (cm 1 11) 0) 1)=2 from by decide]
  unfold ly;simp only[etas,aP,cy];rw[Qg (show(BI 0 1 tA).aH=1 from rfl),show aI (BI 0 1 tA).au=true from by decide]
  simp only[Qk,Qa];rw[Qg (show(0:Int)<((List.length nA.aG:Nat):Int)from by decide),Qk,show fS nA.aG=some (vA,true,())from SH]
  simp only[Qk,Qa];rw[Qh (show¬vA=(BI 0 1 tA).aY from by decide)]
  simp only[Qp,Qk];rw[show lp (BI 0 1 tA) vA=some q from e1,Qa,hop.1]
  simp only[decide_true,Qk];rw[ED hn.inv hn.seq,Qa,Qg hph.1];simp only[Qk,hval];rfl
 rw[hnew];simp only[Qa,decide_true,Qk];obtain⟨l,hl,hlen⟩:=Yq hy (by omega)
 rw[Ji hy (by omega),hl]
 simp only[Qa,Qk]
 have hc:aI q.1.aa=false:=by
  rcases hn.inv.body with k|k|k|k
  ·exact absurd (k.aT.symm.trans hph.1) (by decide)
  ·exact k.aQ.nz
  ·exact k.aQ.nz
  ·exact k.aQ.nz
 rw[OZ hn.inv]at hc
 have:l.length=1:=by
  rw[hlen];show(bif true then 0 else 1)+(bif decide (q.1.aa.ae=0)then 0 else 1)=1
  rw[hc];rfl
 rw[this];rfl
end
section
theorem aen{n:Nat}(h:n<4611686018427387904):bq .u64 (n:Int)=n:=by
 unfold bq IntKind.wrap;simp[IntKind.signed,IntKind.bits];omega
theorem acL{i j:Nat}(hi:i<=1000000)(hj:j<=1000000):bq .i64 (lC .u64 (bq .u64 (ay .i64 (i:Int) (j:Int))) (1:Int))=(((i+j) / 2:Nat):Int):=by
 have h1:ay .i64 (i:Int) (j:Int)=((i+j:Nat):Int):=bE (by omega) (by omega)
 have h4:lC .u64 (((i+j:Nat)):Int) (1:Int)=(((i+j) / 2:Nat):Int):=by
  show(((i+j:Nat)):Int).fdiv 2=_;rw[Int.fdiv_eq_ediv_of_nonneg _ (by decide)]
  exact(Int.natCast_ediv (i+j) 2).symm
 rw[h1,aen (by omega),h4]
 exact Br _ (by omega)
theorem Vt{α ρ:Type}(l:List α)(hl:l.length<=1000000)(P:α->Bool)(hp:l.Pairwise fun a b=>P b=true->P a=true){step:Int×Int×Unit->Option ((Int×Int×Unit)⊕ρ)}{fin:Nat->Option ρ}
  (h1:∀(i j m:Nat) (x:α),decide ((i:Int)<(j:Int))=true->j<=l.length->bq .i64 (lC .u64 (bq .u64 (ay .i64 (i:Int) (j:Int))) (1:Int))=(m:Int)->ay .i64 (m:Int) 1=((m+1:Nat):Int)->idx l (m:Int)=some x->step ((i:Int),(j:Int),())=some (.inl (bif P x then(((m+1:Nat):Int),(j:Int),())else((i:Int),(m:Int),()))))
  (h2:∀i:Nat,decide ((i:Int)<(i:Int))=false->i<=l.length->step ((i:Int),(i:Int),())=Option.map Sum.inr (fin i)):
  aA step ((0:Int),((l.length:Nat):Int),())=fin (l.takeWhile P).length:=by
 have htw:∀(l:List α),(l.Pairwise fun a b=>P b=true->P a=true)->∀i x,l[i]?=some x->(P x=true↔i<(l.takeWhile P).length):=by
  intro l
  induction l with
  |nil=>intro _ i x h;simp at h
  |cons y l ih=>
   intro hp i x h;rw[Q4]at hp
   cases hy:P y with
   |false=>
    rw[List.takeWhile_cons,hy];simp only[Qq,Qu,QZ,Nat.not_lt_zero,iff_false]
    cases i with
    |zero=>simp only[List.getElem?_cons_zero,Qf]at h;rw[<-h,hy];simp
    |succ i=>
     intro hx;have:=hp.1 x (Q8 (by simpa using h)) hx
     rw[hy]at this;cases this
   |true=>
    rw[List.takeWhile_cons,hy];simp only[Qt,QE]
    cases i with
    |zero=>simp only[List.getElem?_cons_zero,Qf]at h;rw[<-h,hy];simp
    |succ i=>
     rw[ih hp.2 i x (by simpa using h)]
     omega
 have hk:(l.takeWhile P).length<=l.length:=(List.takeWhile_sublist P).length_le
 suffices key:∀(d i j:Nat),j=i+d->j<=l.length->i<=(l.takeWhile P).length->(l.takeWhile P).length<=j->aA step ((i:Int),(j:Int),())=fin (l.takeWhile P).length from key l.length 0 l.length (by omega) (QI _) (by omega) hk
 intro d
 induction d using Nat.strongRecOn with
 |_ d ih=>
  intro i j hij hjl hi hj
  by_cases h0:d=0
  ·obtain rfl:j=i:=by omega
   obtain rfl:(l.takeWhile P).length=j:=by omega
   rw[eO,h2 _ (Qh (Qq64 _)) hjl];cases fin (l.takeWhile P).length<;>rfl
  ·have hm:(i+j) / 2<l.length:=by omega
   have hs:=h1 i j ((i+j) / 2) l[(i+j) / 2] (Qg (by omega)) hjl (acL (by omega) (by omega)) (bE (by omega) (by omega)) (by rw[bh];exact Qv hm)
   have ht:=htw l hp _ _ (Qv hm)
   cases hP:P l[(i+j) / 2]with
   |true=>
    rw[hP]at hs;have:=ht.1 hP;exact(bd hs).trans (ih (j - ((i+j) / 2+1)) (by omega) _ _ (by omega) hjl (by omega) hj)
   |false=>
    rw[hP]at hs;have:¬(i+j) / 2<(l.takeWhile P).length:=fun e=>by rw[ht.2 e]at hP;cases hP
    exact(bd hs).trans (ih ((i+j) / 2 - i) (by omega) _ _ (by omega) (by omega) hi (by omega))
theorem G3{a b:ByteArray}:decide (tE a b=0)=decide (a=b):=by
 rw[decide_eq_decide];constructor
 ·intro h;have h1:bH a b=false:=by rw[<-rG,h];rfl
  refine gX.total a b h1 ?_;unfold tE at h;unfold bH
  by_cases hs:a.size=b.size
  ·rw[Qr ((w6 _ _).2 (by rw[hs]))]at h
   rw[Qr hs.symm];unfold JQ at h;split at h
   ·cases h
   ·split at h
    ·rename_i h2 h3;simp only[Qn,Qi]at h3;rcases h3 with h3|rfl
     ·exact absurd h3 h2
     ·exact Bw _
    ·cases h
  ·rw[Qs (fun e=>hs (by have:=(w6 _ _).1 e;omega))]at h
   exact absurd ((w6 _ _).1 h) (by omega)
 ·rintro rfl;unfold tE;rw[Qr ((w6 _ _).2 rfl)];unfold JQ;rw[Qs (by rw[Bw];simp)]
  simp
theorem WQ{l:List ByteArray}{a:Nat}(ha:a<=l.length)(h:l.length<=1000)(x:ByteArray):fZ l (a:Int) [x]=some (l.take a++[x]++l.drop a):=by
 unfold fZ MP;rw[Qg (by omega:(0:Int)<=(a:Int)),Qg (by omega:(a:Int)<=((l.length:Nat):Int)),nZ (by omega) (by simp;omega)]
 rfl
theorem FQ{α:Type}(P:α->Bool):∀(l:List α),(∀j,j<(l.takeWhile P).length->∃y,l[j]?=some y/\P y=true)/\(∀y,l[(l.takeWhile P).length]?=some y->P y=false)
 |[]=>⟨fun j h=>by simp at h,fun y h=>by simp at h⟩
 |x::l=>by
  obtain⟨h1,h2⟩:=FQ P l
  cases hx:P x with
  |false=>
   rw[List.takeWhile_cons,hx];simp only[Qq,Qu,QZ];exact⟨fun j h=>by omega,fun y h=>by simp only[List.getElem?_cons_zero,Qf]at h;rw[<-h];exact hx⟩
  |true=>
   rw[List.takeWhile_cons,hx];simp only[Qt,QE];refine⟨fun j h=> ?_,fun y h=>h2 y (by simpa using h)⟩
   cases j with
   |zero=>exact⟨x,rfl,hx⟩
   |succ j=>obtain⟨y,g1,g2⟩:=h1 j (by omega);exact⟨y,by simpa using g1,g2⟩
theorem XL{α:Type}(P:α->Bool)(l:List α):(l.takeWhile P).length<=l.length:=(List.takeWhile_sublist P).length_le
theorem adU{l:List ByteArray}(h:VL l)(x:ByteArray):cx l x=some ((((l.takeWhile fun y=>bH y x).length:Nat):Int),decide (x∈l),()):=by
 have hl:=h.len;unfold cx;refine(Vt l h.tf (fun y=>bH y x) (h.D3.imp fun{a b} hab hb=>gX.trans _ _ _ hab hb) (fin:=fun k=>some (((k:Nat):Int),decide (l[k]?=some x),())) (fun i j m y hd hj hm hadd hx=> ?_) (fun i hd hi=> ?_)).trans ?_
 ·simp only[hd,hm,hadd,hx,wo,rG,Qa,Qk];cases bH y x<;>rfl
 ·simp only[hd,Ql]
  by_cases hi2:i<l.length
  ·rw[Qg (by omega:(i:Int)<((l.length:Nat):Int))]
   simp only[Qk,bh,Qv hi2,Qa,wo,G3,Qe,Qf]
  ·rw[Qh (by omega:¬(i:Int)<((l.length:Nat):Int)),Qq72 (by omega)]
   rfl
 ·obtain⟨h1,h2⟩:=FQ (fun y=>bH y x) l
  congr 3;rw[decide_eq_decide];constructor
  ·exact Q8
  ·intro hm;obtain⟨i,hi⟩:=List.getElem?_of_mem hm;have hi':i<l.length:=(Qw.1 hi).1
   have hk:(l.takeWhile fun y=>bH y x).length=i:=by
    rcases Nat.lt_trichotomy (l.takeWhile fun y=>bH y x).length i with g|g|g
    ·have hk:(l.takeWhile fun y=>bH y x).length<l.length:=by omega
     have:=h2 _ (Qv hk);have h3:=List.pairwise_iff_getElem.1 h.D3 _ i hk hi' g;rw[(Qw.1 hi).2,this]at h3;cases h3
    ·exact g
    ·obtain⟨y,g1,g2⟩:=h1 i g;rw[hi]at g1;cases g1;rw[gX.irrefl]at g2;cases g2
   rw[hk];exact hi
theorem UP{l:List ByteArray}(h:VL l)(x:ByteArray):fm l x=some (lQ l x):=by
 have hl:=h.len;unfold fm lQ;rw[adU h x,Qa]
 by_cases hx:x∈l
 ·rw[Qg hx,Qr (.inl hx)];rfl
 by_cases h40:40<=l.length
 ·rw[Qh hx,Qg (by omega:(40:Int)<=((l.length:Nat):Int)),Qr (.inr h40)];rfl
 rw[Qh hx,Qh (by omega:¬(40:Int)<=((l.length:Nat):Int)),Qs (fun e=>e.elim hx h40)]
 simp only[Ql,Qa,qG l (by omega)]
 rw[WQ (XL _ _) (by omega),Qa]
 obtain⟨h1,h2⟩:=FQ (fun y=>bH y x) l
 rw[MN x l _ h1 h2,Qs (fun e=>hx (Q8 e))]
 simp
def Uh(a b:List ByteArray):List ByteArray:=b.foldl (fun l x=>dD bH x l) a
theorem Z3{a:List ByteArray}(ha:a.Pairwise (fun x y=>bH x y=true))(b:List ByteArray):(Uh a b).Pairwise (fun x y=>bH x y=true)/\∀x,x∈Uh a b↔x∈b\/x∈a:=zW gX b a ha
theorem XR(a b:List ByteArray):(Uh a b).length<=a.length+b.length:=Lf b a
def CV(m:az):List ByteArray:=m.ba++m.aB
def o8(L:List az):List ByteArray:=Uh [] (L.flatMap CV)
theorem Eb(L:List az):(o8 L).Pairwise (fun x y=>bH x y=true)/\∀x,x∈o8 L↔∃m∈L,x∈m.ba\/x∈m.aB:=by
 obtain⟨h1,h2⟩:=Z3 (a:=[]) List.Pairwise.nil (L.flatMap CV);refine⟨h1,fun x=> ?_⟩
 rw[o8,h2];simp[CV]
theorem I0{l:List ByteArray}(L:List az)(h1:l.Pairwise (fun x y=>bH x y=true))(h2:∀x,x∈l↔∃m∈L,x∈m.ba\/x∈m.aB):l=o8 L:=
 gX.unique h1 (Eb L).1 fun x=>by rw[h2,(Eb L).2]
theorem MW{L:List az}(h:∀m∈L,VL m.ba/\VL m.aB):(L.flatMap CV).length<=80*L.length:=by
 induction L with
 |nil=>simp
 |cons m L ih=>
  have h1:=ih fun x hx=>h x (Qy _ hx)
  have h2:=(h m Qx).1.len;have h3:=(h m Qx).2.len;simp only[List.flatMap_cons,QB,CV,QE]at h1 ⊢;omega
theorem Nb{L:List az}(h:∀m∈L,VL m.ba/\VL m.aB):(o8 L).length<=80*L.length:=by
 have h1:=XR [] (L.flatMap CV);have h2:=MW h;rw[o8];simp only[QZ]at h1;omega
theorem acC{L:List az}(h:∀m∈L,VL m.ba/\VL m.aB)(hl:L.length<=100):iV L=some (o8 L):=by
 have hf:=MW h
 have hsort:∀s:List ByteArray,s.length<1000000->(∀x,x∈s↔∃m∈L,x∈m.ba\/x∈m.aB)->(Option.bind (eo s) fun p3=>Option.bind (dE p3.2) fun r4=>some r4)=some (o8 L):=by
  intro s hs hmem;obtain⟨t,h1,h2,h3,h4⟩:=gX.Pe (cmp:=fun x y=>dZ x y) wo (fun x y=>rG x y) s (by omega)
  have hc:=xR (eq:=fun x y:ByteArray=>decide (x=y)) (ne:=fun x y=> !decide (x=y)) (z:=ByteArray.mk #[]) (fun _ _=>rfl) (fun _ _=>rfl) t (by omega)
  have h1':eo s=some ((),t):=h1;have hc':dE t=some (dd t):=hc;rw[h1',Qa,hc',Qa,I0 L h3 (fun x=>by rw[h4,hmem])]
 unfold iV
 suffices key:Yd (aA _ ((0:Int),([]:List ByteArray),())) fun r=>r=o8 L by
  obtain⟨r,h1,rfl⟩:=key;exact h1
 refine Yd.list L (by omega) (fun i (s:List ByteArray)=>(i,s,())) (fun i s=>s=(L.take i).flatMap CV) ?_ ?_ (s:=[]) (by simp)
 ·rintro i m s rfl hd hm hi hdec hx hadd;have hi2:L[i]?=some m:=by rw[bh]at hx;exact hx
  have e:L.take (i+1)=L.take i++[m]:=by rw[List.take_add_one,hi2];rfl
  have hlen:((L.take i).flatMap CV).length<=80*100:=QK (MW fun x hx=>h x (Q1 hx)) (Nat.mul_le_mul_left _ (by rw[List.length_take];omega))
  have l1:=(h m hm).1.len;have l2:=(h m hm).2.len;simp only;rw[hdec,Qk,hx,Qa,hadd,nZ (by omega) (by omega),Qk,nZ (by omega) (by rw[QB];omega),Qk]
  refine .some ⟨_,rfl,?_⟩;rw[e,List.flatMap_append];simp[CV]
 ·rintro s rfl hdec;rw[Qq62];simp only;rw[hdec,Ql,hsort _ (by omega) (fun x=>by simp[CV])]
  exact .some rfl
theorem Hv{a b:List ByteArray}(ha:a.Pairwise (fun x y=>bH x y=true))(hb:b.Pairwise (fun x y=>bH x y=true))(h:a.length+b.length<=100000):
  Yd (jW a b) fun r=>r.Pairwise (fun x y=>bH x y=true)/\(∀x,x∈r↔x∈a\/x∈b)/\r.length<=a.length+b.length:=by
 unfold jW;simp only[aP];refine Yd.A7 (fun(v:Int×Int×List ByteArray×Unit)=>∃i k:Nat,v.1=i/\v.2.1=k/\i<=a.length/\k<=b.length/\v.2.2.1.length<=i+k/\v.2.2.1.Pairwise (fun x y=>bH x y=true)/\(∀x,x∈v.2.2.1↔x∈a.take i\/x∈b.take k)/\(∀x∈v.2.2.1,(∀y∈a.drop i,bH x y=true)/\∀y∈b.drop k,bH x y=true)) (fun v=>a.length+b.length - (v.1.toNat+v.2.1.toNat)) ?_ ⟨0,0,rfl,rfl,by omega,by omega,by simp,List.Pairwise.nil,by simp,fun x hx=>absurd hx QR⟩
 rintro⟨i',k',out,u⟩ ⟨i,k,e1,e2,hi,hk,hlen,hpw,hmem,hlt⟩;simp only at e1 e2 hlen hpw hmem hlt;subst e1 e2;have kk:∀x:ByteArray,bp 16 (out.length+[x].length)=true:=fun x=>bz ⟨by simp only[Q6];omega,by simp only[Q6];omega⟩
 have hi1:ay .i64 (i:Int) 1=((i+1:Nat):Int):=bE (by omega) (by omega)
 have hk1:ay .i64 (k:Int) 1=((k+1:Nat):Int):=bE (by omega) (by omega)
 have ga:∀h:i<a.length,idx a (i:Int)=some a[i]:=fun h=>by rw[bh];exact Qv h
 have gb:∀h:k<b.length,idx b (k:Int)=some b[k]:=fun h=>by rw[bh];exact Qv h
 have tail:∀{l:List ByteArray} (hp:l.Pairwise (fun x y=>bH x y=true)) {j:Nat} (hj:j<l.length),∀y∈l.drop (j+1),bH l[j] y=true:=by
  intro l hp j hj;have:=hp.sublist (List.drop_sublist j l);rw[QM hj,Q4]at this;exact this.1
 have fin1:∀(x:ByteArray) (j1 j2:Nat),j1<=a.length->j2<=b.length->i<=j1->k<=j2->i+k<j1+j2->(∀y,(y∈a.take j1\/y∈b.take j2)↔y=x\/y∈a.take i\/y∈b.take k)->(x∈a.drop i\/x∈b.drop k)->(∀y∈a.drop j1,bH x y=true)->(∀y∈b.drop j2,bH x y=true)->Yd (bif bp 16 (out.length+[x].length)then some (Sum.inl (((j1:Nat):Int),((j2:Nat):Int),(out++[x]),()))else(none:Option ((Int×Int×List ByteArray×Unit)⊕List ByteArray)))
   (Lp (fun s'=>(∃i k:Nat,s'.1=i/\s'.2.1=k/\i<=a.length/\k<=b.length/\s'.2.2.1.length<=i+k/\s'.2.2.1.Pairwise (fun x y=>bH x y=true)/\(∀x,x∈s'.2.2.1↔x∈a.take i\/x∈b.take k)/\(∀x∈s'.2.2.1,(∀y∈a.drop i,bH x y=true)/\∀y∈b.drop k,bH x y=true))/\a.length+b.length - (s'.1.toNat+s'.2.1.toNat)<a.length+b.length - ((i:Int).toNat+(k:Int).toNat)) (fun r=>r.Pairwise (fun x y=>bH x y=true)/\(∀x,x∈r↔x∈a\/x∈b)/\r.length<=a.length+b.length)):=by
  intro x j1 j2 h1 h2 h3 h4 h5 hm hxi hx1 hx2;rw[kk x,Qk];refine .some ⟨⟨j1,j2,rfl,rfl,h1,h2,?_,?_,fun y=> ?_,fun y hy=> ?_⟩,?_⟩
  ·simp only[QB,Q6];omega
  ·rw[Qq69];refine⟨hpw,List.pairwise_singleton _ _,fun y hy z hz=> ?_⟩
   rw[Q5.1 hz];exact hxi.elim ((hlt y hy).1 x) ((hlt y hy).2 x)
  ·rw[Qz,Q5,hmem,hm];exact or_comm
  ·rcases Qz.1 hy with hy|hy
   ·refine⟨fun z hz=>(hlt y hy).1 z ?_,fun z hz=>(hlt y hy).2 z ?_⟩
    ·rw[show j1=i+(j1 - i)by omega,<-List.drop_drop]at hz
     exact Q2 hz
    ·rw[show j2=k+(j2 - k)by omega,<-List.drop_drop]at hz
     exact Q2 hz
   ·rw[Q5.1 hy];exact⟨hx1,hx2⟩
  ·simp only[QV];omega
 have ta:∀(h:i<a.length) (y:ByteArray),y∈a.take (i+1)↔y=a[i]\/y∈a.take i:=fun h y=>by
  rw[Q7 h,Qz,Q5];exact or_comm
 have tb:∀(h:k<b.length) (y:ByteArray),y∈b.take (k+1)↔y=b[k]\/y∈b.take k:=fun h y=>by
  rw[Q7 h,Qz,Q5];exact or_comm
 have da:∀h:i<a.length,a[i]∈a.drop i:=fun h=>by rw[QM h];exact Qx
 have db:∀h:k<b.length,b[k]∈b.drop k:=fun h=>by rw[QM h];exact Qx
 simp only
 by_cases c1:i<a.length
 ·rw[Qg (by omega:(i:Int)<((a.length:Nat):Int))]
  simp only[Qk,Qa]
  by_cases c2:k=b.length
  ·rw[Qg (by omega:(k:Int)=((b.length:Nat):Int)),ga c1,hi1]
   simp only[Qk,Qa];refine fin1 a[i] (i+1) k (by omega) hk (by omega) (by omega) (by omega) (fun y=>by rw[ta c1,or_assoc]) (.inl (da c1)) (tail ha c1) ?_
   rw[c2,Qq66];exact fun y hy=>absurd hy QR
  ·have c3:k<b.length:=by omega
   rw[Qh (by omega:¬(k:Int)=((b.length:Nat):Int)),ga c1,gb c3,Qh (by omega:¬(i:Int)=((a.length:Nat):Int))]
   simp only[Ql,Qa,yF,CP,G4,hi1,hk1]
   cases hxy:bH a[i] b[k]with
   |true=>
    refine fin1 a[i] (i+1) k (by omega) hk (by omega) (by omega) (by omega) (fun y=>by rw[ta c1,or_assoc]) (.inl (da c1)) (tail ha c1) fun y hy=> ?_
    rw[QM c3]at hy;rcases QA.1 hy with rfl|hy
    ·exact hxy
    ·exact gX.trans _ _ _ hxy (tail hb c3 y hy)
   |false=>
    cases hyx:bH b[k] a[i]with
    |true=>
     refine fin1 b[k] i (k+1) hi (by omega) (by omega) (by omega) (by omega) (fun y=>by rw[tb c3,or_left_comm]) (.inr (db c3)) (fun y hy=> ?_) (tail hb c3)
     rw[QM c1]at hy;rcases QA.1 hy with rfl|hy
     ·exact hyx
     ·exact gX.trans _ _ _ hyx (tail ha c1 y hy)
    |false=>
     have he:a[i]=b[k]:=gX.total _ _ hxy hyx;refine fin1 a[i] (i+1) (k+1) (by omega) (by omega) (by omega) (by omega) (by omega) (fun y=> ?_) (.inl (da c1)) (tail ha c1) (by rw[he];exact tail hb c3)
     rw[ta c1,tb c3,<-he];constructor
     ·rintro((h|h)|(h|h))
      ·exact .inl h
      ·exact .inr (.inl h)
      ·exact .inl h
      ·exact .inr (.inr h)
     ·rintro(h|h|h)
      ·exact .inl (.inl h)
      ·exact .inl (.inr h)
      ·exact .inr (.inr h)
 ·rw[Qh (by omega:¬(i:Int)<((a.length:Nat):Int))]
  simp only[Ql];have ci:i=a.length:=by omega
  by_cases c2:k<b.length
  ·rw[Qg (by omega:(k:Int)<((b.length:Nat):Int)),Qh (by omega:¬(k:Int)=((b.length:Nat):Int)),gb c2,Qg (by omega:(i:Int)=((a.length:Nat):Int))]
   simp only[Ql,Qk,Qa,hk1];refine fin1 b[k] i (k+1) hi (by omega) (by omega) (by omega) (by omega) (fun y=>by rw[tb c2,or_left_comm]) (.inr (db c2)) (fun y hy=> ?_) (tail hb c2)
   rw[ci,Qq66]at hy;exact absurd hy QR
  ·rw[Qh (by omega:¬(k:Int)<((b.length:Nat):Int))]
   simp only[Ql,Qa];refine .some ⟨hpw,fun x=> ?_,by omega⟩
   rw[hmem,ci,Qq62,show k=b.length by omega,Qq62]
theorem aae{m:az}(h:VL m.ba/\VL m.aB):jW m.ba m.aB=some (o8 [m]):=by
 have l1:=h.1.len;have l2:=h.2.len;obtain⟨r,h1,h2,h3,_⟩:=Hv h.1.D3 h.2.D3 (by omega)
 rw[h1,I0 [m] h2 (fun x=>by rw[h3];simp)]
end
section
def wg(n:ar):az:=⟨n.aq,n.aF,n.ai,n.ba,n.aB⟩
def Tv(b:Bool)(s:Nat)(k:Int):Nat:=if b then s|||2 ^ k.toNat else s
theorem Wv{b:Bool}{s:Nat}{k:Int}(h:s<1024)(hk:k<10):Tv b s k<1024:=by
 unfold Tv;split
 ·exact zp h hk
 ·exact h
def Em(x:ByteArray)(s:Nat×Nat)(m:az):Nat×Nat:=(Tv (decide (x∈m.ba)) s.1 m.aq,Tv (decide (x∈m.aB)) s.2 m.aq)
def kq(L:List az)(x:ByteArray):Nat×Nat:=L.foldl (Em x) (0,0)
def L9(L:List az):Prop:=L.length<=100/\∀m∈L,0<=m.aq/\m.aq<10/\VL m.ba/\VL m.aB
theorem Nh{x:ByteArray}:∀{L:List az} (h:∀m∈L,0<=m.aq/\m.aq<10/\VL m.ba/\VL m.aB) {s:Nat×Nat},s.1<1024->s.2<1024->(L.foldl (Em x) s).1<1024/\(L.foldl (Em x) s).2<1024
 |[],_,s,h1,h2=>⟨h1,h2⟩
 |m::L,h,s,h1,h2=>by
  obtain⟨_,g,_⟩:=h m Qx;exact Nh (L:=L) (fun y hy=>h y (Qy _ hy)) (Wv h1 g) (Wv h2 g)
theorem zH{L:List az}(h:L9 L)(x:ByteArray):(kq L x).1<1024/\(kq L x).2<1024:=Nh h.2 (by decide) (by decide)
theorem Kd{L:List az}(h:L9 L)(x:ByteArray){step:Int×Int×Int×Unit->Option ((Int×Int×Int×Unit)⊕(Int×Int×Unit))}
  (h1:∀(i a b:Nat) (m:az),decide ((i:Int)<((L.length:Nat):Int))=true->idx L (i:Int)=some m->L[Int.toNat (i:Int)]?=some m->ay .i64 (i:Int) 1=((i+1:Nat):Int)->0<=m.aq->m.aq<10->VL m.ba->VL m.aB->a<1024->b<1024->step ((a:Int),(b:Int),(i:Int),())=some (.inl (((Em x (a,b) m).1:Int),((Em x (a,b) m).2:Int),((i+1:Nat):Int),())))
  (h2:∀a b:Nat,decide (((L.length:Nat):Int)<((L.length:Nat):Int))=false->step ((a:Int),(b:Int),((L.length:Nat):Int),())=Option.map Sum.inr (some ((a:Int),(b:Int),()))):
  aA step ((0:Int),(0:Int),(0:Int),())=some (((kq L x).1:Int),((kq L x).2:Int),()):=by
 suffices key:Yd (aA step ((0:Int),(0:Int),(0:Int),())) fun r=>r=(((kq L x).1:Int),((kq L x).2:Int),())by
  obtain⟨r,g,rfl⟩:=key;exact g
 refine Yd.list L (by have:=h.1;omega) (fun i (s:Int×Int)=>(s.1,s.2,i,())) (fun i s=>s=(((kq (L.take i) x).1:Int),((kq (L.take i) x).2:Int))) ?_ ?_ (s:=(0,0)) rfl
 ·rintro i m s rfl hd hm hi hdec hx hadd;obtain⟨g0,g1,gv,ga⟩:=h.2 m hm;have hlt:=zH (L:=L.take i) ⟨by rw[List.length_take];have:=h.1;omega,fun y hy=>h.2 y (Q1 hy)⟩ x
  have e:L.take (i+1)=L.take i++[m]:=by rw[List.take_add_one,show L[i]?=some m by rw[bh]at hx;exact hx];rfl
  refine .of_eq (h1 i _ _ m hdec hx (HH hx) hadd g0 g1 gv ga hlt.1 hlt.2) ⟨(_,_),rfl,?_⟩;rw[e];simp only[kq,List.foldl_append,QU,List.foldl_nil]
 ·rintro s rfl hdec;rw[Qq62];exact .of_eq (h2 _ _ hdec) rfl
theorem LM{b:Bool}{s:Nat}{k:Int}(h:s<1024)(h0:0<=k)(h1:k<10):(if b then oi .i64 (s:Int) (bS .i64 (1:Int) k)else(s:Int))=((Tv b s k:Nat):Int):=by
 cases b with
 |true=>simp only[Qt,Tv];exact mL h h0 h1
 |false=>rfl
theorem Tu{L:List az}(h:L9 L)(x:ByteArray):eE L x=some (((kq L x).1:Int),((kq L x).2:Int),()):=by
 unfold eE;refine Kd h x (fun i a b m hd hx hx2 hadd g0 g1 gv ga ha hb=> ?_) (fun a b hd=> ?_)
 ·have e1:=LM (b:=decide (x∈m.ba)) ha g0 g1;have e2:=LM (b:=decide (x∈m.aB)) hb g0 g1;simp only[hd,hx,hadd,Qk,Qa,aP,Gn _ gv.tf,Gn _ ga.tf,Em,<-e1,<-e2,Qs (show¬m.aq<0 by omega)]
  cases decide (x∈m.ba)<;>cases decide (x∈m.aB)<;>rfl
 ·simp only[hd,Ql]
theorem cY.said{n:ar}(h:cY n):L9 (n.aw++[wg n]):=⟨by have:=h.len;simp;omega,Kf h⟩
theorem Tk{n:ar}(h:cY n)(x:ByteArray):lB n x=some (((kq (n.aw++[wg n]) x).1:Int),((kq (n.aw++[wg n]) x).2:Int),()):=by
 have hlen:=h.len;unfold lB Dr;simp only[etas,Qa,aP];rw[nZ (by omega) (by simp;omega),Qk,nZ (by omega) (by simp;omega),Qk]
 simp only[List.nil_append];refine Kd h.said x (fun i a b m hd hx hx2 hadd g0 g1 gv ga ha hb=> ?_) (fun a b hd=> ?_)
 ·have e1:=LM (b:=decide (x∈m.ba)) ha g0 g1;have e2:=LM (b:=decide (x∈m.aB)) hb g0 g1;show(fun _=>_) _=_
  unfold wg at hd hx hx2;simp only[hd,hx,hx2,hadd,Qk,Qa,Ge _ gv.tf,Ge _ ga.tf,Em,<-e1,<-e2,Qs (show¬m.aq<0 by omega)]
  cases decide (x∈m.ba)<;>cases decide (x∈m.aB)<;>rfl
 ·unfold wg at hd ⊢;simp only[hd,Ql]
def EJ(m:az):cu:=⟨m.aq,m.aF,m.ai,[],[]⟩
def Ep(l:List aR)(m:cu):List aR:=l.set m.aq.toNat ⟨true,m.ai⟩
def nn(n:ar):List aR:=((n.aw.map EJ).foldl Ep (List.replicate 10 ⟨false,vi⟩)).set n.aq.toNat ⟨true,n.ai⟩
structure Ae (m:cu):Prop where
 n0:0<=m.aq
 n1:m.aq<10
 seq:1<=m.aF
 aM:fe m.ai
 dn:m.ba=[]
 eJ:m.aB=[]
theorem Sc.msg{m:az}(h:Sc m):Ae (EJ m):=⟨h.n0,h.n1,h.seq,h.aM,rfl,rfl⟩
theorem aah{m:cu}(h:Ae m):sf m=some true:=by
 have hc:o5 []=some true:=by
  unfold o5;exact bw rfl
 unfold sf;simp only[etas,h.dn,h.eJ,hc,eV h.aM];rw[Qg h.n0,Qg h.n1,Qg h.seq];rfl
theorem aaE{m:cu}(h:Ae m):qn m=some true:=by
 have hc:q5 []=some true:=by
  unfold q5;exact bw rfl
 unfold qn ma;simp only[etas,h.dn,h.eJ,hc,cP h.aM];rw[Qg h.n0,Qg h.n1,Qg h.seq];rfl
theorem Eo:∀{l:List cu} (h:∀m∈l,Ae m) {r:List aR},qI r->qI (l.foldl Ep r)
 |[],_,r,hr=>hr
 |m::l,h,r,hr=>Eo (l:=l) (fun y hy=>h y (Qy _ hy)) (hr.set _ (h m Qx).aM.sm)
theorem Uq:qI (List.replicate 10 ⟨false,vi⟩):=⟨by rw[List.length_replicate],fun m hm=>by rw[(List.mem_replicate.1 hm).2];exact Gr⟩
theorem Pg{l:List cu}(h:∀m∈l,Ae m)(hl:l.length<=1000){fin:List aR->Option aU}{step:Int×aU×List aR×Unit->Option ((Int×aU×List aR×Unit)⊕aU)}
  (h1:∀(i:Nat) (m:cu) (s:List aR) (y:aR),decide ((i:Int)<((l.length:Nat):Int))=true->idx l (i:Int)=some m->ay .i64 (i:Int) 1=((i+1:Nat):Int)->m∈l->Ae m->idx s m.aq=some y->s[m.aq.toNat]?=some y->step ((i:Int),aU.mk [],s,())=some (.inl (((i+1:Nat):Int),aU.mk [],Ep s m,())))
  (h2:∀s,decide (((l.length:Nat):Int)<((l.length:Nat):Int))=false->qI s->step (((l.length:Nat):Int),aU.mk [],s,())=Option.map Sum.inr (fin s)):
  aA step ((0:Int),aU.mk [],List.replicate 10 ⟨false,vi⟩,())=fin (l.foldl Ep (List.replicate 10 ⟨false,vi⟩)):=by
 suffices key:∀(k i:Nat),i+k=l.length->aA step ((i:Int),aU.mk [],(l.take i).foldl Ep (List.replicate 10 ⟨false,vi⟩),())=fin (l.foldl Ep (List.replicate 10 ⟨false,vi⟩))from key l.length 0 (by omega)
 intro k
 induction k with
 |zero=>
  intro i hi;obtain rfl:i=l.length:=by omega
  rw[Qq62,eO,h2 _ (Qh (Qq64 _)) (Eo h Uq)];cases fin (l.foldl Ep (List.replicate 10 ⟨false,vi⟩))<;>rfl
 |succ k ih=>
  intro i hi;have hlt:i<l.length:=by omega
  have hm:=h l[i] (Q0 hlt);obtain⟨y,g1,g2⟩:=(Eo (l:=l.take i) (fun z hz=>h z (Q1 hz)) Uq).get hm.n0 hm.n1
  have hs:=h1 i l[i] _ y (Qg (by omega)) (by rw[bh];exact Qv hlt) (bE (by omega) (by omega)) (Q0 hlt) hm g1 g2
  refine(bd hs).trans ?_;have:=ih (i+1) (by omega)
  rw[Q7 hlt,List.foldl_append]at this;exact this
theorem O1:(decide ((10:Int)=(10:Int))&&decide (0<=(10:Int))&&bp 64 (Int.toNat (10:Int)))=true:=by
 rw[bz (by decide)];rfl
section
variable {v : Int} {t : al} (h0 : 0 <= v) (h1 : v < 10) (ht : fe t) {l : List cu} (hl : l.length <= 1000) (h : ∀ m ∈ l, Ae m)
 include h0 h1 ht hl h
theorem X6:qT v t l=some ⟨(l.foldl Ep (List.replicate 10 ⟨false,vi⟩)).set v.toNat ⟨true,t⟩⟩:=by
 unfold qT;rw[O1,Qk];simp only[etas,aP];refine(Pg h hl (fin:=fun s=>some ⟨s.set v.toNat ⟨true,t⟩⟩) (fun i m s y hd hx hadd hm hmo g1 g2=> ?_) (fun s hd hr=> ?_)).trans rfl
 ·simp only[hd,hx,hadd,Qk,Qa,cu.eta,aah hmo,g1,g2];rfl
 ·obtain⟨x,g1,g2⟩:=hr.get h0 h1;have hr2:=hr.set v.toNat (m:=⟨false,⟨0,[],[]⟩⟩) Gr;obtain⟨x2,k1,k2⟩:=hr2.get h0 h1;simp only[hd,Ql,Qg h0,Qg h1,Qk,Qa,g1,g2,eV ht,decide_true,k1,k2,List.set_set]
theorem Yn(hne:∀m∈l,m.aq≠v):kj v t l=some ⟨(l.foldl Ep (List.replicate 10 ⟨false,vi⟩)).set v.toNat ⟨true,t⟩⟩:=by
 unfold kj ma;rw[O1,Qk];simp only[etas,aP];refine(Pg h hl (fin:=fun s=>some ⟨s.set v.toNat ⟨true,t⟩⟩) (fun i m s y hd hx hadd hm hmo g1 g2=> ?_) (fun s hd hr=> ?_)).trans rfl
 ·simp only[hd,hx,hadd,Qk,Qa,cu.eta,Qh (hne m hm),Qp,aaE hmo,Jh hmo.aM.sm,g1,g2];rfl
 ·obtain⟨x,g1,g2⟩:=hr.get h0 h1;simp only[hd,Ql,Qg h0,Qg h1,Qk,Qa,g1,g2,cP ht,decide_true,Jh ht.sm]
end
theorem NO{L:List az}(hl:L.length<=100){fin:List cu->Option aU}{step:Int×List cu×Unit->Option ((Int×List cu×Unit)⊕aU)}
  (h1:∀(i:Nat) (m:az) (s:List cu),decide ((i:Int)<((L.length:Nat):Int))=true->idx L (i:Int)=some m->ay .i64 (i:Int) 1=((i+1:Nat):Int)->s.length=i->step ((i:Int),s,())=some (.inl (((i+1:Nat):Int),s++[EJ m],())))
  (h2:∀s,decide (((L.length:Nat):Int)<((L.length:Nat):Int))=false->step (((L.length:Nat):Int),s,())=Option.map Sum.inr (fin s)):
  aA step ((0:Int),[],())=fin (L.map EJ):=by
 suffices key:∀(k i:Nat),i+k=L.length->aA step ((i:Int),(L.take i).map EJ,())=fin (L.map EJ)from key L.length 0 (by omega)
 intro k
 induction k with
 |zero=>
  intro i hi;obtain rfl:i=L.length:=by omega
  rw[Qq62,eO,h2 _ (Qh (Qq64 _))];cases fin (L.map EJ)<;>rfl
 |succ k ih=>
  intro i hi;have hlt:i<L.length:=by omega
  have hs:=h1 i L[i] ((L.take i).map EJ) (Qg (by omega)) (by rw[bh];exact Qv hlt) (bE (by omega) (by omega)) (by simp;omega)
  refine(bd hs).trans ?_;have:=ih (i+1) (by omega)
  rw[Q7 hlt,List.map_append]at this;exact this
section
variable {n : ar} (h : cY n)
 include h
theorem cY.Yv:∀m∈n.aw.map EJ,Ae m:=fun m hm=>by
 obtain⟨x,hx,rfl⟩:=QP.1 hm;exact(h.heard x hx).1.msg
theorem AL:xU ⟨nn n⟩:=((Eo h.Yv Uq).set n.aq.toNat (m:=⟨true,n.ai⟩) h.ask.aM.sm).sc
theorem V7:mz n=some ⟨nn n⟩:=by
 have hlen:=h.len;unfold mz;simp only[etas];refine(NO (L:=n.aw) (by omega) (fin:=fun s=>Option.bind (qT n.aq n.ai s) fun r3=>some r3) (fun i m s hd hx hadd hs=> ?_) (fun s hd=> ?_)).trans ?_
 ·simp only[hd,hx,hadd,Qk,Qa];rw[nZ (by omega) (by simp only[Q6];have:=of_decide_eq_true hd;omega)]
  rfl
 ·simp only[hd,Ql]
 ·rw[X6 h.ask.v0 h.ask.v1 h.ask.aM (by simp;omega) h.Yv]
  rfl
theorem acq:jt n=some ⟨nn n⟩:=by
 have hlen:=h.len;unfold jt;simp only[etas];refine(NO (L:=n.aw) (by omega) (fin:=fun s=>Option.bind (kj n.aq n.ai s) fun r3=>some r3) (fun i m s hd hx hadd hs=> ?_) (fun s hd=> ?_)).trans ?_
 ·simp only[hd,hx,hadd,Qk,Qa];rw[nZ (by omega) (by simp only[Q6];have:=of_decide_eq_true hd;omega)]
  rfl
 ·simp only[hd,Ql]
 ·rw[Yn h.ask.v0 h.ask.v1 h.ask.aM (by simp;omega) h.Yv (fun m hm=>by
   obtain⟨x,hx,rfl⟩:=QP.1 hm
   exact(h.heard x hx).2)]
  rfl
end
 def qa(n:ar)(x:ByteArray):Bool:= !decide (x∈n.aB)&&decide (n.aB.length<40)&&jT (nn n) n.aq.toNat (kq (n.aw++[wg n]) x).1 (kq (n.aw++[wg n]) x).2
 def Hm(n:ar)(x:ByteArray):Bool:=(gq (nn n) (kq (n.aw++[wg n]) x).2).testBit n.aq.toNat
def eR(n:ar):List ByteArray:=o8 (n.aw++[wg n])
section
variable {n : ar} (h : cY n)
 include h
theorem Zy(x:ByteArray):su n x=some (qa n x):=by
 obtain⟨hn,hn10⟩:=yL h;obtain⟨l1,l2⟩:=zH h.said x;have hf:=tZ (AL h) hn10 l1 l2;rw[<-hn]at hf;unfold su qa;simp only[etas,aP,Tk h,Ge _ h.eJ.tf,V7 h,hf,Qa];have hd:decide (((n.aB.length:Nat):Int)<40)=decide (n.aB.length<40):=by rw[decide_eq_decide];omega
 rw[hd];cases decide (x∈n.aB)<;>cases decide (n.aB.length<40)<;>rfl
theorem E2:∀m∈n.aw++[wg n],VL m.ba/\VL m.aB:=fun m hm=>⟨(Kf h m hm).2.2.1,(Kf h m hm).2.2.2⟩
theorem NS:(eR n).length<=880:=by
 have h1:=Nb (E2 h);have:=h.len;rw[QB,Q6]at h1;unfold eR;omega
theorem WM{x:ByteArray}(hx:x∈eR n):jU x:=by
 obtain⟨m,hm,g⟩:=((Eb _).2 x).1 hx;exact g.elim ((E2 h m hm).1.pQ x) ((E2 h m hm).2.pQ x)
theorem aaj:o4 n=some (eR n):=by
 have hlen:=h.len;have l1:=h.dn.len;have l2:=h.eJ.len;unfold o4;obtain⟨r,k0,k1,k2,k3⟩:=Hv h.dn.D3 h.eJ.D3 (by omega)
 rw[k0,Qa]
 suffices key:Yd (aA _ (r,(0:Int),())) fun q=>q=eR n by
  obtain⟨q,g,rfl⟩:=key;exact g
 refine Yd.list n.aw (by omega) (fun i (s:List ByteArray)=>(s,i,())) (fun i s=>s.Pairwise (fun x y=>bH x y=true)/\s.length<=80+80*i/\∀x,x∈s↔(x∈n.ba\/x∈n.aB)\/∃m∈n.aw.take i,x∈m.ba\/x∈m.aB) ?_ ?_ ⟨k1,by omega,fun x=>by rw[k2];simp⟩
 ·rintro i m s ⟨s1,s2,s3⟩ hd hm hi hdec hx hadd;have hmy:=(h.heard m hm).1;have l3:=hmy.dn.len;have l4:=hmy.eJ.len;obtain⟨r4,g0,g1,g2,g3⟩:=Hv hmy.dn.D3 hmy.eJ.D3 (by omega)
  obtain⟨r5,e0,e1,e2,e3⟩:=Hv s1 g1 (by omega)
  simp only;rw[hdec,Qk,hx,Qa,hadd,g0,Qa,e0];refine .some ⟨r5,rfl,e1,by omega,fun x=> ?_⟩
  have e:n.aw.take (i+1)=n.aw.take i++[m]:=by rw[List.take_add_one,show n.aw[i]?=some m by rw[bh]at hx;exact hx];rfl
  rw[e2,s3,g2,e];simp only[Qz,Q5,or_assoc];constructor
  ·rintro(a|a|⟨m',a,b⟩|a)
   ·exact .inl a
   ·exact .inr (.inl a)
   ·exact .inr (.inr ⟨m',.inl a,b⟩)
   ·exact .inr (.inr ⟨m,.inr rfl,a⟩)
  ·rintro(a|a|⟨m',a|rfl,b⟩)
   ·exact .inl a
   ·exact .inr (.inl a)
   ·exact .inr (.inr (.inl ⟨m',a,b⟩))
   ·exact .inr (.inr (.inr b))
 ·rintro s ⟨s1,s2,s3⟩ hdec;rw[Qq62]at s3;simp only;rw[hdec,Ql];refine .some (I0 _ s1 fun x=> ?_)
  rw[s3];simp only[Qz,Q5];constructor
  ·rintro(a|⟨m',a,b⟩)
   ·exact⟨wg n,.inr rfl,a⟩
   ·exact⟨m',.inl a,b⟩
  ·rintro⟨m',a|rfl,b⟩
   ·exact .inr ⟨m',a,b⟩
   ·exact .inl b
theorem Xo:bN n.aw=some n.aw:=by
 have hlen:=h.len;unfold bN;have hk:bp 120 (([]:List az).length+n.aw.length)=true:=nZ (by omega) (by simp;omega)
 rw[hk]
 cases n.aw with
 |nil=>simp
 |cons x l=>simp
theorem Wp:gm n ⟨nn n⟩=some (match(eR n).find? (qa n)with|some x=>(x,true,())|none=>(⟨#[]⟩,false,())):=by
 have hlen:=h.len;obtain⟨hn,hn10⟩:=yL h;have hkl:=NS h;unfold gm fR;simp only[etas,Xo h,Qa];rw[nZ (by omega) (by simp;omega),Qk]
 have hall:iV (n.aw++[(⟨n.aq,n.aF,n.ai,n.ba,n.aB⟩:az)])=some (eR n):=acC (E2 h) h.said.1;rw[hall,Qa];refine(UL (eR n) (by omega) (qa n) (f:=fun _ x=>some (x,true,())) (fin:=some (⟨#[]⟩,false,())) (fun i x hi hx0 hd hx hadd=> ?_) (fun _ hd=> ?_)).trans ?_
 ·obtain⟨l1,l2⟩:=zH h.said x;have hf:=vN (AL h) hn10 l1 l2;rw[<-hn]at hf;have hsay:eE (n.aw++[(⟨n.aq,n.aF,n.ai,n.ba,n.aB⟩:az)]) x=_:=Tu h.said x;have hd4:decide (((n.aB.length:Nat):Int)<40)=decide (n.aB.length<40):=by rw[decide_eq_decide];omega
  simp only[hd,hx,hadd,Qk,Qa,hsay,Gn _ h.eJ.tf,hf,hd4,qa];cases decide (x∈n.aB)<;>cases decide (n.aB.length<40)<;>cases jT (nn n) n.aq.toNat (kq (n.aw++[wg n]) x).1 (kq (n.aw++[wg n]) x).2<;>rfl
 ·simp only[hd,Ql]
 ·cases hf:(eR n).findIdx? (qa n)with
  |none=>
   have:(eR n).find? (qa n)=none:=List.find?_eq_none.2 fun x hx=>by rw[List.findIdx?_eq_none_iff.1 hf x hx];simp
   rw[this]
  |some i=>
   obtain⟨hi,hp,hpre⟩:=List.findIdx?_eq_some_iff_getElem.1 hf;have:(eR n).find? (qa n)=some (eR n)[i]:=List.find?_eq_some_iff_getElem.2 ⟨hp,i,hi,rfl,fun j hj=>by simpa using hpre j hj⟩
   rw[this];simp only[Qv hi,Qa]
end
end
section
def MS(x:Int):List al->Bool
 |[]=>false
 |u::_=>decide (x∈u.bb)
def Re(t:al)(x:Int):Bool:=decide (x∈t.bb)||MS x t.aN
def rC(t:al):Int:=((t.bb.length+t.aN.length:Nat):Int)
def Fv(t:al)(x:Int):eA×Bool×Unit:=if Re t x then(⟨t.aL,rC t⟩,true,())else(⟨0,0⟩,false,())
theorem den_add(t:al)(h:t.bb.length+t.aN.length<=1000):ay .i64 ((t.bb.length:Nat):Int) ((t.aN.length:Nat):Int)=rC t:=by
 rw[bE (by omega) (by omega)]
 unfold rC;omega
theorem ZE{a b:Int}(h0:0<=a*b)(h:a*b<=9223372036854775807):oq .i64 a b=a*b:=wrap64 (by omega) h
theorem acA(l:List Int)(hl:l.length<=1000000)(x:Int):fY l x=some (decide (x∈l)):=by
 unfold fY jL
 have:=Yd.list (p:=fun r=>decide (0<=r)=decide (x∈l)) (step:=fun(v1:Int×Unit)=>
   bif (decide (v1.1<((List.length l:Nat):Int)))then
   Option.bind (idx l v1.1) fun x2=>
   bif (decide (x=x2))then
   Option.map Sum.inr (some v1.1)
   else
   some (Sum.inl ((ay .i64 v1.1 (1:Int)),()))
   else
   Option.map Sum.inr (some (-1:Int))) l hl (fun i (_:Unit)=>(i,())) (fun i _=>x∉l.take i) ?_ ?_ (s:=()) (by simp)
 ·obtain⟨r,h1,h2⟩:=this;rw[h1,Qa,h2]
 ·intro i y s hs hd hy hi hdec hx hadd;simp only;rw[hdec,Qk,hx,Qa,hadd]
  by_cases hxy:x=y
  ·rw[Qg hxy,Qk];refine .some ?_;show decide ((0:Int)<=(i:Int))=decide (x∈l);rw[Qg (by omega:(0:Int)<=(i:Int))]
   exact(Qg (by rw[hxy];exact hy)).symm
  ·rw[Qh hxy,Ql];refine .some ⟨(),rfl,?_⟩;rw[List.take_add_one,show l[i]?=some y by rw[bh]at hx;exact hx]
   simp only[Option.toList_some,Qz,Q5];exact fun h=>h.elim hs hxy
 ·intro s hs hdec;simp only;rw[hdec,Ql];rw[Qq62]at hs;refine .some ?_;show decide ((0:Int)<= -1)=decide (x∈l);rw[Qh hs];rfl
theorem Wz{ρ:Type}(l:List Int)(hl:l.length<=1000000)(x:Int)(z:eA){hit:Option ρ}{fin:Option ρ}{step:Int×eA×Unit->Option ((Int×eA×Unit)⊕ρ)}
  (h1:∀(i:Nat) (y:Int),decide ((i:Int)<((l.length:Nat):Int))=true->idx l (i:Int)=some y->ay .i64 (i:Int) 1=((i+1:Nat):Int)->step ((i:Int),z,())=bif decide (y=x)then Option.map Sum.inr hit else some (.inl (((i+1:Nat):Int),z,())))
  (h2:decide (((l.length:Nat):Int)<((l.length:Nat):Int))=false->step (((l.length:Nat):Int),z,())=Option.map Sum.inr fin):
  aA step ((0:Int),z,())=if x∈l then hit else fin:=by
 suffices key:∀(k i:Nat),i+k=l.length->aA step ((i:Int),z,())=if x∈l.drop i then hit else fin from by
  have:=key l.length 0 (by omega)
  rw[List.drop_zero]at this;exact this
 intro k
 induction k with
 |zero=>
  intro i hi;obtain rfl:i=l.length:=by omega
  rw[eO,h2 (Qh (Qq64 _)),Qq66,Qs QR];cases fin<;>rfl
 |succ k ih=>
  intro i hi;have hlt:i<l.length:=by omega
  have hs:=h1 i l[i] (Qg (by omega)) (by rw[bh];exact Qv hlt) (bE (by omega) (by omega))
  rw[QM hlt]
  by_cases hy:l[i]=x
  ·rw[Qg hy,Qk]at hs;rw[eO,hs,Qr (by rw[<-hy];exact Qx)]
   cases hit<;>rfl
  ·rw[Qh hy,Ql]at hs;rw[bd hs,ih (i+1) (by omega)]
   by_cases hm:x∈l.drop (i+1)
   ·rw[Qr hm,Qr (Qy _ hm)]
   ·rw[Qs hm,Qs (fun e=>(QA.1 e).elim (fun e=>hy e.symm) hm)]
theorem Lg{l:List al}(hl:l=[]\/∃y,l=[⟨1,[y],[]⟩]){x:Int}{th n:Int}(hth:1<=th/\th<=1000)(hn:1<=n/\n<=1000)(z:eA){rec:al->Option (eA×Bool×Unit)}
  (hr:∀y,l=[⟨1,[y],[]⟩]->rec ⟨1,[y],[]⟩=some (Fv ⟨1,[y],[]⟩ x)) {step:Int×eA×Unit->Option ((Int×eA×Unit)⊕(eA×Bool×Unit))}
  (h1:∀(i:Nat) (u:al),decide ((i:Int)<((l.length:Nat):Int))=true->idx l (i:Int)=some u->ay .i64 (i:Int) 1=((i+1:Nat):Int)->step ((i:Int),z,())=Option.bind (rec u) fun r=>bif r.2.1 then Option.map Sum.inr (some (⟨oq .i64 th r.1.Oo,oq .i64 n r.1.Oq⟩,true,()))else some (.inl (((i+1:Nat):Int),z,())))
  (h2:decide (((l.length:Nat):Int)<((l.length:Nat):Int))=false->step (((l.length:Nat):Int),z,())=Option.map Sum.inr (some (⟨0,0⟩,false,()))):
  aA step ((0:Int),z,())=some (if MS x l then(⟨th,n⟩,true,())else(⟨0,0⟩,false,())):=by
 rcases hl with rfl|⟨y,rfl⟩
 ·exact bw (h2 (by decide))
 ·have g:=h1 0 _ (by simp) rfl rfl
  rw[hr y rfl]at g;simp only[Qa,Fv,Re,MS,Bool.or_false,rC,Q6,QZ]at g
  by_cases hx:x∈[y]
  ·simp only[Qg hx,Qt,Qk]at g;rw[ZE (by omega) (by omega),ZE (by simp;omega) (by simp;omega)]at g
   refine bw (g.trans ?_);simp only[MS,Qg hx,Qt,Int.mul_one];simp
  ·simp only[Qh hx,Qq,Qu,Ql]at g;refine(bd g).trans ((bw (h2 (by simp))).trans ?_)
   simp only[MS,Qh hx,Qq,Qu]
theorem fe.WR{t:al}(h:fe t):t.aN=[]\/∃y,t.aN=[⟨1,[y],[]⟩]:=h.inner.elim .inl fun⟨x,_,_,e⟩=> .inr ⟨x,e⟩
theorem fe.total{t:al}(h:fe t):t.bb.length+t.aN.length<=11/\1<=t.bb.length+t.aN.length:=by
 have h1:=h.len;have h2:=h.th;rcases h.inner with e|⟨_,_,_,e⟩<;>rw[e]at h2 ⊢<;>simp only[QZ,Q6]at h2 ⊢<;>omega
theorem Tr{rec:(al×Int×Unit)->Option (eA×Bool×Unit)}{t:al}{x:Int}(h1:t.aN=[]\/∃y,t.aN=[⟨1,[y],[]⟩])(hn:t.bb.length<=100)(hth:1<=t.aL/\t.aL<=1000)(hd:1<=t.bb.length+t.aN.length)
  (hr:∀y,t.aN=[⟨1,[y],[]⟩]->rec (⟨1,[y],[]⟩,x,())=some (Fv ⟨1,[y],[]⟩ x)):iZ rec t x=some (Fv t x):=by
 have hl:t.aN.length<=1:=by rcases h1 with e|⟨_,e⟩<;>rw[e]<;>simp
 unfold iZ;simp only[acA t.bb (by omega),den_add t (by omega),Qa]
 unfold Fv Re
 cases decide (x∈t.bb)with
 |true=>rfl
 |false=>
  simp only[Ql,Bool.false_or];rcases h1 with e|⟨y,e⟩
  ·rw[e];exact bw rfl
  ·refine(Lg (l:=t.aN) (.inr ⟨y,e⟩) (th:=t.aL) (n:=rC t) hth (by unfold rC;omega) ⟨0,0⟩ (rec:=fun u=>rec (u,x,())) hr (fun i u hdc hx hadd=> ?_) (fun hdc=> ?_)).trans rfl
   ·simp only[hdc,hx,hadd,Qk,Qa,etas]
   ·simp only[hdc,Ql]
theorem Tg{rec:(al×Int×Unit)->Option (eA×Bool×Unit)}{t:al}{x:Int}(h1:t.aN=[]\/∃y,t.aN=[⟨1,[y],[]⟩])(hn:t.bb.length<=100)(hth:1<=t.aL/\t.aL<=1000)(hd:1<=t.bb.length+t.aN.length)
  (hr:∀y,t.aN=[⟨1,[y],[]⟩]->rec (⟨1,[y],[]⟩,x,())=some (Fv ⟨1,[y],[]⟩ x)):kF rec t x=some (Fv t x):=by
 have hl:t.aN.length<=1:=by rcases h1 with e|⟨_,e⟩<;>rw[e]<;>simp
 unfold kF;refine(Wz t.bb (by omega) x ⟨0,0⟩ (hit:=some (⟨t.aL,rC t⟩,true,())) (fin:=some (if MS x t.aN then(⟨t.aL,rC t⟩,true,())else(⟨0,0⟩,false,()))) (fun i y hdc hx hadd=> ?_) (fun hdc=> ?_)).trans ?_
 ·simp only[hdc,hx,hadd,Qk,Qa,den_add t (by omega)]
 ·simp only[hdc,Ql,den_add t (by omega)]
  congr 1;rcases h1 with e|⟨y,e⟩
  ·rw[e];exact bw rfl
  ·refine(Lg (l:=t.aN) (.inr ⟨y,e⟩) (th:=t.aL) (n:=rC t) hth (by unfold rC;omega) ⟨0,0⟩ (rec:=fun u=>rec (u,x,())) hr (fun i u hdc hx hadd=> ?_) (fun hdc=> ?_)).trans rfl
   ·simp only[hdc,hx,hadd,Qk,Qa,etas]
   ·simp only[hdc,Ql]
 ·unfold Fv Re
  by_cases hx:x∈t.bb
  ·rw[Qr hx,Qg hx];rfl
  ·rw[Qs hx,Qh hx,Bool.false_or]
theorem pW{t:al}(h:fe t)(x:Int):rQ t x=some (Fv t x):=by
 have h1:=h.total;have h2:=h.th;have h3:=h.len;show iZ (rI (SizeOf.sizeOf t+SizeOf.sizeOf x)) t x=_;refine Tr h.WR (by omega) (by omega) h1.2 fun y e=> ?_
 obtain⟨n,hn⟩:∃n,SizeOf.sizeOf t+SizeOf.sizeOf x=n+1:=by
  obtain⟨n,hn⟩:=Dw t;exact⟨n+SizeOf.sizeOf x,by omega⟩
 rw[hn];show iZ (rI n) ⟨1,[y],[]⟩ x=_;exact Tr (.inl rfl) (by simp) (by simp) (by simp) fun y e=>by cases e
theorem rW{t:al}(h:fe t)(x:Int):zk t x=some (Fv t x):=by
 have h1:=h.total;have h2:=h.th;have h3:=h.len;show kF (qL (SizeOf.sizeOf t+SizeOf.sizeOf x)) t x=_;refine Tg h.WR (by omega) (by omega) h1.2 fun y e=> ?_
 obtain⟨n,hn⟩:∃n,SizeOf.sizeOf t+SizeOf.sizeOf x=n+1:=by
  obtain⟨n,hn⟩:=Dw t;exact⟨n+SizeOf.sizeOf x,by omega⟩
 rw[hn];show kF (qL n) ⟨1,[y],[]⟩ x=_;exact Tg (.inl rfl) (by simp) (by simp) (by simp) fun y e=>by cases e
theorem HI(a b c d:Int):∃r,oD a b c d=some r/\l9 a b c d=some r/\0<=r/\r<4294967296:=by
 have key:∀n:Int,0<=bq .u32 n/\bq .u32 n<4294967296:=fun n=>by
  unfold bq IntKind.wrap;simp[IntKind.signed,IntKind.bits];omega
 unfold oD l9;exact⟨_,rfl,rfl,key _⟩
 def mN(a b c d:Int):Int:=Classical.choose (HI a b c d)
theorem Py(a b c d:Int):oD a b c d=some (mN a b c d):=(Classical.choose_spec (HI a b c d)).1
theorem Wt(a b c d:Int):l9 a b c d=some (mN a b c d):=(Classical.choose_spec (HI a b c d)).2.1
theorem Ri(a b c d:Int):0<=mN a b c d/\mN a b c d<4294967296:=(Classical.choose_spec (HI a b c d)).2.2
 def vj(t:al)(v aK round k:Int):Bool:=decide (k=v)||(Re t k&&decide (mN 1 aK round k*rC t<t.aL*4294967296))
section
variable {t : al} {v aK round : Int} (h : Bd t v aK round)
 include h
theorem TA(k:Int):oq .u64 (bq .u64 (mN 1 aK round k)) (bq .u64 (rC t))=mN 1 aK round k*rC t/\bS .u64 (bq .u64 t.aL) (32:Int)=t.aL*4294967296/\oq .i64 (bq .i64 (mN 1 aK round k)) (rC t)=mN 1 aK round k*rC t/\bS .i64 t.aL (32:Int)=t.aL*4294967296:=by
 obtain⟨h1,h2⟩:=Ri 1 aK round k;have h3:=h.aM.total;have h4:=h.aM.th;generalize mN 1 aK round k=a at h1 h2;have hd:1<=rC t/\rC t<=11:=by unfold rC;omega
 generalize rC t=d at hd;have ht:1<=t.aL/\t.aL<=11:=by omega
 generalize t.aL=th at ht;have hm:0<=a*d/\a*d<=4294967296*11:=⟨Int.mul_nonneg h1 (by omega),Int.mul_le_mul (by omega) hd.2 (by omega) (by omega)⟩
 have u64:∀n:Int,0<=n->n<9223372036854775808->IntKind.u64.wrap n=n:=fun n a b=>by
  unfold IntKind.wrap;simp[IntKind.signed,IntKind.bits];omega
 have c1:bq .u64 a=a:=u64 a h1 (by omega)
 have c2:bq .u64 d=d:=u64 d (by omega) (by omega)
 have c3:bq .u64 th=th:=u64 th (by omega) (by omega)
 have c4:bq .i64 a=a:=wrap64 (by omega) (by omega)
 rw[c1,c2,c3,c4];refine⟨u64 _ hm.1 (by omega),?_,wrap64 (by omega) (by omega),?_⟩
 ·exact u64 (th*2 ^ 32) (by omega) (by omega)
 ·exact wrap64 (n:=th*2 ^ 32) (by omega) (by omega)
theorem pNb(k:Int):gf t v aK round k=some (vj t v aK round k):=by
 obtain⟨c1,c2,_,_⟩:=TA h k;unfold gf vj;simp only[etas,pW h.aM,Wt,Qa,aP]
 cases decide (k=v)with
 |true=>rfl
 |false=>
  unfold Fv
  cases Re t k with
  |true=>
   simp only[Qt,Qk,Ql,c1,c2];rfl
  |false=>rfl
theorem rNb(k:Int)(h0:0<=k)(h1:k<10):nB t v aK round k=some (vj t v aK round k):=by
 obtain⟨_,_,c1,c2⟩:=TA h k;unfold nB vj;simp only[etas,Kx h,rW h.aM,Py,Qa,aP,decide_true,Qo,Ql];rw[Qh (by omega:¬k<0),Qh (by omega:¬(10:Int)<=k)]
 simp only[Ql,Qa]
 cases decide (k=v)with
 |true=>rfl
 |false=>
  unfold Fv
  cases Re t k with
  |true=>
   simp only[Qt,Qk,Ql,c1,c2];rfl
  |false=>rfl
def vR(aK round j b:Int):Prop:=mN 2 aK round j<mN 2 aK round b\/mN 2 aK round j=mN 2 aK round b/\j<=b
structure Af (t:al) (v aK round b:Int):Prop where
 b0:0<=b
 b1:b<10
 nb:vj t v aK round b=true
 top:∀j,0<=j->j<10->vj t v aK round j=true->vR aK round j b
 omit h in
theorem Af.unique{a b:Int}(ha:Af t v aK round a)(hb:Af t v aK round b):a=b:=by
  have h1:=ha.top b hb.b0 hb.b1 hb.nb;have h2:=hb.top a ha.b0 ha.b1 ha.nb;unfold vR at h1 h2;omega
theorem Yr:Yd (hU t v aK round) (Af t v aK round):=by
 have hv0:=h.v0;have hv1:=h.v1;unfold hU;simp only[etas,aP];refine Yd.A7 (fun(s:Int×Int×Int×Unit)=>0<=s.2.2.1/\s.2.2.1<=10/\((s.2.1=0/\(∀j,0<=j->j<s.2.2.1->vj t v aK round j=false))\/(0<=s.1/\s.1<s.2.2.1/\vj t v aK round s.1=true/\s.2.1=mN 2 aK round s.1/\∀j,0<=j->j<s.2.2.1->vj t v aK round j=true->vR aK round j s.1))) (fun s=>(10 - s.2.2.1).toNat) ?_ ⟨Int.le_refl _,by show(0:Int)<=10;omega,.inl ⟨rfl,fun j h0 h1=>by simp only at h1;omega⟩⟩
 rintro⟨b,m,k,u⟩ ⟨h1,h2,h3⟩;simp only at h1 h2 h3;simp only
 by_cases hk:k<10
 ·rw[Qg hk];have hadd:ay .i64 k 1=k+1:=bE (by omega) (by omega)
  simp only[Qk];rw[hadd,pNb h,Qa];have hm:(10 - (k+1)).toNat<(10 - k).toNat:=by omega
  have split1:∀j,j<k+1->j<k\/j=k:=fun j hj=>by omega
  cases hn:vj t v aK round k with
  |false=>
   refine .some ⟨⟨by show 0<=k+1;omega,by show k+1<=10;omega,?_⟩,hm⟩
   rcases h3 with⟨h4,h5⟩|⟨h4,h5,h6,h7,h8⟩
   ·refine .inl ⟨h4,fun j j0 j1=> ?_⟩
    rcases split1 j j1 with j1|rfl
    ·exact h5 j j0 j1
    ·exact hn
   ·refine .inr ⟨h4,by show b<k+1;omega,h6,h7,fun j j0 j1 hj=> ?_⟩
    rcases split1 j j1 with j1|rfl
    ·exact h8 j j0 j1 hj
    ·rw[hn]at hj;cases hj
  |true=>
   rw[Wt];simp only[Qo,Ql,Qa]
   by_cases hle:m<=mN 2 aK round k
   ·rw[Qg hle,Qk];refine .some ⟨⟨by show 0<=k+1;omega,by show k+1<=10;omega,.inr ⟨h1,by show k<k+1;omega,hn,rfl,fun j j0 j1 hj=> ?_⟩⟩,hm⟩
    show vR aK round j k;rcases split1 j j1 with j1|rfl
    ·rcases h3 with⟨h4,h5⟩|⟨h4,h5,h6,h7,h8⟩
     ·have:=h5 j j0 j1;rw[this]at hj;cases hj
     ·have:=h8 j j0 j1 hj;unfold vR at this ⊢;omega
    ·exact .inr ⟨rfl,Int.le_refl _⟩
   ·rw[Qh hle,Ql];refine .some ⟨⟨by show 0<=k+1;omega,by show k+1<=10;omega,?_⟩,hm⟩
    have hr:=Ri 2 aK round k;rcases h3 with⟨h4,h5⟩|⟨h4,h5,h6,h7,h8⟩
    ·omega
    ·refine .inr ⟨h4,by show b<k+1;omega,h6,h7,fun j j0 j1 hj=> ?_⟩
     rcases split1 j j1 with j1|rfl
     ·exact h8 j j0 j1 hj
     ·show vR aK round j b;unfold vR;omega
 ·rw[Qh hk];have hself:vj t v aK round v=true:=by unfold vj;simp
  rcases h3 with⟨h4,h5⟩|⟨h4,h5,h6,h7,h8⟩
  ·have:=h5 v hv0 (by omega)
   rw[hself]at this;cases this
  ·exact .some ⟨h4,by omega,h6,fun j j0 j1 hj=>h8 j j0 (by omega) hj⟩
theorem Yc:Yd (lX t v aK round) fun q=>Af t v aK round q.1/\q.2.1=0:=by
 have hv0:=h.v0;have hv1:=h.v1;have hself:vj t v aK round v=true:=by unfold vj;simp
 unfold lX;simp only[etas,Kx h,Qa,aP];simp only[decide_true,Qo,Ql];refine Yd.A7 (fun(s:Int×Int×Unit)=>0<=s.2.1/\s.2.1<=10/\0<=s.1/\s.1<10/\vj t v aK round s.1=true/\∀j,0<=j->j<s.2.1->vj t v aK round j=true->vR aK round j s.1) (fun s=>(10 - s.2.1).toNat) ?_ ⟨Int.le_refl _,by show(0:Int)<=10;omega,hv0,hv1,hself,fun j h0 h1=>by simp only at h1;omega⟩
 rintro⟨b,k,u⟩ ⟨h1,h2,h3,h4,h5,h6⟩;simp only at h1 h2 h3 h4 h5 h6;simp only
 by_cases hk:k<10
 ·rw[Qg hk];have hadd:ay .i64 k 1=k+1:=bE (by omega) (by omega)
  simp only[Qk];rw[hadd,rNb h k h1 hk,Qa];have hm:(10 - (k+1)).toNat<(10 - k).toNat:=by omega
  have split1:∀j,j<k+1->j<k\/j=k:=fun j hj=>by omega
  have fin:∀x:Int,0<=x->x<10->vj t v aK round x=true->(∀j,0<=j->j<k+1->vj t v aK round j=true->vR aK round j x)->Yd (some (Sum.inl (x,k+1,())):Option ((Int×Int×Unit)⊕(Int×Int×Unit))) (Lp (fun s'=>(0<=s'.2.1/\s'.2.1<=10/\0<=s'.1/\s'.1<10/\vj t v aK round s'.1=true/\∀j,0<=j->j<s'.2.1->vj t v aK round j=true->vR aK round j s'.1)/\(10 - s'.2.1).toNat<(10 - k).toNat) (fun q=>Af t v aK round q.1/\q.2.1=0)):=
   fun x g1 g2 g3 g4=> .some ⟨⟨by show 0<=k+1;omega,by show k+1<=10;omega,g1,g2,g3,g4⟩,hm⟩
  cases hn:vj t v aK round k with
  |false=>
   refine fin b h3 h4 h5 fun j j0 j1 hj=> ?_
   rcases split1 j j1 with j1|rfl
   ·exact h6 j j0 j1 hj
   ·rw[hn]at hj;cases hj
  |true=>
   rw[Py,Py];simp only[Qo,Ql,Qa]
   by_cases hlt:mN 2 aK round b<mN 2 aK round k
   ·rw[Qg hlt];refine fin k h1 hk hn fun j j0 j1 hj=> ?_
    rcases split1 j j1 with j1|rfl
    ·have:=h6 j j0 j1 hj;unfold vR at this ⊢;omega
    ·exact .inr ⟨rfl,Int.le_refl _⟩
   ·rw[Qh hlt];simp only[Ql]
    by_cases heq:mN 2 aK round k=mN 2 aK round b
    ·rw[Qg heq];simp only[Qk,Qa]
     by_cases hbk:b<k
     ·rw[Qg hbk];refine fin k h1 hk hn fun j j0 j1 hj=> ?_
      rcases split1 j j1 with j1|rfl
      ·have:=h6 j j0 j1 hj;unfold vR at this ⊢;omega
      ·exact .inr ⟨rfl,Int.le_refl _⟩
     ·rw[Qh hbk];refine fin b h3 h4 h5 fun j j0 j1 hj=> ?_
      rcases split1 j j1 with j1|rfl
      ·exact h6 j j0 j1 hj
      ·exact .inr ⟨heq,by omega⟩
    ·rw[Qh heq];refine fin b h3 h4 h5 fun j j0 j1 hj=> ?_
     rcases split1 j j1 with j1|rfl
     ·exact h6 j j0 j1 hj
     ·exact .inl (by omega)
 ·rw[Qh hk];exact .some ⟨⟨h3,h4,h5,fun j j0 j1 hj=>h6 j j0 (by omega) hj⟩,rfl⟩
end
 def ug(t:al)(v aK round:Int):Int:=(hU t v aK round).getD 0
 def jx(t:al)(v aK:Int):Nat->Nat
 |0=>0
 |k+1=>jx t v aK k|||2 ^ (ug t v aK ((k+1:Nat):Int)).toNat
section
variable {t : al} {v aK round : Int} (h : Bd t v aK round)
 include h
theorem Bd.at{r:Int}(h1:1<=r)(h2:r<=round):Bd t v aK r:=⟨h.aM,h.v0,h.v1,h.s0,h.s1,h1,by have:=h.r2;omega⟩
theorem OM:hU t v aK round=some (ug t v aK round)/\Af t v aK round (ug t v aK round):=by
 obtain⟨b,h1,h2⟩:=Yr h;unfold ug;rw[h1];exact⟨rfl,h2⟩
theorem Zw:lX t v aK round=some (ug t v aK round,0,()):=by
 obtain⟨⟨b,e,u⟩,h1,h2,h3⟩:=Yc h;simp only at h3;subst h3;have h4:Af t v aK round b:=h2;rw[h1,h4.unique (OM h).2]
theorem ER:∀k:Nat,(k:Int)<=round->jx t v aK k<1024
 |0,_=>by unfold jx;omega
 |k+1,hk=>by
  have h1:=ER k (by omega)
  have h2:=(OM (h.at (r:=((k+1:Nat):Int)) (by omega) hk)).2
  unfold jx;exact zp h1 h2.b1
theorem Wr:lq t v aK round=some (((jx t v aK round.toNat:Nat):Int),0,()):=by
 have e1:=h.v0;have e2:=h.v1;have e3:=h.s0;have e4:=h.s1;have e5:=h.r1;have e6:=h.r2;unfold lq sS;simp only[etas,cP h.aM,Qa,decide_true,Qo,Ql];rw[Qh (by omega:¬v<0),Qh (by omega:¬(10:Int)<=v),Qh (by omega:¬aK<0),Qh (by omega:¬(1000000:Int)<aK),Qh (by omega:¬round<1),Qh (by omega:¬(1000:Int)<round)]
 simp only[Ql,Qa,decide_true,Qo]
 suffices key:∀(d k:Nat),k+d=round.toNat->aA _ (((jx t v aK k:Nat):Int),(k:Int),())=some (((jx t v aK round.toNat:Nat):Int),(0:Int),())from key round.toNat 0 (by omega)
 intro d
 induction d with
 |zero=>
  intro k hk;obtain rfl:k=round.toNat:=by omega
  refine bw ?_;rw[Qh (by omega:¬((round.toNat:Nat):Int)<round)]
  rfl
 |succ d ih=>
  intro k hk;have hadd:ay .i64 (k:Int) 1=((k+1:Nat):Int):=bE (by omega) (by omega)
  obtain⟨g1,g2⟩:=OM (h.at (r:=((k+1:Nat):Int)) (by omega) (by omega))
  refine(bd ?_).trans (ih (k+1) (by omega))
  rw[Qg (by omega:(k:Int)<round)]
  simp only[hadd,g1,Qk,Qa];rw[Qs (by have:=g2.b0;omega),mL (ER h k (by omega)) g2.b0 g2.b1]
  rfl
theorem Wb:pG t v aK round=some (((jx t v aK round.toNat:Nat):Int),0,()):=by
 have e5:=h.r1;have e6:=h.r2;unfold pG;simp only[etas,aP,Zw h,Qa,decide_true,Qo,Ql]
 suffices key:∀(d k:Nat),k+d=round.toNat->aA _ (((jx t v aK k:Nat):Int),((k+1:Nat):Int),())=some (((jx t v aK round.toNat:Nat):Int),(0:Int),())from key round.toNat 0 (by omega)
 intro d
 induction d with
 |zero=>
  intro k hk;obtain rfl:k=round.toNat:=by omega
  refine bw ?_;rw[Qh (by omega:¬((round.toNat+1:Nat):Int)<=round)]
  rfl
 |succ d ih=>
  intro k hk;have hadd:ay .i64 ((k+1:Nat):Int) 1=((k+1+1:Nat):Int):=bE (by omega) (by omega)
  have ha:=h.at (r:=((k+1:Nat):Int)) (by omega) (by omega)
  have g1:=Zw ha;have g2:=(OM ha).2;have hlt:=ER h k (by omega)
  refine(bd ?_).trans (ih (k+1) (by omega))
  rw[Qg (by omega:((k+1:Nat):Int)<=round)]
  have hh:kP ((jx t v aK k:Nat):Int) (ug t v aK ((k+1:Nat):Int))=some (tw ((jx t v aK k:Nat):Int) (ug t v aK ((k+1:Nat):Int))):=oa _ _
  have hs:tw ((jx t v aK k:Nat):Int) (ug t v aK ((k+1:Nat):Int))=(jx t v aK k).testBit (ug t v aK ((k+1:Nat):Int)).toNat:=by
   unfold tw fj;rw[Qg (by omega:(0:Int)<=((jx t v aK k:Nat):Int)),Qg (by omega:((jx t v aK k:Nat):Int)<1024),Qg g2.b0,Qg g2.b1]
   simp
  simp only[hadd,g1,hh,hs,Qk,Qa];show _=some (Sum.inl (((jx t v aK k|||2 ^ (ug t v aK ((k+1:Nat):Int)).toNat:Nat):Int),((k+1+1:Nat):Int),()))
  cases hb:(jx t v aK k).testBit (ug t v aK ((k+1:Nat):Int)).toNat with
  |true=>
   have:jx t v aK k|||2 ^ (ug t v aK ((k+1:Nat):Int)).toNat=jx t v aK k:=by
    refine Nat.eq_of_testBit_eq fun i=> ?_
    rw[Nat.testBit_or,Nat.testBit_two_pow]
    by_cases hi:(ug t v aK ((k+1:Nat):Int)).toNat=i
    ·rw[<-hi,hb];rfl
    ·rw[Qh hi,Bool.or_false]
   rw[this];rfl
  |false=>
   simp only[Qp,Qk];rw[Qs (by have:=g2.b0;omega),mL hlt g2.b0 g2.b1]
theorem K4:jx t v aK round.toNat<1024:=ER h round.toNat (by have:=h.r1;omega)
end
end
section
theorem fold_eq{α σ τ ρ:Type}(l:List α)(hl:l.length<=1000000)(f:σ->α->σ)(mk:Int->σ->τ)(Inv:σ->Prop)(hI:∀s x,x∈l->Inv s->Inv (f s x)){step:τ->Option (τ⊕ρ)}{fin:σ->Option ρ}
  (h1:∀(i:Nat) (x:α) (s:σ),Inv s->x∈l->decide ((i:Int)<((l.length:Nat):Int))=true->idx l (i:Int)=some x->ay .i64 (i:Int) 1=((i+1:Nat):Int)->step (mk (i:Int) s)=some (.inl (mk ((i+1:Nat):Int) (f s x))))
  (h2:∀s,Inv s->decide (((l.length:Nat):Int)<((l.length:Nat):Int))=false->step (mk ((l.length:Nat):Int) s)=Option.map Sum.inr (fin s))
  {s:σ} (h0:Inv s):aA step (mk 0 s)=fin (l.foldl f s):=by
 suffices key:∀(k i:Nat) (s:σ),i+k=l.length->Inv s->aA step (mk (i:Int) s)=fin ((l.drop i).foldl f s)from key l.length 0 s (by omega) h0
 intro k
 induction k with
 |zero=>
  intro i s hi hs;obtain rfl:i=l.length:=by omega
  rw[eO,h2 s hs (Qh (Qq64 _)),Qq66,List.foldl_nil];cases fin s<;>rfl
 |succ k ih=>
  intro i s hi hs;have hlt:i<l.length:=by omega
  have hx:=Q0 hlt;refine(bd (h1 i l[i] s hs hx (Qg (by omega)) (by rw[bh];exact Qv hlt) (bE (by omega) (by omega)))).trans ((ih (i+1) _ (by omega) (hI s _ hx hs)).trans ?_)
  rw[QM hlt,QU]
theorem BW{α σ:Type}{f:σ->α->σ}{Inv:σ->Prop}:∀(l:List α) (hI:∀s x,x∈l->Inv s->Inv (f s x)) {s:σ},Inv s->Inv (l.foldl f s)
 |[],_,_,h=>h
 |x::l,hI,s,h=>BW l (fun s y hy=>hI s y (Qy _ hy)) (hI s x Qx h)
def PM(n:ar)(l:List ByteArray):List ByteArray:=if n.lL=ByteArray.mk #[]then l else lQ l n.lL
def E3(u:Int)(l:List ByteArray)(m:az):List ByteArray:=if m.aq=u then(o8 [m]).foldl lQ l else l
def Ea(n:ar)(l:List ByteArray)(u:Int):List ByteArray:=if u=n.aq then PM n l else n.aw.foldl (E3 u) l
 def xf(n:ar):List ByteArray:=(mq (jx n.ai n.aq n.bl n.Round.toNat)).foldl (Ea n) n.ba
theorem acE{x:ByteArray}(h:x.size<=200)(hx:x≠ByteArray.mk #[]):jU x:=by
 refine⟨?_,h⟩;rcases Nat.eq_zero_or_pos x.size with h0|h0
 ·exact absurd (ByteArray.ext (Array.eq_empty_of_size_eq_zero h0)) hx
 ·exact h0
theorem Uf{m:az}(h:VL m.ba/\VL m.aB):(o8 [m]).length<=80/\∀x∈o8 [m],jU x:=by
 refine⟨Nb (L:=[m]) (fun y hy=>by rw[Q5.1 hy];exact h),fun x hx=> ?_⟩
 obtain⟨y,hy,hxy⟩:=((Eb _).2 x).1 hx;rw[Q5.1 hy]at hxy;exact hxy.elim (h.1.pQ x) (h.2.pQ x)
section
variable {n : ar} (h : cY n)
 include h
theorem aaN{l:List ByteArray}(hl:VL l):VL (PM n l):=by
 unfold PM;split
 ·exact hl
 ·rename_i hx;exact(sk hl (acE h.own hx)).1
theorem GM{m:az}(hm:m∈n.aw):VL m.ba/\VL m.aB:=⟨(h.heard m hm).1.dn,(h.heard m hm).1.eJ⟩
theorem JC{u:Int}{l:List ByteArray}(hl:VL l){m:az}(hm:m∈n.aw):VL (E3 u l m):=by
 unfold E3;split
 ·exact BW (Inv:=VL) (o8 [m]) (fun s x hx hs=>(sk hs ((Uf (GM h hm)).2 x hx)).1) hl
 ·exact hl
theorem IZ{u:Int}{l:List ByteArray}(hl:VL l):VL (Ea n l u):=by
 unfold Ea;split
 ·exact aaN h hl
 ·exact BW (Inv:=VL) n.aw (fun s m hm hs=>JC h hs hm) hl
theorem Cs:VL (xf n):=BW (Inv:=VL) _ (fun s u _ hs=>IZ h hs) h.dn
theorem aay:kD n=some (xf n):=by
 have hlen:=h.len;have hlt:=K4 h.ask;have hnl:=xy (jx n.ai n.aq n.bl n.Round.toNat);unfold kD;simp only[etas,Wr h.ask,JX hlt,Qa,aP];refine fold_eq (mq (jx n.ai n.aq n.bl n.Round.toNat)) (by omega) (Ea n) (fun i s=>(s,i,())) VL (fun s u _ hs=>IZ h hs) (fun i u s hs hu hd hx hadd=> ?_) (fun s hs hd=> ?_) h.dn
 ·simp only[hd,hx,hadd,Qk,Qa];unfold Ea
  by_cases hun:u=n.aq
  ·rw[Qr hun,Qg hun];unfold PM
   by_cases ho:n.lL=ByteArray.mk #[]
   ·rw[Qr ho,Qg ho];rfl
   ·rw[Qs ho,Qh ho];simp only[Qk,Qp,UP hs,Qa]
  ·rw[Qs hun,Qh hun,Ql];refine fold_eq n.aw (by omega) (E3 u) (fun i s=>(s,i,())) VL (fun s m hm hs=>JC h hs hm) (fin:=fun s=>some (Sum.inl (s,((i+1:Nat):Int),()))) (fun j m s2 hs2 hm hd2 hx2 hadd2=> ?_) (fun s2 hs2 hd2=> ?_) hs
   ·simp only[hd2,hx2,hadd2,Qk,Qa,az.eta];unfold E3
    by_cases hmu:m.aq=u
    ·obtain⟨v1,v2⟩:=Uf (GM h hm);rw[Qr hmu,Qg hmu];simp only[Qo,Ql,acC (L:=[m]) (fun y hy=>by rw[Q5.1 hy];exact GM h hm) (by simp),Qa]
     refine fold_eq (o8 [m]) (by omega) lQ (fun i s=>(s,i,())) VL (fun s x hx hs=>(sk hs (v2 x hx)).1) (fin:=fun s=>some (Sum.inl (s,((j+1:Nat):Int),()))) (fun k x s3 hs3 hxm hd3 hx3 hadd3=> ?_) (fun s3 hs3 hd3=> ?_) hs2
     ·simp only[hd3,hx3,hadd3,Qk,Qa,UP hs3]
     ·simp only[hd3,Ql]
    ·rw[Qs hmu,Qh hmu];rfl
   ·simp only[hd2,Ql]
 ·simp only[hd,Ql]
theorem X8:qS n=some {n with ba:=xf n}:=by
 have hlen:=h.len;have hlt:=K4 h.ask;have hnl:=xy (jx n.ai n.aq n.bl n.Round.toNat);unfold qS;simp only[etas,Wb h.ask,Gd hlt,Qa,aP];refine(fold_eq (mq (jx n.ai n.aq n.bl n.Round.toNat)) (by omega) (Ea n) (fun i s=>(i,{n with ba:=s},())) VL (fun s u _ hs=>IZ h hs) (fin:=fun s=>some {n with ba:=s}) (fun i u s hs hu hd hx hadd=> ?_) (fun s hs hd=> ?_) h.dn).trans rfl
 ·simp only[hd,hx,hadd,Qk,Qa];unfold Ea
  by_cases hun:u=n.aq
  ·rw[Qr hun,Qg hun];unfold PM
   by_cases ho:n.lL=ByteArray.mk #[]
   ·rw[Qr ho,Qg ho];rfl
   ·rw[Qs ho,Qh ho];simp only[Qk,Qp,Gb hs,Qa]
  ·rw[Qs hun,Qh hun,Ql];refine fold_eq n.aw (by omega) (E3 u) (fun i s=>(i,{n with ba:=s},())) VL (fun s m hm hs=>JC h hs hm) (fin:=fun s=>some (Sum.inl (((i+1:Nat):Int),{n with ba:=s},()))) (fun j m s2 hs2 hm hd2 hx2 hadd2=> ?_) (fun s2 hs2 hd2=> ?_) hs
   ·simp only[hd2,hx2,hadd2,Qk,Qa];unfold E3
    by_cases hmu:m.aq=u
    ·obtain⟨v1,v2⟩:=Uf (GM h hm);rw[Qr hmu,Qg hmu];simp only[Qo,Ql,aae (GM h hm),Qa];refine fold_eq (o8 [m]) (by omega) lQ (fun i s=>(i,{n with ba:=s},())) VL (fun s x hx hs=>(sk hs (v2 x hx)).1) (fin:=fun s=>some (Sum.inl (((j+1:Nat):Int),{n with ba:=s},()))) (fun k x s3 hs3 hxm hd3 hx3 hadd3=> ?_) (fun s3 hs3 hd3=> ?_) hs2
     ·simp only[hd3,hx3,hadd3,Qk,Qa,Gb hs3]
     ·simp only[hd3,Ql]
    ·rw[Qs hmu,Qh hmu];rfl
   ·simp only[hd2,Ql]
 ·simp only[hd,Ql]
end
 def nL:Nat->ar->ar
 |0,n=>n
 |k+1,n=>match(eR n).find? (qa n)with
  |none=>n
  |some x=>nL k {n with aB:=lQ n.aB x}
theorem JU{n:ar}(h:cY n){x:ByteArray}(hf:(eR n).find? (qa n)=some x):cY {n with aB:=lQ n.aB x}/\(lQ n.aB x).length=n.aB.length+1:=by
 have hc:=List.find?_some hf;have hm:=List.mem_of_find?_eq_some hf;unfold qa at hc;simp only[Qm,Bool.not_eq_true',Qj,Qi]at hc;obtain⟨p1,p2,p3,p4⟩:=sk h.eJ (WM h hm);exact⟨h.ab7 p1 p2,p4 hc.1.1 hc.1.2⟩
theorem Ls:∀(k:Nat) {n:ar},cY n->qj n (nL k n)/\(nL k n).ba=n.ba/\(nL k n).aG=n.aG
 |0,n,h=>⟨.refl h,rfl,rfl⟩
 |k+1,n,h=>by
  unfold nL
  cases hf:(eR n).find? (qa n)with
  |none=>exact⟨.refl h,rfl,rfl⟩
  |some x=>
   obtain⟨h1,h2,h3⟩:=Ls k (JU h hf).1;exact⟨⟨h1.ok,h1.aC,h1.aK,h1.round,h1.seq,h1.aM,h1.own,h1.heard⟩,h2,h3⟩
theorem Zx{fin:ar->Option ar}{step:Bool×ar×Unit->Option ((Bool×ar×Unit)⊕ar)}
  (h1:∀n,cY n->step (true,n,())=some (.inl (match(eR n).find? (qa n)with|some x=>(true,{n with aB:=lQ n.aB x},())|none=>(false,n,()))))
  (h2:∀n,cY n->step (false,n,())=Option.map Sum.inr (fin n)):∀(k:Nat) {n:ar},cY n->41<=k+n.aB.length->aA step (true,n,())=fin (nL k n)
 |0,n,h,hk=>by have:=h.eJ.len;omega
 |k+1,n,h,hk=>by
  have g:=h1 n h;unfold nL
  cases hf:(eR n).find? (qa n)with
  |none=>
   rw[hf]at g;rw[bd g,eO,h2 n h];cases fin n<;>rfl
  |some x=>
   rw[hf]at g;obtain⟨g1,g2⟩:=JU h hf;exact(bd g).trans (Zx h1 h2 k g1 (by show 41<=k+(lQ n.aB x).length;omega))
 def NN(n:ar):ByteArray×Bool×Unit:=match(eR n).find? (qa n)with|some x=>(x,true,())|none=>(⟨#[]⟩,false,())
theorem ZA{fin:ar->Option ar}{step:ByteArray×Bool×ar×Unit->Option ((ByteArray×Bool×ar×Unit)⊕ar)}{c:List aR}
  (h1:∀n x,cY n->nn n=c->cY {n with aB:=lQ n.aB x}->step (x,true,n,())=some (.inl ((NN {n with aB:=lQ n.aB x}).1,(NN {n with aB:=lQ n.aB x}).2.1,{n with aB:=lQ n.aB x},())))
  (h2:∀n x,cY n->nn n=c->step (x,false,n,())=Option.map Sum.inr (fin n)):∀(k:Nat) {n:ar},cY n->nn n=c->41<=k+n.aB.length->aA step ((NN n).1,(NN n).2.1,n,())=fin (nL k n)
 |0,n,h,_,hk=>by have:=h.eJ.len;omega
 |k+1,n,h,hv,hk=>by
  unfold nL
  cases hf:(eR n).find? (qa n)with
  |none=>
   have e:NN n=(⟨#[]⟩,false,()):=by unfold NN;rw[hf]
   rw[e,eO,h2 n _ h hv];cases fin n<;>rfl
  |some x=>
   have e:NN n=(x,true,()):=by unfold NN;rw[hf]
   obtain⟨g1,g2⟩:=JU h hf;rw[e];exact(bd (h1 n x h hv g1)).trans (ZA h1 h2 k g1 hv (by show 41<=k+(lQ n.aB x).length;omega))
 def Eh(n:ar)(c:List ByteArray)(x:ByteArray):List ByteArray:=if Hm n x then lQ c x else c
 def zy(n:ar):List ByteArray:=n.aB.foldl (Eh n) n.aG
 def sw(n:ar):ar:={nL 41 (if n.aG.length=0 then{n with ba:=xf n}else n)with aG:=zy (nL 41 (if n.aG.length=0 then{n with ba:=xf n}else n))}
structure Ck (n:ar) (c:List ByteArray):Prop where
 vl:VL c
 sub:∀x∈c,x∈n.aB
theorem I3{n:ar}(h:cY n){c:List ByteArray}(hc:Ck n c){x:ByteArray}(hx:x∈n.aB):Ck n (Eh n c x):=by
 unfold Eh;split
 ·obtain⟨p1,_,p3,_⟩:=sk hc.vl (h.eJ.pQ x hx);exact⟨p1,fun y hy=>(p3 y hy).elim (fun e=>by rw[e];exact hx) (hc.sub y)⟩
 ·exact hc
theorem cY.Y1{n:ar}(h:cY n):Ck n n.aG:=⟨h.lG,h.sub⟩
theorem YS{n:ar}(h:cY n):Ck n (zy n):=BW (Inv:=Ck n) n.aB (fun s x hx hs=>I3 h hs hx) h.Y1
theorem adS{n:ar}(h:cY n)(x:ByteArray):ec ⟨nn n⟩ n.aq (((kq (n.aw++[wg n]) x).2:Nat):Int)=some (Hm n x):=by
 obtain⟨hn,hn10⟩:=yL h;have hf:=uj (AL h) hn10 (zH h.said x).2;rw[<-hn]at hf;exact hf
theorem adN{n:ar}(h:cY n)(x:ByteArray):iT ⟨nn n⟩ n.aq (((kq (n.aw++[wg n]) x).2:Nat):Int)=some (Hm n x):=by
 obtain⟨hn,hn10⟩:=yL h;have hf:=sL (AL h) hn10 (zH h.said x).2;rw[<-hn]at hf;exact hf
section
variable {n : ar} (h : cY n)
 include h
theorem abH:cY (if n.aG.length=0 then{n with ba:=xf n}else n)/\qj n (if n.aG.length=0 then{n with ba:=xf n}else n):=by
 split
 ·exact⟨h.F0 (Cs h),(qj.refl h).F0 (Cs h)⟩
 ·exact⟨h,.refl h⟩
theorem Cw:qj n (sw n):=by
 obtain⟨h1,h2⟩:=abH h;obtain⟨g,_,_⟩:=Ls 41 h1;obtain⟨c1,c2⟩:=YS g.ok;exact⟨g.ok.XX c1 c2,g.aC.trans h2.aC,g.aK.trans h2.aK,g.round.trans h2.round,g.seq.trans h2.seq,g.aM.trans h2.aM,g.own.trans h2.own,g.heard.trans h2.heard⟩
theorem NH:gZ n=some (sw n):=by
 have body:∀n:ar,cY n->(Option.bind (jt n) fun r3=>
   Option.bind (gm n r3) fun r4=>
   aA (fun(v5:ByteArray×Bool×ar×Unit)=>
   bif v5.2.1 then
   Option.bind (fm v5.2.2.1.aB v5.1) fun r6=>
   Option.bind (gm {v5.2.2.1 with ai:=(av v5.2.2.1.ai),aB:=r6} r3) fun r7=>
   some (Sum.inl (r7.1,r7.2.1,{v5.2.2.1 with ai:=(av v5.2.2.1.ai),aB:=r6},()))
   else
   Option.map Sum.inr (Option.bind (bN v5.2.2.1.aw) fun r8=>
   Option.bind (fR (eT0 v5.2.2.1)) fun r9=>
   bif bp 120 (List.length r8+List.length [{r9 with ai:=(av r9.ai)}])then
   aA (fun(v10:Int×ar×Unit)=>
   bif (decide (v10.1<((List.length v5.2.2.1.aB:Nat):Int)))then
   aZ (fun(v11:ar×Unit)=>
   some (Sum.inl ((ay .i64 v10.1 (1:Int)),(eT0 v11.1),()))) fun j12=>
   Option.bind (idx v5.2.2.1.aB v10.1) fun x13=>
   Option.bind (eE (r8++[{r9 with ai:=(av r9.ai)}]) x13) fun r14=>
   Option.bind (ec r3 v10.2.1.aq r14.2.1) fun r15=>
   bif r15 then
   Option.bind (fm v10.2.1.aG x13) fun r16=>
   j12 ({v10.2.1 with ai:=(av v10.2.1.ai),aG:=r16},())
   else
   j12 ((eT0 v10.2.1),())
   else
   Option.map Sum.inr (some (eT0 v10.2.1))) ((0:Int),(eT0 v5.2.2.1),())
   else none)) (r4.1,r4.2.1,n,()))=some {nL 41 n with aG:=zy (nL 41 n)}:=by
  intro n h;rw[acq h,Qa,Wp h,Qa];refine ZA (c:=nn n) (fin:=fun n2=>some {n2 with aG:=zy n2}) (fun m x hm hv hm2=> ?_) (fun m x hm hv=> ?_) 41 h rfl (by omega)
  ·have hx:=Wp hm2;have hv2:nn {m with aB:=lQ m.aB x}=nn n:=hv
   rw[hv2]at hx;simp only[Qk,etas,UP hm.eJ,Qa,hx];rfl
  ·have hlen:=hm.len;have hal:=hm.eJ.len;simp only[Ql,etas,Xo hm,fR,Qa,aP];rw[nZ (by omega) (by simp;omega),Qk]
   congr 1;refine(fold_eq m.aB (by omega) (Eh m) (fun i c=>(i,{m with aG:=c},())) (Ck m) (fun s x hx hs=>I3 hm hs hx) (fin:=fun c=>some {m with aG:=c}) (fun i y s hs hy hd hx hadd=> ?_) (fun s hs hd=> ?_) hm.Y1).trans rfl
   ·have hsay:eE (m.aw++[(⟨m.aq,m.aF,m.ai,m.ba,m.aB⟩:az)]) y=_:=Tu hm.said y;simp only[hd,hx,hadd,Qk,Qa,hsay,<-hv,adS hm y];unfold Eh
    cases Hm m y with
    |true=>simp only[Qk,UP hs.vl,Qa,Qt]
    |false=>rfl
   ·simp only[hd,Ql]
 unfold gZ;simp only[etas,aP,aay h,Qa];unfold sw
 by_cases h0:n.aG.length=0
 ·rw[Qg (by omega:((n.aG.length:Nat):Int)=0),Qk,Qr h0]
  have:=body {n with ba:=xf n} (h.F0 (Cs h))
  simp only[etas,aP]at this;exact this
 ·rw[Qh (by omega:¬((n.aG.length:Nat):Int)=0),Ql,Qs h0]
  have:=body n h;simp only[etas,aP]at this;exact this
end
end
section
open Classical in
 def Er(b r:ar):Bool:=decide (b.ba=r.ba/\b.aB=r.aB/\b.ai=r.ai)
open Classical in
theorem Cx{b r:ar}:Er b r=true↔b.ba=r.ba/\b.aB=r.aB/\b.ai=r.ai:=by
 unfold Er;rw[Qi]
 def zl(b n:ar):ar:=if Er b (sw n)=true then sw n else{sw n with aF:=b.aF+1}
theorem XS{b n:ar}(h:cY n):adp b n (zl b n):=by
 have k:=Cw h;unfold zl;split
 ·exact⟨k.ok,k.aC,k.aK,k.round,k.aM,.inl k.seq⟩
 ·exact⟨⟨k.ok.ask,k.ok.own,k.ok.dn,k.ok.eJ,k.ok.lG,k.ok.sub,k.ok.heard,k.ok.ib⟩,k.aC,k.aK,k.round,k.aM,.inr rfl⟩
theorem Sn{b n:ar}(h:cY n):(zl b n).aw=n.aw/\(zl b n).lL=n.lL:=by
 have k:=Cw h;unfold zl;split<;>exact⟨k.heard,k.own⟩
theorem acy{s t:List ByteArray}(h:s.length<=1000000):∃b,gA s t=some b/\(b=true↔s=t):=by
 unfold gA
 by_cases hl:s.length=t.length
 ·rw[Qg (by omega:((s.length:Nat):Int)=((t.length:Nat):Int)),Qo,Ql]
  refine R3 hl h (fun i hi hi' hd hx hy hw=> ?_) (fun hd=> ?_)
  ·simp only;rw[hd,Qk,hx,hy,Qa,Qa,hw]
   by_cases he:s[i]=t[i]
   ·rw[Qg he];exact⟨true,rfl,by simp[he]⟩
   ·rw[Qh he];exact⟨false,rfl,by simp[he]⟩
  ·simp only;rw[hd,Ql];rfl
 ·rw[Qh (by omega:¬((s.length:Nat):Int)=((t.length:Nat):Int))]
  exact⟨false,rfl,K0 hl⟩
theorem Ga{b n:ar}(hb:c5 b.ai/\b.ba.length<=1000000/\b.aB.length<=1000000)(hs:0<=b.aF/\b.aF<=1000000)(h:cY n):mV b n=some (zl b n):=by
 have body:∀n:ar,cY n->aA (fun(v3:Bool×ar×Unit)=>
   bif v3.1 then
   Option.bind (o4 (eT0 v3.2.1)) fun r4=>
   aA (fun(v5:Bool×Int×ar×Unit)=>
   bif (decide (v5.2.1<((List.length r4:Nat):Int)))then
   Option.bind (idx r4 v5.2.1) fun x6=>
   Option.bind (su (eT0 v5.2.2.1) x6) fun r7=>
   bif r7 then
   Option.bind (nW v5.2.2.1.aB x6) fun r8=>
   Option.map Sum.inr (some (Sum.inl (true,{v5.2.2.1 with ai:=(av v5.2.2.1.ai),aB:=r8},())))
   else
   some (Sum.inl (v5.1,(ay .i64 v5.2.1 (1:Int)),(eT0 v5.2.2.1),()))
   else
   Option.map Sum.inr (some (Sum.inl (v5.1,(eT0 v5.2.2.1),())))) (false,(0:Int),(eT0 v3.2.1),())
   else
   Option.map Sum.inr (aA (fun(v9:Int×ar×Unit)=>
   bif (decide (v9.1<((List.length v3.2.1.aB:Nat):Int)))then
   aZ (fun(v10:ar×Unit)=>
   some (Sum.inl ((ay .i64 v9.1 (1:Int)),(eT0 v10.1),()))) fun j11=>
   Option.bind (idx v3.2.1.aB v9.1) fun x12=>
   Option.bind (lB (eT0 v9.2.1) x12) fun r13=>
   Option.bind (mz (eT0 v9.2.1)) fun r14=>
   Option.bind (iT r14 v9.2.1.aq r13.2.1) fun r15=>
   bif r15 then
   Option.bind (nW v9.2.1.aG x12) fun r16=>
   j11 ({v9.2.1 with ai:=(av v9.2.1.ai),aG:=r16},())
   else
   j11 ((eT0 v9.2.1),())
   else
   Option.map Sum.inr (aZ (fun(v17:ar×Unit)=>
   some (eT0 v17.1)) fun j18=>
   Option.bind (qR b.ba v9.2.1.ba) fun r19=>
   Option.bind (bif (!r19)then some true
   else
   Option.bind (qR b.aB v9.2.1.aB) fun r20=>
   some (!r20)) fun b21=>
   Option.bind (bif b21 then some true
   else
   Option.bind (tM (av b.ai) (av v9.2.1.ai)) fun r22=>
   some (!r22)) fun b23=>
   bif b23 then
   j18 ({v9.2.1 with aF:=(ay .i64 b.aF (1:Int)),ai:=(av v9.2.1.ai)},())
   else
   j18 ((eT0 v9.2.1),()))) ((0:Int),(eT0 v3.2.1),()))) (true,n,())=
   some (if Er b {nL 41 n with aG:=zy (nL 41 n)}=true then{nL 41 n with aG:=zy (nL 41 n)}else{nL 41 n with aG:=zy (nL 41 n),aF:=b.aF+1}):=by
  intro n h;refine Zx (fin:=fun m=>some (if Er b {m with aG:=zy m}=true then{m with aG:=zy m}else{m with aG:=zy m,aF:=b.aF+1})) (fun m hm=> ?_) (fun m hm=> ?_) 41 h (by omega)
  ·have hkl:=NS hm;simp only[Qk,etas,aaj hm,Qa]
   suffices key:∀(k i:Nat),i+k=(eR m).length->(∀x∈(eR m).take i,qa m x=false)->aA _ (false,(i:Int),m,())=some (Sum.inl (match(eR m).find? (qa m)with|some x=>(true,{m with aB:=lQ m.aB x},())|none=>(false,m,())))from key (eR m).length 0 (by omega) (by simp)
   intro k
   induction k with
   |zero=>
    intro i hi hpre;obtain rfl:i=(eR m).length:=by omega
    rw[Qq62]at hpre;have hf:(eR m).find? (qa m)=none:=List.find?_eq_none.2 fun x hx=>by rw[hpre x hx];simp
    rw[hf];exact bw (by simp only[Qh (Qq64 _),Ql,Qe])
   |succ k ih=>
    intro i hi hpre;have hlt:i<(eR m).length:=by omega
    have hx:idx (eR m) (i:Int)=some (eR m)[i]:=by rw[bh];exact Qv hlt
    have hadd:ay .i64 (i:Int) 1=((i+1:Nat):Int):=bE (by omega) (by omega)
    have hd:decide ((i:Int)<(((eR m).length:Nat):Int))=true:=Qg (by omega)
    cases hc:qa m (eR m)[i]with
    |true=>
     have hf:(eR m).find? (qa m)=some (eR m)[i]:=by
      rw[List.find?_eq_some_iff_getElem];refine⟨hc,i,hlt,rfl,fun j hj=> ?_⟩
      rw[hpre _ (List.mem_take_iff_getElem.2 ⟨j,by omega,rfl⟩)]
      rfl
     rw[hf];refine bw ?_;simp only[hd,hx,Qk,Qa,Zy hm,hc,Gb hm.eJ,Qe]
    |false=>
     refine(bd ?_).trans (ih (i+1) (by omega) fun x hx2=> ?_)
     ·simp only[hd,hx,hadd,Qk,Ql,Qa,Zy hm,hc]
     ·rw[Q7 hlt,Qz,Q5]at hx2;rcases hx2 with hx2|rfl
      ·exact hpre x hx2
      ·exact hc
  ·have hal:=hm.eJ.len;simp only[Ql,etas,aP];congr 1;refine(fold_eq m.aB (by omega) (Eh m) (fun i c=>(i,{m with aG:=c},())) (Ck m) (fun s x hx hs=>I3 hm hs hx) (fin:=fun c=>some (if Er b {m with aG:=c}=true then{m with aG:=c}else{m with aG:=c,aF:=b.aF+1})) (fun i y s hs hy hd hx hadd=> ?_) (fun s hs hd=> ?_) hm.Y1).trans rfl
   ·have hms:=hm.XX hs.vl hs.sub;have hsd:lB {m with aG:=s} y=_:=Tk hms y
    have hvw:mz {m with aG:=s}=_:=V7 hms
    have hsu:iT ⟨nn {m with aG:=s}⟩ m.aq _=some (Hm m y):=adN hms y
    simp only[hd,hx,hadd,Qk,Qa,hsd,hvw,hsu];unfold Eh
    cases Hm m y with
    |true=>simp only[Qk,Gb hs.vl,Qa,Qt]
    |false=>rfl
   ·obtain⟨b1,f1,g1⟩:=Kv (s:=b.ba) (t:=m.ba) hb.2.1;obtain⟨b2,f2,g2⟩:=Kv (s:=b.aB) (t:=m.aB) hb.2.2;obtain⟨b3,f3,g3⟩:=Vb (a:=b.ai) (b:=m.ai) hb.1;have hadd:ay .i64 b.aF 1=b.aF+1:=bE (by omega) (by omega)
    simp only[hd,Ql,f1,f2,f3,Qa,hadd]
    by_cases e:b.ba=m.ba/\b.aB=m.aB/\b.ai=m.ai
    ·rw[Qr ((Cx (b:=b) (r:={m with aG:=s})).2 e),g1.2 e.1,g2.2 e.2.1,g3.2 e.2.2]
     rfl
    ·rw[Qs (fun e'=>e ((Cx (b:=b) (r:={m with aG:=s})).1 e'))]
     cases b1 with
     |false=>rfl
     |true=>
      cases b2 with
      |false=>rfl
      |true=>
       cases b3 with
       |false=>rfl
       |true=>exact absurd ⟨g1.1 rfl,g2.1 rfl,g3.1 rfl⟩ e
 unfold mV;simp only[etas,aP,X8 h,Qa];unfold zl sw
 by_cases h0:n.aG.length=0
 ·rw[Qg (by omega:((n.aG.length:Nat):Int)=0),Qk]
  simp only[Qr h0];have:=body {n with ba:=xf n} (h.F0 (Cs h))
  simp only[etas,aP]at this;exact this
 ·rw[Qh (by omega:¬((n.aG.length:Nat):Int)=0),Ql]
  simp only[Qs h0];have:=body n h;simp only[etas,aP]at this;exact this
theorem Gp{n:ar}(h:cY n):iU n=some n:=by
 have hlen:=h.len;have hv:=h.dn.len;have ha:=h.eJ.len;have hc:=h.lG.len;unfold iU;simp only[etas,Mu h.ask.aM.sm,qG _ (QK hv (by omega)),qG _ (QK ha (by omega)),qG _ (QK hc (by omega)),Qa]
 suffices key:∀(k i:Nat),i+k=n.aw.length->aA _ ((i:Int),{n with ba:=[],aB:=[],aG:=[],aw:=[]},n.ba,n.aB,n.aG,n.aw.take i,())=some n from key n.aw.length 0 (by omega)
 intro k
 induction k with
 |zero=>
  intro i hi;obtain rfl:i=n.aw.length:=by omega
  refine bw ?_;simp only[Qh (Qq64 _),Ql,Qq62,Qe]
 |succ k ih=>
  intro i hi;have hlt:i<n.aw.length:=by omega
  have hx:idx n.aw (i:Int)=some n.aw[i]:=by rw[bh];exact Qv hlt
  have hm:=(h.heard _ (Q0 hlt)).1;have hvl:=hm.dn.len;have hal:=hm.eJ.len;refine(bd ?_).trans (ih (i+1) (by omega))
  simp only[Qg (by omega:(i:Int)<((n.aw.length:Nat):Int)),hx,Qk,Qa,az.eta,NI hm.aM.sm (QK hvl (by omega)) (QK hal (by omega))]
  rw[nZ (by omega) (by simp;omega),bE (by omega) (by omega),Q7 hlt]
  rfl
theorem Yo{b n:ar}(hb:c5 b.ai/\b.ba.length<=1000000/\b.aB.length<=1000000)(hs:0<=b.aF/\b.aF<=1000000)(hq:n.aF=b.aF)(h:cY n):oJ b n=some (zl b n):=by
 have k:=Cw h;have hok:=(XS (b:=b) h).ok;have hadd:ay .i64 (sw n).aF 1=b.aF+1:=by rw[k.seq,hq];exact bE (by omega) (by omega)
 obtain⟨b1,f1,g1⟩:=acy (s:=b.ba) (t:=(sw n).ba) hb.2.1;obtain⟨b2,f2,g2⟩:=acy (s:=b.aB) (t:=(sw n).aB) hb.2.2;obtain⟨b3,f3,g3⟩:=eqT (a:=b.ai) (b:=(sw n).ai) hb.1;unfold oJ;simp only[etas,aP,NH h,f1,f2,f3,Qa,hadd];unfold zl at hok ⊢
 by_cases e':Er b (sw n)=true
 ·have e:=Cx.1 e';rw[Qr e']at hok ⊢;rw[g1.2 e.1,g2.2 e.2.1,g3.2 e.2.2];simp only[Qo,Ql,Qa,Gp hok]
 ·have e:¬(b.ba=(sw n).ba/\b.aB=(sw n).aB/\b.ai=(sw n).ai):=fun e=>e' (Cx.2 e)
  rw[Qs e']at hok ⊢
  cases b3 with
  |false=>simp only[Qp,Qk,Qa,Gp hok]
  |true=>
   cases b1 with
   |false=>simp only[Qp,Qo,Qk,Ql,Qa,Gp hok]
   |true=>
    cases b2 with
    |false=>simp only[Qp,Qo,Qk,Ql,Qa,Gp hok]
    |true=>exact absurd ⟨g1.1 rfl,g2.1 rfl,g3.1 rfl⟩ e
end
section
section
variable {n : ar} (h : cY n)
 include h
theorem acs(hs:1<=n.aF/\n.aF<=1000000):qm n=tL n:=by
 have e5:=h.ask.r1;have e6:=h.ask.r2;unfold tL qm;simp only[etas,ar.eta,Mp h hs,Tt h hs,Qa,Qo,Ql]
 by_cases hr:n.Round=1000
 ·rw[Qg hr];rfl
 ·have hadd:ay .i64 n.Round 1=n.Round+1:=bE (by omega) (by omega)
  have hn:cY {n with Round:=n.Round+1}:=⟨⟨h.ask.aM,h.ask.v0,h.ask.v1,h.ask.s0,h.ask.s1,by show 1<=n.Round+1;omega,by show n.Round+1<=1000;omega⟩,h.own,h.dn,h.eJ,h.lG,h.sub,h.heard,h.ib⟩
  rw[Qh hr,Ql,Ql,hadd];rw[Ga h.HS ⟨by omega,hs.2⟩ hn,Yo (n:={n with Round:=n.Round+1}) h.HS ⟨by omega,hs.2⟩ rfl hn]
end
theorem aaA{t:al}{v aK:Int}{own:ByteArray}(ht:fe t)(h0:0<=v)(h1:v<10)(h2:0<=aK)(h3:aK<=1000000)(ho:own.size<=200):iW v aK t own=nk v aK t own:=by
 have hn:cY ⟨v,aK,1,1,t,own,[],[],[],[]⟩:=⟨⟨ht,h0,h1,h2,h3,by show(1:Int)<=1;omega,by show(1:Int)<=1000;omega⟩,ho,.nil,.nil,.nil,fun x hx=>absurd hx QR,fun x hx=>absurd hx QR,List.Pairwise.nil⟩
 have k:=Cw hn;have hq:(sw ⟨v,aK,1,1,t,own,[],[],[],[]⟩).aF=1:=k.seq;unfold nk iW;simp only[etas,eV ht,cP ht,KD h0 h1];rw[Qh (by omega:¬v<0),Qh (by omega:¬(10:Int)<=v),Qh (by omega:¬aK<0),Qh (by omega:¬(1000000:Int)<aK),Qh (by omega:¬(200:Int)<((own.size:Nat):Int))]
 simp only[Ql,Qa,decide_true,Qo,NH hn,Gp k.ok];rw[Ga hn.HS ⟨by show(0:Int)<=1;omega,by show(1:Int)<=1000000;omega⟩ hn,Qa]
 unfold zl;split
 ·generalize sw ⟨v,aK,1,1,t,own,[],[],[],[]⟩=r at hq;obtain⟨a1,a2,a3,a4,a5,a6,a7,a8,a9,a10⟩:=r;simp only at hq;subst hq;rfl
 ·generalize sw ⟨v,aK,1,1,t,own,[],[],[],[]⟩=r at hq;obtain⟨a1,a2,a3,a4,a5,a6,a7,a8,a9,a10⟩:=r;simp only at hq;subst hq;rfl
end
section
theorem DB{a b:ab}(hq:a.aF=b.aF){s:Int}:({a with aF:=s}:ab)={b with aF:=s}↔a=b:=by
 constructor
 ·intro h;cases a;cases b;simp only[ab.mk.injEq]at h hq ⊢;obtain⟨h1,h2,_,h3⟩:=h;exact⟨h1,h2,hq,h3⟩
 ·rintro rfl;rfl
theorem step_seq{m:ab}(h:bm m){s:Int}(hs:0<=s/\s<=1000000):cp {m with aF:=s}={cp m with aF:=s}:=by
 have e1:cF {m with aF:=s}={m with aF:=s}↔cF m=m:=by rw[CD h hs];exact DB (s6 m).seq
 have e2:fI {m with aF:=s}={m with aF:=s}↔fI m=m:=by rw[CC h hs];exact DB (ra m).seq
 have e3:fo {m with aF:=s}={m with aF:=s}↔fo m=m:=by rw[CF h hs];exact DB (ri m).seq
 have e4:ig {m with aF:=s}={m with aF:=s}↔ig m=m:=by rw[CE h hs];exact DB (rh m).seq
 unfold cp
 by_cases hP:cF m=m
 ·rw[Qr (e1.2 hP),Qr hP]
  by_cases hS:fI m=m
  ·rw[Qr (e2.2 hS),Qr hS]
   by_cases hC:fo m=m
   ·rw[Qr (e3.2 hC),Qr hC]
    by_cases hF:ig m=m
    ·rw[Qr (e4.2 hF),Qr hF,Gl h hs]
    ·rw[Qs (mt e4.1 hF),Qs hF,CE h hs]
   ·rw[Qs (mt e3.1 hC),Qs hC,CF h hs]
  ·rw[Qs (mt e2.1 hS),Qs hS,CC h hs]
 ·rw[Qs (mt e1.1 hP),Qs hP,CD h hs]
 def IH:Nat->ab->ab
 |0,m=>m
 |k+1,m=>cp (IH k m)
theorem MI{m:ab}(h:cp m=m):∀k,IH k m=m
 |0=>rfl
 |k+1=>by rw[IH,MI h k,h]
theorem MJ(m:ab)(k:Nat):∀j,IH (j+k) m=IH j (IH k m)
 |0=>by rw[Nat.zero_add];rfl
 |j+1=>by rw[Nat.add_right_comm,IH,IH,MJ m k j]
def Cb(m1 x:ab):Prop:=bm x/\∃k,({x with aF:=0}:ab)=IH k {m1 with aF:=0}
theorem Cb.self{m1:ab}(h:bm m1):Cb m1 m1:=⟨h,0,rfl⟩
theorem OL{m1:ab}:∀m,bm m->Cb m1 m->Cb m1 (cp m):=fun m h ⟨_,k,e⟩=>⟨wW h,k+1,by rw[IH,<-e,step_seq (s:=0) h ⟨by decide,by decide⟩]⟩
theorem OJ{m1:ab}:∀m,Cb m1 m->Cb m1 (c6 m):=fun m ⟨h,k,e⟩=>⟨wq h,k,by
 rw[<-e];unfold c6
 split<;>rfl⟩
theorem VC{m0 m1 a b:ab}(ha:Dt (Cb m1) m0 a)(hb:Dt (Cb m1) m0 b)(hq:0<=m0.aF):a=b:=by
 have fixed:∀{x:ab},Dt (Cb m1) m0 x->cp {x with aF:=0}={x with aF:=0}:=fun{x} hx=>by rw[step_seq (s:=0) hx.inv ⟨by decide,by decide⟩,Rr hx.fix]
 obtain⟨_,k,ea⟩:=ha.rel;obtain⟨_,j,eb⟩:=hb.rel
 have core:({a with aF:=0}:ab)={b with aF:=0}:=by
  rcases Nat.le_total k j with h|h
  ·have e2:=MJ {m1 with aF:=0} k (j - k)
   rw[show j - k+k=j by omega,<-eb,<-ea,MI (fixed ha)]at e2
   exact e2.symm
  ·have e2:=MJ {m1 with aF:=0} j (k - j)
   rw[show k - j+j=k by omega,<-eb,<-ea,MI (fixed hb)]at e2
   exact e2
 have hz:a.aa=b.aa:=by
  have:=congrArg ab.aa core;exact this
 have hs:a.aF=b.aF:=by
  have n1:=ha.num;have n2:=hb.num
  cases hc:aI a.aa with
  |true=>
   rw[ha.seq.zero hc,hb.seq.zero (by rw[<-hz];exact hc)]
  |false=>
   have p1:=ha.seq.pos hc;have p2:=hb.seq.pos (by rw[<-hz];exact hc)
   omega
 exact(DB hs).1 core
theorem NL{m m1:ab}{q q':ab×Int×Unit}(h1:0<=(c6 m1).aF)(h:IW (Cb m1) m m1 q)(h':IW (Cb m1) m m1 q'):q=q':=by
 obtain⟨a,rfl,ha⟩:=h;obtain⟨b,rfl,hb⟩:=h';rw[VC ha hb h1]
section
variable {m : ab} (h : bm m) (hs : fX m)
 include h hs
theorem Xc{v:ByteArray}(hv:1<=v.size/\v.size<=200):lp m v=mT m v:=by
 have hi:=BC h hv;obtain⟨q,e1,h1⟩:=PH OL OJ h hs hv (Cb.self hi);obtain⟨q',e2,h2⟩:=Jb OL OJ h hs hv (Cb.self hi);rw[e1,e2,NL (wq hi).seq.1 h1 h2]
theorem Xb:ju m=kY m:=by
 by_cases hb:m.aH≠3/\cZ m≠fD/\m.aa.ae<1000
 ·have hi:=Eg h hb.1 hb.2.1 hb.2.2;obtain⟨q,e1,h1⟩:=Yp OL OJ h hs (Cb.self hi);obtain⟨q',e2,h2⟩:=Pv OL OJ h hs (Cb.self hi);rw[e1,e2];rcases h1 with⟨h1,_⟩|⟨_,a⟩|⟨_,a⟩
  ·rcases h2 with⟨h2,_⟩|⟨_,a⟩|⟨_,a⟩
   ·rw[NL (wq hi).seq.1 h1 h2]
   ·exact absurd a fun a=>a.elim hb.1 hb.2.1
   ·exact absurd a (by have:=hb.2.2;omega)
  ·exact absurd a fun a=>a.elim hb.1 hb.2.1
  ·exact absurd a (by have:=hb.2.2;omega)
 ·unfold ju mY oL kY;simp only[ab.eta,etas,aj.eta,aE.eta,Bp h hs,yX h hs,Fe h,Qa,Qo,Ql,Ez h.ev,Hk h.ev,aP]
  by_cases h3:m.aH=3
  ·rw[Qg h3];rfl
  ·rw[Qh h3]
   by_cases hv:cZ m=ByteArray.mk #[]
   ·rw[Qg hv];rfl
   ·have hc:(1000:Int)<=m.aa.ae:=by
     rcases Int.lt_or_le m.aa.ae 1000 with hc|hc
     ·exact absurd ⟨h3,hv,hc⟩ hb
     ·exact hc
    rw[Qh hv,Qg hc];rfl
end
end
section
theorem YV{a b:ByteArray}:decide (0<tE a b)=bH b a:=by
 cases h:bH b a with
 |true=>
  have h1:¬tE a b<0:=fun e=>by
   have:=rG a b;rw[Qg e,gX.asymm h]at this;cases this
  have h2:¬tE a b=0:=fun e=>by
   have h3:=G3 (a:=a) (b:=b);rw[Qg e]at h3;rw[of_decide_eq_true h3.symm,gX.irrefl]at h;cases h
  exact Qg (by omega)
 |false=>
  refine Qh fun e=> ?_
  have h1:bH a b=false:=by rw[<-rG];exact Qh (by omega)
  have h2:=gX.total _ _ h1 h;have h3:=G3 (a:=a) (b:=b);rw[Qg h2]at h3;have:=of_decide_eq_true h3;omega
def mM(l:List ByteArray):ByteArray:=l.getLast?.getD (ByteArray.mk #[])
theorem GB{l:List ByteArray}(h:l≠[]):mM l∈l:=by
 unfold mM
 cases hl:l.getLast? with
 |none=>exact absurd (List.getLast?_eq_none_iff.1 hl) h
 |some a=>exact List.mem_of_getLast? hl
theorem Yy{x:ByteArray}(h:jU x):bH (ByteArray.mk #[]) x=true:=by
 have:=h.1;have h0:(ByteArray.mk #[]).size=0:=rfl;unfold bH;rw[Qs (by rw[h0];omega),h0]
 exact Qg (by omega)
theorem ES{l:List ByteArray}{i:Nat}{x:ByteArray}(hx:l[i]?=some x):mM (l.take (i+1))=x:=by
 unfold mM;rw[List.take_add_one,hx];simp
theorem NQ{l:List ByteArray}(h:VL l){i:Nat}{x:ByteArray}(hx:l[i]?=some x):bH (mM (l.take i)) x=true:=by
 have hi:i<l.length:=(Qw.1 hx).1;have hxe:l[i]=x:=(Qw.1 hx).2
 by_cases h0:i=0
 ·subst h0;exact Yy (h.pQ x (Q8 hx))
 ·have e:=ES (l:=l) (i:=i - 1) (Qv (by omega))
  rw[show i - 1+1=i by omega]at e
  rw[e,<-hxe];exact List.pairwise_iff_getElem.1 h.D3 (i - 1) i (by omega) hi (by omega)
theorem Wc{l:List ByteArray}(h:VL l):ny l=some (mM l,decide (l≠[]),()):=by
 unfold ny;simp only[aP]
 suffices key:Yd (aA _ (ByteArray.mk #[],false,(0:Int),())) fun r=>r=(mM l,decide (l≠[]),())by
  obtain⟨r,g,rfl⟩:=key;exact g
 refine Yd.list l h.tf (fun i (s:ByteArray×Bool)=>(s.1,s.2,i,())) (fun i s=>s=(mM (l.take i),decide (i≠0))) ?_ ?_ (s:=(_,false)) rfl
 ·rintro i x s rfl hd hx' hi hdec hx hadd;have hx2:l[i]?=some x:=by rw[bh]at hx;exact hx
  have hl:=NQ h hx2;simp only;rw[hdec,Qk,hx,Qa,Ks,Qa,hadd,Qg (h.pQ x hx'),yF];simp only[Qk,Qa,G4,hl];have g:∃s':ByteArray×Bool,((x,true,((i+1:Nat):Int),()):ByteArray×Bool×Int×Unit)=(s'.1,s'.2,((i+1:Nat):Int),())/\s'=(mM (l.take (i+1)),decide (i+1≠0)):=⟨(x,true),rfl,by rw[ES hx2];rfl⟩
  cases decide (i≠0)<;>exact .some g
 ·rintro s rfl hdec;simp only;rw[hdec,Ql,Qq62];refine .some ?_;show _=_;congr 2;rw[decide_eq_decide];cases l<;>simp
theorem acB{l:List ByteArray}(h:VL l):fS l=some (mM l,decide (l≠[]),()):=by
 unfold fS;simp only[aP]
 suffices key:Yd (aA _ (ByteArray.mk #[],(0:Int),())) fun r=>r=(mM l,decide (l≠[]),())by
  obtain⟨r,g,rfl⟩:=key;exact g
 refine Yd.list l h.tf (fun i (s:ByteArray)=>(s,i,())) (fun i s=>s=mM (l.take i)) ?_ ?_ rfl
 ·rintro i x s rfl hd hx' hi hdec hx hadd;have hx2:l[i]?=some x:=by rw[bh]at hx;exact hx
  have hl:=NQ h hx2;simp only;rw[hdec,Qk,hx,Qa,PG,Qa,hadd,Qg (h.pQ x hx'),wo];simp only[Qk,Qa,YV,hl];exact .some ⟨x,rfl,by rw[ES hx2]⟩
 ·rintro s rfl hdec;simp only;rw[hdec,Ql,Qq62];refine .some ?_;show _=_;congr 2
  cases hl:l with
  |nil=>rfl
  |cons y r=>
   have hm:mM l∈l:=GB (by rw[hl];simp)
   have hv:=h.pQ _ hm;rw[<-hl]
   have hne:mM l≠ByteArray.mk #[]:=fun e=>by
    rw[e]at hv;exact absurd hv.1 (by decide)
   rw[Qh hne,Qg (by rw[hl];simp)]
   rfl
theorem adX{l:List az}(hlen:l.length<=100)(h:∀m∈l,c5 m.ai/\m.ba.length<=1000/\m.aB.length<=1000):fC l=some l:=by
 unfold fC
 suffices key:∀(k i:Nat),i+k=l.length->aA _ ((i:Int),l.take i,())=some l from key l.length 0 (by omega)
 intro k
 induction k with
 |zero=>
  intro i hi;obtain rfl:i=l.length:=by omega
  refine bw ?_;simp only[Qh (Qq64 _),Ql,Qq62,Qe]
 |succ k ih=>
  intro i hi;have hlt:i<l.length:=by omega
  have hx:idx l (i:Int)=some l[i]:=by rw[bh];exact Qv hlt
  obtain⟨h1,h2,h3⟩:=h _ (Q0 hlt);refine(bd ?_).trans (ih (i+1) (by omega))
  simp only[Qg (by omega:(i:Int)<((l.length:Nat):Int)),hx,Qk,Qa,etas,az.eta,PK h1 h2 h3]
  rw[nZ (by omega) (by simp;omega),bE (by omega) (by omega),Q7 hlt]
  rfl
section
variable {nd sl k : Int} {x : bJ}
theorem acz(h:oU nd sl k x):wa x=some x:=by
 have n:=h.qx;have l1:=n.dn.len;have l2:=n.eJ.len;have l3:=n.lG.len;have l4:=n.len;have l5:=h.jY.len;have hN:fC x.aD.aw=some x.aD.aw:=adX (by omega) fun m hm=>⟨(n.heard m hm).1.aM.sm,QK (n.heard m hm).1.dn.len (by omega),QK (n.heard m hm).1.eJ.len (by omega)⟩
 have hE:eB x.ak.aw=some x.ak.aw:=XJ (fun e he=>(h.jY.hv e he).2.1.sm) (by omega)
 unfold wa;simp only[bJ.eta,ar.eta,ab.eta,etas,py n.ask.aM.sm,py h.jY.aM.sm,qG _ (QK l1 (by omega)),qG _ (QK l2 (by omega)),qG _ (QK l3 (by omega)),hN,hE,Qa]
theorem BX(h:oU nd sl k x):ly x=gB x:=by
 unfold ly gB;simp only[etas,aP,acB h.qx.lG,Wc h.qx.lG,cy,cU,Qa,ED h.jY h.lR,yD h.jY h.lR]
 by_cases hc:x.aD.aG=[]
 ·have e1:decide ((0:Int)<((x.aD.aG.length:Nat):Int))=false:=by rw[hc];rfl
  rw[e1,hc];cases decide (x.ak.aH=1)<;>cases aI x.ak.au<;>rfl
 ·have hpos:0<x.aD.aG.length:=List.length_pos_iff.2 hc;have hlv:jU (mM x.aD.aG):=h.qx.lG.pQ _ (GB hc);rw[Qg (by omega:(0:Int)<((x.aD.aG.length:Nat):Int)),Qg hc,Xc h.jY h.lR hlv]
  obtain⟨q,e,q0,hn⟩:=Jk h.jY h.lR hlv;rw[e];simp only[Qa,q0,decide_true,Qk,ED hn.inv hn.seq,yD hn.inv hn.seq];cases decide (x.ak.aH=1)<;>cases aI x.ak.au<;>cases decide (mM x.aD.aG=x.ak.aY)<;>rfl
theorem WE{m:ab}(h:bm m)(hs:fX m){v:ByteArray}(hv:jU v):Yd (mT m v) fun q=>q.2.1=0/\Fs m m.ai q.1/\q.1.aY=v/\q.1.aw=m.aw:=by
 obtain⟨q,e,h1,h2⟩:=Jk h hs hv;obtain⟨q',e',m2,rfl,ha⟩:=Jb (R:=fun _=>True) (fun _ _ _=>trivial) (fun _ _=>trivial) h hs hv trivial
 rw[e]at e';obtain rfl:=Option.some.inj e';obtain⟨_,_,_,e4,e5,_⟩:=BH (dP m v);obtain⟨s,es,_⟩:=Fg m m2;have g1:(dP m v).aY=v:=by unfold dP;split<;>rfl
 have g2:(dP m v).aw=m.aw:=by unfold dP;split<;>rfl
 refine⟨_,e,h1,h2,?_,?_⟩
 ·show(pA m m2).aY=v;rw[es];exact ha.env.2.2.2.1.trans (e4.trans g1)
 ·show(pA m m2).aw=m.aw;rw[es];exact ha.env.2.2.2.2.trans (e5.trans g2)
structure Ua (x y:bJ):Prop where
 qx:y.aD=x.aD
 round:y.Round=x.Round
 next:y.Next=x.Next
 timer:y.Timer=x.Timer
 heard:y.ak.aw=x.ak.aw
 sx:x.aD.aG≠[]->y.ak.aH=1->aI y.ak.au=true->y.ak.aY=mM x.aD.aG
theorem Ja(h:oU nd sl k x):Yd (gB x) fun y=>mR nd sl k y/\nR x.ak y.ak/\Ua x y:=by
 obtain⟨y,e,h1,h2⟩:=Mq h;refine⟨y,e,h1,h2,?_⟩;unfold gB at e;simp only[etas,aP,Wc h.qx.lG,cU,Qa,yD h.jY h.lR]at e
 have same:(x.aD.aG≠[]->x.ak.aH=1->aI x.ak.au=true->x.ak.aY=mM x.aD.aG)->∀{a:Bool} {b:ByteArray},y=⟨x.aD,x.ak,x.Timer,x.Round,x.Next,a,b⟩->Ua x y:=fun hp a b ey=>by
  subst ey;exact⟨rfl,rfl,rfl,rfl,rfl,hp⟩
 by_cases hc:x.aD.aG=[]
 ·rw[hc]at e;exact same (fun hn=>absurd hc hn) (Option.some.inj e).symm
 ·have hlv:jU (mM x.aD.aG):=h.qx.lG.pQ _ (GB hc);rw[Qg hc]at e
  by_cases h3:x.ak.aH=1
  ·rw[Qg h3]at e
   cases hz:aI x.ak.au with
   |false=>
    rw[hz]at e;exact same (fun _ _ e2=>by rw[hz]at e2;cases e2) (Option.some.inj e).symm
   |true=>
    rw[hz]at e
    by_cases hp:mM x.aD.aG=x.ak.aY
    ·rw[Qg hp]at e;exact same (fun _ _ _=>hp.symm) (Option.some.inj e).symm
    ·rw[Qh hp]at e;obtain⟨q,eq,q0,hn,qp,qh⟩:=WE h.jY h.lR hlv;rw[eq]at e;simp only[Qk,Qp,Qa,q0,decide_true,yD hn.inv hn.seq]at e;obtain rfl:=Option.some.inj e;exact⟨rfl,rfl,rfl,rfl,qh,fun _ _ _=>qp⟩
  ·rw[Qh h3]at e;exact same (fun _ e2=>absurd e2 h3) (Option.some.inj e).symm
end
end
section
theorem Rv{c:Int}(hc:0<=c)(hc2:c<=1000000):jV c=fK c:=by
 have h1:∀d:Int,0<=d->d<=1000000->ay .i64 d 1=d+1:=fun d a b=>bE (by omega) (by omega)
 unfold jV fK;have hm:0<=bB (cm c 11) 0/\bB (cm c 11) 0<=11:=by unfold bB cm;split<;>split<;>omega
 rw[h1 _ hm.1 (by omega)]
 by_cases h:12<=c
 ·have:bB (cm c 11) 0=11:=by unfold bB cm;split<;>split<;>omega
  rw[Qg h,this];rfl
 ·have e1:bB (cm c 11) 0=c:=by unfold bB cm;split<;>split<;>omega
  have e2:bB (c+1) 1=c+1:=by unfold bB;split<;>omega
  rw[Qh h,Ql,h1 c hc hc2,e1,e2]
section
variable {m : ab} (h : bm m) (hs : fX m)
 include h hs
 def Uj(m:ab):Bool:=(gq (eN m.aq.toNat m.ai ([bF m]++m.aw)) (c8 (fun e=>decide (cd (bF m)<=cd e)) ([bF m]++m.aw))).testBit m.aq.toNat
theorem S9(hz:aI m.aa=false):∀e∈[bF m]++m.aw,aX e=true/\c5 e.ai:=by
 intro e he;rcases Qz.1 he with he|he
 ·rw[Q5.1 he];exact⟨Bg h hs hz,by rw[nM];exact h.aM.sm⟩
 ·exact⟨(h.hv e he).1,(h.hv e he).2.1.sm⟩
theorem Uy:oA m=some (!aI m.aa&& !decide (m.aH=3)&&Uj m):=by
 have hev:=h.ev;have hlen:=h.len;unfold oA;simp only[etas,Px h hs,Qa]
 cases hz:aI m.aa with
 |true=>rfl
 |false=>
  simp only[Qp,Qo,Ql,Qa,Bool.true_and]
  cases decide (m.aH=3)with
  |true=>rfl
  |false=>
   simp only[Ql,Qp,Bool.true_and];have hall:=S9 h hs hz;have ho:=Bg h hs hz;have hm0:c5 (bF m).ai:=by rw[nM];exact h.aM.sm
   have hl1:([bF m]++m.aw).length<=1000:=by simp;omega
   rw[bz (by simp;omega),Qk]
   rw[Aa ([bF m]++m.aw) hl1 (fun e=>decide (cd (bF m)<=cd e)) (fin:=fun s=>Option.bind (iS m.aq m.ai ([bF m]++m.aw)) fun r8=>Option.bind (fQ ([bF m]++m.aw) s) fun r9=>Option.bind (kc r8 r9) fun r10=>if(bq .u64 m.aq)<0 then none else some (decide ((B7 .i64 (lC .i64 r10 (bq .u64 m.aq)) (1:Int))=(1:Int))))
    (fun i e s hs' he hd hx hw=>by
     simp only[hd,hx,hw,HH hx,Qk,Qa,yE (hall e he).2 (hall e he).1,yE hm0 ho]
     rw[bz (by simp;omega),Qk])
    (fun s hd=>by simp only[hd,Ql])]
   have hsml:oO ([bF m]++m.aw):=⟨by omega,fun e he=>(hall e he).2⟩
   have hn:=hev.aC;have hv:=wm hn.2 (t:=m.ai) hsml;rw[hn.1]at hv;have hin:qK ([bF m]++m.aw):=fun e he=>gy (hall e he).1
   have hcm:=jX (aC:=m.aq.toNat) h.aM.sm hsml;have hq:gq (eN m.aq.toNat m.ai ([bF m]++m.aw)) (c8 (fun e=>decide (cd (bF m)<=cd e)) ([bF m]++m.aw))<1024:=(xM hcm (jE (p:=fun e=>decide (cd (bF m)<=cd e)) hin)).lt
   rw[hv,Qa,wJ ([bF m]++m.aw) hl1 _ (fun e he _=>hin e he),Qa,xo hcm (jE hin),Qa]
   have hc:bq .u64 m.aq=m.aq:=by
    rw[<-hn.1];exact Vk (by omega)
   rw[hc,Qs (by have:=h.n0;omega)]
   have hb:=Iu (s:=((gq (eN m.aq.toNat m.ai ([bF m]++m.aw)) (c8 (fun e=>decide (cd (bF m)<=cd e)) ([bF m]++m.aw)):Nat):Int)) (x:=m.aq) (by omega) (by omega) h.n0 h.n1
   unfold Uj;rw[QV]at hb;congr 1;rw[QW,Qi,hb]
theorem UN:qk m=some (!aI m.aa&& !decide (m.aH=3)&&Uj m):=by
 have hev:=h.ev;have hlen:=h.len;obtain⟨e0,hmsg,he0⟩:=PI h hs;unfold qk;simp only[ab.eta,etas,aj.eta,hmsg,Qa]
 cases hz:aI m.aa with
 |true=>rfl
 |false=>
  have he1:=he0 hz;subst he1;simp only[Qp,Qo,Ql,Qa,Bool.true_and]
  by_cases h3:m.aH=3
  ·rw[Qg h3];rfl
  ·rw[Qh h3];simp only[Ql,Qp,Bool.true_and];have hall:=S9 h hs hz;have hperm:([bF m]++m.aw).Perm (m.aw++[bF m]):=List.perm_append_comm;have hall2:∀e∈m.aw++[bF m],aX e=true/\c5 e.ai:=fun e he=>hall e (hperm.mem_iff.2 he)
   have hsml:oO (m.aw++[bF m]):=⟨by simp;omega,fun e he=>(hall2 e he).2⟩
   have hn:=hev.aC;have hr:bU (m.aw++[bF m])=m.aw++[bF m]:=List.filter_eq_self.2 fun e he=>(hall2 e he).1
   have hin:qK (m.aw++[bF m]):=fun e he=>gy (hall2 e he).1
   have hcnt:cd (bF m)=(bF m).aa.ae:=by
    unfold cd;rw[N4,Qs h3]
   have hlook:=HV hn.2 h.aM.sm hsml;rw[hn.1,hr]at hlook
   have hwho:lH ⟨m.aq,⟨eN m.aq.toNat m.ai (m.aw++[bF m])⟩,(m.aw++[bF m]).map bC.mk⟩ (bF m)=some ((c8 (fun e=>decide (cd (bF m)<=cd e)) (m.aw++[bF m]):Nat):Int):=by
    unfold lH;refine Bs (fun e=>decide (cd (bF m)<=cd e)) (m.aw++[bF m]) hin _ (fun i e s he=> ?_) (fun s=> ?_)
    ·have hlt:i<(m.aw++[bF m]).length:=(Qw.1 he).1;have hlt2:i<=1000:=by simp at hlt;omega
     have hd:decide ((i:Int)<((((m.aw++[bF m]).map bC.mk).length:Nat):Int))=true:=Qg (by rw[QC];omega)
     have hw:ay .i64 (i:Int) 1=((i+1:Nat):Int):=bE (by omega) (by omega)
     have hx:idx ((m.aw++[bF m]).map bC.mk) (i:Int)=some ⟨e⟩:=by rw[bh,QT,he];rfl
     simp only[hd,hx,hw,Qk,Qa,etas,aj.eta,sD,JZ,aP,<-hcnt];cases decide (cd (bF m)<=cd e)<;>simp
    ·have hd:decide ((((m.aw++[bF m]).length:Nat):Int)<((((m.aw++[bF m]).map bC.mk).length:Nat):Int))=false:=Qh (by rw[QC];exact Qq64 _)
     simp only[hd,Ql,Qe]
   have hcm:=jX (aC:=m.aq.toNat) h.aM.sm hsml;have hlt:=jE (p:=fun e=>decide (cd (bF m)<=cd e)) hin
   have hq:gq (eN m.aq.toNat m.ai (m.aw++[bF m])) (c8 (fun e=>decide (cd (bF m)<=cd e)) (m.aw++[bF m]))<1024:=(xM hcm hlt).lt
   rw[Od (by omega),Qa,bz (by simp;omega),Qk,hlook,Qa,hwho,Qa,Dp hcm hlt,Qa,ki,Qa]
   have hap:yl ([bF m]++m.aw):=by
    have h1:=h.apart;unfold bc at h1;rw[Qs (by rw[hz];decide),Mw hs hz]at h1
    exact h1.perm ((zV _ _).trans hperm.symm)
   have hvw:=J3 hn.2 m.ai hap hperm;unfold Uj;rw[hvw,M8 hperm];generalize gq (eN m.aq.toNat m.ai (m.aw++[bF m])) (c8 (fun e=>decide (cd (bF m)<=cd e)) (m.aw++[bF m]))=g at hq
   unfold tw fj;rw[Qg (by omega:(0:Int)<=(g:Int)),Qg (by omega:(g:Int)<1024),Qg h.n0,Qg h.n1,QV]
   rfl
theorem ac7{t:dy}(ht:ss t){now:Int}:sb t m now=qN t m now:=by
 obtain⟨b0,b1⟩:=LR h;have hd:decide (t.yx= -1)=decide (t.yx<0):=by rw[decide_eq_decide];have:=ht.2.2.1;omega
 unfold sb qN;simp only[ab.eta,etas,Ku ht,Wn ht,UN h hs,Uy h hs,Rv b0 (by omega),hd]
end
section
variable {nd sl k : Int} {x : bJ} (h : mR nd sl k x) (hk : k <= 999998)
 include h hk
theorem ac5{now:Int}(h0:0<=now)(h1:now<=200):zD x now=xX x now:=by
 have p:=h.pre;have hsq:1<=x.aD.aF/\x.aD.aF<=1000000:=⟨p.td.1,by have:=p.td.2;omega⟩
 have hrd:=p.round
 have rest:∀y:bJ,oU nd sl (k+1) y->(Option.bind (sb y.Timer y.ak now) fun r5=>
   bif r5.2.1 then
   Option.bind (ju y.ak) fun r8=>
   Option.bind (bif decide (r8.2.1=0)then some (r8.2.1,({y with ak:=r8.1,Timer:=r5.1}:bJ))else some (r8.2.1,{y with Timer:=r5.1})) fun p9=>
   Option.bind (ly p9.2) fun r10=>some (r10,(0:Int),())
   else some ({y with Timer:=r5.1},(0:Int),()))=
   Option.bind (qN y.Timer y.ak now) fun r5=>
   bif r5.2.1 then
   Option.bind (kY y.ak) fun r8=>
   bif decide (r8.2.1=0)then Option.bind (gB {y with ak:=r8.1,Timer:=r5.1}) fun r9=>some (r9,(0:Int),())
   else Option.bind (gB {y with Timer:=r5.1}) fun r9=>some (r9,(0:Int),())
   else some ({y with Timer:=r5.1},(0:Int),()):=by
  intro y hy;rw[ac7 hy.jY hy.lR hy.timer,Xb hy.jY hy.lR];obtain⟨t,et,ht⟩:=Ti hy.jY hy.lR hy.timer h0 h1;obtain⟨r,er,hr⟩:=PT hy.jY hy.lR;have ht2:oU nd sl (k+1) {y with Timer:=t.1}:=⟨hy.jY,hy.lR,hy.aC,hy.aK,hy.qx,hy.td,hy.xz,hy.xw,hy.aM,ht,hy.round,hy.next⟩
  rw[et];simp only[Qa]
  cases t.2.1 with
  |false=>rfl
  |true=>
   rw[er];simp only[Qk,Qa];rcases hr with⟨r0,hr⟩|hr
   ·simp only[r0,decide_true,Qk,Qa];rw[BX (ht2.XW hr)]
   ·simp only[Qh hr,Ql,Qa];rw[BX ht2]
 have px:oU nd sl (k+1) x:=p.le (by omega)
 unfold zD Cf oZ As xW xX;simp only[bJ.eta,ar.eta,ab.eta,etas,aP,Pz h (by omega),Ji h (by omega),acz p,Qg h0,Qg h1,Qh (by omega:¬now<0),Qh (by omega:¬(200:Int)<now),Qa,Qo,Ql,Qk]
 simp only[bJ.eta,ar.eta,ab.eta,etas,aP]at rest
 by_cases hc:x.aD.aG=[]
 ·have e1:decide ((0:Int)<((x.aD.aG.length:Nat):Int))=false:=by rw[hc];rfl
  have e2:decide (((x.aD.aG.length:Nat):Int)=(0:Int))=true:=by rw[hc];rfl
  rw[e1,e2];simp only[Ql,Qk,Qa]
  by_cases hn:now<x.Next
  ·rw[Qg hn,Qh (by omega:¬x.Next<=now)]
   simp only[Ql,Qk,Qa];exact rest x px
  ·rw[Qh hn,Qg (by omega:x.Next<=now)]
   simp only[Ql,Qk,Qa];have hadd:ay .i64 x.Round 1=x.Round+1:=bE (by omega) (by omega)
   have hmin:1<=cm (x.Round+1) 1000/\cm (x.Round+1) 1000<=1000:=by unfold cm;split<;>omega
   obtain⟨w,ew,w1,w2⟩:=Ey (c:=cm (x.Round+1) 1000) (by omega) (by omega)
   have hadd2:ay .i64 now w=now+w:=bE (by omega) (by omega)
   have ew2:jV (cm (x.Round+1) 1000)=some w:=(Rv (by omega) (by omega)).trans ew
   rw[acs p.qx hsq];obtain⟨q,eq,hq⟩:=V9 p.qx hsq;rw[eq];rcases hq with⟨q0,g1,g2,g3,g4,g5⟩|q3
   ·have hp:oU nd sl (k+1) ⟨q.1,x.ak,x.Timer,cm (x.Round+1) 1000,now+w,x.wP,x.Value⟩:=⟨p.jY,p.lR,p.aC,p.aK,g1,by show 1<=q.1.aF/\q.1.aF<=1+(k+1);have h1:=p.td;rcases g5 with e|e<;>rw[e]<;>omega,g2.trans p.xz,g3.trans p.xw,g4.trans p.aM,p.timer,hmin,by show 0<=now+w/\now+w<=212;omega⟩
    obtain⟨y,ey,hy,_⟩:=Mq hp;simp only[Qa,q0,decide_true,Qk,hadd,ew,ew2,hadd2,BX hp,ey];exact rest y hy.pre
   ·have hp:oU nd sl (k+1) ⟨x.aD,x.ak,x.Timer,cm (x.Round+1) 1000,now+w,x.wP,x.Value⟩:=⟨p.jY,p.lR,p.aC,p.aK,p.qx,by show 1<=x.aD.aF/\x.aD.aF<=1+(k+1);have h1:=p.td;omega,p.xz,p.xw,p.aM,p.timer,hmin,by show 0<=now+w/\now+w<=212;omega⟩
    obtain⟨y,ey,hy,_⟩:=Mq hp;have hd3:decide (q.2.1=(0:Int))=false:=by rw[q3];rfl
    simp only[Qa,hd3,Ql,hadd,ew,ew2,hadd2,BX hp,ey];exact rest y hy.pre
 ·have hpos:0<x.aD.aG.length:=List.length_pos_iff.2 hc;rw[Qg (by omega:(0:Int)<((x.aD.aG.length:Nat):Int)),Qh (by omega:¬((x.aD.aG.length:Nat):Int)=(0:Int))]
  simp only[Ql,Qk,Qa];exact rest x px
end
theorem ael{nd sl:Int}(hv0:0<=nd)(hv1:nd<10)(hs0:1<=sl)(hs1:sl<=1000000){t:al}{own:ByteArray}{now:Int}(ht:fe t)(ho:own.size<=200)(h0:0<=now)(h1:now<=200):rK nd sl t own now=zF nd sl t own now:=by
 unfold rK zF oZ;simp only[etas,Qg h0,Qg h1,Qh (by omega:¬now<0),Qh (by omega:¬(200:Int)<now),Ql,Qk,Qo,Qa]
 rw[ach hv0 hv1 hs0 hs1 ht,acv hv0 hv1 hs0 hs1 ht,aaA ht hv0 hv1 (by omega) hs1 ho]
 obtain⟨q,eq,q0,g1,g2,g3,g4,g5⟩:=Tj ht hv0 hv1 (show(0:Int)<=sl by omega) hs1 ho
 obtain⟨w,ew,w1,w2⟩:=Ey (c:=1) (by omega) (by omega)
 have hadd2:ay .i64 now w=now+w:=bE (by omega) (by omega)
 have ew2:jV 1=some w:=(Rv (by omega) (by omega)).trans ew
 obtain⟨m1,m2⟩:=Mz (aC:=nd) (aK:=sl) hv0 hv1 hs0 hs1 ht;have ht0:ss ⟨0, -1⟩:=⟨by decide,by decide,by decide,by decide⟩
 have hp:oU nd sl 0 ⟨q.1,BI nd sl t,⟨0, -1⟩,1,now+w,false,ByteArray.mk #[]⟩:=⟨m1,m2,rfl,rfl,g1,by show 1<=q.1.aF/\q.1.aF<=1+0;rw[g5];decide,g2,g3,g4,ht0,⟨(by decide:(1:Int)<=1),(by decide:(1:Int)<=1000)⟩,by show 0<=now+w/\now+w<=212;omega⟩
 rw[eq];simp only[Qa,decide_true,Qo,Ql,q0,ew,ew2,hadd2,BX hp]
end
section
section
variable {nd sl k : Int} {x : bJ} (h : mR nd sl k x) (hk : k <= 999998)
 include h hk
theorem acf{now:Int}(h0:0<=now)(h1:now<=200):Yd (xX x now) fun q=>q.2.1=0/\mR nd sl (k+1) q.1/\nR x.ak q.1.ak/\(x.aD.aG=[]->(now<x.Next->q.1.Round=x.Round)/\(x.Next<=now->q.1.Round=cm (x.Round+1) 1000/\∀w,fK q.1.Round=some w->q.1.Next=now+w))/\(q.1.Round=x.Round\/q.1.Round=cm (x.Round+1) 1000):=by
 have p:=h.pre;have hsq:=p.td;have hrd:=p.round;unfold xX;simp only[etas,Pz h (by omega),Qa,Qo,Ql]
 rw[Qh (by omega:¬now<0),Qh (by omega:¬(200:Int)<now)]
 simp only[Ql,Qa]
 let Q:bJ->Prop:=fun y=>mR nd sl (k+1) y/\nR x.ak y.ak/\(x.aD.aG=[]->(now<x.Next->y.Round=x.Round)/\(x.Next<=now->y.Round=cm (x.Round+1) 1000/\∀w,fK y.Round=some w->y.Next=now+w))/\(y.Round=x.Round\/y.Round=cm (x.Round+1) 1000)
 have hQ:∀{y z:bJ},Q y->mR nd sl (k+1) z->nR y.ak z.ak->z.Round=y.Round->z.Next=y.Next->Q z:=fun{y z} ⟨_,g2,g3,g4⟩ hz hst e1 e2=>⟨hz,fun e=>by
  have a1:=g2 e;have a2:=hst a1.1
  exact⟨a2.1,a2.2.trans a1.2⟩,fun hc=>⟨fun hn=>e1.trans ((g3 hc).1 hn),fun hn=>⟨e1.trans ((g3 hc).2 hn).1,fun w hw=>e2.trans (((g3 hc).2 hn).2 w (by rw[<-e1];exact hw))⟩⟩,g4.imp e1.trans e1.trans⟩
 refine Yd.join (fun v=>Q v.1) (fun v hv=> ?_) (fun j4 hj4=> ?_)
 ·have pv:=hv.1.pre;refine Yd.bind (Ti pv.jY pv.lR pv.timer h0 h1) fun t ht=> ?_
  refine Yd.join (fun w=>Q w.1) (fun w hw=> .some ⟨rfl,hw.1,hw.2.1,hw.2.2.1,hw.2.2.2⟩) (fun j7 hj7=> ?_)
  have pt:oU nd sl (k+1) {v.1 with Timer:=t.1}:=⟨pv.jY,pv.lR,pv.aC,pv.aK,pv.qx,pv.td,pv.xz,pv.xw,pv.aM,ht,pv.round,pv.next⟩
  cases t.2.1 with
  |false=>exact hj7 (_,()) (hQ hv ⟨pt,hv.1.done,hv.1.value⟩ (fun e=>⟨e,rfl⟩) rfl rfl)
  |true=>
   rw[Qk];refine Yd.join (fun w=>oU nd sl (k+1) w.1/\nR v.1.ak w.1.ak/\w.1.Round=v.1.Round/\w.1.Next=v.1.Next) (fun w ⟨hw,hst,r1,r2⟩=> ?_) (fun j9 hj9=> ?_)
   ·refine Yd.bind (Ja hw) fun y ⟨hy,hsy,hsq⟩=>hj7 (y,()) (hQ hv hy (fun e=> ?_) (hsq.round.trans r1) (hsq.next.trans r2))
    have e2:=hst e;have e3:=hsy e2.1;exact⟨e3.1,e3.2.trans e2.2⟩
   ·refine Yd.bind (PT pv.jY pv.lR) fun r hr=> ?_
    rcases hr with⟨r0,hr⟩|hr
    ·rw[r0];exact hj9 (_,()) ⟨pt.XW hr,hr.ext,rfl,rfl⟩
    ·rw[Qh hr];exact hj9 (_,()) ⟨pt,fun e=>⟨e,rfl⟩,rfl,rfl⟩
 ·by_cases hc:x.aD.aG=[]
  ·have e2:decide (((x.aD.aG.length:Nat):Int)=(0:Int))=true:=by rw[hc];rfl
   rw[e2];simp only[Qk,Qa]
   by_cases hn:x.Next<=now
   ·rw[Qg hn,Qk];refine Yd.join (fun v=>oU nd sl (k+1) v.1/\v.1.ak=x.ak/\v.1.Round=x.Round) (fun v ⟨hv,hm,hr⟩=> ?_) (fun j14 hj14=> ?_)
    ·have hvr:=hv.round;have hadd:ay .i64 v.1.Round 1=v.1.Round+1:=bE (by omega) (by omega)
     have hmin:1<=cm (v.1.Round+1) 1000/\cm (v.1.Round+1) 1000<=1000:=by unfold cm;split<;>omega
     rw[hadd];obtain⟨w,ew,w1,w2⟩:=Ey (c:=cm (v.1.Round+1) 1000) (by omega) (by omega)
     rw[ew,Qa];have hadd2:ay .i64 now w=now+w:=bE (by omega) (by omega)
     rw[hadd2];refine Yd.bind (Ja (k:=k+1) (x:=⟨v.1.aD,v.1.ak,v.1.Timer,cm (v.1.Round+1) 1000,now+w,v.1.wP,v.1.Value⟩) ⟨hv.jY,hv.lR,hv.aC,hv.aK,hv.qx,hv.td,hv.xz,hv.xw,hv.aM,hv.timer,hmin,by show 0<=now+w/\now+w<=212;omega⟩) fun y ⟨hy,hst,hsq⟩=>hj4 (y,()) ⟨hy,?_,fun _=>⟨fun hlt=>absurd hlt (by omega),fun _=>⟨hsq.round.trans (by show cm (v.1.Round+1) 1000=_;rw[hr]),fun w' hw'=> ?_⟩⟩,.inr (hsq.round.trans (by show cm (v.1.Round+1) 1000=_;rw[hr]))⟩
     ·have h2:=hst;simp only at h2;rw[hm]at h2;exact h2
     ·have e3:y.Round=cm (v.1.Round+1) 1000:=hsq.round;rw[e3,ew]at hw';obtain rfl:=Option.some.inj hw';exact hsq.next
    ·refine Yd.bind (V9 p.qx ⟨p.td.1,by omega⟩) fun q hq=> ?_
     rcases hq with⟨q0,g1,g2,g3,g4,g5⟩|q3
     ·rw[q0];refine hj14 (_,()) ⟨⟨p.jY,p.lR,p.aC,p.aK,g1,?_,g2.trans p.xz,g3.trans p.xw,g4.trans p.aM,p.timer,p.round,p.next⟩,rfl,rfl⟩
      show 1<=q.1.aF/\q.1.aF<=1+(k+1);rcases g5 with e|e<;>rw[e]<;>omega
     ·rw[q3];exact hj14 (x,()) ⟨p.le (by omega),rfl,rfl⟩
   ·rw[Qh hn];exact hj4 (x,()) ⟨h.le (by omega),fun e=>⟨e,rfl⟩,fun _=>⟨fun _=>rfl,fun e=>absurd e hn⟩,.inl rfl⟩
  ·have hpos:0<x.aD.aG.length:=List.length_pos_iff.2 hc;rw[Qh (by omega:¬((x.aD.aG.length:Nat):Int)=(0:Int))]
   exact hj4 (x,()) ⟨h.le (by omega),fun e=>⟨e,rfl⟩,fun e=>absurd e hc,.inl rfl⟩
end
theorem aaf{t:al}{v aK:Int}{own:ByteArray}(ht:fe t)(h0:0<=v)(h1:v<10)(h2:0<=aK)(h3:aK<=1000000)(ho:own.size<=200):Yd (nk v aK t own) fun q=>q.1.aw=[]:=by
 have hn:cY ⟨v,aK,1,1,t,own,[],[],[],[]⟩:=⟨⟨ht,h0,h1,h2,h3,by show(1:Int)<=1;omega,by show(1:Int)<=1000;omega⟩,ho,.nil,.nil,.nil,fun x hx=>absurd hx QR,fun x hx=>absurd hx QR,List.Pairwise.nil⟩
 unfold nk;simp only[etas,eV ht];rw[Qh (by omega:¬v<0),Qh (by omega:¬(10:Int)<=v),Qh (by omega:¬aK<0),Qh (by omega:¬(1000000:Int)<aK),Qh (by omega:¬(200:Int)<((own.size:Nat):Int))]
 simp only[Ql,Qa,decide_true,Qo];rw[Ga hn.HS ⟨by show(0:Int)<=1;omega,by show(1:Int)<=1000000;omega⟩ hn,Qa]
 exact .some (Sn hn).1
theorem acK{nd sl:Int}(hv0:0<=nd)(hv1:nd<10)(hs0:1<=sl)(hs1:sl<=1000000){t:al}{own:ByteArray}{now:Int}(ht:fe t)(ho:own.size<=200)(h0:0<=now)(h1:now<=200):Yd (zF nd sl t own now) fun q=>q.2.1=0/\mR nd sl 0 q.1/\q.1.aD.aw=[]/\q.1.ak.aw=[]/\q.1.Round=1/\∀w,fK 1=some w->q.1.Next=now+w:=by
 unfold zF;simp only[etas];rw[Qh (by omega:¬now<0),Qh (by omega:¬(200:Int)<now)]
 simp only[Ql,Qa];rw[ach hv0 hv1 hs0 hs1 ht];simp only[Qa,decide_true,Qo,Ql];obtain⟨q,eq,q0,g1,g2,g3,g4,g5⟩:=Tj ht hv0 hv1 (show(0:Int)<=sl by omega) hs1 ho
 obtain⟨q',eq',hh⟩:=aaf ht hv0 hv1 (show(0:Int)<=sl by omega) hs1 ho
 rw[eq]at eq';obtain rfl:=Option.some.inj eq';rw[eq,Qa,q0];simp only[decide_true,Qo,Ql];obtain⟨w,ew,w1,w2⟩:=Ey (c:=1) (by omega) (by omega)
 have hadd2:ay .i64 now w=now+w:=bE (by omega) (by omega)
 rw[ew,Qa,hadd2];obtain⟨m1,m2⟩:=Mz (aC:=nd) (aK:=sl) hv0 hv1 hs0 hs1 ht;have ht0:ss ⟨0, -1⟩:=⟨by decide,by decide,by decide,by decide⟩
 refine Yd.bind (Ja (k:=0) (x:=⟨q.1,BI nd sl t,⟨0, -1⟩,1,now+w,false,ByteArray.mk #[]⟩) ⟨m1,m2,rfl,rfl,g1,by show 1<=q.1.aF/\q.1.aF<=1+0;rw[g5];decide,g2,g3,g4,ht0,⟨(by decide:(1:Int)<=1),(by decide:(1:Int)<=1000)⟩,by show 0<=now+w/\now+w<=212;omega⟩) fun y ⟨hy,_,hsq⟩=> .some ⟨rfl,hy,?_,hsq.heard,hsq.round,fun w' hw'=> ?_⟩
 ·show y.aD.aw=[];rw[hsq.qx];exact hh
 ·obtain rfl:=Option.some.inj hw';exact hsq.next
end
section
end
section
end
section
theorem Cv(l:List Int)(b:Int)(hb:0<=b/\b<256):uX l b=some true:=by
 have hF:qf 3 3=some ⟨3,sJ 3,[]⟩:=Ub 3 (by omega) 3
 have ht:fe ⟨3,sJ 3,[]⟩:=⟨fun x hx=>by obtain⟨k,hk,rfl⟩:=HC.1 hx;omega,by decide,by decide,.inl rfl,by decide⟩
 obtain⟨now,hnow,hn0,hn1⟩:∃now,xk .i64 (bq .i64 b) 50=now/\0<=now/\now<50:=by
  have e1:bq .i64 b=b:=wrap64 (by omega) (by omega)
  have e2:xk .i64 b 50=b.tmod 50:=rfl;rw[e1,e2];exact⟨_,rfl,Int.tmod_nonneg 50 hb.1,Int.tmod_lt_of_pos b (by omega)⟩
 unfold uX;refine Yd.eq_true ?_;refine Yd.bind (adq l) fun s hO=> ?_
 rw[hF,Qa];refine Yd.bind (Zb hO) fun p3 ⟨hO3,hv⟩=> ?_
 simp only[bJ.eta,ar.eta,ab.eta,etas,ab8,hnow,aP];rw[ael (nd:=0) (sl:=1) (by omega) (by omega) (by omega) (by omega) ht (VU hv).2 (by omega) (by omega)]
 refine Yd.bind (acK (nd:=0) (sl:=1) (by omega) (by omega) (by omega) (by omega) ht (VU hv).2 (by omega) (by omega)) fun r4 ⟨r0,hx,_,_,hr,hnx⟩=> ?_
 obtain⟨w,ew,w1,w2⟩:=Ey (c:=1) (by omega) (by omega)
 have hadd:ay .i64 now w=now+w:=bE (by omega) (by omega)
 rw[r0,ew];simp only[decide_true,Qo,Ql,Qa,hadd,Qg (hnx w ew)];refine Yd.A7 (fun(v:Int×bJ×Unit)=>1<=v.1/\v.1<=40/\mR 0 1 v.1 v.2.1/\v.2.1.Round<=v.1) (fun v=>(40 - v.1).toNat) ?_ ⟨Int.le_refl _,by show(1:Int)<=40;omega,hx.le (by omega),by show r4.1.Round<=1;omega⟩
 rintro⟨k,x,u⟩ ⟨a1,a2,a3,a4⟩;simp only at a1 a2 a3 a4;simp only
 by_cases hk:k<40
 ·rw[Qg hk,Qk];have e1:ay .i64 now k=now+k:=bE (by omega) (by omega)
  have e2:ay .i64 k 1=k+1:=bE (by omega) (by omega)
  have hrd:=a3.pre.round;have e3:ay .i64 x.Round 1=x.Round+1:=bE (by omega) (by omega)
  have e4:cm (x.Round+1) 1000=x.Round+1:=by unfold cm;split<;>omega
  rw[e1,ac5 a3 (by omega) (by omega) (by omega)]
  refine Yd.bind (acf a3 (by omega) (by omega) (by omega)) fun q ⟨q0,hy,_,hc,hrr⟩=> ?_
  rw[q0];simp only[decide_true,Qo,Ql,e2,e3];rw[e4]at hc hrr
  have fin:Yd (some (Sum.inl (k+1,q.1,())):Option ((Int×bJ×Unit)⊕Bool)) (Lp (fun s'=>(1<=s'.1/\s'.1<=40/\mR 0 1 s'.1 s'.2.1/\s'.2.1.Round<=s'.1)/\(40 - s'.1).toNat<(40 - k).toNat) (fun r=>r=true)):=
   .some ⟨⟨by show 1<=k+1;omega,by show k+1<=40;omega,hy,by show q.1.Round<=k+1;rcases hrr with e|e<;>omega⟩,by show(40 - (k+1)).toNat<(40 - k).toNat;omega⟩
  by_cases hcd:x.aD.aG=[]
  ·have e5:decide (((x.aD.aG.length:Nat):Int)=(0:Int))=true:=by rw[hcd];rfl
   rw[e5,Qk];obtain⟨g1,g2⟩:=hc hcd
   by_cases hlt:now+k<x.Next
   ·rw[Qg hlt,Qh (by omega:¬x.Next<=now+k),Qg (g1 hlt)]
    exact fin
   ·obtain⟨g3,g4⟩:=g2 (by omega)
    obtain⟨w',ew',w1',w2'⟩:=Ey (c:=q.1.Round) (by omega) (by omega)
    have e6:ay .i64 (now+k) w'=now+k+w':=bE (by omega) (by omega)
    rw[Qh hlt,Qg (by omega:x.Next<=now+k),Qg g3,ew']
    simp only[Qk,Ql,Qo,Qa,e6,Qg (g4 w' ew')];exact fin
  ·have hpos:0<x.aD.aG.length:=List.length_pos_iff.2 hcd;rw[Qh (by omega:¬((x.aD.aG.length:Nat):Int)=(0:Int))]
   exact fin
 ·rw[Qh hk];exact .some rfl
end
end Go.Proofs.YtjbfdglebjnelaaGreat
end
noncomputable section
namespace Go.TQ
open Go.RowKit
theorem rep_ints{w:World}{M:Nat->Prop}{G:Gh}{a:Option Addr}{len cap:Nat}{zs:List Int}(hM:∀b,¬M b)
  (h:(a=none/\len=0/\cap=0/\zs=[])\/∃x,a=some x/\len<=cap/\cap<=maxLen/\zs.length=cap/\(∀i,i<zs.length->w.cell? (x.add i)=some (.int .i64 (zs.getD i 0)))/\∀n∈zs,(Lit.int .i64 n).wf=true):
  bg w M G (.sl ((zs.take len).map fun n=>[.int .i64 n])) (.slice a len cap):=by
 rcases h with⟨rfl,rfl,rfl,rfl⟩|⟨x,rfl,h1,h2,h3,h4,_⟩
 ·exact .slnil
 ·have hfl:∀l:List Int,(l.map fun n=>[PV.int .i64 n]).flatten=l.map fun n=> .int .i64 n:=by
   intro l
   induction l with
   |nil=>rfl
   |cons n l ih=>simp only[QD,List.flatten_cons,ih];rfl
  have hlen:((zs.take len).map fun n=>[PV.int .i64 n]).length=len:=by simp;omega
  have:=bg.sl (w:=w) (M:=M) (G:=G) ((zs.take len).map fun n=>[.int .i64 n]) x cap 1 ((zs.take len).map fun n=> .int .i64 n) (fun e he=>by obtain⟨n,_,rfl⟩:=QP.1 he;rfl) (by rw[hfl];simp)
   (fun i v hv=> ?_) (fun i y v hy hv=> ?_) (by rw[hlen];exact h1) h2
  ·rw[hlen]at this;exact this
  ·refine⟨?_,hM _⟩;rw[QT,Qb]at hv;obtain⟨n,hn,rfl⟩:=hv;rw[Qq68]at hn;split at hn
   ·have hi:i<zs.length:=(Qw.1 hn).1;rw[h4 i hi,List.getD_eq_getElem?_getD,hn];rfl
   ·cases hn
  ·rw[hfl]at hy;rw[QT]at hy hv;rw[Qb]at hy hv;obtain⟨n,hn,rfl⟩:=hy;obtain⟨n',hn',rfl⟩:=hv;rw[hn]at hn';injection hn' with e
   subst e;exact .int _ _
theorem law_calls{P:Program}{f:FuncId}{args:List PV}{vs:List Value}{w:World}(h:Con P f false [] args (.bool true) [])(hr:bf w (fun _=>False) dj args vs):
  Calls P f vs.toArray w fun e w'=>e= .returned (.bool true)/\Below w.heap.size w w':=by
 refine(h w (fun _=>False) (fun _ hb=>hb.elim) 0 0 [] vs (fun hq=>by cases hq) ?_).mono ?_
 ·exact⟨hr.1,fun i x v hx hv=>(hr.2 i x v hx hv).mono (dI.of fun _ _=>fun hq=>by rcases hq with⟨hq,_⟩|hq;cases hq;exact hq) (Gh.le.refl _)⟩
 ·rintro e w' ⟨v,_,rfl,hv,_,hF⟩;refine⟨by rw[hv.nh],hF.os,hF.tape,hF.output,hF.size,fun k hk=>hF.block k hk (by simp)⟩
end Go.TQ
end
