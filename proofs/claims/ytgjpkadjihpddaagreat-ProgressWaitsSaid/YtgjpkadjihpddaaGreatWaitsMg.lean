/-
  Texts made small by a program (see NOTES). Conditions: those that each theorem names.
-/
import Derived.Test.YtgjpkadjihpddaaGreatWaitsMf
set_option linter.unusedVariables false
set_option linter.unusedSimpArgs false
set_option linter.unusedSectionVars false
set_option maxHeartbeats 2000000
noncomputable section
namespace Go.Proofs.YtgjpkadjihpddaaGreat
open Go.TQ
section
theorem af7{rec:(aa×Unit)->Option Int}{t:aa}(hm:cJ t)(hr:∀u∈t.aG,∃r,rec (u,())=some r):Yd (ob rec t) fun _=>True:=by
 have hn:=hm.nodes;have hl:=hm.len;unfold ob;simp only[etas];refine Yd.list t.au (by omega) (fun i (s:Int)=>(s,i,())) (fun _ _=>True) (fun i x s _ _ hx hi hd hw ha=> ?_) (fun s _ hd=> ?_) (s:=0) trivial
 ·simp only[hd,Qk,hw,Qa];refine Yd.join (fun _=>True) (fun v _=> .some ⟨_,by rw[ha],trivial⟩) (fun j' hj=> ?_)
  by_cases h0:(0:Int)<=x
  ·rw[Qg h0];simp only[Qk,Qa];refine Yd.cond (fun _=> ?_) (fun _=>hj _ trivial)
   rw[Qs (by omega)]
   exact hj _ trivial
  ·rw[Qh h0];exact hj _ trivial
 ·simp only[hd,Ql];refine Yd.inr ?_;show Yd _ fun _=>True
  refine Yd.list t.aG (by omega) (fun i (s:Int)=>(s,i,())) (fun _ _=>True) (fun i x s _ _ hx hi hd hw ha=> ?_) (fun s _ hd=> ?_) (s:=s) trivial
  ·simp only[hd,Qk,hw,Qa];obtain⟨r,hr⟩:=hr x hx;rw[hr,Qa];exact .some ⟨_,by rw[ha],trivial⟩
  ·simp only[hd,Ql];exact .some trivial
theorem af4{n:Nat}:∀{t:aa},SizeOf.sizeOf t<n->cJ t->∃r,ma n (t,())=some r:=by
 induction n with
 |zero=>intro t h;omega
 |succ n ih=>
  intro t hz hm;show∃r,ob (ma n) t=some r;obtain⟨r,hr,_⟩:=af7 (rec:=ma n) hm fun u hu=>ih (t:=u) (by have:=iA hu;omega) (hm.inner u hu)
  exact⟨r,hr⟩
theorem X8{t:aa}(h:cJ t):∃r,uE t=some r:=af4 (by omega) h
def Wq(k T:Int)(q:aS×Int×Unit):Prop:=q.2.1=0->gg k q.1/\q.1.Time=T
theorem Wq.no{k T e:Int}{z:aS}(he:e≠0):Yd (some (z,e,())) (Wq k T):= .some fun h0=>absurd h0 he
structure tt (x:dx):Prop where
 c1:x.bu=1->1<=x.aK/\x.aK<=1000000/\x.Value.size<=200
 c8:x.bu=8->1<=x.aK/\x.aK<=1000000/\nf x.Value
 c3:x.bu=3->cn x.ab
 c5:x.bu=5->Fy x.ao x.aF
 c6:x.hY.length<=1000000
section
variable {k : Int} {w : aS} (h : gg k w) (hk0 : 0 <= k) (hk : k <= 990000) {x : dx}
 include h hk0 hk
theorem aeM{m:Nat}(hm:x.ao=m)(hml:m<w.au.length)(hL:Fy x.ao x.aF):Yd (yl w x) (Wq k w.Time):=by
 have hn1:=h.n1;unfold yl;simp only[aN.eta,aj.eta,bM.eta,etas];refine Yd.bool (Ge w (by omega) (by omega)) fun r1=>Yd.bool (or_some ?_) fun b3=>Yd.bool (or_some ⟨_,rfl⟩) fun b4=>Yd.cond (fun _=>Wq.no (by decide)) (fun _=> ?_)
 ·obtain⟨r2,h2,_⟩:=UT w x.To;exact⟨!r2,by rw[h2];rfl⟩
 refine Yd.bool (Ca ⟨_,rfl⟩) fun b5=>Yd.bool (or_some ?_) fun b7=>Yd.cond (fun _=>Wq.no (by decide)) (fun _=>Yd.bool (Ca ⟨_,rfl⟩) fun b8=>Yd.cond (fun _=>Wq.no (by decide)) (fun _=> ?_))
 ·cases decide (x.aF.bu=(2:Int))<;>exact⟨_,rfl⟩
 refine(Yi h.BN hL w.Time).bind fun z hz=>Yd.cond (fun z0=> .some fun e=> ?_) (fun z0=> .some fun _=>⟨h.Wa (hz (by simpa using z0)),rfl⟩)
 rw[Qg (show z.2.1=0 from e)]at z0
 cases z0
theorem afG{m:Nat}(hm:x.ao=m)(hml:m<w.au.length)(ht:cn x.ab):Yd (tx w x) (Wq (k+1) w.Time):=by
 have hn1:=h.n1;have ht0:=h.t0;have ht1:=h.t1;have htl:=h.tl;have hP:=h.nodes m _ (Qv hml);have hT:w.bO[m]?=some w.bO[m]:=Qv (by omega)
 obtain⟨g1,g0⟩:=h.tr _ (QZ (show m<w.bO.length by omega))
 have g2:∀t∈w.bO[m],cJ t:=fun t ht=>(g0 t ht).sm
 unfold tx;simp only[etas,az.eta];rw[hm,aP,Qv hml,Qa];refine Yd.cond (fun _=>Wq.no (by decide)) (fun _=> ?_)
 refine Yd.join (fun _=>True) (fun v _=>Yd.cond (fun _=>Wq.no (by decide)) (fun _=> ?_)) (fun j' hj=> ?_)
 ·rw[aP,hT,Qa];obtain⟨r5,h5⟩:=W8 _ (by omega) g2 x.ab
  rw[h5,Qa]
  obtain⟨b7,h7,h7'⟩:∃b7,(bif (!r5)then Option.bind (some w.bO[m]) fun x6=>some (decide ((4:Int)<=((List.length x6:Nat):Int)))else some false)=some b7/\(b7=false->r5=false->w.bO[m].length<4):=by
   cases r5 with
   |true=>exact⟨false,rfl,fun _ e=>by cases e⟩
   |false=>exact⟨_,rfl,fun e _=>by have:=of_decide_eq_false e;omega⟩
  rw[h7,Qa];refine Yd.cond (fun _=>Wq.no (by decide)) (fun hb7=> ?_)
  refine(afH hP (by omega) (by omega) (now:=0) (by omega) (by omega) ht).bind fun y hy=>Yd.cond (fun y0=> .some fun e=> ?_) (fun y0=> ?_)
  ·rw[Qg (show y.2.1=0 from e)]at y0
   cases y0
  ·have y0:y.2.1=0:=by simpa using y0
   rcases hy with⟨_,hy⟩|hy
   ·refine(KP h (show k<=k+1 by omega) hml hy).bind fun z ⟨z1,z2⟩=> ?_
    have zt:z.Time=w.Time:=by rw[z1]
    have zT:z.bO=w.bO:=by rw[z1]
    refine Yd.join (fun v=>gg (k+1) v.1/\v.1.Time=w.Time) (fun v hv=> .some fun _=>hv) (fun j' hj=> ?_)
    refine Yd.cond (fun hr=> ?_) (fun _=>hj _ ⟨z2,zt⟩)
    have h4:=h7' hb7 (by simpa using hr)
    rw[zT,ba (by omega),Qk,QV]
    simp only[aP,hT,Qa];rw[ba (by omega),Qk,ba (by simp;omega),Qk]
    refine hj _ ⟨⟨z2.t0,z2.t1,z2.n0,z2.n1,z2.nodes,z2.BN,?_,fun l hl=> ?_⟩,zt⟩
    ·show(w.bO.set m _).length=z.au.length;rw[QX,<-zT];exact z2.tl
    ·rcases List.mem_or_eq_of_mem_set (show l∈w.bO.set m _ from hl)with hl|rfl
     ·exact h.tr l hl
     ·refine⟨by simp;omega,fun t ht'=> ?_⟩
      rcases Qz.1 ht' with ht'|ht'
      ·exact g0 t ht'
      ·rw[Q4.1 ht'];exact ht
   ·exact absurd y0 hy
 ·rw[jH ht.sm,Qa];refine Yd.cond (fun _=>hj _ trivial) (fun _=> ?_)
  obtain⟨r,hr⟩:=X8 ht.sm;rw[hr,Qa,CX (by omega),Qs (by omega)]
  exact hj _ trivial
end
def JW(s:Int)(w:aS):Prop:=gg (4100*w.Time+2*s) w
theorem ah7{s:Int}{w:aS}(h:JW s w)(hs0:0<=s)(hs:s<=400){x:dx}(hx:tt x):Yd (Bn w x) fun q=>q.2.1=0->JW (s+1) q.1:=by
 have hI:gg (4100*w.Time+2*s) w:=h;have ht0:=hI.t0;have ht1:=hI.t1;have no:∀{z:aS} {e:Int},e≠0->Yd (some (z,e,())) fun q:aS×Int×Unit=>q.2.1=0->JW (s+1) q.1:=fun he=> .some fun h0=>absurd h0 he
 have fin:∀{z:aS} {k:Int},k<=4100*w.Time+2*s+1->gg k z->z.Time=w.Time->JW (s+1) z:=fun hk hz ht=>by
  show gg _ _;rw[ht];exact hz.le (by omega)
 unfold Bn;simp only[aN.eta,aj.eta,bM.eta,etas,az.eta,dx.eta];refine(aed hI (by omega)).bind fun r1 _=>Yd.cond (fun _=>no (by decide)) (fun _=> ?_)
 obtain⟨b2,h2,g2⟩:∃b2,(bif (decide (x.bu<(1:Int)))then some true else some (decide ((8:Int)<x.bu)))=some b2/\(b2=false->1<=x.bu/\x.bu<=8):=by
  by_cases e:x.bu<1
  ·exact⟨true,by rw[Qg e];rfl,fun e=>by cases e⟩
  ·exact⟨_,by rw[Qh e];rfl,fun e'=>⟨by omega,by have:=of_decide_eq_false e';omega⟩⟩
 rw[h2,Qa];refine Yd.cond (fun _=>no (by decide)) (fun hb2=> ?_)
 obtain⟨kd1,kd8⟩:=g2 hb2;obtain⟨rt,hrt,hrt'⟩:=UT w x.ao
 by_cases k2:x.bu=2
 ·simp only[Qg k2,Qo,Ql,Qk,Qa]
  obtain⟨b6,h6,g6⟩:∃b6,(bif (decide (x.Count<(1:Int)))then some true else some (decide ((200:Int)<x.Count)))=some b6/\(b6=false->x.Count<=200):=by
   by_cases e:x.Count<1
   ·exact⟨true,by rw[Qg e];rfl,fun e=>by cases e⟩
   ·exact⟨_,by rw[Qh e];rfl,fun e'=>by have:=of_decide_eq_false e';omega⟩
  rw[h6,Qa];refine Yd.cond (fun _=>no (by decide)) (fun hb6=> ?_)
  have hc:=g6 hb6;refine Yd.CW (fun u=>∃(i:Nat) (v z:aS),u=((i:Int),v,z,())/\JW s v) (fun u=>(x.Count - u.1).toNat) (fun u hu=> ?_) ⟨0,w,_,rfl,h⟩
  obtain⟨i,v,z,rfl,hv⟩:=hu;have hV:gg (4100*v.Time+2*s) v:=hv;have hv0:=hV.t0;have hv1:=hV.t1;refine Yd.cond (fun hi=> ?_) (fun _=> ?_)
  ·have hi:(i:Int)<x.Count:=of_decide_eq_true hi;refine(aeH hV (by omega) (by omega)).bind fun q hq=>Yd.cond (fun q0=> .some fun e=> ?_) (fun q0=> ?_)
   ·rw[Qg (show q.2.1=0 from e)]at q0
    cases q0
   ·obtain⟨f1,f2⟩:=hq (by simpa using q0)
    refine .some ⟨⟨i+1,q.1,z,?_,?_⟩,?_⟩
    ·show(aq .i64 (i:Int) 1,q.1,z,())=_;rw[bN (by omega) (by omega)]
     rfl
    ·show gg _ _;rw[f2];exact f1.le (by omega)
    ·show(x.Count - aq .i64 (i:Int) 1).toNat<(x.Count - (i:Int)).toNat;rw[bN (by omega) (by omega)]
     omega
  ·refine .some fun _=> ?_
   show gg (4100*v.Time+2*(s+1)) v;exact hV.le (by omega)
 by_cases k6:x.bu=6
 ·simp only[Qh k2,Qg k6,Qo,Qp,Ql,Qk,Qa];refine(ac5 hI.BN hx.c6).bind fun z hz=>Yd.cond (fun z0=> .some fun e=> ?_) (fun z0=> .some fun _=>fin (by omega) (hI.Wa (hz (by simpa using z0))) rfl)
  rw[Qg (show z.2.1=0 from e)]at z0
  cases z0
 simp only[Qh k2,Qh k6,Qp,Ql,Qk,hrt,Qa];refine Yd.cond (fun _=>no (by decide)) (fun hb5=> ?_)
 obtain⟨m,hm,hml⟩:=hrt' (by simpa using hb5)
 have hn1:=hI.n1;refine Yd.cond (fun _=> ?_) (fun k7=>Yd.cond (fun k5=> ?_) (fun k5=> ?_))
 ·refine(aa8 hI.BN x.ao x.To x.Count).bind fun z hz=>Yd.cond (fun z0=> .some fun e=> ?_) (fun z0=> .some fun _=>fin (by omega) (hI.Wa (hz (by simpa using z0))) rfl)
  rw[Qg (show z.2.1=0 from e)]at z0
  cases z0
 ·refine(aeM hI (by omega) (by omega) hm hml (hx.c5 (of_decide_eq_true k5))).bind fun z hz=> .some fun e=> ?_
  obtain⟨f1,f2⟩:=hz e;exact fin (by omega) f1 f2
 refine Yd.bool (Ge w (by omega) (by omega)) fun r12=>Yd.cond (fun _=>no (by decide)) (fun _=> ?_)
 rw[hm,aP,Qv hml,Qa];have hP:=hI.nodes m _ (Qv hml);refine Yd.join (fun v=>v.1=0->mI (m:Int) (4100*w.Time+2*s) v.2.2.1) (fun v hv=>Yd.cond (fun v0=> .some fun e=> ?_) (fun v0=> ?_)) (fun j' hj=> ?_)
 ·rw[Qg (show v.1=0 from e)]at v0
  cases v0
 ·refine(KP hI (Int.le_refl _) hml (hv (by simpa using v0))).bind fun z ⟨z1,z2⟩=> .some fun _=>fin (by omega) z2 (by rw[z1])
 have got:∀{y:az×Int×Unit} {z:aS},Pq (m:Int) (4100*w.Time+2*s) y->Yd (j' (y.2.1,z,y.1,())) fun q:aS×Int×Unit=>q.2.1=0->JW (s+1) q.1:=fun hy=>hj _ fun e=>by
  rcases hy with⟨_,hy⟩|hy
  ·exact hy
  ·exact absurd e hy
 refine Yd.cond (fun k1=> ?_) (fun k1=>Yd.cond (fun k8=> ?_) (fun k8=>Yd.cond (fun k4=> ?_) (fun k4=> ?_)))
 ·obtain⟨c1,c2,c3⟩:=hx.c1 (of_decide_eq_true k1);exact(afa hP (by omega) (by omega) c1 c2 ht0 ht1 c3).bind fun y hy=>got hy
 ·obtain⟨c1,c2,c3⟩:=hx.c8 (of_decide_eq_true k8);exact(aaA hP (by omega) (by omega) c1 c2 ht0 ht1 c3).bind fun y hy=>got hy
 ·exact(aeJ hP (by omega) (by omega)).bind fun y hy=>hj _ fun _=>hy
 ·have k1:=of_decide_eq_false k1;have k8:=of_decide_eq_false k8;have k4:=of_decide_eq_false k4;have k5:=of_decide_eq_false k5;have k7:=of_decide_eq_false k7;refine(afG hI (by omega) (by omega) hm hml (hx.c3 (by omega))).bind fun z hz=> .some fun e=> ?_
  obtain⟨f1,f2⟩:=hz e;exact fin (by omega) f1 f2
theorem acz{c:av}(hc:∀m∈c.ay,cJ m.ab):Yd (et c) fun e=>e=0->c.ay.length<=10:=by
 unfold et;simp only[etas];refine Yd.cond (fun _=> .some fun e=>absurd e (by decide)) (fun hl=> ?_)
 have hl:=of_decide_eq_false hl;refine Yd.list c.ay (by omega) (fun i (_:Unit)=>(i,())) (fun _ _=>True) (fun i x s _ _ hx hi hd hw ha=> ?_) (fun s _ hd=> ?_) (s:=()) trivial
 ·have hs:=hc x hx;have hle:c.ay.length<=10:=by omega
  simp only[hd,Qk,hw,Qa];refine Yd.join (fun _=>True) (fun v _=> .some ⟨(),by rw[ha],trivial⟩) (fun j' hj=>Yd.cond (fun _=> ?_) (fun _=> ?_))
  ·obtain⟨r,hr,_⟩:=B0 (a:=x.ab) (b:=aa.mk (0:Int) ([]:List Int) ([]:List aa)) hs;rw[hr,Qa];exact Yd.cond (fun _=> .some fun _=>hle) (fun _=>hj _ trivial)
  ·rw[jH hs,Qa];refine Yd.cond (fun _=> .some fun _=>hle) (fun _=> ?_)
   obtain⟨r,hr⟩:=X8 hs;rw[hr,Qa,Qs (by omega)]
   exact Yd.cond (fun _=> .some fun _=>hle) (fun _=>hj _ trivial)
 ·simp only[hd,Ql];exact .some fun _=>by omega
theorem abV{c:av}(hc:∀m∈c.ay,cn m.ab)(hc4:c.ay.length<=4)(ill:Int):Yd (pR c ill) fun q=>q.2.1=0->JW 0 q.1:=by
 have no:∀{z:aS} {e:Int},e≠0->Yd (some (z,e,())) fun q:aS×Int×Unit=>q.2.1=0->JW 0 q.1:=fun he=> .some fun h0=>absurd h0 he
 unfold pR;simp only[etas];refine(acz fun m hm=>(hc m hm).sm).bind fun r hr=>Yd.cond (fun r0=>no (by simpa using r0)) (fun r0=> ?_)
 have hl:=hr (by simpa using r0)
 refine Yd.list c.ay (by omega) (fun i (s:aS)=>(i,s,())) (fun _ _=>True) (fun i x s _ _ hx hi hd hw ha=> ?_) (fun s _ hd=> ?_) (s:=_) trivial
 ·simp only[hd,Qk,hw,Qa];exact Yd.cond (fun _=> .some fun e=>absurd e (by decide)) (fun _=> .some ⟨s,by rw[ha],trivial⟩)
 ·simp only[hd,Ql];refine Yd.inr ?_
  obtain⟨b4,h4,g4⟩:∃b4,(bif (decide (((List.length c.ay:Nat):Int)=(0:Int)))then some true else some (decide (ill<(0:Int))))=some b4/\(b4=false->1<=c.ay.length):=by
   by_cases e:((List.length c.ay:Nat):Int)=0
   ·exact⟨true,by rw[Qg e];rfl,fun e=>by cases e⟩
   ·exact⟨_,by rw[Qh e];rfl,fun _=>by omega⟩
  rw[h4,Qa,CX (by omega),Qs (by omega)]
  cases b4 with
  |true=>exact no (by decide)
  |false=>
   have hl1:=g4 rfl;simp only[Ql,Qa];refine Yd.cond (fun _=>no (by decide)) (fun _=> ?_)
   show Yd _ fun q:aS×Int×Unit=>q.2.1=0->JW 0 q.1
   refine Yd.list c.ay (by omega) (fun i (s:aS×List az×List (List aa))=>(i,s.1,s.2.1,s.2.2,()))
    (fun i s=>(s.1.Time=0/\s.1.Net=⟨[],0,[],[]⟩)/\(s.2.1.length=i/\s.2.2.length=i)/\(∀(j:Nat) (x:az),s.2.1[j]?=some x->mI (j:Int) 0 x)/\∀l∈s.2.2,l.length<=4/\∀t∈l,cn t) (fun i x s ⟨g1,g2,g3,g5⟩ _ hx hi hd hw ha=> ?_) (fun s ⟨g1,g2,g3,g5⟩ hd=> ?_)
    (s:=(⟨0,[],ill,⟨[],0,[],[]⟩,[]⟩,[],[])) ⟨⟨rfl,rfl⟩,⟨rfl,rfl⟩,fun j x hx=>by simp at hx,fun l hl=>by cases hl⟩
   ·have hg:=hc x hx;simp only[hd,Qk,hw,Qa];rw[ba (by simp;omega),Qk,ba (by simp;omega),Qk,ha]
    refine .some ⟨({s.1 with au:=[],bO:=[]},s.2.1++[_],s.2.2++[_]),rfl,g1,⟨by simp;omega,by simp;omega⟩,fun j y hy=> ?_,fun l hl=> ?_⟩
    ·have hy:(s.2.1++[(az.mk (i:Int) false x.ab ([]:List bG))])[j]?=some y:=hy;rcases Nat.lt_trichotomy j i with hj|rfl|hj
     ·rw[List.getElem?_append_left (by omega)]at hy
      exact g3 j y hy
     ·rw[List.getElem?_append_right (by omega),g2.1,Nat.sub_self]at hy
      injection hy with hy
      rw[<-hy];exact⟨rfl,by omega,by omega,hg,QS _,fun x hx=>by cases hx⟩
     ·rw[List.getElem?_append_right (by omega),Qq71 (by simp;omega)]at hy
      cases hy
    ·rcases Qz.1 (show l∈s.2.2++[[x.ab]]from hl)with hl|hl
     ·exact g5 l hl
     ·rw[Q4.1 hl];exact⟨by simp,fun t ht=>by rw[Q4.1 ht];exact hg⟩
   ·simp only[hd,Ql];refine .some fun _=> ?_
    show gg (4100*s.1.Time+2*0) {s.1 with au:=s.2.1,bO:=s.2.2}
    rw[g1.1];exact⟨by show 0<=s.1.Time;rw[g1.1];omega,by show s.1.Time<=200;rw[g1.1];omega,by show 1<=s.2.1.length;omega,by show s.2.1.length<=4;omega,g3,by show wT s.1.Net;rw[g1.2];exact⟨QS _,(fun q hq=>by cases hq),QS _,.inl rfl⟩,by show s.2.2.length=s.2.1.length;omega,g5⟩
def XR(w:aS):Prop:=w=⟨0,[],0,⟨[],0,[],[]⟩,[]⟩\/∃s,0<=s/\s<=400/\JW s w
theorem agq{c:av}(hc:∀m∈c.ay,cn m.ab)(hc4:c.ay.length<=4)(ill:Int){l:List dx}(hl:l.length<=400)(hs:∀x∈l,tt x):Yd (zR c ill l) fun q=>XR q.1:=by
 unfold zR;simp only[aN.eta,aj.eta,bM.eta,etas,dx.eta];refine(abV hc hc4 ill).bind fun r hr=>Yd.cond (fun _=> .some (.inl rfl)) (fun r0=> ?_)
 have hJ:=hr (by simpa using r0)
 refine Yd.cond (fun _=> .some (.inr ⟨0,by omega,by omega,hJ⟩)) (fun _=> ?_)
 refine Yd.list l (by omega) (fun i (s:aS×aS)=>(i,s.1,s.2,())) (fun i s=>JW (i:Int) s.2) (fun i x s g _ hx hi hd hw ha=> ?_) (fun s g hd=> ?_) (s:=(_,r.1)) hJ
 ·simp only[hd,Qk,hw,Qa];refine(ah7 g (by omega) (by omega) (hs x hx)).bind fun q hq=>Yd.cond (fun _=> .some (.inr ⟨i,by omega,by omega,g⟩)) (fun q0=> .some ⟨(s.1,q.1),by rw[ha],?_⟩)
  have:=hq (by simpa using q0)
  show JW ((i+1:Nat):Int) q.1;rw[show((i+1:Nat):Int)=(i:Int)+1 by omega]
  exact this
 ·simp only[hd,Ql];exact .some (.inr ⟨(l.length:Int),by omega,by omega,g⟩)
end
section
structure N8 (aJ:Int) (e:aj):Prop where
 aJ:e.ao=aJ
 aR:cn e.ab
 val:e.af.Value.size<=2
theorem Db{e:aj}(h:cn e.ab):Yd (de e) fun _=>True:=
 ⟨_,Cj (jH h.sm),trivial⟩
theorem XW{s:cv}(h:gO s){aJ bx:Int}{n:Nat}(hn2:1<=n)(hn:n<=10):
  Yd (om s aJ bx n) fun p=>gO p.2/\N8 aJ p.1:=by
 unfold om;refine(mH h (by omega) (by omega) (by omega)).bind fun p1 ⟨a1,a2,a3,_⟩=> ?_
 refine(KN a1 hn2 hn).bind fun p2 ⟨b1,b2,b3,b4⟩=> ?_
 refine(Cc b1).bind fun p3 ⟨c1,c2⟩=> ?_
 have c3:=c2.size;simp only[etas];have z0:gY.size<=2:=by decide
 refine Yd.join (fun v=>gO v.1/\N8 aJ v.2.1) (fun v hv=>Yd.some hv) fun j5 hj5=> ?_
 refine(jy c1 (by omega)).bind fun p6 ⟨d1,_⟩=> ?_
 refine Yd.join (fun v=>gO v.1/\v.2.1.ao=aJ/\v.2.1.ab=p2.1) (fun v ⟨hv1,hv2,hv3⟩=> ?_) fun j8 hj8=> ?_
 ·refine Yd.join (fun v=>gO v.1/\N8 aJ v.2.1) (fun v hv=>hj5 _ hv) fun j10 hj10=> ?_
  refine(mH hv1 (by omega) (by omega) (by omega)).bind fun p11 ⟨e1,e2,e3,_⟩=> ?_
  have e4:=e3 (by omega)
  refine Yd.join (fun v=>gO v.1/\N8 aJ v.2.1/\v.2.1.af.ah=p11.1) (fun v ⟨f0,f1,f6⟩=> ?_) fun j13 hj13=> ?_
  ·rw[f6];have g1:aq .i64 p11.1 1=p11.1+1:=bN (by omega) (by omega)
   rw[g1];refine(jy f0 (by omega)).bind fun p14 ⟨i1,i2,i3,i4⟩=> ?_
   have i5:=i3 (by omega)
   have g2:aq .i64 p14.1 1=p14.1+1:=bN (by omega) (by omega)
   rw[g2];refine(jy i1 (by omega)).bind fun p15 ⟨k1,k2,_⟩=> ?_
   refine Yd.join (fun v=>N8 aJ v.1) (fun v hv=> ?_) fun j17 hj17=> ?_
   ·refine Yd.join (fun v=>N8 aJ v.1) (fun v hv=> ?_) fun j19 hj19=> ?_
    ·refine(Db hv.aR).bind fun r20 _=> ?_
     refine Yd.cond (fun _=> ?_) fun _=> ?_
     ·exact hj10 _ ⟨k1,⟨hv.aJ,hv.aR,hv.val⟩⟩
     ·exact hj10 _ ⟨k1,hv⟩
    ·refine(Db hv.aR).bind fun r20 _=> ?_
     refine Yd.cond (fun _=> ?_) fun _=> ?_
     ·exact hj19 _ ⟨hv.aJ,hv.aR,hv.val⟩
     ·exact hj19 _ hv
   ·refine(Db (e:={v.2.1 with bo:=p15.1,bC:=p14.1}) f1.aR).bind fun r20 _=> ?_
    refine Yd.cond (fun _=> ?_) fun _=> ?_
    ·exact hj17 _ ⟨f1.aJ,f1.aR,f1.val⟩
    ·exact hj17 _ ⟨f1.aJ,f1.aR,f1.val⟩
  ·have ht:cn v.2.1.ab:=by rw[hv3];exact b2
   refine(jy e1 (by omega)).bind fun p23 ⟨l1,_⟩=> ?_
   refine Yd.cond (fun _=> ?_) fun _=> ?_
   ·refine(ZZ l1).bind fun p24 ⟨m1,_⟩=> ?_
    refine(jy m1 (by omega)).bind fun p25 ⟨o1,_⟩=> ?_
    refine Yd.cond (fun _=> ?_) fun _=> ?_
    ·refine(ZZ o1).bind fun p26 ⟨q1,_⟩=> ?_
     exact hj13 _ ⟨q1,⟨hv2,ht,c3.2⟩,rfl⟩
    ·exact hj13 _ ⟨o1,⟨hv2,ht,c3.2⟩,rfl⟩
   ·exact hj13 _ ⟨l1,⟨hv2,ht,c3.2⟩,rfl⟩
 ·refine Yd.cond (fun _=> ?_) fun _=> ?_
  ·refine(mH d1 (by omega) (by omega) (by omega)).bind fun p27 ⟨e1,_⟩=> ?_
   refine(mH e1 (by omega) (by omega) (by omega)).bind fun p28 ⟨e2,_⟩=> ?_
   refine(jy e2 (by omega)).bind fun p29 ⟨e3,_⟩=> ?_
   refine(jy e3 (by omega)).bind fun p30 ⟨e4,_⟩=> ?_
   exact hj5 _ ⟨e4,⟨rfl,b2,c3.2⟩⟩
  refine Yd.cond (fun _=> ?_) fun _=> ?_
  ·refine(jy d1 (by omega)).bind fun p31 ⟨e1,_⟩=> ?_
   refine Yd.cond (fun _=> ?_) fun _=> ?_
   ·refine(mH e1 (by omega) (by omega) (by omega)).bind fun p32 ⟨e2,_⟩=> ?_
    refine(mH e2 (by omega) (by omega) (by omega)).bind fun p33 ⟨e3,_⟩=> ?_
    refine(jy e3 (by omega)).bind fun p34 ⟨e4,_⟩=> ?_
    exact hj5 _ ⟨e4,⟨rfl,b2,c3.2⟩⟩
   ·exact hj8 _ ⟨e1,rfl,rfl⟩
  ·exact hj8 _ ⟨d1,rfl,rfl⟩
theorem aeG{n:Nat}(h1:1<=n)(h2:n<=4):1<=da .i64 (cg .i64 (1:Int) (n:Int)) 1/\da .i64 (cg .i64 (1:Int) (n:Int)) 1<=15:=by
 have:n=1\/n=2\/n=3\/n=4:=by omega
 rcases this with rfl|rfl|rfl|rfl<;>decide
end
section
theorem kP{a:Int}(h0:0<=a)(h1:a<10):cn ⟨1,[a],[]⟩:=⟨fun x hx=>by rw[Q4.1 hx];exact⟨h0,h1⟩,by simp,by simp,.inl rfl,by simp⟩
theorem abC{s:cv}(h:gO s){n:Nat}(h1:1<=n)(h4:n<=4):Yd (qo s (n:Int)) fun p=>gO p.2/\p.1.ay.length<=4/\∀m∈p.1.ay,cn m.ab:=by
 unfold qo;simp only[etas];refine(jy h (n:=3) (by omega)).bind fun p1 hp1=> ?_
 have hs1:gO p1.2:=hp1.1
 have hq:aq .i64 (JM .i64 (n:Int) 2) 1=((n / 2+1:Nat):Int):=by
  have:n=1\/n=2\/n=3\/n=4:=by omega
  rcases this with rfl|rfl|rfl|rfl<;>rfl
 have hflat:cn ⟨((n / 2+1:Nat):Int),vJ n,[]⟩:=OR n (by omega) _ (by omega) (by omega)
 refine Yd.CW (fun u=>∃(i:Nat) (r:cv) (c:av) (ms:List aA),u=((i:Int),r,c,ms,())/\i<=n/\gO r/\ms.length<=i/\∀m∈ms,cn m.ab) (fun u=>n - u.1.toNat) (fun u hu=> ?_) ⟨0,p1.2,_,[],rfl,QS _,hs1,QI _,fun m hm=>by cases hm⟩
 obtain⟨i,r,c,ms,rfl,hi,hr,hl,hm⟩:=hu;refine Yd.cond (fun hc=> ?_) (fun _=> .some ⟨hr,by show ms.length<=4;omega,hm⟩)
 have hc:(i:Int)<(n:Int):=of_decide_eq_true hc;rw[hq,V1 n (by omega),Qa]
 refine Yd.join (fun v=>gO v.1/\cn v.2.1) (fun v ⟨g1,g2⟩=> ?_) (fun j' hj=>Yd.cond (fun _=> ?_) (fun _=>hj _ ⟨hr,hflat⟩))
 ·rw[ba (by simp;omega),Qk]
  refine .some ⟨⟨i+1,v.1,⟨[]⟩,ms++[⟨true,v.2.1⟩],?_,by omega,g1,by simp;omega,fun m hm'=> ?_⟩,?_⟩
  ·show(aq .i64 (i:Int) 1,v.1,(⟨[]⟩:av),ms++[⟨true,v.2.1⟩],())=_;rw[bN (by omega) (by omega)]
   rfl
  ·rcases Qz.1 hm' with hm'|hm'
   ·exact hm m hm'
   ·rw[Q4.1 hm'];exact g2
  ·show n - (aq .i64 (i:Int) 1).toNat<n - ((i:Int)).toNat;rw[bN (by omega) (by omega)]
   omega
 ·refine(KN hr h1 (by omega)).bind fun q hq=>hj _ ⟨hq.1,hq.2.1⟩
theorem DR{k n t s c:Int}{v:ByteArray}{T:aa}{L:bM}{ps:List Int}(hk:k=2\/k=4\/k=6\/k=7)(hp:ps.length<=30):tt ⟨k,n,t,s,c,v,T,L,ps⟩:=
 ⟨fun e=>by have e:k=1:=e;omega,fun e=>by have e:k=8:=e;omega,fun e=>by have e:k=3:=e;omega,fun e=>by have e:k=5:=e;omega,by show ps.length<=_;omega⟩
theorem Z4{k n t s c:Int}{v:ByteArray}{T:aa}{L:bM}{ps:List Int}(hk:k=1\/k=8)(h0:1<=s)(h1:s<=1000000)(hv:1<=v.size/\v.size<=2)(hp:ps.length<=30):tt ⟨k,n,t,s,c,v,T,L,ps⟩:=
 ⟨fun _=>⟨h0,h1,by show v.size<=200;omega⟩,fun _=>⟨h0,h1,hv.1,by show v.size<=200;omega⟩,fun e=>by have e:k=3:=e;omega,fun e=>by have e:k=5:=e;omega,by show ps.length<=_;omega⟩
theorem abQ{n t s c sl:Int}{v:ByteArray}{T:aa}{e:aj}(h0:1<=sl)(h1:sl<=1000000)(hg:cn e.ab)(hn:e.ao=n):tt ⟨5,n,t,s,c,v,T,⟨2,sl,⟨0,0,⟨0,[],[]⟩,[],[]⟩,e⟩,[]⟩:=
 ⟨fun e=>absurd (show(5:Int)=1 from e) (by decide),fun e=>absurd (show(5:Int)=8 from e) (by decide),fun e=>absurd (show(5:Int)=3 from e) (by decide),fun _=>⟨⟨fun e=>absurd (show(2:Int)=1 from e) (by decide),fun _=>⟨hg.sm,fun _=>⟨hg,hn⟩⟩,h0,h1⟩,LG,hg.sm,QS _,QS _⟩,QS _⟩
theorem Hr{n:Int}(h0:0<=n)(h1:n<=1000):bz .u64 n=n:=by unfold bz;exact Ct h0 (by omega)
set_option maxHeartbeats 2000000 in
theorem afZ{s:cv}(h:gO s){n:Nat}{ill:Int}(hn1:1<=n)(hn:n<=4):Yd (pA s n ill) fun p=>gO p.2/\tt p.1:=by
 unfold pA;simp only[etas];refine(jy h (by omega)).bind fun p1 ⟨a1,a2,a3,_⟩=> ?_
 have a4:=a3 (by omega)
 have hc:bz .u64 p1.1=p1.1:=Hr a2 (by omega)
 have hcn:bz .u64 (n:Int)=(n:Int):=Hr (by omega) (by omega)
 refine Yd.join (fun v=>gO v.1) (fun v hv=> ?_) fun j3 hj3=> ?_
 ·exact(mH hv (by omega) (by omega) (by omega)).bind fun p4 ⟨b1,_⟩=>⟨_,rfl,b1,DR (by omega) (QS _)⟩
 refine(jy a1 (by omega)).bind fun p5 ⟨c1,c2,c3,_⟩=> ?_
 refine Yd.cond (fun _=> ?_) fun _=> ?_
 ·refine(mH c1 (by omega) (by omega) (by omega)).bind fun p6 ⟨b1,b2,b3,_⟩=> ?_
  have b4:=b3 (by omega)
  exact(Cc b1).bind fun p7 ⟨d1,d2⟩=>⟨_,rfl,d1,Z4 (.inl rfl) b2 (by omega) d2.size (QS _)⟩
 refine Yd.join (fun _=>True) (fun v _=> ?_) fun j9 hj9=> ?_
 ·refine Yd.cond (fun _=> ?_) fun _=> ?_
  ·exact(Cc c1).bind fun p10 ⟨d1,d2⟩=>⟨_,rfl,d1,Z4 (.inr rfl) (by omega) (by omega) d2.size (QS _)⟩
  refine Yd.cond (fun _=> ?_) fun _=> ?_
  ·refine(jy c1 (by omega)).bind fun p11 ⟨d1,d2,d3,_⟩=> ?_
   refine Yd.cond (fun _=> ?_) fun _=> ?_
   ·rw[hcn,Qs (by omega)]
    have ht:=aeG hn1 hn;exact(jy d1 (by omega)).bind fun p12 ⟨e1,_⟩=>⟨_,rfl,e1,DR (by omega) (by simp)⟩
   ·exact⟨_,rfl,d1,DR (by omega) (QS _)⟩
  refine Yd.cond (fun _=> ?_) fun _=> ?_
  ·exact(jy c1 (by omega)).bind fun p13 ⟨d1,_⟩=>(jy d1 (by omega)).bind fun p14 ⟨e1,_⟩=>⟨_,rfl,e1,DR (by omega) (QS _)⟩
  refine Yd.cond (fun _=> ?_) fun _=> ?_
  ·refine(jy c1 (by omega)).bind fun p15 ⟨d1,_⟩=> ?_
   refine Yd.cond (fun _=> ?_) fun _=> ?_
   ·exact⟨_,rfl,d1,DR (by omega) (QS _)⟩
   ·exact(mH d1 (by omega) (by omega) (by omega)).bind fun p16 ⟨b1,_⟩=>⟨_,rfl,b1,DR (by omega) (QS _)⟩
  refine Yd.cond (fun _=> ?_) fun _=> ?_
  ·rw[hc,Qs (by omega)]
   refine Yd.cond (fun _=> ?_) fun _=> ?_
   ·refine(XW c1 hn1 (by omega)).bind fun p17 ⟨d1,d2⟩=> ?_
    refine(jy d1 (by omega)).bind fun p18 ⟨e1,_⟩=> ?_
    refine(jy e1 (by omega)).bind fun p19 ⟨f1,_⟩=> ?_
    exact⟨_,rfl,f1,abQ (by omega) (by omega) d2.aR d2.aJ⟩
   ·refine(jy c1 (by omega)).bind fun p20 ⟨d1,_⟩=> ?_
    refine Yd.cond (fun _=> ?_) fun _=> ?_
    ·refine(KN d1 hn1 (by omega)).bind fun p21 ⟨e1,e2,_⟩=> ?_
     exact⟨_,rfl,e1,fun e=>absurd (show(3:Int)=1 from e) (by decide),fun e=>absurd (show(3:Int)=8 from e) (by decide),fun _=>e2,fun e=>absurd (show(3:Int)=5 from e) (by decide),QS _⟩
    ·exact hj3 _ d1
  refine Yd.cond (fun _=> ?_) fun _=> ?_
  ·rw[hc,Qs (by omega)]
   refine Yd.cond (fun _=> ?_) fun _=> ?_
   ·refine(jy c1 (by omega)).bind fun p22 ⟨d1,_⟩=> ?_
    refine(Cc d1).bind fun p23 ⟨e1,e2⟩=> ?_
    unfold Dy;exact⟨_,rfl,e1,abQ (sl:=1) (by omega) (by omega) (kP a2 (by omega)) rfl⟩
   ·exact hj3 _ c1
  ·exact hj3 _ c1
 ·refine Yd.cond (fun _=>hj9 _ trivial) fun _=>hj9 _ trivial
theorem adg:∀(a:Fin 16) (i:Fin 4) (b:Fin 2),0<=ka .i64 ((a.val:Nat):Int) (cg .i64 ((b.val:Nat):Int) ((i.val:Nat):Int))/\ka .i64 ((a.val:Nat):Int) (cg .i64 ((b.val:Nat):Int) ((i.val:Nat):Int))<16:=by decide
theorem ae8{a b i:Int}(a0:0<=a)(a1:a<16)(b0:0<=b)(b1:b<2)(i0:0<=i)(i1:i<4):0<=ka .i64 a (cg .i64 b i)/\ka .i64 a (cg .i64 b i)<16:=by
 obtain⟨x,rfl⟩:=Int.eq_ofNat_of_zero_le a0;obtain⟨y,rfl⟩:=Int.eq_ofNat_of_zero_le b0;obtain⟨z,rfl⟩:=Int.eq_ofNat_of_zero_le i0;exact adg ⟨x,by omega⟩ ⟨z,by omega⟩ ⟨y,by omega⟩
theorem aaa:∀i:Fin 4,0<=cg .i64 1 ((i.val:Nat):Int)/\cg .i64 1 ((i.val:Nat):Int)<1024:=by decide
theorem acF{i:Int}(i0:0<=i)(i1:i<4):0<=cg .i64 1 i/\cg .i64 1 i<1024:=by
 obtain⟨z,rfl⟩:=Int.eq_ofNat_of_zero_le i0;exact aaa ⟨z,by omega⟩
theorem af0{s:cv}(h:gO s){n:Int}(hn:n<=4):Yd (tH s n) fun p=>gO p.2/\0<=p.1/\p.1<16:=by
 unfold tH
 have key:∀(k:Nat) (m i:Int) (s:cv),gO s->0<=m->m<16->0<=i->n<=i+k->Yd (ax (fun(v1:Int×Int×cv×Unit)=>
   bif (decide (v1.2.1<n))then
    Option.bind (bA v1.2.2.1 (2:Int)) fun p2=>
    if(bz .u64 v1.2.1)<0 then none else some (Sum.inl ((ka .i64 v1.1 (cg .i64 p2.1 (bz .u64 v1.2.1))),(aq .i64 v1.2.1 (1:Int)),p2.2,()))
   else Option.map Sum.inr (some (v1.1,v1.2.2.1))) (m,i,s,())) fun p=>gO p.2/\0<=p.1/\p.1<16:=by
  intro k
  induction k with
  |zero=>
   intro m i s h h0 h1 h2 h3;refine Yd.loop ?_;simp only[];rw[Qh (by omega),Ql]
   exact⟨_,rfl,h,h0,h1⟩
  |succ k ih=>
   intro m i s h h0 h1 h2 h3;refine Yd.loop ?_;simp only[]
   by_cases hi:i<n
   ·rw[Qg hi,Qk];refine(jy h (by omega)).bind fun p2 ⟨b1,b2,b3,_⟩=> ?_
    have b4:=b3 (by omega)
    rw[Hr h2 (by omega),Qs (by omega),bN (by omega) (by omega)]
    have:=ae8 h0 h1 b2 b4 h2 (by omega)
    exact⟨_,rfl,ih _ (i+1) p2.2 b1 this.1 this.2 (by omega) (by omega)⟩
   ·rw[Qh hi,Ql];exact⟨_,rfl,h,h0,h1⟩
 exact key 4 0 0 s h (by omega) (by omega) (by omega) (by omega)
theorem ag9(s:cv)(h:gO s)(n:Int)(hn1:1<=n)(hn:n<=4):Yd (vm s n) fun p=>gO p.2/\0<=p.1/\p.1<1024:=by
 unfold vm;refine(jy h (by omega)).bind fun p1 ⟨a1,_⟩=> ?_
 refine Yd.join (fun _=>True) (fun v _=> ?_) fun j3 hj3=> ?_
 ·refine Yd.cond (fun _=> ?_) fun _=> ?_
  ·exact⟨_,rfl,a1,by show(0:Int)<=0;omega,by show(0:Int)<1024;omega⟩
  refine Yd.cond (fun _=> ?_) fun _=> ?_
  ·refine(jy a1 (by omega)).bind fun p4 ⟨b1,b2,b3,_⟩=> ?_
   have b4:=b3 (by omega)
   rw[Hr b2 (by omega),Qs (by omega)]
   have:=acF b2 (by omega)
   exact⟨_,rfl,b1,this.1,this.2⟩
  ·refine(af0 a1 hn).bind fun p5 ⟨b1,b2,b3⟩=> ?_
   exact⟨_,rfl,b1,b2,by show p5.1<1024;omega⟩
 ·refine Yd.cond (fun _=>hj3 _ trivial) fun _=>hj3 _ trivial
theorem aet{s:cv}(h:gO s){n:Nat}{ill m:Int}(hn1:1<=n)(hn:n<=4)(hm0:0<=m)(hm:m<=1000):Yd (lC s n ill m) fun p=>gO p.2/\(p.1.length:Int)<=m/\∀x∈p.1,tt x:=by
 unfold lC;simp only[aN.eta,aj.eta,bM.eta,etas,dx.eta];rw[bN (by omega) (by omega)]
 refine(jy h (by omega)).bind fun p1 ⟨a1,a2,a3,_⟩=> ?_
 have a4:=a3 (by omega)
 have key:∀(k:Nat) (i:Int) (acc:List dx) (s:cv),gO s->0<=i->i<=k->(acc.length:Int)+i<=m->(∀x∈acc,tt x)->Yd (ax (fun(v2:Int×(List dx)×cv×Unit)=>
   bif (decide ((0:Int)<v2.1))then
    Option.bind (pA v2.2.2.1 n ill) fun p3=>
    bif aX 448 (List.length v2.2.1+List.length [p3.1])then some (Sum.inl ((da .i64 v2.1 (1:Int)),(v2.2.1++[p3.1]),p3.2,()))else none
   else Option.map Sum.inr (some (v2.2.1,v2.2.2.1))) (i,acc,s,())) fun p=>gO p.2/\(p.1.length:Int)<=m/\∀x∈p.1,tt x:=by
  intro k
  induction k with
  |zero=>
   intro i acc s h h0 h1 h2 h3;refine Yd.loop ?_;simp only[];rw[Qh (by omega),Ql]
   exact⟨_,rfl,h,by show(acc.length:Int)<=m;omega,h3⟩
  |succ k ih=>
   intro i acc s h h0 h1 h2 h3;refine Yd.loop ?_;simp only[]
   by_cases hi:0<i
   ·rw[Qg hi,Qk];refine(afZ h hn1 hn).bind fun p3 ⟨b1,b2⟩=> ?_
    rw[ba (by simp;omega),Qk,jA (by omega) (by omega)]
    refine⟨_,rfl,ih (i - 1) (acc++[p3.1]) p3.2 b1 (by omega) (by omega) (by rw[QB,Q5];omega) fun x hx=> ?_⟩
    rcases Qz.1 hx with hx|hx
    ·exact h3 x hx
    ·rw[Q4]at hx;rw[hx];exact b2
   ·rw[Qh hi,Ql];exact⟨_,rfl,h,by show(acc.length:Int)<=m;omega,h3⟩
 exact key 1000 p1.1 [] p1.2 a1 a2 (by omega) (by show((0:Nat):Int)+p1.1<=m;omega) fun x hx=>by cases hx
theorem aeA{s:cv}(h:gO s){n:Nat}{ill:Int}(hn1:1<=n)(hn:n<=4):Yd (rX s n ill 10) fun p=>gO p.2/\p.1.length<=14/\∀x∈p.1,tt x:=by
 unfold rX
 have key:∀(k:Nat) (i:Int) (acc:List dx) (s:cv),gO s->0<=i->(n:Int)<=i+k->i<=n->(acc.length:Int)<=i->(∀x∈acc,tt x)->Yd (ax (fun(v1:Int×(List dx)×cv×Unit)=>
   bif (decide (v1.1<(n:Int)))then
    bb (fun(v2:(List dx)×cv×Unit)=>some (Sum.inl ((aq .i64 v1.1 (1:Int)),v2.1,v2.2.1,()))) fun j3=>
    if(bz .u64 v1.1)<0 then none else
    bif (decide ((bp .i64 (cm .i64 ill (bz .u64 v1.1)) (1:Int))=(0:Int)))then
     Option.bind (mA v1.2.2.1 [(ByteArray.mk #[97]),(ByteArray.mk #[98])]) fun p4=>
     bif aX 448 (List.length v1.2.1+List.length [(dx.mk (8:Int) v1.1 (0:Int) (1:Int) (0:Int) p4.1 (aa.mk (0:Int) ([]:List Int) ([]:List aa)) (bM.mk (0:Int) (0:Int) (aN.mk (0:Int) (0:Int) (aa.mk (0:Int) ([]:List Int) ([]:List aa)) ([]:List ByteArray) ([]:List ByteArray)) (aj.mk (0:Int) (0:Int) (0:Int) (aa.mk (0:Int) ([]:List Int) ([]:List aa)) (0:Int) zB zB zB (0:Int) (0:Int))) ([]:List Int))])then
      j3 ((v1.2.1++[(dx.mk (8:Int) v1.1 (0:Int) (1:Int) (0:Int) p4.1 (aa.mk (0:Int) ([]:List Int) ([]:List aa)) (bM.mk (0:Int) (0:Int) (aN.mk (0:Int) (0:Int) (aa.mk (0:Int) ([]:List Int) ([]:List aa)) ([]:List ByteArray) ([]:List ByteArray)) (aj.mk (0:Int) (0:Int) (0:Int) (aa.mk (0:Int) ([]:List Int) ([]:List aa)) (0:Int) zB zB zB (0:Int) (0:Int))) ([]:List Int))]),p4.2,())
     else none
    else j3 (v1.2.1,v1.2.2.1,())
   else
    Option.map Sum.inr (Option.bind (lC v1.2.2.1 n ill 10) fun p5=>
     bif aX 448 (List.length v1.2.1+List.length p5.1)then some ((v1.2.1++p5.1),p5.2)else none)) (i,acc,s,())) fun p=>gO p.2/\p.1.length<=14/\∀x∈p.1,tt x:=by
  intro k
  have fin:∀(i:Int) (acc:List dx) (s:cv),gO s->(acc.length:Int)<=4->(∀x∈acc,tt x)->Yd (Option.bind (lC s n ill 10) fun p5=>
     bif aX 448 (List.length acc+List.length p5.1)then some ((acc++p5.1),p5.2)else none) fun p=>gO p.2/\p.1.length<=14/\∀x∈p.1,tt x:=by
   intro i acc s h h1 h2;refine(aet h hn1 hn (by omega) (by omega)).bind fun p5 ⟨b1,b2,b3⟩=> ?_
   rw[ba (by omega),Qk]
   refine⟨_,rfl,b1,?_,fun x hx=> ?_⟩
   ·show(acc++p5.1).length<=14;rw[QB];omega
   ·rcases Qz.1 hx with hx|hx
    ·exact h2 x hx
    ·exact b3 x hx
  induction k with
  |zero=>
   intro i acc s h h0 h1 h2 h3 h4;refine Yd.loop ?_;simp only[];rw[Qh (by omega),Ql]
   exact Yd.inr (fin i acc s h (by omega) h4)
  |succ k ih=>
   intro i acc s h h0 h1 h2 h3 h4;refine Yd.loop ?_;simp only[]
   by_cases hi:i<n
   ·rw[Qg hi,Qk,bc,Hr h0 (by omega),Qs (by omega),bN (by omega) (by omega)]
    refine Yd.cond (fun _=> ?_) fun _=> ?_
    ·refine(VY h (by simp) (by simp)).bind fun p4 ⟨b1,b2⟩=> ?_
     have hv:1<=p4.1.size/\p4.1.size<=2:=by
      simp only[QA,QR,or_false]at b2;rcases b2 with e|e<;>rw[e]<;>decide
     rw[ba (by simp;omega),Qk]
     refine⟨_,rfl,ih (i+1) _ p4.2 b1 (by omega) (by omega) (by omega) (by rw[QB,Q5];omega) fun x hx=> ?_⟩
     rcases Qz.1 hx with hx|hx
     ·exact h4 x hx
     ·rw[Q4]at hx;rw[hx];exact Z4 (.inr rfl) (by omega) (by omega) hv (QS _)
    ·exact⟨_,rfl,ih (i+1) acc s h (by omega) (by omega) (by omega) (by omega) h4⟩
   ·rw[Qh hi,Ql];exact Yd.inr (fin i acc s h (by omega) h4)
 exact key n 0 [] s h (by omega) (by omega) (by omega) (by show((0:Nat):Int)<=0;omega) fun x hx=>by cases hx
end
section
structure G2 (t:aa):Prop where
 nodes:∀x∈t.au,0<=x/\x<10
 nodup:t.au.Nodup
 len:t.au.length<=10
 il:t.aG.length<=4
 inner:∀u∈t.aG,cn u
 th:1<=t.ar/\t.ar<=t.au.length+t.aG.length
theorem abX{x:Int}(h0:0<=x)(h1:x<10):cn ⟨1,[x],[]⟩:=⟨fun y hy=>by rw[Q4.1 hy];exact⟨h0,h1⟩,by simp,by simp,.inl rfl,by simp⟩
theorem cn.il{t:aa}(h:cn t):t.aG.length<=1:=by rcases h.inner with e|⟨x,_,_,e⟩<;>rw[e]<;>simp
theorem cn.afi{t:aa}(h:cn t):∀u∈t.aG,cn u:=by
 intro u hu;rcases h.inner with e|⟨x,h0,h1,e⟩
 ·rw[e]at hu;cases hu
 ·rw[e]at hu;rw[Q4.1 hu];exact abX h0 h1
theorem cn.g2{t:aa}(h:cn t):G2 t:=⟨h.nodes,h.nodup,h.len,by have:=h.il;omega,h.afi,h.th⟩
theorem G2.sm{t:aa}(h:G2 t):cJ t:= .mk t (by have:=h.len;omega) (by have:=h.il;omega) fun u hu=>(h.inner u hu).sm
theorem aa7{t:aa}(h:cn t)(n:Nat):∃d,gP (n+2) (t,())=some d/\d<=2:=by
 have hil:=h.il;show∃d,fM (gP (n+1)) t=some d/\d<=2;rw[Ej (by omega)]
 rcases h.inner with e|⟨x,_,_,e⟩
 ·rw[e];exact⟨1,rfl,by omega⟩
 ·rw[e,ew,ML n 1 [x]];exact⟨2,rfl,by omega⟩
theorem acE{t:aa}(h:cn t)(n:Nat):∃d,iF (n+2) (t,())=some d/\0<=d/\d<=12:=by
 have hil:=h.il;have hlen:=h.len;show∃d,gC (iF (n+1)) t=some d/\0<=d/\d<=12;rw[HL (by omega),bN (by omega) (by omega)]
 rcases h.inner with e|⟨x,_,_,e⟩
 ·rw[e];exact⟨_,rfl,by simp,by simp;omega⟩
 ·rw[e,ew,size_leaf n 1 [x]];have h1:aq .i64 (([x]:List Int).length:Nat) (0:Nat)=1:=rfl;rw[h1];refine⟨_,rfl,?_,?_⟩<;>(simp only[Q5];rw[bN (by omega) (by omega)];omega)
theorem aaP{t:aa}(h:cn t)(n:Nat):dn (n+2) (t,())=some 0:=by
 have hil:=h.il;have hlen:=h.len;show eK (dn (n+1)) t=some 0;rw[zy (by omega) (by omega)]
 refine EW h fun x hx0 hx1=> ?_
 show eK (dn n) ⟨1,[x],[]⟩=some 0
 grind [zy,De]
theorem Xd{t u:aa}(h:u∈t.aG):∃n,SizeOf.sizeOf t=n+2:=by
 have:=iA h;obtain⟨m,hm⟩:=F9 u;exact⟨SizeOf.sizeOf t - 2,by omega⟩
theorem Hc{α σ ρ:Type}{g:α->σ->Option (σ⊕ρ)}{fin:σ->Option ρ}{p:ρ->Prop}(N:Nat)(I:Nat->σ->Prop):∀(l:List α) (n:Nat) (s:σ),n+l.length=N->I n s->(∀x∈l,∀n s,n<N->I n s->∃s',g x s=some (.inl s')/\I (n+1) s')->(∀s,I N s->Yd (fin s) p)->Yd (ew g fin l s) p
 |[],n,s,hn,h,_,hf=>hf s (by rw[<-hn];exact h)
 |x::l,n,s,hn,h,hg,hf=>by
  rw[QE]at hn;obtain⟨s',h1,h2⟩:=hg x (by simp) n s (by omega) h
  rw[ew,h1];exact Hc N I l (n+1) s' (by omega) h2 (fun y hy=>hg y (by simp[hy])) hf
theorem HP{t:aa}(h:G2 t):C8 t=0:=by
 have hil:=h.il;have hlen:=h.len
 have h1:Yd (gQ t) fun d=>d<=3:=by
  show Yd (fM (gP (SizeOf.sizeOf t)) t) _;rw[Ej (by omega)]
  refine Hc t.aG.length (fun n s=>0<=s/\s<=2) _ 0 0 (by omega) (by omega) (fun u hu n s _ hs=> ?_) fun s hs=> .some ?_
  ·obtain⟨k,hk⟩:=Xd hu;obtain⟨d,hd,hd2⟩:=aa7 (h.inner u hu) k;rw[hk,hd];refine⟨_,rfl,?_⟩;unfold bP;split<;>omega
  ·rw[bN (by omega) (by omega)];omega
 have h2:Yd (iG t) fun d=>d<=200:=by
  show Yd (gC (iF (SizeOf.sizeOf t)) t) _;rw[HL (by omega),bN (by omega) (by omega)]
  refine Hc t.aG.length (fun n s=>0<=s/\s<=14+12*(n:Int)) _ 0 _ (by omega) (by omega) (fun u hu n s hn hs=> ?_) fun s hs=> .some ?_
  ·obtain⟨k,hk⟩:=Xd hu;obtain⟨d,hd,hd1,hd2⟩:=acE (h.inner u hu) k;rw[hk,hd];refine⟨_,rfl,?_⟩;rw[bN (by omega) (by omega)]
   omega
  ·omega
 have h3:ji t=some 0:=by
  show eK (dn (SizeOf.sizeOf t)) t=some 0;rw[zy (by omega) (by omega)]
  have h2:aq .i64 t.au.length t.aG.length=t.au.length+t.aG.length:=bN (by omega) (by omega)
  have h3:(td 0 t.au).2.1=0:=A9 _ 0 h.nodes h.nodup (by simp)
  have h4:=KM h.nodes;have h5:=h.th;unfold oU;rw[h2,Qs (by omega),h4,h3]
  simp only[Qq,Qu,Qt]
  suffices key:∀l:List aa,(∀u∈l,u∈t.aG)->ew (fun u (_:Unit)=>(dn (SizeOf.sizeOf t) (u,())).map fun r=>if r=0 then Sum.inl ()else Sum.inr r) (fun _=>some 0) l ()=some 0 from key _ fun _ h=>h
  intro l
  induction l with
  |nil=>intro _;rfl
  |cons u l ih=>
   intro hl;obtain⟨k,hk⟩:=Xd (hl u (by simp))
   rw[ew,hk,aaP (h.inner u (hl u (by simp))) k]
   rw[hk]at ih;exact ih fun v hv=>hl v (by simp[hv])
 obtain⟨d,e1,d1⟩:=h1;obtain⟨z,e2,d2⟩:=h2;have h6:¬4<d:=by omega
 have h7:¬200<z:=by omega
 have:bW t=some 0:=by simp[bW,e1,e2,h3,h6,h7]
 rw[C8,this];rfl
mutual
def fV:aa->Nat->Bool
 |⟨_,ns,is⟩,k=>ns.contains (k:Int)||ta is k
def ta:List aa->Nat->Bool
 |[],_=>false
 |t::l,k=>fV t k||ta l k
end
theorem Re(t:aa)(k:Nat):fV t k=(t.au.contains (k:Int)||ta t.aG k):=by cases t;rw[fV]
theorem Cu(k:Nat):∀l:List aa,ta l k=l.any fun t=>fV t k
 |[]=>by rw[ta];rfl
 |t::l=>by rw[ta,Cu k l];rfl
def um(b:Nat->Bool)(s:Int):Prop:=∃n:Nat,s=n/\n<1024/\∀k,n.testBit k=(decide (k<10)&&b k)
theorem um.zero:um (fun _=>false) 0:=⟨0,rfl,by omega,fun k=>by simp⟩
theorem um.congr{b b':Nat->Bool}{s:Int}(h:um b s)(e:∀k,b k=b' k):um b' s:=by
 obtain⟨n,h1,h2,h3⟩:=h;exact⟨n,h1,h2,fun k=>by rw[h3,e]⟩
theorem um.aJ{b:Nat->Bool}{s x:Int}(h:um b s)(h0:0<=x)(h1:x<10):um (fun k=>b k||decide (x=(k:Int))) (ka .i64 s (cg .i64 1 x)):=by
 obtain⟨n,rfl,h2,h3⟩:=h;refine⟨_,qF h2 h0 h1,EM h2 h1,fun k=> ?_⟩
 rw[Nat.testBit_or,h3,Nat.testBit_two_pow];have e:decide (x.toNat=k)=decide (x=(k:Int)):=by rw[decide_eq_decide];omega
 rw[e]
 by_cases hx:x=(k:Int)
 ·have:k<10:=by omega
  simp[hx,this]
 ·simp[hx]
theorem um.or{b b':Nat->Bool}{s s':Int}(h:um b s)(h':um b' s'):um (fun k=>b k||b' k) (ka .i64 s s'):=by
 obtain⟨n,rfl,h2,h3⟩:=h;obtain⟨m,rfl,h4,h5⟩:=h';refine⟨_,H5 n m (by omega) (by omega),Nat.or_lt_two_pow (n:=10) h2 h4,fun k=> ?_⟩
 rw[Nat.testBit_or,h3,h5];cases decide (k<10)<;>simp
theorem KR{t:aa}(hm:cJ t){rec:aa->Option Int}(hr:∀u∈t.aG,Yd (rec u) (um (fV u))){step1:(Int×Int×Unit)->Option ((Int×Int×Unit)⊕Int)}{step2:(Int×Int×Unit)->Option ((Int×Int×Unit)⊕Int)}
  (h1:∀(i:Nat) (x s:Int),i<t.au.length->idx t.au (i:Int)=some x->step1 (s,(i:Int),())=some (.inl ((if 0<=x/\x<10 then ka .i64 s (cg .i64 1 x)else s),((i+1:Nat):Int),())))
  (h2:∀s:Int,step1 (s,(t.au.length:Int),())=Option.map Sum.inr (ax step2 (s,0,())))
  (h3:∀(i:Nat) (u:aa) (s r:Int),i<t.aG.length->idx t.aG (i:Int)=some u->rec u=some r->step2 (s,(i:Int),())=some (.inl (ka .i64 s r,((i+1:Nat):Int),())))
  (h4:∀s:Int,step2 (s,(t.aG.length:Int),())=some (.inr s)):Yd (ax step1 (0,0,())) (um (fV t)):=by
 have hn:=hm.nodes;have hl:=hm.len;refine Yd.list t.au (by omega) (fun i (s:Int)=>(s,i,())) (fun i s=>um (fun k=>(t.au.take i).contains (k:Int)) s) (fun i x s hs hdr hx hi hd hw ha=> ?_) (fun s hs hd=> ?_) (s:=0) (um.zero.congr fun k=>by simp)
 ·rw[h1 i x s hi hw];refine .some ⟨_,rfl,?_⟩;have hx':t.au[i]?=some x:=by rw[<-aP];exact hw
  have htk:t.au.take (i+1)=t.au.take i++[x]:=by rw[List.take_add_one,hx'];rfl
  split
  ·rename_i hb;refine(hs.aJ hb.1 hb.2).congr fun k=> ?_
   rw[htk];simp[Bool.or_comm,eq_comm]
  ·rename_i hb;obtain⟨n,e1,e2,e3⟩:=hs;refine⟨n,e1,e2,fun k=> ?_⟩
   rw[e3,htk]
   by_cases hk:k<10
   ·have:¬x=(k:Int):=by omega
    simp[this,Ne.symm this,eq_comm]
   ·simp[hk]
 ·rw[h2];refine Yd.inr ?_;show Yd _ (um (fV t));refine Yd.list t.aG (by omega) (fun i (s:Int)=>(s,i,())) (fun i s=>um (fun k=>t.au.contains (k:Int)||ta (t.aG.take i) k) s) (fun i u s hs hdr hu hi hd hw ha=> ?_) (fun s hs hd=> ?_) (s:=s) (hs.congr fun k=>by simp[ta])
  ·obtain⟨r,hr1,hr2⟩:=hr u hu;rw[h3 i u s r hi hw hr1];refine .some ⟨_,rfl,?_⟩;have hu':t.aG[i]?=some u:=by rw[<-aP];exact hw
   have htk:t.aG.take (i+1)=t.aG.take i++[u]:=by rw[List.take_add_one,hu'];rfl
   refine(hs.or hr2).congr fun k=> ?_
   rw[htk,Cu,Cu,List.any_append];simp[Bool.or_assoc]
  ·rw[h4];exact .some (hs.congr fun k=>by rw[Q9,Re])
theorem aex{n:Nat}:∀{t:aa},SizeOf.sizeOf t<n->cJ t->Yd (nS n (t,())) (um (fV t)):=by
 induction n with
 |zero=>intro t h;omega
 |succ n ih=>
  intro t hz hm;show Yd (si (nS n) t) _;unfold si;simp only[etas];have hn:=hm.nodes;have hl:=hm.len;refine KR hm (step2:=fun(v6:Int×Int×Unit)=>bif (decide (v6.2.1<((List.length t.aG:Nat):Int)))then Option.bind (idx t.aG v6.2.1) fun x7=>Option.bind (nS n (x7,())) fun r8=>some (Sum.inl ((ka .i64 v6.1 r8),(aq .i64 v6.2.1 (1:Int)),()))else Option.map Sum.inr (some v6.1)) (rec:=fun u=>nS n (u,())) (fun u hu=>ih (t:=u) (by have:=iA hu;omega) (hm.inner u hu)) (fun i x s hi hw=> ?_) (fun s=> ?_) (fun i u s r hi hw hr=> ?_) (fun s=> ?_)
  ·simp only[etas,hw,Qa,Qg (show(i:Int)<(t.au.length:Int)by omega),Qk,bN (show(-9223372036854775808:Int)<=(i:Int)+1 by omega) (show(i:Int)+1<=9223372036854775807 by omega),bc,nV]
   by_cases h0:0<=x<;>by_cases h1:x<10<;>simp[h0,h1]
  ·simp only[Qh (Qq63 _),Ql]
  ·simp only[etas,hw,Qa,Qg (show(i:Int)<(t.aG.length:Int)by omega),Qk,bN (show(-9223372036854775808:Int)<=(i:Int)+1 by omega) (show(i:Int)+1<=9223372036854775807 by omega),hr]
   rfl
  ·simp only[Qh (Qq63 _),Ql];rfl
theorem aew{n:Nat}:∀{t:aa},SizeOf.sizeOf t<n->cJ t->Yd (ma n (t,())) (um (fV t)):=by
 induction n with
 |zero=>intro t h;omega
 |succ n ih=>
  intro t hz hm;show Yd (ob (ma n) t) _;unfold ob;simp only[etas];have hn:=hm.nodes;have hl:=hm.len;refine KR hm (step2:=fun(v6:Int×Int×Unit)=>bif (decide (v6.2.1<((List.length t.aG:Nat):Int)))then Option.bind (idx t.aG v6.2.1) fun x7=>Option.bind (ma n (x7,())) fun r8=>some (Sum.inl ((ka .i64 v6.1 r8),(aq .i64 v6.2.1 (1:Int)),()))else Option.map Sum.inr (some v6.1)) (rec:=fun u=>ma n (u,())) (fun u hu=>ih (t:=u) (by have:=iA hu;omega) (hm.inner u hu)) (fun i x s hi hw=> ?_) (fun s=> ?_) (fun i u s r hi hw hr=> ?_) (fun s=> ?_)
  ·simp only[etas,hw,Qa,Qg (show(i:Int)<(t.au.length:Int)by omega),Qk,bN (show(-9223372036854775808:Int)<=(i:Int)+1 by omega) (show(i:Int)+1<=9223372036854775807 by omega),bc]
   by_cases h0:0<=x<;>by_cases h1:x<10<;>simp[h0,h1]
  ·simp only[Qh (Qq63 _),Ql]
  ·simp only[etas,hw,Qa,Qg (show(i:Int)<(t.aG.length:Int)by omega),Qk,bN (show(-9223372036854775808:Int)<=(i:Int)+1 by omega) (show(i:Int)+1<=9223372036854775807 by omega),hr]
   rfl
  ·simp only[Qh (Qq63 _),Ql];rfl
theorem agd{t:aa}(h:cJ t):Yd (wV t) (um (fV t)):=aex (by omega) h
theorem agc{t:aa}(h:cJ t):Yd (uE t) (um (fV t)):=aew (by omega) h
end
section
def XQ(m:aA):Prop:=(m.bX=true/\G2 m.ab)\/m=⟨false,⟨0,[],[]⟩⟩
theorem Vg:cJ ⟨0,[],[]⟩:= .mk _ (by simp) (by simp) fun u hu=>by cases hu
theorem XQ.sm{m:aA}(h:XQ m):cJ m.ab:=by
 rcases h with h|h
 ·exact h.2.sm
 ·rw[h];exact Vg
structure HK (c:av):Prop where
 len:c.ay.length<=10
 mem:∀m∈c.ay,XQ m
theorem HK.sm{c:av}(h:HK c):qS c:=⟨by have:=h.len;omega,fun m hm=>(h.mem m hm).sm⟩
def te(n:Nat)(m:aA):Bool:= !m.bX||(List.range 10).all fun k=> !fV m.ab k||decide (k<n)
def Cd(c:av):Prop:=∀m∈c.ay,te c.ay.length m=true
theorem Rq{n:Nat}(hn:n<=10){r:Int}{t:aa}(h:um (fV t) r):decide (cg .i64 (1:Int) (n:Int)<=r)= !((List.range 10).all fun k=> !fV t k||decide (k<n)):=by
 obtain⟨m,rfl,h1,h2⟩:=h;rw[mE n (by omega)]
 have e:((List.range 10).all fun k=> !fV t k||decide (k<n))=decide (m<2 ^ n):=by
  rw[QW,Qi,QH];constructor
  ·intro hk;refine Nat.lt_pow_two_of_testBit m fun i hi=> ?_
   rw[h2]
   by_cases h10:i<10
   ·have:=hk i (List.mem_range.2 h10);rw[Qh (show¬i<n by omega),Bool.or_false]at this
    simp only[Bool.not_eq_true']at this;rw[this,Bool.and_false]
   ·rw[Qh h10,Bool.false_and]
  ·intro hlt k hk;have h10:=List.mem_range.1 hk
   by_cases hkn:k<n
   ·rw[Qg hkn,Bool.or_true]
   ·have:m.testBit k=false:=Nat.testBit_lt_two_pow (QJ hlt (Nat.pow_le_pow_right (by omega) (by omega)))
    rw[h2,Qg h10,Bool.true_and]at this;rw[this];rfl
 rw[e]
 by_cases hlt:m<2 ^ n
 ·rw[Qg hlt,Qh (by omega)]
  rfl
 ·rw[Qh hlt,Qg (by omega)]
  rfl
theorem Sc{c:av}(hl:c.ay.length<=10){step:Int×Unit->Option ((Int×Unit)⊕Int)}
  (h1:∀(i:Nat) (m:aA),m∈c.ay->idx c.ay (i:Int)=some m->i<c.ay.length->decide ((i:Int)<(c.ay.length:Int))=true->aq .i64 (i:Int) 1=((i+1:Nat):Int)->Yd (step ((i:Int),())) fun y=>(te c.ay.length m=true/\y= .inl (((i+1:Nat):Int),()))\/(te c.ay.length m=false/\∃r,r≠0/\y= .inr r))
  (h2:decide ((c.ay.length:Int)<(c.ay.length:Int))=false->step ((c.ay.length:Int),())=some (.inr 0)):Yd (ax step (0,())) fun e=>e=0↔Cd c:=by
 refine Yd.list c.ay (by omega) (fun i (_:Unit)=>(i,())) (fun i _=>∀m∈c.ay.take i,te c.ay.length m=true) (fun i m s hs hdr hm hi hd hw ha=> ?_) (fun s hs hd=> ?_) (s:=()) (fun m hm=>by simp at hm)
 ·refine(h1 i m hm hw hi hd ha).mono fun y hy=> ?_
  rcases hy with⟨h3,rfl⟩|⟨h3,r,hr,rfl⟩
  ·refine⟨(),rfl,fun m' hm'=> ?_⟩
   have hx':c.ay[i]?=some m:=by rw[<-aP];exact hw
   rw[List.take_add_one,hx']at hm';rcases Qz.1 hm' with h|h
   ·exact hs m' h
   ·simp only[Option.toList_some,Q4]at h;rw[h];exact h3
  ·show r=0↔_;exact⟨fun e=>absurd e hr,fun h=>by have:=h m hm;rw[h3]at this;cases this⟩
 ·rw[h2 hd];refine .some ?_;show(0:Int)=0↔_;rw[Q9]at hs;exact⟨fun _=>hs,fun _=>rfl⟩
theorem ah3{m:aA}(h:XQ m){n:Nat}(hn:n<=10):lY m (n:Int)=some (if te n m then 0 else 5):=by
 unfold lY;simp only[etas];rcases h with⟨hd,hg⟩|rfl
 ·rw[hd,yK hg.sm,HP hg];obtain⟨r,hr,hu⟩:=agd hg.sm;simp only[Qo,Ql,Qa,decide_true,hr,Rq hn hu];rw[Qs (by omega)]
  unfold te;rw[hd];cases ((List.range 10).all fun k=> !fV m.ab k||decide (k<n))<;>rfl
 ·rfl
theorem Xu{c:av}(h:HK c):Yd (c9 c) fun e=>e=0↔Cd c:=by
 have hl:=h.len;unfold c9;rw[Qh (by omega),Ql]
 simp only[etas,aA.eta];refine Sc hl (fun i m hm hw hi hd ha=> ?_) (fun hd=>by simp only[hd,Ql];rfl)
 simp only[hd,Qk,hw,Qa,ah3 (h.mem m hm) hl,ha]
 cases hb:te c.ay.length m with
 |true=>exact .some (.inl ⟨rfl,rfl⟩)
 |false=>exact .some (.inr ⟨rfl,5,by decide,rfl⟩)
theorem TM{c:av}(h:HK c):Yd (et c) fun e=>e=0↔Cd c:=by
 have hl:=h.len;unfold et;rw[Qh (by omega),Ql]
 simp only[etas];refine Sc hl (fun i m hm hw hi hd ha=> ?_) (fun hd=>by simp only[hd,Ql];rfl)
 simp only[hd,Qk,hw,Qa,ha,bc];rcases h.mem m hm with⟨hdl,hg⟩|rfl
 ·rw[hdl,jH hg.sm,HP hg];obtain⟨r,hr,hu⟩:=agc hg.sm;simp only[Qo,Ql,Qa,decide_true,hr,Rq hl hu];rw[Qs (by omega)]
  unfold te;rw[hdl]
  cases ((List.range 10).all fun k=> !fV m.ab k||decide (k<c.ay.length))with
  |true=>exact .some (.inl ⟨rfl,rfl⟩)
  |false=>exact .some (.inr ⟨rfl,5,by decide,rfl⟩)
 ·have:iL ⟨0,[],[]⟩ ⟨0,[],[]⟩=some true:=by
   obtain⟨r,h1,h2⟩:=B0 (a:=⟨0,[],[]⟩) (b:=⟨0,[],[]⟩) Vg;rw[h1,h2.2 rfl]
  simp only[Qp,Qk,this,Qa,Qo,Ql];exact .some (.inl ⟨rfl,rfl⟩)
end
section
theorem aeE{α ρ:Type}{A B:List α}(hA:A.length<=1000000){step:Int×Unit->Option ((Int×Unit)⊕ρ)}{p:ρ->Prop}
  (h1:∀(i:Nat) (x y:α),x∈A->y∈B->A.take i=B.take i->i<A.length->i<B.length->idx A (i:Int)=some x->idx B (i:Int)=some y->aq .i64 (i:Int) 1=((i+1:Nat):Int)->Yd (step ((i:Int),())) (Lp (fun s=>s=(((i+1:Nat):Int),())/\x=y) p))
  (h2:∀i:Nat,A.take i=B.take i->i<=A.length->i<=B.length->i=A.length\/i=B.length->(∀x,A[i]?=some x->idx A (i:Int)=some x)->Yd (step ((i:Int),())) (Lp (fun _=>False) p)):Yd (ax step (0,())) p:=by
 suffices key:∀(k i:Nat),i+k=A.length->A.take i=B.take i->i<=B.length->Yd (ax step ((i:Int),())) p from key A.length 0 (by omega) (by simp) (by omega)
 intro k
 induction k with
 |zero=>
  intro i hi he hb;refine Yd.loop ((h2 i he (by omega) hb (.inl (by omega)) fun x hx=>by rw[aP];exact hx).mono fun y hy=> ?_)
  cases y with
  |inl t=>exact hy.elim
  |inr r=>exact hy
 |succ k ih=>
  intro i hi he hb
  by_cases hb':i=B.length
  ·refine Yd.loop ((h2 i he (by omega) hb (.inr hb') fun x hx=>by rw[aP];exact hx).mono fun y hy=> ?_)
   cases y with
   |inl t=>exact hy.elim
   |inr r=>exact hy
  ·have ha:i<A.length:=by omega
   have hb2:i<B.length:=by omega
   refine Yd.loop ((h1 i A[i] B[i] (QZ ha) (QZ hb2) he ha hb2 (by rw[aP];exact Qv ha) (by rw[aP];exact Qv hb2) (bN (by omega) (by omega))).mono fun y hy=> ?_)
   cases y with
   |inl t=>
    obtain⟨rfl,hxy⟩:=hy;refine ih (i+1) (by omega) ?_ (by omega)
    rw[Q6 ha,Q6 hb2,he,hxy]
   |inr r=>exact hy
theorem F8{α:Type}{A B:List α}{i:Nat}(h:A.take i=B.take i)(ha:i=A.length)(hb:i=B.length):A=B:=by
 rw[ha,Q9,<-ha,hb,Q9]at h;exact h
theorem afM{α:Type}{A B:List α}(hA:A.length<=1000000){rec:α->α->Option Int}(hr:∀x∈A,∀y∈B,Yd (rec x y) fun c=>c=0->x=y){step:Int×Unit->Option ((Int×Unit)⊕Int)}
  (hs:∀i:Nat,step ((i:Int),())=bif (decide ((i:Int)<(A.length:Int)))then(idx A (i:Int)).bind fun x=>bif (decide ((B.length:Int)<=(i:Int)))then Option.map Sum.inr (some (1:Int))else(idx B (i:Int)).bind fun y=>(rec x y).bind fun r=>bif (!decide (r=0))then Option.map Sum.inr (some r)else some (Sum.inl (aq .i64 (i:Int) 1,()))
   else Option.map Sum.inr (bif (decide ((A.length:Int)<(B.length:Int)))then some (-1:Int)else some 0)):Yd (ax step (0,())) fun c=>c=0->A=B:=by
 refine aeE (B:=B) hA (fun i x y hx hy he ha hb ix iy hadd=> ?_) (fun i he ha hb hor hix=> ?_)
 ·rw[hs,Qg (by omega),Qk,ix,Qa,Qh (by omega),Ql,iy,Qa]
  refine(hr x hx y hy).bind fun r h0=>Yd.cond (fun hn=> .some ?_) (fun hz=> .some ?_)
  ·intro e;rw[Qg e]at hn;cases hn
  ·refine⟨by rw[hadd],h0 ?_⟩
   simpa using hz
 ·rw[hs]
  by_cases hal:i=A.length
  ·rw[Qh (by omega),Ql]
   by_cases hbl:i=B.length
   ·rw[Qh (by omega)]
    exact .some fun _=>F8 he hal hbl
   ·rw[Qg (by omega)]
    exact .some fun e=>by cases e
  ·have hlt:i<A.length:=by omega
   rw[Qg (by omega),Qk,hix _ (Qv hlt),Qa,Qg (by omega)]
   exact .some fun e=>by cases e
theorem VN(x y:Int):Yd (db x y) fun c=>c=0->x=y:=by
 rw[sf];exact .some fun h=>(ui x y).1 h
theorem abg{A B:List Int}(hA:A.length<=1000000):Yd (ky A B) fun c=>c=0->A=B:=by
 unfold ky;exact afM hA (rec:=fun x y=>db x y) (fun x _ y _=>VN x y) fun i=>rfl
theorem ah0(a b c:Int):iO [a,b,c]=some (if a=0 then(if b=0 then c else b)else a):=by
 rw[yD _ (by simp)]
 simp only[DT]
 by_cases ha:a=0
 ·by_cases hb:b=0
  ·by_cases hc:c=0<;>simp[ha,hb,hc]
  ·simp[ha,hb]
 ·simp[ha]
theorem af6{n:Nat}:∀{a b:aa},SizeOf.sizeOf a<n->cJ a->Yd (nT n (a,b,())) fun c=>c=0->a=b:=by
 induction n with
 |zero=>intro a b h;omega
 |succ n ih=>
  intro a b hz hm;show Yd (sn (nT n) a b) _;unfold sn;refine(VN a.ar b.ar).bind fun r1 h1=>(abg hm.nodes).bind fun r2 h2=> ?_
  have h3:Yd (cz (nT n) a.aG b.aG) fun c=>c=0->a.aG=b.aG:=by
   unfold cz;simp only[etas];exact afM hm.len (rec:=fun x y=>nT n (x,y,())) (fun x hx y _=>ih (a:=x) (b:=y) (by have:=iA hx;omega) (hm.inner x hx)) fun i=>rfl
  refine h3.bind fun r3 h3=> ?_
  rw[ah0,Qa];refine .some fun e=> ?_
  have e1:r1=0:=by
   by_cases h:r1=0
   ·exact h
   ·rw[Qs h]at e;exact e
  rw[Qr e1]at e
  have e2:r2=0:=by
   by_cases h:r2=0
   ·exact h
   ·rw[Qs h]at e;exact e
  rw[Qr e2]at e;cases a;cases b;simp only at h1 h2 h3;rw[h1 e1,h2 e2,h3 e]
theorem afK{a b:aa}(h:cJ a):Yd (rY a b) fun c=>c=0->a=b:=af6 (by omega) h
theorem Nc(x y:Int):Yd (kF x y) fun c=>c=0->x=y:=by
 unfold kF;refine Yd.cond (fun _=> .some fun e=>by cases e) (fun h1=>Yd.cond (fun _=> .some fun e=>by cases e) (fun h2=> .some fun _=> ?_))
 have h1:=of_decide_eq_false h1;have h2:=of_decide_eq_false h2;omega
theorem afL{α:Type}{A B:List α}(hA:A.length<=1000000){rec:α->α->Option Int}(hr:∀x∈A,∀y∈B,Yd (rec x y) fun c=>c=0->x=y){p:Int->Prop}(hp:∀c,c≠0->p c){fin:Int->Option Int}(hf:∀c,(c=0->A=B)->Yd (fin c) p){step:Int×Unit->Option ((Int×Unit)⊕Int)}
  (hs:∀i:Nat,step ((i:Int),())=(bif (decide ((i:Int)<(A.length:Int)))then some (decide ((i:Int)<(B.length:Int)))else some false).bind fun b=>bif b then(idx A (i:Int)).bind fun x=>(idx B (i:Int)).bind fun y=>(rec x y).bind fun r=>bif (!decide (r=0))then Option.map Sum.inr (some r)else some (Sum.inl (aq .i64 (i:Int) 1,()))
   else Option.map Sum.inr ((kF (A.length:Int) (B.length:Int)).bind fin)):Yd (ax step (0,())) p:=by
 refine aeE (B:=B) hA (fun i x y hx hy he ha hb ix iy hadd=> ?_) (fun i he ha hb hor hix=> ?_)
 ·rw[hs,Qg (show(i:Int)<(A.length:Int)by omega),Qk,Qa,Qg (show(i:Int)<(B.length:Int)by omega),Qk,ix,Qa,iy,Qa]
  refine(hr x hx y hy).bind fun r h0=>Yd.cond (fun hn=> .some (hp _ fun e=> ?_)) (fun hz=> .some ⟨by rw[hadd],h0 (by simpa using hz)⟩)
  rw[Qg e]at hn;cases hn
 ·have hb:(bif (decide ((i:Int)<(A.length:Int)))then some (decide ((i:Int)<(B.length:Int)))else some false)=some false:=by
   rcases hor with h|h
   ·rw[Qh (show¬(i:Int)<(A.length:Int)by omega)];rfl
   ·rw[Qh (show¬(i:Int)<(B.length:Int)by omega)];cases decide ((i:Int)<(A.length:Int))<;>rfl
  rw[hs,hb,Qa,Ql];refine Yd.inr ?_;show Yd _ p;refine(Nc _ _).bind fun r h0=>hf r fun e=> ?_
  have:=h0 e;rcases hor with h|h
  ·exact F8 he h (by omega)
  ·exact F8 he (by omega) h
theorem aey{n:Nat}:∀{a b:aa},SizeOf.sizeOf a<n->cJ a->Yd (tu n (a,b,())) fun c=>c=0->a=b:=by
 induction n with
 |zero=>intro a b h;omega
 |succ n ih=>
  intro a b hz hm;show Yd (tM (tu n) a b) _;unfold tM;simp only[etas];refine(Nc a.ar b.ar).bind fun r1 h1=>Yd.cond (fun hn=> .some fun e=> ?_) (fun hz=> ?_)
  ·rw[Qg e]at hn;cases hn
  have h1:=h1 (by simpa using hz)
  refine afL hm.nodes (rec:=kF) (fun x _ y _=>Nc x y) (fun c hc e=>absurd e hc) (fun c hc=> ?_) fun i=>rfl
  refine Yd.cond (fun hn=> .some fun e=> ?_) (fun hz=> ?_)
  ·rw[Qg e]at hn;cases hn
  have h2:=hc (by simpa using hz)
  refine afL hm.len (rec:=fun x y=>tu n (x,y,())) (fun x hx y _=>ih (a:=x) (b:=y) (by have:=iA hx;omega) (hm.inner x hx)) (fun c hc e=>absurd e hc) (fun c h3=> .some fun e=> ?_) fun i=>rfl
  have h3:=h3 e;cases a;cases b;simp only at h1 h2 h3;rw[h1,h2,h3]
theorem ag1{a b:aa}(h:cJ a):Yd (yA a b) fun c=>c=0->a=b:=aey (by omega) h
theorem ah2{i j:Nat}(hi:i<=1000000)(hj:j<=1000000):bz .i64 (cm .u64 (bz .u64 (aq .i64 (i:Int) (j:Int))) (1:Int))=(((i+j) / 2:Nat):Int):=by
 have h1:aq .i64 (i:Int) (j:Int)=((i+j:Nat):Int):=bN (by omega) (by omega)
 have h4:cm .u64 (((i+j:Nat)):Int) (1:Int)=(((i+j) / 2:Nat):Int):=by
  show(((i+j:Nat)):Int).fdiv 2=_;rw[Int.fdiv_eq_ediv_of_nonneg _ (by decide)]
  exact(Int.natCast_ediv (i+j) 2).symm
 have h5:bz .u64 (((i+j:Nat)):Int)=((i+j:Nat):Int):=by
  unfold bz IntKind.wrap;simp[IntKind.signed,IntKind.bits];omega
 rw[h1,h5,h4];exact Bu _ (by omega)
theorem bsG{l:List aa}(hl:l.length<=1000)(hs:∀x∈l,cJ x)(t:aa):Yd (cZ l t) fun q=>∃i:Nat,q.1=i/\i<=l.length/\(q.2.1=true->t∈l):=by
 unfold cZ;simp only[etas]
 suffices key:∀(d i j:Nat),j=i+d->j<=l.length->Yd (ax _ ((i:Int),(j:Int),())) fun q:Int×Bool×Unit=>∃i:Nat,q.1=i/\i<=l.length/\(q.2.1=true->t∈l)from key l.length 0 l.length (by omega) (QI _)
 intro d
 induction d using Nat.strongRecOn with
 |_ d ih=>
  intro i j hij hjl;refine Yd.loop ?_
  by_cases h0:d=0
  ·obtain rfl:j=i:=by omega
   simp only[];rw[Qh (Qq63 _),Ql];refine Yd.inr ?_;show Yd _ fun q:Int×Bool×Unit=>∃i:Nat,q.1=i/\i<=l.length/\(q.2.1=true->t∈l)
   rw[bc];refine Yd.cond (fun hc=> ?_) (fun _=> .some ⟨j,rfl,hjl,fun e=>by cases e⟩)
   have hc:=of_decide_eq_true hc;have hlt:j<l.length:=by omega
   rw[aP,Qv hlt,Qa];refine(afK (hs _ (QZ hlt))).bind fun r hr=> .some ⟨j,rfl,hjl,fun e=> ?_⟩
   rw[<-hr (of_decide_eq_true e)];exact QZ hlt
  ·simp only[];have hm:(i+j) / 2<l.length:=by omega
   rw[Qg (by omega),Qk,ah2 (by omega) (by omega),aP,Qv hm,Qa]
   refine(afK (hs _ (QZ hm))).bind fun r _=>Yd.cond (fun _=> .some ?_) (fun _=> .some ?_)
   ·show Yd (ax _ _) _;rw[bN (by omega) (by omega)]
    exact ih (j - ((i+j) / 2+1)) (by omega) ((i+j) / 2+1) j (by omega) hjl
   ·exact ih ((i+j) / 2 - i) (by omega) i ((i+j) / 2) (by omega) (by omega)
theorem Yd.DF{α:Type}{o:Option α}{x:α}(h:Yd o fun r=>r=x):o=Option.some x:=by
 obtain⟨r,h1,h2⟩:=h;rw[h1,h2]
theorem Z0{n:Nat}:∀{t:aa},SizeOf.sizeOf t<n->cJ t->vB n (t,())=some t:=by
 induction n with
 |zero=>intro t h;omega
 |succ n ih=>
  intro t hs hm;show qz (vB n) t=some t;unfold qz;have hl:=hm.len;rw[abi _ hm.nodes,Qa];simp only[etas];refine Yd.DF ?_;refine Yd.list t.aG (by omega) (fun i (s:aa×List aa)=>(i,s.1,s.2,())) (fun i s=>s.1.ar=t.ar/\s.1.au=t.au/\s.2=t.aG.take i) (fun i x s ⟨g1,g2,g3⟩ hdr hx hi hd hw ha=> ?_) (fun s ⟨g1,g2,g3⟩ hd=> ?_) (s:=(⟨t.ar,t.au,[]⟩,[])) ⟨rfl,rfl,by simp⟩
  ·have hr:=ih (t:=x) (by have:=iA hx;omega) (hm.inner x hx)
   have hx':t.aG[i]?=some x:=by rw[<-aP];exact hw
   simp only[hd,Qk,hw,Qa,hr,ha];rw[g3,ba (by simp;omega),Qk]
   exact .some ⟨(⟨s.1.ar,s.1.au,[]⟩,t.aG.take i++[x]),rfl,g1,g2,by rw[List.take_add_one,hx'];rfl⟩
  ·simp only[hd,Ql];refine .some ?_;show(⟨s.1.ar,s.1.au,s.2⟩:aa)=t;rw[g1,g2,g3,Q9];exact(aa.eta t)
theorem acI{t:aa}(h:cJ t):vD t=some t:=Z0 (by omega) h
structure Trs (x:List aa):Prop where
 n0:1<=x.length
 n1:x.length<=4
 eH:∀t∈x,cn t
 nodup:x.Nodup
theorem RP{α:Type}{a l:List α}{t:α}(i:Nat)(h:a.Perm l):(a.take i++[t]++a.drop i).Perm (l++[t]):=by
 have h1:(a.take i++[t]++a.drop i).Perm (a.take i++a.drop i++[t]):=by
  rw[QL,QL];exact List.Perm.append_left _ List.perm_append_comm
 rw[List.take_append_drop]at h1;exact h1.trans (h.append_right [t])
theorem ER{α:Type}{x:List α}{i:Nat}{t:α}(hn:x.Nodup)(hx:x[i]?=some t){a:List α}(h:a.Perm (x.take i)):t∉a:=by
 intro hm;have hm:=h.mem_iff.1 hm;obtain⟨j,hj,he⟩:=List.mem_iff_getElem.1 hm;have hji:j<i:=by rw[List.length_take]at hj;omega
 have hil:i<x.length:=(Qw.1 hx).1;have e1:x[j]'(by omega)=t:=by rw[<-he,List.getElem_take]
 have e2:x[i]=t:=(Qw.1 hx).2;exact absurd ((List.getElem_inj hn).1 (e1.trans e2.symm)) (by omega)
theorem agX{x:List aa}(h:Trs x):Yd (jd x) fun q=>q.2.1=0/\q.1.Perm x:=by
 have hl:=h.n1;unfold jd;simp only[etas];refine Yd.list x (by omega) (fun i (s:List aa)=>(i,s,())) (fun i s=>s.Perm (x.take i)) (fun i t s hs hdr ht hi hd hw ha=> ?_) (fun s hs hd=> ?_) (s:=[]) (by simp)
 ·have hx':x[i]?=some t:=by rw[<-aP];exact hw
  have hsl:=hs.length_eq;rw[List.length_take]at hsl;have hin:∀y∈s,y∈x:=fun y hy=>Q0 (hs.mem_iff.1 hy)
  simp only[hd,Qk,hw,Qa,yK (h.eH t ht).sm,l5 (h.eH t ht),decide_true,Qo,Ql,bc,ha];refine(bsG (l:=s) (by omega) (fun y hy=>(h.eH y (hin y hy)).sm) t).bind fun q ⟨j,e1,e2,e3⟩=> ?_
  have hq:q.2.1=false:=by
   cases hb:q.2.1 with
   |false=>rfl
   |true=>exact absurd (e3 hb) (ER h.nodup hx' hs)
  rw[hq,Qp,Qk,acI (h.eH t ht).sm,Qa,e1]
  have hins:fG s (j:Int) [t]=some (s.take j++[t]++s.drop j):=by
   unfold fG S4;rw[Qg (by omega),Qg (show(j:Int)<=(s.length:Int)by omega),ba (by simp;omega)]
   simp
  rw[hins];refine .some ⟨_,rfl,?_⟩;rw[List.take_add_one,hx'];exact RP j hs
 ·simp only[hd,Ql];refine Yd.inr ?_;rw[Q9]at hs;have hsl:=hs.length_eq;rw[Qh (by omega)]
  exact .some ⟨rfl,hs⟩
theorem aea{l:List aa}{k:Nat}(hk:k<=l.length)(z t:aa):
  ((jL (l++[z]) (k+1) (l.length+1 - (k+1)) (((l++[z]).drop k).take (l.length+1 - k))).set k t)=l.take k++[t]++l.drop k:=by
 have h1:(((l++[z]).drop k).take (l.length+1 - k)).take (l.length+1 - (k+1))=l.drop k:=by
  rw[List.take_take,List.drop_append_of_le_length hk,Nat.min_eq_left (by omega),List.take_append_of_le_length (by rw[List.length_drop];omega)]
  exact List.take_of_length_le (by rw[List.length_drop];omega)
 have h2:(((l++[z]).drop k).take (l.length+1 - k)).length=l.length+1 - k:=by
  rw[List.length_take,List.length_drop,QB,Q5,Nat.min_self]
 unfold jL;rw[h1,h2,Nat.min_eq_left (by omega),show k+1+(l.length+1 - (k+1))=(l++[z]).length by rw[QB,Q5];omega,Qq65,List.append_nil]
 have hlt:k<(l++[z]).length:=by rw[QB,Q5];omega
 rw[Q6 hlt,List.take_append_of_le_length hk,QL,List.set_append_right _ _ (by rw[List.length_take];omega)]
 rw[show k - (l.take k).length=0 by rw[List.length_take];omega]
 rw[QL];rfl
theorem agW{x:List aa}(h:Trs x):Yd (qm x) fun d=>d.Perm x:=by
 have hl:=h.n1;unfold qm;simp only[etas];refine Yd.list x (by omega) (fun i (s:List aa)=>(i,s,())) (fun i s=>s.Perm (x.take i)) (fun i t s hs hdr ht hi hd hw ha=> ?_) (fun s hs hd=> ?_) (s:=[]) (by simp)
 ·have hx':x[i]?=some t:=by rw[<-aP];exact hw
  have hsl:=hs.length_eq;rw[List.length_take]at hsl;have hin:∀y∈s,y∈x:=fun y hy=>Q0 (hs.mem_iff.1 hy)
  have hno:=ER h.nodup hx' hs;simp only[hd,Qk,hw,Qa,bc,ha];refine Yd.list s (by omega) (fun j (u:Int×Bool)=>(u.1,u.2,j,())) (fun j u=>(∃k:Nat,u.1=k/\k<=j)/\u.2=false) (fun j y u ⟨⟨k,g1,g2⟩,g3⟩ hdr hy hj hd' hw' ha'=> ?_) (fun u ⟨⟨k,g1,g2⟩,g3⟩ hd'=> ?_) (s:=((0:Int),false)) ⟨⟨0,rfl,QI _⟩,rfl⟩
  ·have hy':s[j]?=some y:=by rw[<-aP];exact hw'
   simp only[hd',Qk,hw',Qa,QV,hy',g3,Ql,ha'];refine(ag1 (h.eH y (hin y hy)).sm).bind fun r hr=> ?_
   have hr0:decide (r=0)=false:=Qh fun e=>hno (by rw[<-hr e];exact hy)
   rw[hr0];exact Yd.cond (fun _=> .some ⟨(((j+1:Nat):Int),false),rfl,⟨j+1,rfl,QI _⟩,rfl⟩) (fun _=> .some ⟨(u.1,false),rfl,⟨k,g1,by omega⟩,rfl⟩)
  ·simp only[hd',Ql];refine Yd.inr ?_;show Yd _ _;have hk:k<=s.length:=g2;simp only[g3,Ql,g1];rw[ba (by simp;omega),Qk]
   have hlen1:(s++[(⟨0,[],[]⟩:aa)]).length=s.length+1:=by simp
   rw[bN (by omega) (by omega),show((k:Int)+1)=((k+1:Nat):Int)by omega]
   simp only[hlen1,QV];rw[tQ (by omega),tQ (by omega)]
   simp only[Qk];have hput:=aea hk ⟨0,[],[]⟩ t
   have hln:(jL (s++[(⟨0,[],[]⟩:aa)]) (k+1) (s.length+1 - (k+1)) (((s++[(⟨0,[],[]⟩:aa)]).drop k).take (s.length+1 - k))).length=s.length+1:=by
    have:=congrArg List.length hput;rw[QX]at this;rw[this];simp;omega
   generalize jL (s++[(⟨0,[],[]⟩:aa)]) (k+1) (s.length+1 - (k+1)) (((s++[(⟨0,[],[]⟩:aa)]).drop k).take (s.length+1 - k))=C at hput hln;have hkc:k<C.length:=by omega
   rw[aP,Qv hkc,Qa,Qa,hput];refine .some ⟨_,rfl,?_⟩;rw[List.take_add_one,hx'];exact RP k hs
 ·simp only[hd,Ql];rw[Q9]at hs;exact .some hs
end
section
def uU(all:Bool)(d:List aa):aa:=match d with
 |[t]=>t
 |_=>⟨if all then d.length else 1,[],d⟩
theorem xd{all:Bool}{d:List aa}(h:d.length=1):∃t,d=[t]/\uU all d=t:=by
 match d,h with
 |[t],_=>exact⟨t,rfl,rfl⟩
theorem rL{all:Bool}{d:List aa}(h:2<=d.length):uU all d=⟨if all then d.length else 1,[],d⟩:=by
 match d,h with
 |_::_::_,_=>rfl
theorem aaU{all:Bool}{d:List aa}(h0:1<=d.length)(h1:d.length<=4)(hg:∀t∈d,cn t):G2 (uU all d):=by
 by_cases h:d.length=1
 ·obtain⟨t,rfl,e⟩:=xd (all:=all) h;rw[e];exact(hg t (by simp)).g2
 ·rw[rL (by omega)]
  refine⟨by simp,by simp,by simp,h1,hg,?_,?_⟩
  ·cases all<;>simp<;>omega
  ·cases all<;>simp<;>omega
theorem Ms{all:Bool}{d:List aa}(h0:1<=d.length)(k:Nat):fV (uU all d) k=d.any fun t=>fV t k:=by
 by_cases h:d.length=1
 ·obtain⟨t,rfl,e⟩:=xd (all:=all) h;rw[e];simp
 ·rw[rL (by omega),fV,Cu]
  simp
structure LH (all:Bool) (l:List (List aa)) (ms:List aA):Prop where
 len:ms.length=l.length
 at_:∀(i:Nat) (x:List aa),l[i]?=some x->∃d:List aa,d.Perm x/\ms[i]?=some ⟨true,uU all d⟩
structure zl (l:List (List aa)):Prop where
 len:l.length<=10
 Rk:∀x∈l,Trs x
theorem LH.add{all:Bool}{l:List (List aa)}{i:Nat}{ms:List aA}{x d:List aa}(h:LH all (l.take i) ms)(hx:l[i]?=some x)(hd:d.Perm x):LH all (l.take (i+1)) (ms++[⟨true,uU all d⟩]):=by
 have hil:i<l.length:=(Qw.1 hx).1;have e:l.take (i+1)=l.take i++[x]:=by rw[List.take_add_one,hx];rfl
 have hlt:(l.take i).length=i:=by rw[List.length_take];omega
 refine⟨by rw[e,QB,QB,h.len];rfl,fun j y hj=> ?_⟩
 rw[e]at hj
 by_cases hji:j<i
 ·rw[List.getElem?_append_left (by omega)]at hj
  obtain⟨d',h1,h2⟩:=h.at_ j y hj
  exact⟨d',h1,by rw[List.getElem?_append_left (by rw[h.len];omega)];exact h2⟩
 ·rw[List.getElem?_append_right (by omega),hlt]at hj
  have hj0:j - i=0:=by
   by_cases h0:j - i=0
   ·exact h0
   ·rw[Qq71 (by simp;omega)]at hj
    cases hj
  rw[hj0]at hj;simp only[List.getElem?_cons_zero,Qf]at hj;subst hj;exact⟨d,hd,by rw[List.getElem?_append_right (by rw[h.len];omega),h.len,hlt,hj0];rfl⟩
theorem LH.get{all:Bool}{l:List (List aa)}{ms:List aA}(h:LH all l ms){m:aA}(hm:m∈ms):∃x∈l,∃d:List aa,d.Perm x/\m=⟨true,uU all d⟩:=by
 obtain⟨i,hi,rfl⟩:=List.mem_iff_getElem.1 hm;have hil:i<l.length:=by rw[<-h.len];exact hi
 obtain⟨d,h1,h2⟩:=h.at_ i _ (Qv hil)
 rw[Qv hi]at h2;exact⟨_,QZ hil,d,h1,Option.some.inj h2⟩
theorem LH.Hv{all:Bool}{l:List (List aa)}{ms:List aA}(hl:zl l)(h:LH all l ms):HK ⟨ms⟩:=by
 refine⟨by show ms.length<=10;rw[h.len];exact hl.len,fun m hm=> ?_⟩
 obtain⟨x,hx,d,hd,rfl⟩:=h.get hm;have ht:=hl.Rk x hx;have hlen:=hd.length_eq;exact .inl ⟨rfl,aaU (by have:=ht.n0;omega) (by have:=ht.n1;omega) fun t h=>ht.eH t (hd.mem_iff.1 h)⟩
def VX(l:List (List aa)):Prop:=∀x∈l,∀t∈x,∀k,k<10->fV t k=true->k<l.length
theorem LH.bR{all:Bool}{l:List (List aa)}{ms:List aA}(hl:zl l)(h:LH all l ms):Cd ⟨ms⟩↔VX l:=by
 have key:∀x∈l,∀d:List aa,d.Perm x->(te ms.length ⟨true,uU all d⟩=true↔∀t∈x,∀k,k<10->fV t k=true->k<l.length):=by
  intro x hx d hd;have ht:=hl.Rk x hx;have hlen:=hd.length_eq;unfold te;simp only[Qo,Bool.false_or,QH,List.mem_range,h.len];constructor
  ·intro hk t htx k k10 hu;have:=hk k k10;rw[Ms (by have:=ht.n0;omega)]at this
   have ha:(d.any fun t=>fV t k)=true:=List.any_eq_true.2 ⟨t,hd.mem_iff.2 htx,hu⟩
   rw[ha]at this;simpa using this
  ·intro hk k k10;rw[Ms (by have:=ht.n0;omega)]
   cases ha:d.any fun t=>fV t k with
   |false=>rfl
   |true=>
    obtain⟨t,h1,h2⟩:=List.any_eq_true.1 ha;have:=hk t (hd.mem_iff.1 h1) k k10 h2;simp[this]
 constructor
 ·intro hu x hx;obtain⟨i,hi,rfl⟩:=List.mem_iff_getElem.1 hx;obtain⟨d,h1,h2⟩:=h.at_ i _ (Qv hi)
  exact(key _ hx d h1).1 (hu _ (Q7 h2))
 ·intro hu m hm;obtain⟨x,hx,d,hd,rfl⟩:=h.get hm;exact(key x hx d hd).2 (hu x hx)
def JF(all:Bool)(l:List (List aa))(q:av×Int×Unit):Prop:=(q.2.1=0/\LH all l q.1.ay/\VX l)\/(q.2.1≠0/\¬VX l)
theorem JF.fin{all:Bool}{l:List (List aa)}{ms:List aA}(hl:zl l)(h:LH all l ms){o:Option Int}(ho:HK ⟨ms⟩->Yd o fun e=>e=0↔Cd ⟨ms⟩):Yd (o.bind fun r=>bif (!decide (r=(0:Int)))then some ((av.mk ([]:List aA)),r,())else some ((av.mk ms),(0:Int),())) (JF all l):=by
 refine(ho (h.Hv hl)).bind fun r hr=>Yd.cond (fun hn=> .some (.inr ?_)) (fun hz=> .some (.inl ?_))
 ·have hn:r≠0:=by simpa using hn
  exact⟨hn,fun hu=>hn (hr.2 ((h.bR hl).2 hu))⟩
 ·have hz:r=0:=by simpa using hz
  exact⟨rfl,h,(h.bR hl).1 (hr.1 hz)⟩
theorem ab0{all:Bool}{nd:Int->Option Int}(hnd:∀n:Nat,nd (n:Int)=some (if all then(n:Int)else 1)){l:List (List aa)}(hl:zl l):Yd (ax (fun(v1:Int×av×av×(List aA)×Unit)=>
  bif (decide (v1.1<((List.length l:Nat):Int)))then
  Option.bind (idx l v1.1) fun x2=>
  Option.bind (jd x2) fun r3=>
  bif (!decide (r3.2.1=(0:Int)))then
  Option.map Sum.inr (some ((av.mk ([]:List aA)),r3.2.1,()))
  else
  bb (fun(v4:aA×Unit)=>
  bif aX 64 (List.length v1.2.2.2.1+List.length [v4.1])then
  some (Sum.inl ((aq .i64 v1.1 (1:Int)),v1.2.1,(av.mk ([]:List aA)),(v1.2.2.2.1++[v4.1]),()))
  else none) fun j5=>
  bif (decide (((List.length r3.1:Nat):Int)=(1:Int)))then
  Option.bind (idx r3.1 (0:Int)) fun x6=>
  j5 ((aA.mk true x6),())
  else
  bif (decide ((1:Int)<((List.length r3.1:Nat):Int)))then
  Option.bind (nd ((List.length r3.1:Nat):Int)) fun r7=>
  j5 ((aA.mk true (aa.mk r7 ([]:List Int) r3.1)),())
  else
  j5 ((aA.mk false (aa.mk (0:Int) ([]:List Int) ([]:List aa))),())
  else
  Option.map Sum.inr (Option.bind (c9 (av.mk v1.2.2.2.1)) fun r8=>
  bif (!decide (r8=(0:Int)))then
  some ((av.mk ([]:List aA)),r8,())
  else
  some ((av.mk v1.2.2.2.1),(0:Int),()))) ((0:Int),(av.mk ([]:List aA)),(av.mk ([]:List aA)),([]:List aA),())) (JF all l):=by
 have hlen:=hl.len;refine Yd.list l (by omega) (fun i (s:av×av×List aA)=>(i,s.1,s.2.1,s.2.2,())) (fun i s=>LH all (l.take i) s.2.2) (fun i x s hs hdr hx hi hd hw ha=> ?_) (fun s hs hd=> ?_) (s:=(⟨[]⟩,⟨[]⟩,[])) ⟨by simp,fun j x hj=>by simp at hj⟩
 ·have hx':l[i]?=some x:=by rw[<-aP];exact hw
  have ht:=hl.Rk x hx;have hsl:s.2.2.length<=10:=by rw[hs.len,List.length_take];omega
  simp only[hd,Qk,hw,Qa,ha];refine(agX ht).bind fun q ⟨q0,qp⟩=> ?_
  have hql:=qp.length_eq;have h0:=ht.n0;have hk:∀m:aA,aX 64 (s.2.2.length+[m].length)=true:=fun m=>ba (by simp;omega)
  simp only[Qg q0,Qo,Ql,bc,hk,Qk];refine Yd.cond (fun h1=> ?_) (fun h1=> ?_)
  ·have h1:q.1.length=1:=by have:=of_decide_eq_true h1;omega
   obtain⟨t,e1,e2⟩:=xd (all:=all) h1;rw[e1,show idx [t] (0:Int)=some t from rfl,Qa]
   refine .some ⟨(s.1,⟨[]⟩,s.2.2++[⟨true,t⟩]),rfl,?_⟩;rw[<-e2];exact hs.add hx' qp
  ·have h1:2<=q.1.length:=by have:=of_decide_eq_false h1;omega
   rw[Qg (by omega),Qk,hnd,Qa]
   refine .some ⟨(s.1,⟨[]⟩,s.2.2++[⟨true,uU all q.1⟩]),?_,hs.add hx' qp⟩;rw[rL h1]
 ·simp only[hd,Ql];rw[Q9]at hs;exact Yd.inr (JF.fin hl hs Xu)
theorem agB{l:List (List aa)}(hl:zl l):Yd (vf l) (JF false l):=by
 have hlen:=hl.len;unfold vf pQ;rw[Qh (by omega),Ql]
 simp only[etas,aA.eta];exact(ab0 (all:=false) (nd:=wW) (fun n=>rfl) hl).bind fun r h=> .some h
theorem afl{l:List (List aa)}(hl:zl l):Yd (tw l) (JF true l):=by
 have hlen:=hl.len;unfold tw pP;rw[Qh (by omega),Ql]
 simp only[etas,aA.eta];exact(ab0 (all:=true) (nd:=vF) (fun n=>rfl) hl).bind fun r h=> .some h
theorem abZ(all:Bool){l:List (List aa)}(hl:zl l):Yd (qZ l all) (JF all l):=by
 have hlen:=hl.len;unfold qZ;rw[Qh (by omega),Ql]
 simp only[etas,aA.eta];refine Yd.list l (by omega) (fun i (s:av×av×List aA)=>(i,s.1,s.2.1,s.2.2,())) (fun i s=>LH all (l.take i) s.2.2) (fun i x s hs hdr hx hi hd hw ha=> ?_) (fun s hs hd=> ?_) (s:=(⟨[]⟩,⟨[]⟩,[])) ⟨by simp,fun j x hj=>by simp at hj⟩
 ·have hx':l[i]?=some x:=by rw[<-aP];exact hw
  have ht:=hl.Rk x hx;have hn1:=ht.n1;have hsl:s.2.2.length<=10:=by rw[hs.len,List.length_take];omega
  simp only[hd,Qk,hw,Qa,ha];refine Yd.list x (by omega) (fun j (u:av)=>(j,u,())) (fun _ _=>True) (fun j t u _ _ htx hj hd' hw' ha'=> ?_) (fun u _ hd'=> ?_) (s:=s.1) trivial
  ·simp only[hd',Qk,hw',Qa,ha',jH (ht.eH t htx).sm,l5 (ht.eH t htx),decide_true,Qo,Ql];exact .some ⟨u,rfl,trivial⟩
  ·simp only[hd',Ql];refine Yd.inr ?_;show Yd _ _;refine(agW ht).bind fun q qp=> ?_
   have hql:=qp.length_eq;have h0:=ht.n0;have hk:∀m:aA,aX 64 (s.2.2.length+[m].length)=true:=fun m=>ba (by simp;omega)
   rw[Qh (by omega),Ql]
   simp only[bc,hk,Qk];refine Yd.cond (fun h1=> ?_) (fun h1=> ?_)
   ·have h1:q.length=1:=by have:=of_decide_eq_true h1;omega
    obtain⟨t,e1,e2⟩:=xd (all:=all) h1;rw[e1,show idx [t] (0:Int)=some t from rfl,Qa]
    refine .some ⟨(u,⟨[]⟩,s.2.2++[⟨true,t⟩]),rfl,?_⟩;rw[<-e2];exact hs.add hx' qp
   ·have h1:2<=q.length:=by have:=of_decide_eq_false h1;omega
    rw[Qg (by omega),Qk]
    have hfin:=hs.add hx' qp;rw[rL h1]at hfin
    cases all with
    |true=>exact .some ⟨(u,⟨[]⟩,_),rfl,hfin⟩
    |false=>exact .some ⟨(u,⟨[]⟩,_),rfl,hfin⟩
 ·simp only[hd,Ql];rw[Q9]at hs;exact Yd.inr (JF.fin hl hs TM)
theorem agA{l:List (List aa)}(hl:zl l):Yd (zZ l) (JF false l):=by
 unfold zZ;exact(abZ false hl).bind fun r h=> .some h
theorem afk{l:List (List aa)}(hl:zl l):Yd (yz l) (JF true l):=by
 unfold yz;exact(abZ true hl).bind fun r h=> .some h
end
section
mutual
def fY(s:Nat):aa->aa
 |⟨th,ns,is⟩=>⟨max 0 (th - ((ns.countP (dE s)+w9 s is:Nat):Int)),ns.filter fun x=> !dE s x,ml s is⟩
def ml(s:Nat):List aa->List aa
 |[]=>[]
 |t::l=>if(fY s t).ar=0 then ml s l else fY s t::ml s l
def w9(s:Nat):List aa->Nat
 |[]=>0
 |t::l=>(if(fY s t).ar=0 then 1 else 0)+w9 s l
end
theorem LP(s:Nat)(t:aa):fY s t=⟨max 0 (t.ar - ((t.au.countP (dE s)+w9 s t.aG:Nat):Int)),t.au.filter fun x=> !dE s x,ml s t.aG⟩:=by cases t;rw[fY]
theorem LO(s:Nat)(t:aa):0<=(fY s t).ar:=by rw[LP];exact Int.le_max_left _ _
theorem Vp(s:Nat)(u:aa):∀l:List aa,ml s (l++[u])=if(fY s u).ar=0 then ml s l else ml s l++[fY s u]
 |[]=>by
  rw[List.nil_append,ml,ml];split<;>rfl
 |t::l=>by
  rw[List.cons_append,ml,Vp s u l,ml];split<;>split<;>rfl
theorem Vm(s:Nat)(u:aa):∀l:List aa,w9 s (l++[u])=w9 s l+(if(fY s u).ar=0 then 1 else 0)
 |[]=>by
  simp[w9]
 |t::l=>by
  rw[List.cons_append,w9,Vm s u l,w9];omega
theorem Ib(s:Nat):∀l:List aa,(ml s l).length+w9 s l=l.length
 |[]=>by rw[ml,w9];rfl
 |t::l=>by
  have:=Ib s l;rw[ml,w9,QE];split
  ·omega
  ·rw[QE];omega
theorem Nt{s:Nat}{u:aa}:∀{l:List aa},u∈ml s l->∃t∈l,u=fY s t/\u.ar≠0
 |[],h=>by rw[ml]at h;cases h
 |t::l,h=>by
  rw[ml]at h;split at h
  ·obtain⟨t',h1,h2⟩:=Nt h;exact⟨t',Qy _ h1,h2⟩
  ·rename_i hne;rcases QA.1 h with rfl|h
   ·exact⟨t,Qx,rfl,hne⟩
   ·obtain⟨t',h1,h2⟩:=Nt h;exact⟨t',Qy _ h1,h2⟩
theorem Sd{t:aa}(hm:cJ t)(h0:0<=t.ar)(hb:t.ar<=2000000){s:Nat}{rec:aa->Option aa}(hr:∀u∈t.aG,rec u=some (fY s u))
  {step1:(Int×aa×(List Int)×(List aa)×Unit)->Option ((Int×aa×(List Int)×(List aa)×Unit)⊕aa)} {step2:(Int×aa×(List Int)×(List aa)×Unit)->Option ((Int×aa×(List Int)×(List aa)×Unit)⊕aa)}
  (h1:∀(i:Nat) (x:Int) (T:aa) (ns:List Int),decide ((i:Int)<(t.au.length:Int))=true->idx t.au (i:Int)=some x->aq .i64 (i:Int) 1=((i+1:Nat):Int)->aX 8 (ns.length+[x].length)=true->0<=T.ar->T.ar<=2000000->step1 ((i:Int),T,ns,[],())=some (.inl (((i+1:Nat):Int),⟨if dE s x then max 0 (T.ar - 1)else T.ar,[],[]⟩,(if dE s x then ns else ns++[x]),[],())))
  (h2:∀(T:aa) (ns:List Int),decide ((t.au.length:Int)<(t.au.length:Int))=false->step1 ((t.au.length:Int),T,ns,[],())=Option.map Sum.inr (ax step2 (0,⟨T.ar,[],[]⟩,ns,[],())))
  (h3:∀(i:Nat) (u:aa) (T:aa) (ns:List Int) (is:List aa),decide ((i:Int)<(t.aG.length:Int))=true->idx t.aG (i:Int)=some u->rec u=some (fY s u)->aq .i64 (i:Int) 1=((i+1:Nat):Int)->aX 56 (is.length+[fY s u].length)=true->0<=T.ar->T.ar<=2000000->
   step2 ((i:Int),T,ns,is,())=some (.inl (((i+1:Nat):Int),⟨if(fY s u).ar=0 then max 0 (T.ar - 1)else T.ar,[],[]⟩,ns,(if(fY s u).ar=0 then is else is++[fY s u]),())))
  (h4:∀(T:aa) (ns:List Int) (is:List aa),decide ((t.aG.length:Int)<(t.aG.length:Int))=false->step2 ((t.aG.length:Int),T,ns,is,())=some (.inr ⟨T.ar,ns,is⟩)):ax step1 (0,⟨t.ar,[],[]⟩,[],[],())=some (fY s t):=by
 have hn:=hm.nodes;have hl:=hm.len;refine Yd.DF ?_;refine Yd.list t.au (by omega) (fun i (u:aa×List Int)=>(i,u.1,u.2,[],())) (fun i u=>u.1.ar=max 0 (t.ar - (((t.au.take i).countP (dE s):Nat):Int))/\u.2=(t.au.take i).filter fun x=> !dE s x) (fun i x u ⟨g1,g2⟩ hdr hx hi hd hw ha=> ?_) (fun u ⟨g1,g2⟩ hd=> ?_) (s:=(⟨t.ar,[],[]⟩,[])) ⟨by simp;omega,by simp⟩
 ·have hx':t.au[i]?=some x:=by rw[<-aP];exact hw
  have e:t.au.take (i+1)=t.au.take i++[x]:=by rw[List.take_add_one,hx'];rfl
  have hul:u.2.length<=i:=by rw[g2];exact QK (List.length_filter_le _ _) (by rw[List.length_take];omega)
  rw[h1 i x u.1 u.2 hd hw ha (ba (by simp;omega)) (by omega) (by omega)]
  refine .some ⟨(_,_),rfl,?_,?_⟩
  ·show(if dE s x=true then max 0 (u.1.ar - 1)else u.1.ar)=_
   rw[e,List.countP_append,List.countP_singleton]
   cases hh:dE s x with
   |true=>simp only[Qt];omega
   |false=>simp only[Qq,Qu];omega
  ·show(if dE s x=true then u.2 else u.2++[x])=_
   rw[e,List.filter_append,<-g2,List.filter_cons,List.filter_nil]
   cases hh:dE s x with
   |true=>simp only[Qt,Qo,Qq,Qu,List.append_nil]
   |false=>simp only[Qq,Qu,Qp,Qt]
 ·rw[h2 _ _ hd];refine Yd.inr ?_;show Yd _ fun r=>r=fY s t
  rw[Q9]at g1 g2;refine Yd.list t.aG (by omega) (fun i (v:aa×List aa)=>(i,v.1,u.2,v.2,())) (fun i v=>v.1.ar=max 0 (t.ar - ((t.au.countP (dE s)+w9 s (t.aG.take i):Nat):Int))/\v.2=ml s (t.aG.take i)) (fun i x v ⟨f1,f2⟩ hdr hx hi hd hw ha=> ?_) (fun v ⟨f1,f2⟩ hd=> ?_) (s:=(⟨u.1.ar,[],[]⟩,[])) ⟨by simp[w9];omega,by simp[ml]⟩
  ·have hx':t.aG[i]?=some x:=by rw[<-aP];exact hw
   have e:t.aG.take (i+1)=t.aG.take i++[x]:=by rw[List.take_add_one,hx'];rfl
   have hvl:v.2.length<=i:=by
    rw[f2];have:=Ib s (t.aG.take i);rw[List.length_take]at this;omega
   rw[h3 i x v.1 u.2 v.2 hd hw (hr x hx) ha (ba (by simp;omega)) (by omega) (by omega)]
   refine .some ⟨(_,_),rfl,?_,?_⟩
   ·show(if(fY s x).ar=0 then max 0 (v.1.ar - 1)else v.1.ar)=_
    rw[e,Vm]
    by_cases hz:(fY s x).ar=0
    ·rw[Qr hz,Qr hz];omega
    ·rw[Qs hz,Qs hz];omega
   ·show(if(fY s x).ar=0 then v.2 else v.2++[fY s x])=_
    rw[e,Vp,<-f2]
  ·rw[h4 _ _ _ hd];rw[Q9]at f1 f2;refine .some ?_;rw[LP,f1,f2,g2]
theorem ads{a:Int}(h:0<=a):max a 0=a:=by omega
theorem Vk(a b:Int):bP a b=max a b:=by unfold bP;split<;>omega
theorem Y4{a:Int}(h0:0<=a)(h1:a<=2000000):mh a 1=some (max 0 (a - 1)):=by
 unfold mh;rw[Vk,jA (by omega) (by omega)]
 congr 1;omega
theorem Sg{a:Int}(h0:0<=a)(h1:a<=2000000):sL a=some (max 0 (a - 1)):=by
 unfold sL
 by_cases h:a<=0
 ·rw[Qg h,Qk];congr 1;omega
 ·rw[Qh h,Ql,jA (by omega) (by omega)]
  congr 1;omega
inductive HH:aa->Prop where
 |mk (t:aa) (h0:0<=t.ar) (h1:t.ar<=2000000) (h:∀u∈t.aG,HH u):HH t
theorem HH.nn{t:aa}:HH t->0<=t.ar/\t.ar<=2000000| .mk _ h0 h1 _=>⟨h0,h1⟩
theorem HH.inner{t:aa}:HH t->∀u∈t.aG,HH u| .mk _ _ _ h=>h
theorem cn.tht{t:aa}(h:cn t):HH t:=by
 have h1:=h.th;have h2:=h.il;have h3:=h.len;refine .mk t (by omega) (by omega) fun u hu=> ?_
 rcases h.inner with e|⟨x,_,_,e⟩
 ·rw[e]at hu;cases hu
 ·rw[e]at hu;rw[Q4.1 hu];exact .mk _ (show(0:Int)<=1 by decide) (show(1:Int)<=2000000 by decide) fun v hv=>by cases hv
theorem G2.tht{t:aa}(h:G2 t):HH t:=by
 have h1:=h.th;have h2:=h.il;have h3:=h.len;exact .mk t (by omega) (by omega) fun u hu=>(h.inner u hu).tht
theorem ahc{s:Nat}(hs:s<1024){n:Nat}:∀{t:aa},SizeOf.sizeOf t<n->cJ t->HH t->rO n (t,(s:Int),())=some (fY s t):=by
 induction n with
 |zero=>intro t h;omega
 |succ n ih=>
  intro t hz hm ht;show so (rO n) t s=some (fY s t);unfold so;simp only[etas];rw[Vk,ads ht.nn.1];refine Sd (rec:=fun u=>rO n (u,(s:Int),())) hm ht.nn.1 ht.nn.2 (fun u hu=>ih (t:=u) (by have:=iA hu;omega) (hm.inner u hu) (ht.inner u hu)) (fun i x T ns hd hw ha hk t0 t1=> ?_) (fun T ns hd=>by simp only[hd,Ql];rfl) (fun i u T ns is hd hw hr ha hk t0 t1=> ?_) (fun T ns is hd=>by simp only[hd,Ql];rfl)
  ·simp only[hd,Qk,hw,ha,Qa,bc,lF,pL hs,Y4 t0 t1,hk];cases dE s x<;>rfl
  ·simp only[hd,Qk,hw,ha,Qa,bc,hr,Y4 t0 t1,hk]
   by_cases hz:(fY s u).ar=0
   ·simp only[Qg hz,Qk,Qr hz]
   ·simp only[Qh hz,Ql,Qs hz]
theorem ahb{s:Nat}(hs:s<1024){n:Nat}:∀{t:aa},SizeOf.sizeOf t<n->cJ t->HH t->yg n (t,(s:Int),())=some (fY s t):=by
 induction n with
 |zero=>intro t h;omega
 |succ n ih=>
  intro t hz hm ht;show yH (yg n) t s=some (fY s t);unfold yH;simp only[etas];refine Sd (rec:=fun u=>yg n (u,(s:Int),())) hm ht.nn.1 ht.nn.2 (fun u hu=>ih (t:=u) (by have:=iA hu;omega) (hm.inner u hu) (ht.inner u hu)) (fun i x T ns hd hw ha hk t0 t1=> ?_) (fun T ns hd=>by simp only[hd,Ql];rfl) (fun i u T ns is hd hw hr ha hk t0 t1=> ?_) (fun T ns is hd=>by simp only[hd,Ql];rfl)
  ·simp only[hd,Qk,hw,ha,Qa,bc,jQ,pL hs,Sg t0 t1,hk];cases dE s x<;>rfl
  ·simp only[hd,Qk,hw,ha,Qa,bc,hr,Sg t0 t1,hk];have hnn:=LO s u
   by_cases hz:(fY s u).ar=0
   ·simp only[Qg (show(fY s u).ar<=0 by omega),Qk,Qr hz]
   ·simp only[Qh (show¬(fY s u).ar<=0 by omega),Ql,Qs hz]
theorem ae9(x s:Nat)(k:Int):dE (x|||s) k=(dE x k||dE s k):=by
 unfold dE;rw[Nat.testBit_or];cases fl k<;>simp
theorem TF(x s:Nat):∀l:List Int,(l.filter fun k=> !dE s k).countP (dE x)+l.countP (dE s)=l.countP (dE (x|||s))
 |[]=>rfl
 |k::l=>by
  have:=TF x s l;rw[List.filter_cons,List.countP_cons,List.countP_cons,ae9]
  cases dE s k with
  |true=>simp;omega
  |false=>
   simp only[Qp,Qt,List.countP_cons,Bool.or_false,Qq,Qu];omega
mutual
theorem Vn(x s:Nat):∀t:aa,dC x (fY s t)=dC (x|||s) t
 |⟨th,ns,is⟩=>by
  have h1:=TF x s ns;have h2:=Vo x s is;rw[fY,dC,dC,decide_eq_decide];omega
theorem Vo(x s:Nat):∀l:List aa,kU x (ml s l)+w9 s l=kU (x|||s) l
 |[]=>by rw[ml,w9,kU,kU]
 |t::l=>by
  have h1:=Vn x s t;have h2:=Vo x s l;rw[ml,w9,kU]
  by_cases hz:(fY s t).ar=0
  ·rw[Qr hz,Qr hz]
   have:dC x (fY s t)=true:=by
    rw[DJ,hz];exact Qg (by omega)
   rw[<-h1,this,Qr rfl];omega
  ·rw[Qs hz,Qs hz,kU,h1];omega
end
mutual
theorem JY(s:Nat):∀t:aa,(fY s t).ar=0↔dC s t=true
 |⟨th,ns,is⟩=>by
  have h2:=Vl s is;rw[fY,dC,Qi];simp only;omega
theorem Vl(s:Nat):∀l:List aa,w9 s l=kU s l
 |[]=>by rw[w9,kU]
 |t::l=>by
  have h1:=JY s t;rw[w9,kU,Vl s l]
  by_cases hz:(fY s t).ar=0
  ·rw[Qr hz,Qr (h1.1 hz)]
  ·rw[Qs hz,Qs fun e=>hz (h1.2 e)]
end
mutual
theorem Se(s k:Nat):∀t:aa,fV (fY s t) k=true->fV t k=true
 |⟨th,ns,is⟩=>by
  intro h;rw[fY,fV,Qn]at h;rw[fV,Qn];rcases h with h|h
  ·refine .inl ?_;rw[List.contains_iff_mem]at h ⊢;exact(List.mem_filter.1 h).1
  ·exact .inr (JZ s k is h)
theorem JZ(s k:Nat):∀l:List aa,ta (ml s l) k=true->ta l k=true
 |[]=>by rw[ml];exact fun h=>h
 |t::l=>by
  intro h;rw[ml]at h;rw[ta,Qn];split at h
  ·exact .inr (JZ s k l h)
  ·rw[ta,Qn]at h;rcases h with h|h
   ·exact .inl (Se s k t h)
   ·exact .inr (JZ s k l h)
end
theorem count_filter(s:Nat)(l:List Int):(l.filter fun k=> !dE s k).length+l.countP (dE s)=l.length:=by
 rw[<-List.countP_eq_length_filter];have:=List.length_eq_countP_add_countP (p:=dE s) (l:=l);have e:l.countP (fun k=> !dE s k)=l.countP fun a=>decide ¬dE s a=true:=List.countP_congr fun x _=>by simp
 rw[e];omega
theorem cn.lv{t:aa}(h:cn t){s:Nat}(h1:(fY s t).ar≠0):cn (fY s t):=by
 have hnn:=LO s t;have hc:=count_filter s t.au;have hlc:=Ib s t.aG;have hth:=h.th;rw[LP]at h1 hnn ⊢;simp only at h1 hnn;refine⟨fun x hx=>h.nodes x ((List.mem_filter.1 hx).1),h.nodup.filter _,?_,?_,?_⟩
 ·have:=h.len;show(t.au.filter _).length<=10;omega
 ·show ml s t.aG=[]\/∃x,0<=x/\x<10/\ml s t.aG=[⟨1,[x],[]⟩];rcases h.inner with e|⟨x,x0,x1,e⟩
  ·rw[e];exact .inl rfl
  ·rw[e];have el:fY s ⟨1,[x],[]⟩=⟨max 0 (1 - (([x].countP (dE s)+0:Nat):Int)),[x].filter fun k=> !dE s k,[]⟩:=by rw[fY,w9,ml]
   rw[ml,el,ml]
   cases hx:dE s x with
   |true=>simp[hx]
   |false=>
    refine .inr ⟨x,x0,x1,?_⟩;have e1:max (0:Int) 1=1:=by decide
    simp[hx,e1]
 ·show 1<=max 0 _/\max 0 _<=(((t.au.filter _).length:Nat):Int)+((ml s t.aG).length:Nat);omega
theorem G2.lv{t:aa}(h:G2 t){s:Nat}(h1:(fY s t).ar≠0):G2 (fY s t):=by
 have hnn:=LO s t;have hc:=count_filter s t.au;have hlc:=Ib s t.aG;have hth:=h.th;rw[LP]at h1 hnn ⊢;simp only at h1 hnn;refine⟨fun x hx=>h.nodes x ((List.mem_filter.1 hx).1),h.nodup.filter _,?_,?_,fun u hu=> ?_,?_⟩
 ·have:=h.len;show(t.au.filter _).length<=10;omega
 ·have:=h.il;show(ml s t.aG).length<=4;omega
 ·obtain⟨v,h2,rfl,h3⟩:=Nt (show u∈ml s t.aG from hu)
  exact(h.inner v h2).lv h3
 ·show 1<=max 0 _/\max 0 _<=(((t.au.filter _).length:Nat):Int)+((ml s t.aG).length:Nat);omega
end
section
theorem ZB{n:Nat}(h:n<1000000):bz .u64 (n:Int)=n:=by
 unfold bz IntKind.wrap;simp[IntKind.signed,IntKind.bits];omega
theorem Yd.next{σ ρ:Type}{step:σ->Option (σ⊕ρ)}{s s':σ}{p:ρ->Prop}(h:step s=Option.some (.inl s'))(k:Yd (ax step s') p):Yd (ax step s) p:=by rw[cD h];exact k
theorem Yd.last{σ ρ:Type}{step:σ->Option (σ⊕ρ)}{s:σ}{r:ρ}{p:ρ->Prop}(h:step s=Option.some (.inr r))(k:p r):Yd (ax step s) p:=by rw[ct h];exact Yd.some k
def pc(n:Nat):Nat:=(List.range 10).countP n.testBit
set_option maxRecDepth 100000 in
theorem Vc:∀n,n<1024->oF ((n:Nat):Int)=some ((pc n:Nat):Int):=by decide+kernel
theorem acK{n:Nat}(h:n<1024):lD (n:Int)=some ((pc n:Nat):Int):=by
 simp only[lD,lE,oP h,Qa,Qo,Ql,mB,ZB (n:=n) (by omega),Vc n h]
def rk(a:Int):Int:=if 0<=a/\a<1024 then(pc a.toNat:Nat)else -1
theorem agr(a:Int):lD a=some (rk a):=by
 unfold rk
 by_cases h:0<=a/\a<1024
 ·rw[Qr h];have:=acK (n:=a.toNat) (by omega)
  rwa [Int.toNat_of_nonneg h.1]at this
 ·rw[Qs h]
  have hv:dz a=some false:=by
   rw[Eg];simp;omega
  simp only[lD,hv,Qa,Qp,Qk]
def KG(a b:Int):Int:=if vA (rk a) (rk b)=0 then vA a b else vA (rk a) (rk b)
theorem Vj(a b:Int):gS a b=some (KG a b):=by
 simp only[gS,agr,Qa,sf,KO,KG]
theorem Fk(a b:Int):KG a b<0↔rk a<rk b\/(rk a=rk b/\a<b):=by
 unfold KG
 by_cases h:rk a=rk b
 ·rw[Qr ((ui _ _).2 h),B4];omega
 ·rw[Qs (fun h1=>h ((ui _ _).1 h1)),B4]
  omega
theorem agp:Go.Sort.SWO fun a b:Int=>decide (KG a b<0):=by
 refine⟨fun x=> ?_,fun x y z h1 h2=> ?_,fun x y z h1 h2=> ?_⟩
 ·rw[Qj,Fk];omega
 ·rw[Qi,Fk]at*;omega
 ·rw[Qj,Fk]at*;omega
def pU(a b:Nat):Prop:=∀k,a.testBit k=true->b.testBit k=true
theorem pU.refl(a:Nat):pU a a:=fun _ h=>h
theorem pU.trans{a b c:Nat}(h:pU a b)(h':pU b c):pU a c:=fun k hk=>h' k (h k hk)
theorem Rr{a b:Nat}(h:pU a b):a<=b:=by
 have:a&&&b=a:=qH fun k=>by
  rw[Nat.testBit_and]
  cases ha:a.testBit k with
  |false=>rfl
  |true=>rw[h k ha];rfl
 rw[<-this];exact Nat.and_le_right
theorem Dv{a b:Nat}(ha:a<2 ^ 62)(hb:b<2 ^ 62):decide (gn .i64 (a:Int) (b:Int)=0)=true↔pU a b:=by
 obtain⟨c,h1,h2,h3⟩:=vW a b ha hb;rw[h1,Qi];constructor
 ·intro h k hk;have h0:c=0:=by omega
  have:=h3 k;rw[h0,Nat.zero_testBit,hk,Bool.true_and]at this
  cases hb:b.testBit k with
  |true=>rfl
  |false=>rw[hb]at this;cases this
 ·intro h
  have:c=0:=qH fun k=>by
   rw[h3,Nat.zero_testBit]
   cases hk:a.testBit k with
   |false=>rfl
   |true=>rw[h k hk];rfl
  omega
structure hY (f:Nat) (S:List Int):Prop where
 m:∀x,x∈S↔∃n:Nat,x=n/\pU n f
def aeu(S T:List Int):Prop:=hZ S=some ((),T)/\T.Perm S
theorem aeL:acn fun x y=>gS x y:=by
 have e:∀x y:Int,Fl (fun x y=>gS x y) x y=KG x y:=fun x y=>by simp only[Fl,Vj,Q2]
 have el:ltOf (Fl fun x y=>gS x y)=fun a b:Int=>decide (KG a b<0):=by
  funext x y
  unfold ltOf;rw[e]
 refine⟨fun x y=>by rw[e];exact Vj x y,by rw[el];exact agp,fun x y h1 h2=> ?_⟩
 rw[el]at h1 h2;simp only[Qj,Fk]at h1 h2;omega
theorem Z9(S:List Int)(h:S.length<=1000000):∃T,aeu S T:=by
 refine⟨S.mergeSort fun x y=> !(ltOf (Fl fun x y=>gS x y)) y x,?_,List.mergeSort_perm _ _⟩
 unfold hZ Ga;rw[Qr ⟨aeL,by omega⟩]
theorem XM{f:Nat}(hf:f<1024):Yd (qq f) fun T=>hY f T/\T.length<=f+1:=by
 unfold qq
 suffices key:∀(k i:Nat) (o:List Int),i+k=f+1->o.length<=i->(∀x,x∈o↔∃n:Nat,x=n/\n<i/\pU n f)->Yd (ax _ ((i:Int),o,())) fun T=>hY f T/\T.length<=f+1 from key (f+1) 0 [] (by omega) (by simp) (fun x=>by
  constructor
  ·intro h;cases h
  ·rintro⟨n,_,h,_⟩;omega)
 intro k
 induction k with
 |zero=>
  intro i o hi ho hm;obtain rfl:i=f+1:=by omega
  have hd:decide (((f+1:Nat):Int)<=(f:Int))=false:=Qh (by omega)
  refine Yd.loop ?_;simp only[oP hf,Qa,Qk,hd,Ql];obtain⟨T,h1,h2⟩:=Z9 o (by omega)
  rw[h1];refine Yd.some ⟨⟨fun x=> ?_⟩,by rw[h2.length_eq];exact ho⟩
  rw[h2.mem_iff,hm];constructor
  ·rintro⟨n,g1,_,g2⟩;exact⟨n,g1,g2⟩
  ·rintro⟨n,g1,g2⟩;exact⟨n,g1,by have:=Rr g2;omega,g2⟩
 |succ k ih=>
  intro i o hi ho hm;have hd:decide ((i:Int)<=(f:Int))=true:=Qg (by omega)
  have hw:aq .i64 (i:Int) 1=((i+1:Nat):Int):=bN (by omega) (by omega)
  have hz:=Dv (a:=i) (b:=f) (by omega) (by omega)
  cases hb:decide (gn .i64 (i:Int) (f:Int)=0)with
  |true=>
   refine Yd.next ?_ (ih (i+1) (o++[(i:Int)]) (by omega) (by simp;omega) (fun x=> ?_))
   ·simp only[oP hf,Qa,Qk,hd,bc,hw,hb];rw[ba (by simp;omega),Qk]
   rw[Qz,Q4,hm];constructor
   ·rintro(⟨n,g1,g2,g3⟩|g)
    ·exact⟨n,g1,by omega,g3⟩
    ·exact⟨i,g,by omega,hz.1 hb⟩
   ·rintro⟨n,g1,g2,g3⟩
    by_cases g4:n<i
    ·exact .inl ⟨n,g1,g4,g3⟩
    ·exact .inr (by omega)
  |false=>
   refine Yd.next ?_ (ih (i+1) o (by omega) (by omega) (fun x=> ?_))
   ·simp only[oP hf,Qa,Qk,hd,bc,hw,hb,Ql]
   rw[hm];constructor
   ·rintro⟨n,g1,g2,g3⟩;exact⟨n,g1,by omega,g3⟩
   ·rintro⟨n,g1,g2,g3⟩;refine⟨n,g1,?_,g3⟩
    by_cases g4:n<i
    ·exact g4
    ·obtain rfl:n=i:=by omega
     rw[hz.2 g3]at hb;cases hb
theorem RG{n:Nat}(h:n<1024):nZ (n:Int)=some ((pc n:Nat):Int):=by
 unfold nZ;rw[kc h];refine Yd.DF ?_
 suffices key:∀(k i:Nat),i+k=10->Yd (ax _ (((((List.range i).countP n.testBit:Nat)):Int),(i:Int),())) fun r:Int=>r=((pc n:Nat):Int)from key 10 0 rfl
 intro k
 induction k with
 |zero=>
  intro i hi;obtain rfl:i=10:=by omega
  refine Yd.last (r:=((pc n:Nat):Int)) ?_ rfl;rfl
 |succ k ih=>
  intro i hi;refine Yd.next ?_ (ih (i+1) (by omega))
  have hcl:(List.range i).countP n.testBit<=i:=by
   have:=List.countP_le_length (p:=n.testBit) (l:=List.range i)
   rwa [List.length_range]at this
  have hsh:bp .i64 (cm .i64 (n:Int) (i:Int)) 1=((if n.testBit i then 1 else 0:Nat):Int):=by
   have hle:n>>>i<=n:=by rw[Nat.shiftRight_eq_div_pow];exact Nat.div_le_self _ _
   rw[Rp n i (by omega),show(1:Int)=((1:Nat):Int)from rfl,kv _ 1 (by omega) (by omega)]
   congr 1;rw[Nat.and_one_is_mod,Nat.shiftRight_eq_div_pow];have:=Nat.testBit_eq_decide_div_mod_eq (x:=n) (i:=i);rw[this]
   by_cases hb:n / 2 ^ i % 2=1
   ·simp[hb]
   ·have:n / 2 ^ i % 2=0:=by omega
    simp[this]
  simp only[];rw[Qg (show(i:Int)<10 by omega)]
  simp only[Qk,Qa,hsh];rw[Qs (by omega),List.range_succ,List.countP_append,List.countP_singleton,bN (by split<;>omega) (by split<;>omega),bN (by omega) (by omega)]
  congr 2
theorem N6{i f:Nat}(hi:i<2 ^ 62)(hf:f<2 ^ 62):decide (bp .i64 (i:Int) (f:Int)=(i:Int))=true↔pU i f:=by
 rw[kv i f hi hf,Qi];constructor
 ·intro h k hk;have h:i&&&f=i:=by omega
  have:=congrArg (fun z=>z.testBit k) h
  simp only[Nat.testBit_and,hk,Bool.true_and]at this;exact this
 ·intro h
  have:i&&&f=i:=qH fun k=>by
   rw[Nat.testBit_and]
   cases hk:i.testBit k with
   |false=>rfl
   |true=>rw[h k hk];rfl
  rw[this]
theorem ac3{a b:Nat}(h:pU a b):pc a<=pc b:=List.countP_mono_left fun x _ hx=>h x hx
theorem Lq(n:Nat):pc n<=10:=by
 have:=List.countP_le_length (p:=n.testBit) (l:=List.range 10)
 rwa [List.length_range]at this
theorem Yf{f j:Nat}(hf:f<1024)(hj:j<=10){o:List Int}(ho:o.length<=j*1024)(hm:∀x,x∈o↔∃n:Nat,x=n/\pc n<j/\pU n f):Yd (ax (fun(v5:Int×(List Int)×Unit)=>
  bif (decide (v5.1<=(f:Int)))then
  Option.bind (bif (decide ((bp .i64 v5.1 (f:Int))=v5.1))then
  Option.bind (nZ v5.1) fun r8=>
  some (decide (r8=(j:Int)))
  else some false) fun b9=>
  bif b9 then
  bif aX 8 (List.length v5.2.1+List.length [v5.1])then
  some (Sum.inl ((aq .i64 v5.1 (1:Int)),(v5.2.1++[v5.1]),()))
  else none
  else
  some (Sum.inl ((aq .i64 v5.1 (1:Int)),v5.2.1,()))
  else
  Option.map Sum.inr (some (Sum.inl ((aq .i64 (j:Int) (1:Int)),v5.2.1,())))) ((0:Int),o,())) fun y:(Int×List Int×Unit)⊕List Int=>∃p:List Int,y= .inl (((j+1:Nat):Int),p,())/\p.length<=(j+1)*1024/\∀x,x∈p↔∃n:Nat,x=n/\pc n<j+1/\pU n f:=by
 have hj1:j*1024<=10*1024:=Qq62 _ (by omega)
 suffices J3:∀(d i:Nat) (p:List Int),i+d=f+1->p.length<=j*1024+i->(∀x,x∈p↔∃n:Nat,x=n/\(pc n<j\/(pc n=j/\n<i))/\pU n f)->Yd (ax _ ((i:Int),p,())) fun y:(Int×List Int×Unit)⊕List Int=>∃p:List Int,y= .inl (((j+1:Nat):Int),p,())/\p.length<=(j+1)*1024/\∀x,x∈p↔∃n:Nat,x=n/\pc n<j+1/\pU n f from J3 (f+1) 0 o (Nat.zero_add _) (by rw[Nat.add_zero];exact ho) (fun x=>by
  rw[hm];constructor
  ·rintro⟨n,g1,g2,g3⟩;exact⟨n,g1,.inl g2,g3⟩
  ·rintro⟨n,g1,g2|⟨_,g2⟩,g3⟩
   ·exact⟨n,g1,g2,g3⟩
   ·omega)
 intro d
 induction d with
 |zero=>
  intro i p hi hp hpm;refine Yd.loop ?_;simp only[];rw[Qh (show¬(i:Int)<=(f:Int)by omega),Ql]
  rw[bN (by omega) (by omega)]
  refine Yd.inr (Yd.some ⟨p,rfl,by omega,fun x=> ?_⟩)
  rw[hpm];constructor
  ·rintro⟨n,g1,g2|⟨g2,_⟩,g3⟩<;>exact⟨n,g1,by omega,g3⟩
  ·rintro⟨n,g1,g2,g3⟩;have:=Rr g3;exact⟨n,g1,by omega,g3⟩
 |succ d ih2=>
  intro i p hi hp hpm;have hif:i<=f:=by omega
  have hw:aq .i64 (i:Int) 1=((i+1:Nat):Int):=bN (by omega) (by omega)
  have hz:=N6 (i:=i) (f:=f) (by omega) (by omega)
  have hk:aX 8 (p.length+[(i:Int)].length)=true:=ba (by simp;omega)
  have step:∀b:Bool,(b=true↔(pU i f/\pc i=j))->(bif (decide (bp .i64 (i:Int) (f:Int)=(i:Int)))then Option.bind (nZ (i:Int)) fun r8=>some (decide (r8=(j:Int)))else some false)=some b:=fun b hb=>by
   cases hs:decide (bp .i64 (i:Int) (f:Int)=(i:Int))with
   |true=>
    rw[Qk,RG (by omega),Qa]
    congr 1;rw[QW,hb,Qi];constructor
    ·intro h;exact⟨hz.1 hs,by omega⟩
    ·rintro⟨_,h⟩;omega
   |false=>
    rw[Ql];congr 1
    cases hbb:b with
    |false=>rfl
    |true=>
     rw[hz.2 (hb.1 hbb).1]at hs;cases hs
  by_cases hy:pU i f/\pc i=j
  ·refine Yd.next ?_ (ih2 (i+1) (p++[(i:Int)]) (by omega) (by simp;omega) fun x=> ?_)
   ·simp only[];rw[Qg (show(i:Int)<=(f:Int)by omega),Qk,step true (by simp[hy])]
    simp only[Qa,Qk,hk,hw]
   rw[Qz,Q4,hpm];constructor
   ·rintro(⟨n,g1,g2,g3⟩|g)
    ·exact⟨n,g1,by omega,g3⟩
    ·exact⟨i,g,.inr ⟨hy.2,by omega⟩,hy.1⟩
   ·rintro⟨n,g1,g2,g3⟩
    by_cases g4:n=i
    ·subst g4;exact .inr g1
    ·exact .inl ⟨n,g1,by omega,g3⟩
  ·refine Yd.next ?_ (ih2 (i+1) p (by omega) (by omega) fun x=> ?_)
   ·simp only[];rw[Qg (show(i:Int)<=(f:Int)by omega),Qk,step false (by simp;exact fun h1 h2=>hy ⟨h1,h2⟩)]
    simp only[Qa,Ql,hw]
   rw[hpm];constructor
   ·rintro⟨n,g1,g2,g3⟩;exact⟨n,g1,by omega,g3⟩
   ·rintro⟨n,g1,g2,g3⟩;refine⟨n,g1,?_,g3⟩
    by_cases g4:n=i
    ·subst g4;rcases g2 with g2|⟨g2,_⟩
     ·exact .inl g2
     ·exact absurd ⟨g3,g2⟩ hy
    ·omega
theorem Jd{f:Nat}(hf:f<1024):Yd (pz f) fun T=>hY f T/\T.length<=11264:=by
 unfold pz;have hpf:=Lq f;rw[RG hf,kc hf]
 suffices key:∀(k j:Nat) (o:List Int),j+k=pc f+1->o.length<=j*1024->(∀x,x∈o↔∃n:Nat,x=n/\pc n<j/\pU n f)->Yd (ax _ ((j:Int),o,())) fun T:List Int=>hY f T/\T.length<=11264 from key (pc f+1) 0 [] (by omega) (by simp) (fun x=>by
  constructor
  ·intro h;cases h
  ·rintro⟨n,_,h,_⟩;omega)
 intro k
 induction k with
 |zero=>
  intro j o hj ho hm;refine Yd.last (r:=o) ?_ ⟨⟨fun x=> ?_⟩,by have:j*1024<=11*1024:=Qq62 _ (by omega);omega⟩
  ·simp only[Qa];rw[Qh (show¬(j:Int)<=((pc f:Nat):Int)by omega)]
   rfl
  rw[hm];constructor
  ·rintro⟨n,g1,_,g2⟩;exact⟨n,g1,g2⟩
  ·rintro⟨n,g1,g2⟩;exact⟨n,g1,by have:=ac3 g2;omega,g2⟩
 |succ k ih=>
  intro j o hj ho hm;refine Yd.loop ?_;simp only[Qa];rw[Qg (show(j:Int)<=((pc f:Nat):Int)by omega)]
  simp only[Qk,Qa,bc];refine(Yf hf (by omega) ho hm).mono fun y ⟨p,e,g1,g2⟩=> ?_
  rw[e];exact ih (j+1) p (by omega) g1 g2
theorem RX{n:Nat}(h:n<1024):lE (n:Int)=some ((pc n:Nat):Int):=by
 simp only[lE,oP h,Qa,Qo,Ql,mB,ZB (n:=n) (by omega),Vc n h]
theorem KJ{s n:Nat}(hn:n<=10):kG (s:Int) (n:Int)=some (decide (s<2 ^ n)):=by
 unfold kG;rw[Qg (show(0:Int)<=(s:Int)by omega),Qk,Qs (by omega),mE n (by omega)]
 rw[Qa];congr 1;rw[decide_eq_decide];omega
theorem eL{n:Nat}(hn:n<=10):2 ^ n<=1024:=Nat.pow_le_pow_right (n:=2) (by omega) hn
def vQ(s n:Nat):Nat×Bool:=match(List.range' (s+1) (2 ^ n - (s+1))).find? fun t=>pc t==pc s with
 |some t=>(t,true)
 |none=>if pc s=n then(0,false)else(2 ^ (pc s+1) - 1,true)
theorem VZ{s n:Nat}(hn:n<=10)(hs:s<2 ^ n):fU (s:Int) (n:Int)=some (((vQ s n).1:Int),(vQ s n).2,()):=by
 have hp:=eL hn;unfold fU;rw[Qh (show¬(n:Int)<0 by omega),Ql,Qh (show¬(10:Int)<(n:Int)by omega),Qa,Ql,KJ hn,Qg hs]
 simp only[Qa,Qo,Ql];have hps:=Lq s;rw[RX (by omega),Qa,show aq .i64 (s:Int) 1=((s+1:Nat):Int)from bN (by omega) (by omega)]
 refine Yd.DF ?_
 suffices key:∀(k i:Nat),i+k=2 ^ n->s<i->(List.range' (s+1) (2 ^ n - (s+1))).find? (fun t=>pc t==pc s)=(List.range' i (2 ^ n - i)).find? (fun t=>pc t==pc s)->Yd (ax _ ((i:Int),())) fun r:Int×Bool×Unit=>r=(((vQ s n).1:Int),(vQ s n).2,())by
  exact key (2 ^ n - (s+1)) (s+1) (by omega) (by omega) rfl
 intro k
 induction k with
 |zero=>
  intro i hi hsi hf;refine Yd.loop ?_;simp only[];rw[KJ hn,Qh (by omega)]
  simp only[Qa,Ql];refine Yd.inr ?_;show Yd _ fun r:Int×Bool×Unit=>r=_
  have hnone:(List.range' (s+1) (2 ^ n - (s+1))).find? (fun t=>pc t==pc s)=none:=by
   rw[hf,show 2 ^ n - i=0 by omega]
   rfl
  unfold vQ;rw[hnone];simp only
  by_cases he:pc s=n
  ·rw[Qg (by omega),Qr he]
   exact .some rfl
  ·rw[Qh (by omega),Qs he,Ql,bN (by omega) (by omega),Qs (by omega),show((pc s:Nat):Int)+1=((pc s+1:Nat):Int)by omega,mE _ (by omega)]
   have h1:1<=2 ^ (pc s+1):=Nat.one_le_two_pow;have h2:2 ^ (pc s+1)<=2 ^ 11:=Nat.pow_le_pow_right (by omega) (by omega)
   rw[jA (by omega) (by omega)]
   refine .some ?_;rw[Int.ofNat_sub h1];rfl
 |succ k ih=>
  intro i hi hsi hf;have hil:i<2 ^ n:=by omega
  have hcons:List.range' i (2 ^ n - i)=i::List.range' (i+1) (2 ^ n - (i+1)):=by
   rw[show 2 ^ n - i=(2 ^ n - (i+1))+1 by omega,List.range'_succ]
  refine Yd.loop ?_;simp only[];rw[KJ hn,Qg hil];simp only[Qa,Qk];rw[RX (by omega),Qa]
  by_cases he:pc i=pc s
  ·rw[Qg (by omega),Qk]
   refine Yd.inr (.some ?_)
   have:(List.range' (s+1) (2 ^ n - (s+1))).find? (fun t=>pc t==pc s)=some i:=by
    rw[hf,hcons,List.find?_cons_of_pos (by simp[he])]
   unfold vQ;rw[this]
  ·rw[Qh (by omega),Ql,bN (by omega) (by omega)]
   refine .some ?_;show Yd (ax _ _) _;refine ih (i+1) (by omega) (by omega) ?_
   rw[hf,hcons,List.find?_cons_of_neg (by simp[he])]
theorem YC:∀k,k<10->pc (2 ^ (k+1) - 1)=k+1:=by decide
def tb(s:Nat):Nat:=pc s*1024+s
theorem R0{s n:Nat}(hn:n<=10)(hs:s<2 ^ n)(h:(vQ s n).2=true):(vQ s n).1<2 ^ n/\tb s<tb (vQ s n).1:=by
 have hp:=eL hn;unfold vQ at h ⊢
 cases hf:(List.range' (s+1) (2 ^ n - (s+1))).find? fun t=>pc t==pc s with
 |some t=>
  have h1:=List.find?_some hf;have h2:=List.mem_range'_1.1 (List.mem_of_find?_eq_some hf);simp only[beq_iff_eq]at h1;simp only;refine⟨by omega,?_⟩
  unfold tb;rw[h1];omega
 |none=>
  rw[hf]at h;simp only at h ⊢
  by_cases he:pc s=n
  ·rw[Qr he]at h;cases h
  ·rw[Qs he]
   have hle:pc s<=n:=by
    have e:pc s=(List.range n).countP s.testBit:=by
     have e10:List.range 10=List.range n++(List.range (10 - n)).map (n+·):=by
      rw[<-List.range_add];congr 1;omega
     have hz:((List.range (10 - n)).map (n+·)).countP s.testBit=0:=List.countP_eq_zero.2 fun k hk=>by
      obtain⟨j,_,rfl⟩:=QP.1 hk;rw[Nat.testBit_lt_two_pow (QJ hs (Nat.pow_le_pow_right (by omega) (Nat.le_add_right n j)))]
      simp
     unfold pc;rw[e10,List.countP_append,hz,Nat.add_zero]
    rw[e];have:=List.countP_le_length (p:=s.testBit) (l:=List.range n)
    rwa [List.length_range]at this
   have hlt:pc s<n:=by omega
   have h1:2 ^ (pc s+1)<=2 ^ n:=Nat.pow_le_pow_right (by omega) (by omega)
   have h2:1<=2 ^ (pc s+1):=Nat.one_le_two_pow;refine⟨by simp only;omega,?_⟩
   unfold tb;simp only;rw[YC _ (by omega)]
   omega
end
section
 def oy(ms:List aA)(s:Nat):Bool:=decide (s≠0)&&decide (gq ms s=s)
theorem adG{c:av}(hc:qS c){s:Nat}(hs:s<1024):gq c.ay s=s↔vX c.ay s s:=by
 have hg:=Bf hc hs;constructor
 ·intro e k hk;have:=hg.inside k (by rw[e];exact hk)
  rw[e]at this;exact this
 ·intro h;refine qH fun k=> ?_
  rw[QW];exact⟨fun hk=>(hg.inside k hk).1,fun hk=>hg.max s h k hk⟩
theorem wL{c:av}(hc:qS c){s:Nat}(hs:s<1024):oy c.ay s=true↔s≠0/\vX c.ay s s:=by
 unfold oy;rw[Qm,Qi,Qi,adG hc hs]
theorem Pd{c:av}(hc:qS c){s:Nat}(hs:s<1024):lH c (s:Int)=some (oy c.ay s):=by
 unfold lH;rw[oP hs];simp only[Qa,Qo,Ql]
 by_cases h0:s=0
 ·rw[Qg (show(s:Int)=0 by omega)]
  simp only[Qa,Qk];unfold oy;rw[Qh (by omega)]
  rfl
 rw[Qh (show¬(s:Int)=0 by omega)]
 unfold w5;have hdl:=za c.ay;have hz:=Dv (a:=s) (b:=iu c.ay) (by omega) (by omega)
 simp only[Qa,Ql,z7 hc.len]
 cases hb:decide (gn .i64 (s:Int) ((iu c.ay:Nat):Int)=0)with
 |false=>
  simp only[Qp,Qk];congr 1;rw[QW,wL hc hs];constructor
  ·intro h;cases h
  ·rintro⟨_,h⟩;rw[hz.2 fun k hk=>(h k hk).2.1]at hb
   cases hb
 |true=>
  have hsub:=hz.1 hb;simp only[Qo,Ql];rw[KU hc hs hsub,Qa];congr 1;rw[QW,wL hc hs]
  cases hu:mD c.ay s with
  |none=>exact⟨fun _=>⟨h0,fun k hk=>⟨hk,hsub k hk,FB hs hu k hk⟩⟩,fun _=>rfl⟩
  |some x=>
   obtain⟨k,rfl,hk,hkb,hks⟩:=wb hu;refine⟨fun h=>by simp at h,fun h=> ?_⟩
   have:=(h.2 k hkb).2.2;rw[hks]at this;cases this
theorem Lh{c:av}(hc:qS c){s:Nat}(hs:s<1024):qY c (s:Int)=some (oy c.ay s):=by
 unfold qY;rw[kc hs];simp only[Qa,Qo,Ql]
 by_cases h0:s=0
 ·rw[Qg (show(s:Int)=0 by omega)]
  simp only[Qa,Qk];unfold oy;rw[Qh (by omega)]
  rfl
 rw[Qh (show¬(s:Int)=0 by omega)]
 have hdl:=za c.ay;have hz:=N6 (i:=s) (f:=iu c.ay) (by omega) (by omega)
 simp only[Qa,Ql,qC hc.len,etas]
 cases hb:decide (bp .i64 (s:Int) ((iu c.ay:Nat):Int)=(s:Int))with
 |false=>
  simp only[Qp,Qk];congr 1;rw[QW,wL hc hs];constructor
  ·intro h;cases h
  ·rintro⟨_,h⟩;rw[hz.2 fun k hk=>(h k hk).2.1]at hb
   cases hb
 |true=>
  have hsub:=hz.1 hb;simp only[Qo,Ql];rw[Gv hs,Qa];have hnl:=Bb s;refine Yd.DF ?_;refine Yd.list (mQ s) (by omega) (fun i (_:Unit)=>(i,())) (fun i _=>∀x∈(mQ s).take i,dC s (kL c.ay x.toNat)=true) (fun i x u hu hdr hx hi hd hw ha=> ?_) (fun u hu hd=> ?_) (s:=()) (fun x hx=>by simp at hx)
  ·obtain⟨k,hk10,rfl,hkb⟩:=uP.1 hx;obtain⟨_,m,hm,_⟩:=uV (hsub k hkb);have hx':(mQ s)[i]?=some (k:Int):=by rw[<-aP];exact hw
   simp only[hd,Qk,hw,Qa,ha,aP c.ay,hm,oH hs (hc.aR m (Q7 hm))]
   cases hsat:dC s m.ab with
   |true=>
    refine .some ⟨(),rfl,fun x hx=> ?_⟩
    rw[List.take_add_one,hx']at hx;rcases Qz.1 hx with h|h
    ·exact hu x h
    ·simp only[Option.toList_some,Q4]at h;rw[h,QV,lJ hm,hsat]
   |false=>
    refine .some ?_;show false=oy c.ay s
    symm
    cases hq:oy c.ay s with
    |false=>rfl
    |true=>
     have:=(((wL hc hs).1 hq).2 k hkb).2.2;rw[lJ hm,hsat]at this;cases this
  ·simp only[hd,Ql];refine .some ?_;show true=oy c.ay s;rw[Q9]at hu;exact((wL hc hs).2 ⟨h0,fun k hk=>⟨hk,hsub k hk,by have:=hu k (uP.2 ⟨k,HB hs hk,rfl,hk⟩);rwa [QV]at this⟩⟩).symm
theorem RW:∀x,x<1024->2 ^ pc x - 1<=x:=by decide+kernel
theorem aaF{s n t:Nat}(h:(List.range' (s+1) (2 ^ n - (s+1))).find? (fun t=>pc t==pc s)=some t):pc t=pc s/\s<t/\∀x,s<x->x<t->pc x≠pc s:=by
 rw[List.find?_range'_eq_some]at h;obtain⟨h1,h2,h3⟩:=h;have h2:=List.mem_range'_1.1 h2;exact⟨by simpa using h1,by omega,fun x hx hxt=>by simpa using h3 x (by omega) hxt⟩
theorem R3{s n:Nat}(h:(List.range' (s+1) (2 ^ n - (s+1))).find? (fun t=>pc t==pc s)=none):∀x,s<x->x<2 ^ n->pc x≠pc s:=by
 intro x hx hxn;have:=List.find?_eq_none.1 h x (List.mem_range'_1.2 (by omega))
 simpa using this
theorem aaG{s n:Nat}(hn:n<=10)(hs:s<2 ^ n)(h:(vQ s n).2=true){x:Nat}(hx:x<2 ^ n)(hlt:tb x<tb (vQ s n).1):tb x<=tb s:=by
 have hp:=eL hn;unfold vQ at h hlt;unfold tb at hlt ⊢
 cases hf:(List.range' (s+1) (2 ^ n - (s+1))).find? fun t=>pc t==pc s with
 |some t=>
  rw[hf]at hlt;simp only at hlt;obtain⟨h1,h2,h3⟩:=aaF hf;have h4:=List.mem_range'_1.1 (List.mem_of_find?_eq_some hf);rw[h1]at hlt
  by_cases he:pc x=pc s
  ·rw[he]at hlt ⊢
   by_cases hxs:s<x
   ·exact absurd he (h3 x hxs (by omega))
   ·omega
  ·omega
 |none=>
  rw[hf]at hlt h;simp only at hlt h;have h3:=R3 hf
  by_cases he:pc s=n
  ·rw[Qr he]at h;cases h
  ·rw[Qs he]at hlt;simp only at hlt
   have hps:pc s<10:=by
    have hle:=(R0 hn hs (by unfold vQ;rw[hf];simp[he])).1
    unfold vQ at hle;rw[hf]at hle;simp only[Qs he]at hle
    by_cases h10:pc s<10
    ·exact h10
    ·have:=Lq s;have e:pc s=10:=by omega
     rw[e]at hle;have:(2:Nat) ^ (10+1)=2048:=by decide
     omega
   rw[YC _ hps]at hlt;have h5:=eL (n:=pc s+1) (by omega)
   by_cases he2:pc x=pc s
   ·by_cases hxs:s<x
    ·exact absurd he2 (h3 x hxs hx)
    ·rw[he2];omega
   ·by_cases he3:pc x=pc s+1
    ·have:=RW x (by omega)
     rw[he3]at this hlt;omega
    ·omega
theorem ac4{n x:Nat}(hn:n<=10)(hx:x<2 ^ n):pc x<=n:=by
 have e:pc x<=n:=by
  have h1:=RW x (by have:=eL hn;omega)
  by_cases h:pc x<=n
  ·exact h
  ·have h2:2 ^ (n+1)<=2 ^ pc x:=Nat.pow_le_pow_right (by omega) (by omega)
   rw[Nat.pow_succ]at h2;omega
 exact e
theorem aaH{s n:Nat}(hn:n<=10)(hs:s<2 ^ n)(h:(vQ s n).2=false){x:Nat}(hx:x<2 ^ n):tb x<=tb s:=by
 have hp:=eL hn;unfold vQ at h
 cases hf:(List.range' (s+1) (2 ^ n - (s+1))).find? fun t=>pc t==pc s with
 |some t=>rw[hf]at h;cases h
 |none=>
  rw[hf]at h;simp only at h;have h3:=R3 hf
  by_cases he:pc s=n
  ·have h1:=ac4 hn hx;unfold tb
   by_cases he2:pc x=pc s
   ·by_cases hxs:s<x
    ·exact absurd he2 (h3 x hxs hx)
    ·rw[he2];omega
   ·omega
  ·rw[Qs he]at h;cases h
def pd(ms:List aA)(n:Nat):Prop:=∀s,s<2 ^ n->oy ms s=true->gq ms (2 ^ n - 1 - s)=0
theorem WN{n:Nat}(hn:n<=10):da .i64 (cg .i64 (1:Int) (n:Int)) (1:Int)=((2 ^ n - 1:Nat):Int):=by
 have h1:1<=2 ^ n:=Nat.one_le_two_pow;have h2:=eL hn;rw[mE n (by omega),jA (by omega) (by omega),Int.ofNat_sub h1]
 rfl
theorem Rx{n s:Nat}(hn:n<=10)(hs:s<2 ^ n):gn .i64 ((2 ^ n - 1:Nat):Int) (s:Int)=((2 ^ n - 1 - s:Nat):Int):=by
 have h2:=eL hn;obtain⟨c,h1,_,h3⟩:=vW (2 ^ n - 1) s (by omega) (by omega)
 rw[h1];congr 1;refine qH fun k=> ?_
 rw[h3,Nat.testBit_two_pow_sub_one,show 2 ^ n - 1 - s=2 ^ n - (s+1)by omega,Nat.testBit_two_pow_sub_succ hs]
theorem Rw{n s:Nat}(hn:n<=10)(hs:s<2 ^ n):da .i64 ((2 ^ n - 1:Nat):Int) (s:Int)=((2 ^ n - 1 - s:Nat):Int):=by
 have h2:=eL hn;rw[jA (by omega) (by omega)]
 omega
theorem yR{f:av->Option Int}(hf:∀c,f c=if((List.length c.ay:Nat):Int)<0 then none else some (da .i64 (cg .i64 (1:Int) ((List.length c.ay:Nat):Int)) (1:Int))){c:av}(hl:c.ay.length<=10):f c=some ((2 ^ c.ay.length - 1:Nat):Int):=by
 rw[hf,Qs (by omega),WN hl]
theorem aa1{c:av}(hc:qS c)(hl:c.ay.length<=10):Yd (ot c) fun r=>r.1=0↔pd c.ay c.ay.length:=by
 generalize hn:c.ay.length=n at hl;have hp:=eL hl;have h1:1<=2 ^ n:=Nat.one_le_two_pow;unfold ot;have hmem:lX c=some ((2 ^ n - 1:Nat):Int):=by rw[<-hn];exact yR (f:=lX) (fun c=>rfl) (by omega)
 rw[hmem,hn]
 suffices key0:∀step:(Int×Bool×Unit)->Option ((Int×Bool×Unit)⊕(Int×Int×Unit)),(∀s:Nat,step ((s:Int),true,())=(lH c (s:Int)).bind fun r5=>bif !r5 then(fU (s:Int) (n:Int)).bind fun r4=>some (Sum.inl (r4.1,r4.2.1,()))else(jS c (gn .i64 ((2 ^ n - 1:Nat):Int) (s:Int))).bind fun r7=>bif !decide (r7=0)then Option.map Sum.inr (some ((s:Int),r7,()))else(fU (s:Int) (n:Int)).bind fun r4=>some (Sum.inl (r4.1,r4.2.1,())))->
   (∀s:Int,step (s,false,())=some (.inr (0,0,())))->Yd (ax step (0,true,())) fun r:Int×Int×Unit=>r.1=0↔pd c.ay n from key0 _ (fun s=>by simp only[Qk,bc,Qa]) (fun s=>by simp only[Ql,Qe])
 intro step hstep hlast
 suffices key:∀(k s:Nat),11264<=tb s+k->s<2 ^ n->(∀x,x<2 ^ n->tb x<tb s->oy c.ay x=true->gq c.ay (2 ^ n - 1 - x)=0)->Yd (ax step ((s:Int),true,())) fun r:Int×Int×Unit=>r.1=0↔pd c.ay n from key 11264 0 (Nat.le_add_left _ _) h1 (fun x _ hx=>by
  unfold tb at hx;have:pc 0=0:=by decide
  omega)
 intro k
 induction k with
 |zero=>
  intro s hk hs;have:=Lq s;unfold tb at hk;omega
 |succ k ih=>
  intro s hk hs hall;refine Yd.loop ?_;rw[hstep,Pd hc (by omega),Qa]
  have next:(oy c.ay s=true->gq c.ay (2 ^ n - 1 - s)=0)->Yd (Option.bind (fU (s:Int) (n:Int)) fun r4=>some (Sum.inl (r4.1,r4.2.1,()))) fun y:(Int×Bool×Unit)⊕(Int×Int×Unit)=>match y with| .inl s'=>Yd (ax step s') (fun r:Int×Int×Unit=>r.1=0↔pd c.ay n)| .inr r=>r.1=0↔pd c.ay n:=by
   intro hq;rw[VZ hl hs,Qa];refine .some ?_;simp only
   have hall':∀x,x<2 ^ n->tb x<=tb s->oy c.ay x=true->gq c.ay (2 ^ n - 1 - x)=0:=by
    intro x hx hle
    by_cases he:x=s
    ·rw[he];exact hq
    ·refine hall x hx ?_;unfold tb at hle ⊢
     by_cases hpc:pc x=pc s
     ·rw[hpc]at hle ⊢;omega
     ·omega
   cases ho:(vQ s n).2 with
   |true=>
    obtain⟨g1,g2⟩:=R0 hl hs ho;exact ih _ (by omega) g1 fun x hx hlt=>hall' x hx (aaG hl hs ho hx hlt)
   |false=>
    refine Yd.loop ?_;rw[hlast];refine .some ?_;exact⟨fun _ x hx=>hall' x hx (aaH hl hs ho hx),fun _=>rfl⟩
  cases hq:oy c.ay s with
  |false=>
   simp only[Qp,Qk];exact(next fun h=>by rw[hq]at h;cases h).mono fun y hy=>by cases y<;>exact hy
  |true=>
   simp only[Qo,Ql];rw[Rx hl hs,UQ hc (by omega),Qa]
   by_cases hg:gq c.ay (2 ^ n - 1 - s)=0
   ·rw[Qg (by omega)]
    simp only[Qo,Ql];exact(next fun _=>hg).mono fun y hy=>by cases y<;>exact hy
   ·rw[Qh (by omega)]
    refine Yd.inr (.some ?_);have hs0:s≠0:=((wL hc (by omega)).1 hq).1
    exact⟨fun e=>absurd (show(s:Int)=0 from e) (by omega),fun h=>absurd (h s hs hq) hg⟩
theorem DI{n:Nat}{m:Nat}:pU m (2 ^ n - 1)↔m<2 ^ n:=by
 constructor
 ·intro h;have:=Rr h;have h1:1<=2 ^ n:=Nat.one_le_two_pow;omega
 ·intro h k hk;rw[Nat.testBit_two_pow_sub_one,Qi]
  by_cases hkn:k<n
  ·exact hkn
  ·rw[Nat.testBit_lt_two_pow (QJ h (Nat.pow_le_pow_right (by omega) (by omega)))]at hk
   cases hk
theorem Zj{c:av}(hc:qS c)(hl:c.ay.length<=10):Yd (wH c) fun r=>r.1=0↔pd c.ay c.ay.length:=by
 generalize hn:c.ay.length=n at hl;have hp:=eL hl;have h1:1<=2 ^ n:=Nat.one_le_two_pow;unfold wH;have hmem:py c=some ((2 ^ n - 1:Nat):Int):=by rw[<-hn];exact yR (f:=py) (fun c=>rfl) (by omega)
 rw[hmem,Qa];refine(Jd (f:=2 ^ n - 1) (by omega)).bind fun T ⟨hT,hTl⟩=> ?_
 refine Yd.list T (by omega) (fun i (_:Unit)=>(i,())) (fun i _=>∀x∈T.take i,oy c.ay x.toNat=true->gq c.ay (2 ^ n - 1 - x.toNat)=0) (fun i x u hu hdr hx hi hd hw ha=> ?_) (fun u hu hd=> ?_) (s:=()) (fun x hx=>by simp at hx)
 ·obtain⟨s,rfl,hs⟩:=(hT.m x).1 hx;have hs:=DI.1 hs;have hx':T[i]?=some (s:Int):=by rw[<-aP];exact hw
  have eH:(oy c.ay s=true->gq c.ay (2 ^ n - 1 - s)=0)->∀x∈T.take (i+1),oy c.ay x.toNat=true->gq c.ay (2 ^ n - 1 - x.toNat)=0:=by
   intro hg x hx;rw[List.take_add_one,hx']at hx;rcases Qz.1 hx with h|h
   ·exact hu x h
   ·simp only[Option.toList_some,Q4]at h;rw[h,QV];exact hg
  simp only[hd,Qk,hw,Qa,ha,bc];rw[Lh hc (by omega),Qa]
  cases hq:oy c.ay s with
  |false=>exact .some ⟨(),rfl,eH fun h=>by rw[hq]at h;cases h⟩
  |true=>
   simp only[Qo,Ql];rw[Rw hl hs,xx hc (by omega),Qa]
   by_cases hg:gq c.ay (2 ^ n - 1 - s)=0
   ·rw[Qg (by omega)]
    exact .some ⟨(),rfl,eH fun _=>hg⟩
   ·rw[Qh (by omega)]
    refine Yd.inr (.some ?_);have hs0:s≠0:=((wL hc (by omega)).1 hq).1
    exact⟨fun e=>absurd (show(s:Int)=0 from e) (by omega),fun h=>absurd (h s hs hq) hg⟩
 ·simp only[hd,Ql];refine Yd.inr (.some ?_);rw[Q9]at hu;exact⟨fun _ s hs hq=>by have:=hu (s:Int) ((hT.m _).2 ⟨s,rfl,DI.2 hs⟩);rw[QV]at this;exact this hq,fun _=>rfl⟩
end
section
def dT(t:aa)(i b:Nat):aa:=if(fY b t).ar=0 then⟨1,[(i:Int)],[]⟩else fY b t
def dM(b i:Nat)(m:aA):aA:=if b.testBit i then⟨false,⟨0,[],[]⟩⟩else⟨true,dT m.ab i b⟩
def jK(b:Nat)(ms:List aA):List aA:=ms.mapIdx (dM b)
structure HN (ms:List aA):Prop where
 len:ms.length<=10
 mem:∀m∈ms,m.bX=true/\G2 m.ab
theorem HN.Hv{ms:List aA}(h:HN ms):HK ⟨ms⟩:=⟨h.len,fun m hm=> .inl (h.mem m hm)⟩
theorem agZ{t:aa}(h:G2 t){i b:Nat}(hi:i<10):G2 (dT t i b):=by
 unfold dT;split
 ·exact(abX (by omega) (by omega)).g2
 ·rename_i hz;exact h.lv hz
theorem N1{b:Nat}{ms:List aA}{i:Nat}{m:aA}(h:ms[i]?=some m):(jK b ms)[i]?=some (dM b i m):=by
 unfold jK;rw[List.getElem?_mapIdx,h];rfl
theorem sN(b:Nat)(ms:List aA):(jK b ms).length=ms.length:=List.length_mapIdx
theorem VF{b:Nat}{ms:List aA}{m:aA}(h:m∈jK b ms):∃(i:Nat) (m0:aA),ms[i]?=some m0/\m=dM b i m0:=by
 obtain⟨i,hi,rfl⟩:=List.mem_iff_getElem.1 h;have hi':i<ms.length:=by rw[<-sN b];exact hi
 have:=N1 (b:=b) (Qv hi');rw[Qv hi]at this;exact⟨i,ms[i],Qv hi',Option.some.inj this⟩
theorem HN.del{ms:List aA}(h:HN ms)(b:Nat):HK ⟨jK b ms⟩:=by
 refine⟨by show(jK b ms).length<=10;rw[sN];exact h.len,fun m hm=> ?_⟩
 obtain⟨i,m0,h0,rfl⟩:=VF hm;have hi:i<ms.length:=(Qw.1 h0).1;have hl:=h.len;unfold dM;split
 ·exact .inr rfl
 ·exact .inl ⟨rfl,agZ (h.mem m0 (Q7 h0)).2 (by omega)⟩
theorem OI{n:Nat}{m:aA}:te n m=true↔(m.bX=true->∀k,k<10->fV m.ab k=true->k<n):=by
 unfold te
 cases m.bX with
 |false=>simp
 |true=>
  simp only[Qo,Bool.false_or,QH,List.mem_range,forall_const];refine forall_congr' fun k=>forall_congr' fun hk=> ?_
  cases fV m.ab k<;>simp
theorem Tv{ms:List aA}(h:HN ms)(hu:Cd ⟨ms⟩)(b:Nat):Cd ⟨jK b ms⟩:=by
 intro m hm;obtain⟨i,m0,h0,rfl⟩:=VF hm;have hi:i<ms.length:=(Qw.1 h0).1;have hm0:=Q7 h0;have h1:=OI.1 (hu m0 hm0) (h.mem m0 hm0).1;show te (jK b ms).length _=true;rw[sN,OI];intro hd k hk hus;unfold dM at hd hus;split at hd
 ·cases hd
 ·rename_i hb;rw[Qs hb]at hus;unfold dT at hus;split at hus
  ·simp only[fV,ta,List.contains_cons,List.contains_nil,Bool.or_false,beq_iff_eq]at hus;omega
  ·exact h1 k hk (Se b k _ hus)
theorem Zx(t:aa)(i b x:Nat):dC x (dT t i b)=if dC b t then dE x i else dC (x|||b) t:=by
 unfold dT
 by_cases hz:(fY b t).ar=0
 ·rw[Qr hz,Qr ((JY b t).1 hz),dC,kU];simp only[List.countP_singleton,Nat.add_zero];cases dE x i<;>rfl
 ·rw[Qs hz,Qs (fun e=>hz ((JY b t).2 e)),Vn]
theorem afX{t:aa}(h:G2 t){b:Nat}(hb:b<1024)(i:Nat):se t (i:Int) (b:Int)=some (dT t i b):=by
 unfold se;simp only[etas];have hl:w4 t (b:Int)=some (fY b t):=ahc hb (by omega) h.sm h.tht
 rw[oP hb];simp only[Qa,Qo,Ql,hl];unfold dT
 by_cases hz:(fY b t).ar=0
 ·rw[Qg hz,Qr hz];rfl
 ·rw[Qh hz,Qs hz];rfl
theorem afW{t:aa}(h:G2 t){b:Nat}(hb:b<1024)(i:Nat):wG t (i:Int) (b:Int)=some (dT t i b):=by
 unfold wG;simp only[etas];have hl:Ck t (b:Int)=some (fY b t):=ahb hb (by omega) h.sm h.tht
 rw[kc hb];simp only[Qa,Qo,Ql,hl];have hnn:=LO b t;unfold dT
 by_cases hz:(fY b t).ar=0
 ·rw[Qg (show(fY b t).ar<=0 by omega),Qr hz];rfl
 ·rw[Qh (show¬(fY b t).ar<=0 by omega),Qs hz];rfl
theorem Tw{b i:Nat}{ms:List aA}{m:aA}(h:ms[i]?=some m):jK b (ms.take (i+1))=jK b (ms.take i)++[dM b i m]:=by
 have hi:i<ms.length:=(Qw.1 h).1;have e:ms.take (i+1)=ms.take i++[m]:=by rw[List.take_add_one,h];rfl
 unfold jK;rw[e,List.mapIdx_concat,List.length_take,Nat.min_eq_left (by omega)]
theorem Zn{b i:Nat}(hi:i<10):dE b (i:Int)=b.testBit i:=by rw[BY,Qg hi,Bool.true_and]
theorem aih{ms:List aA}(h:HN ms){b:Nat}(hb:b<1024):qw ⟨ms⟩ (b:Int)=some ⟨jK b ms⟩:=by
 have hl:=h.len;unfold qw;simp only[etas,aA.eta];refine Yd.DF ?_;refine Yd.list ms (by omega) (fun i (s:av×List aA)=>(i,s.1,s.2,())) (fun i s=>s.2=jK b (ms.take i)) (fun i m s hs hdr hm hi hd hw ha=> ?_) (fun s hs hd=> ?_) (s:=(⟨[]⟩,[])) (by simp[jK])
 ·have hm':ms[i]?=some m:=by rw[<-aP];exact hw
  obtain⟨g1,g2⟩:=h.mem m hm;have hsl:s.2.length=i:=by rw[hs,sN,List.length_take];omega
  have hk:∀x:aA,aX 64 (s.2.length+[x].length)=true:=fun x=>ba (by simp;omega)
  simp only[hd,Qk,hw,Qa,ha,bc,lF,pL hb,Zn (show i<10 by omega),g1,afX g2 hb i,hk]
  have e:=Tw (b:=b) hm';rw[<-hs]at e
  cases hbi:b.testBit i with
  |true=>exact .some ⟨(⟨[]⟩,_),rfl,by rw[e,dM,hbi];rfl⟩
  |false=>exact .some ⟨(⟨[]⟩,_),rfl,by rw[e,dM,hbi];rfl⟩
 ·simp only[hd,Ql];rw[Q9]at hs;refine .some ?_;show(⟨s.2⟩:av)=_;rw[hs]
theorem aif{ms:List aA}(h:HN ms){b:Nat}(hb:b<1024):vl ⟨ms⟩ (b:Int)=some ⟨jK b ms⟩:=by
 have hl:=h.len;unfold vl;rw[kc hb];simp only[etas,aA.eta,Qa,Qo,Ql];refine Yd.DF ?_;refine Yd.list ms (by omega) (fun i (s:av×List aA)=>(i,s.1,s.2,())) (fun i s=>s.2=jK b (ms.take i)) (fun i m s hs hdr hm hi hd hw ha=> ?_) (fun s hs hd=> ?_) (s:=(⟨[]⟩,[])) (by simp[jK])
 ·have hm':ms[i]?=some m:=by rw[<-aP];exact hw
  obtain⟨g1,g2⟩:=h.mem m hm;have hsl:s.2.length=i:=by rw[hs,sN,List.length_take];omega
  have hk:∀x:aA,aX 64 (s.2.length+[x].length)=true:=fun x=>ba (by simp;omega)
  simp only[hd,Qk,hw,Qa,ha,bc,jQ,pL hb,Zn (show i<10 by omega),g1,afW g2 hb i,hk]
  have e:=Tw (b:=b) hm';rw[<-hs]at e
  cases hbi:b.testBit i with
  |true=>exact .some ⟨(⟨[]⟩,_),rfl,by rw[e,dM,hbi];rfl⟩
  |false=>exact .some ⟨(⟨[]⟩,_),rfl,by rw[e,dM,hbi];rfl⟩
 ·simp only[hd,Ql];rw[Q9]at hs;refine .some ?_;show(⟨s.2⟩:av)=_;rw[hs]
structure Az (ms ms':List aA):Prop where
 len:ms.length=ms'.length
 at_:∀(i:Nat) (m m':aA),ms[i]?=some m->ms'[i]?=some m'->m.bX=m'.bX/\∀x,dC x m.ab=dC x m'.ab
theorem Az.some{ms ms':List aA}(h:Az ms ms'){i:Nat}{m:aA}(hm:ms[i]?=some m):∃m',ms'[i]?=some m'/\m.bX=m'.bX/\∀x,dC x m.ab=dC x m'.ab:=by
 have hi:i<ms.length:=(Qw.1 hm).1;have hm':ms'[i]?=Option.some (ms'[i]'(by rw[<-h.len];exact hi)):=Qv _
 exact⟨_,hm',h.at_ i m _ hm hm'⟩
theorem Az.symm{ms ms':List aA}(h:Az ms ms'):Az ms' ms:=⟨h.len.symm,fun i m m' h1 h2=>⟨(h.at_ i m' m h2 h1).1.symm,fun x=>((h.at_ i m' m h2 h1).2 x).symm⟩⟩
theorem Az.del{ms ms':List aA}(h:Az ms ms')(b:Nat):Az (jK b ms) (jK b ms'):=by
 refine⟨by rw[sN,sN,h.len],fun i m m' h1 h2=> ?_⟩
 have hi:i<ms.length:=by rw[<-sN b];exact(Qw.1 h1).1
 have hi':i<ms'.length:=by rw[<-h.len];exact hi
 have e1:=N1 (b:=b) (Qv hi);have e2:=N1 (b:=b) (Qv hi');rw[h1]at e1;rw[h2]at e2;rw[Option.some.inj e1,Option.some.inj e2];obtain⟨g1,g2⟩:=h.at_ i _ _ (Qv hi) (Qv hi')
 unfold dM;split
 ·exact⟨rfl,fun x=>rfl⟩
 ·exact⟨rfl,fun x=>by rw[Zx,Zx,g2,g2]⟩
theorem Az.inside{ms ms':List aA}(h:Az ms ms'){s r:Nat}(hi:vX ms s r):vX ms' s r:=by
 intro k hk;obtain⟨h1,h2,h3⟩:=hi k hk;obtain⟨h10,m,hm,hd⟩:=uV h2;obtain⟨m',hm',g1,g2⟩:=h.some hm;refine⟨h1,?_,?_⟩
 ·rw[oV,xf,hm',Qg h10];simp[<-g1,hd]
 ·rw[lJ hm',<-g2,<-lJ hm];exact h3
theorem Az.gq{ms ms':List aA}(h:Az ms ms')(hc:qS ⟨ms⟩)(hc':qS ⟨ms'⟩){s:Nat}(hs:s<1024):gq ms s=gq ms' s:=by
 have h1:=Bf hc hs;have h2:=Bf hc' hs;refine wS.unique (l:=ms') ⟨h.inside h1.inside,fun r hr=>h1.max r (h.symm.inside hr)⟩ h2
theorem Az.quo{ms ms':List aA}(h:Az ms ms')(hc:qS ⟨ms⟩)(hc':qS ⟨ms'⟩){s:Nat}(hs:s<1024):oy ms s=oy ms' s:=by
 unfold oy;rw[h.gq hc hc' hs]
theorem Az.inter{ms ms':List aA}(h:Az ms ms')(hc:qS ⟨ms⟩)(hc':qS ⟨ms'⟩){n:Nat}(hn:n<=10)(hi:pd ms n):pd ms' n:=by
 have hp:=eL hn;intro s hs hq;rw[<-h.gq hc hc' (by omega)]
 exact hi s hs (by rw[h.quo hc hc' (by omega)];exact hq)
theorem Eu(s:Nat):∀l:List aa,kU s l=l.countP (dC s)
 |[]=>by rw[kU];rfl
 |t::l=>by
  rw[kU,Eu s l,List.countP_cons];omega
theorem Mt{all:Bool}{d d':List aa}(h:d.Perm d')(x:Nat):dC x (uU all d)=dC x (uU all d'):=by
 have hl:=h.length_eq
 by_cases h1:d.length=1
 ·obtain⟨t,rfl,_⟩:=xd (all:=all) h1;rw[List.perm_singleton.1 h.symm]
 ·by_cases h0:d.length=0
  ·have e1:d=[]:=Qq66 h0;have e2:d'=[]:=Qq66 (by omega)
   rw[e1,e2]
  ·rw[rL (by omega),rL (by omega),dC,dC,Eu,Eu,h.countP_eq,hl]
theorem LH.eqv{all:Bool}{l:List (List aa)}{ms ms':List aA}(h:LH all l ms)(h':LH all l ms'):Az ms ms':=by
 refine⟨h.len.trans h'.len.symm,fun i m m' h1 h2=> ?_⟩
 have hi:i<l.length:=by rw[<-h.len];exact(Qw.1 h1).1
 obtain⟨d,p1,e1⟩:=h.at_ i _ (Qv hi)
 obtain⟨d',p2,e2⟩:=h'.at_ i _ (Qv hi)
 rw[h1]at e1;rw[h2]at e2;rw[Option.some.inj e1,Option.some.inj e2];exact⟨rfl,fun x=>Mt (p1.trans p2.symm) x⟩
theorem LH.HE{all:Bool}{l:List (List aa)}{ms:List aA}(hl:zl l)(h:LH all l ms):HN ms:=by
 have hc:=h.Hv hl;refine⟨hc.len,fun m hm=> ?_⟩
 obtain⟨x,hx,d,hd,rfl⟩:=h.get hm;rcases hc.mem _ hm with g|g
 ·exact g
 ·cases congrArg aA.bX g
theorem aaT{d d' x:List aa}(h1:1<=x.length)(h:d.Perm x)(h':d'.Perm x){s:Nat}(hs:dC s (uU true d')=true):dC s (uU false d)=true:=by
 rw[Mt (h'.trans h.symm)]at hs
 by_cases h2:d.length=1
 ·obtain⟨t,rfl,e⟩:=xd (all:=false) h2;rw[e];exact hs
 ·have hl:=h.length_eq;rw[rL (by omega),dC,Qi]at hs ⊢
  simp only[Qt,Qq,Qu]at hs ⊢;omega
end
section
theorem YS{σ ρ:Type}{step:Int->σ->Option (σ⊕ρ)}{fin:σ->Option ρ}(v:σ)(h:∀s:Nat,s<1024->step (s:Int) v=some (.inl v)){M:Nat}(hM:∀t,t<1024->tb t<M)(fuel:Nat):∀s:Nat,s<1024->M<=tb s+fuel->EL step fin (fun s=>fU s (10:Int)) fuel (s:Int) true v=fin v:=by
 induction fuel with
 |zero=>
  intro s hs hf;have:=hM s hs;omega
 |succ fuel ih=>
  intro s hs hf;have h10:(2:Nat) ^ 10=1024:=by decide
  have hs':s<2 ^ 10:=by omega
  have hnx:fU (s:Int) (10:Int)=some (((vQ s 10).1:Int),(vQ s 10).2,()):=VZ (n:=10) (QI _) hs';rw[EL];simp only[Qk,h s hs,hnx,Qa]
  cases ho:(vQ s 10).2 with
  |true=>
   obtain⟨g1,g2⟩:=R0 (n:=10) (QI _) hs' ho;exact ih _ (by omega) (by omega)
  |false=>cases fuel<;>rfl
theorem acH(t:Nat)(h:t<1024):tb t<12000:=by
 have:=Lq t;unfold tb;omega
theorem aaY{a b:aa}(ha:G2 a)(hb:G2 b)(h:∀s,dC s a=true->dC s b=true):rQ a b=some (true,0,0,()):=by
 have hf:og a b=some (0,false,()):=by
  unfold og;simp only[etas];refine YS _ (fun s hs=> ?_) acH 12000 0 (by omega) (Nat.le_add_left _ _)
  unfold uo;simp only[etas];rw[Ce hs ha.sm,Qa]
  cases h1:dC s a with
  |false=>rfl
  |true=>
   rw[Qk,Ce hs hb.sm,h s h1];rfl
 unfold rQ zu;simp only[etas,yK ha.sm,HP ha,yK hb.sm,HP hb,Qa,decide_true,Qo,Ql,hf];rfl
 def As(hs:List aA)(n b:Nat):Bool:=decide (2 ^ n - 1 - b=0)||oy hs (2 ^ n - 1 - b)
def wI(ms hs:List aA)(n b:Nat):Prop:=As hs n b=true/\pd (jK b ms) n
def xh(ms hs:List aA)(n ill k:Nat):Prop:=pd (jK ill ms) n/\k<n/\∃b,b<2 ^ n/\pU ill b/\wI ms hs n b/\b.testBit k=false
theorem Yd.zero{o:Option Int}{p:Prop}(h:Yd o fun e=>e=0↔p)(hp:p):o=Option.some 0:=by
 obtain⟨e,h1,h2⟩:=h;rw[h1,h2.2 hp]
theorem TX{T:List Int}{n:Nat}(hn:n<=10){S:Nat->Prop}(hT:∀x,x∈T↔∃b:Nat,x=b/\b<2 ^ n/\S b)(hl:T.length<=1000000){ρ:Type}{k:Int->Option ρ}{p:ρ->Prop}
  (hk:∀B:Nat,B<2 ^ n->(∀j,B.testBit j=true↔j<n/\∀b,b<2 ^ n->S b->b.testBit j=true)->Yd (k (B:Int)) p) {step:Int×Int×Unit->Option ((Int×Int×Unit)⊕ρ)}
  (h1:∀(i:Nat) (x s:Int),decide ((i:Int)<(T.length:Int))=true->idx T (i:Int)=some x->step (s,(i:Int),())=some (.inl (bp .i64 s x,aq .i64 (i:Int) 1,())))
  (h2:∀s:Int,decide ((T.length:Int)<(T.length:Int))=false->step (s,(T.length:Int),())=Option.map Sum.inr (k s)):Yd (ax step (((2 ^ n - 1:Nat):Int),0,())) p:=by
 have hp:=eL hn;have hp1:1<=2 ^ n:=Nat.one_le_two_pow;refine Yd.list T hl (fun i (s:Int)=>(s,i,())) (fun i s=>∃B:Nat,s=B/\B<2 ^ n/\∀j,B.testBit j=true↔j<n/\∀x∈T.take i,x.toNat.testBit j=true) (fun i x s ⟨B,e,g1,g2⟩ hdr hx hi hd hw ha=> ?_) (fun s ⟨B,e,g1,g2⟩ hd=> ?_) (s:=((2 ^ n - 1:Nat):Int)) ⟨2 ^ n - 1,rfl,by omega,fun j=>by rw[Nat.testBit_two_pow_sub_one];simp⟩
 ·obtain⟨b,rfl,hb,hS⟩:=(hT x).1 hx;have hx':T[i]?=some (b:Int):=by rw[<-aP];exact hw
  rw[h1 i _ s hd hw,ha,e,kv B b (by omega) (by omega)]
  refine .some ⟨_,rfl,B&&&b,rfl,Nat.lt_of_le_of_lt Nat.and_le_left g1,fun j=> ?_⟩
  rw[Nat.testBit_and,Qm,g2,List.take_add_one,hx'];simp only[Option.toList_some,Qz,Q4];constructor
  ·rintro⟨⟨q1,q2⟩,q3⟩;refine⟨q1,fun x hx=> ?_⟩
   rcases hx with hx|rfl
   ·exact q2 x hx
   ·rw[QV];exact q3
  ·rintro⟨q1,q2⟩;exact⟨⟨q1,fun x hx=>q2 x (.inl hx)⟩,by have:=q2 _ (.inr rfl);rwa [QV]at this⟩
 ·rw[h2 s hd,e];refine Yd.inr ?_;rw[Q9]at g2;refine hk B g1 fun j=> ?_
  rw[g2];refine and_congr Iff.rfl ⟨fun q b hb hS=> ?_,fun q x hx=> ?_⟩
  ·have:=q (b:Int) ((hT _).2 ⟨b,rfl,hb,hS⟩)
   rwa [QV]at this
  ·obtain⟨b,rfl,hb,hS⟩:=(hT x).1 hx;rw[QV];exact q b hb hS
section
variable {l : List (List aa)} (hl : zl l) (hu : VX l) (h7 : l.length <= 7) {ms hs : List aA} (hm : LH false l ms) (hh : LH true l hs)
 include hl hu h7 hm hh
theorem AH:ms.length=l.length/\hs.length=l.length:=⟨hm.len,hh.len⟩
theorem decl_eq:iu ms=iu hs:=by
 refine qH fun k=> ?_
 rw[xf,xf];congr 1;have h1:=hm.len;have h2:=hh.len
 by_cases hk:k<l.length
 ·obtain⟨d,_,e1⟩:=hm.at_ k _ (Qv hk)
  obtain⟨d',_,e2⟩:=hh.at_ k _ (Qv hk)
  rw[e1,e2];rfl
 ·rw[Qq71 (by omega),Qq71 (by omega)]
theorem Zi{i:Nat}{m m':aA}(h1:ms[i]?=some m)(h2:hs[i]?=some m'):∀s,dC s m'.ab=true->dC s m.ab=true:=by
 have hi:i<l.length:=by rw[<-hm.len];exact(Qw.1 h1).1
 obtain⟨d,p1,e1⟩:=hm.at_ i _ (Qv hi)
 obtain⟨d',p2,e2⟩:=hh.at_ i _ (Qv hi)
 rw[h1]at e1;rw[h2]at e2;rw[Option.some.inj e1,Option.some.inj e2];exact fun s=>aaT (hl.Rk _ (QZ hi)).n0 p1 p2
theorem vP:c9 ⟨ms⟩=some 0/\c9 ⟨hs⟩=some 0:=⟨Yd.zero (Xu (hm.Hv hl)) ((hm.bR hl).2 hu),Yd.zero (Xu (hh.Hv hl)) ((hh.bR hl).2 hu)⟩
theorem vR:et ⟨ms⟩=some 0/\et ⟨hs⟩=some 0:=⟨Yd.zero (TM (hm.Hv hl)) ((hm.bR hl).2 hu),Yd.zero (TM (hh.Hv hl)) ((hh.bR hl).2 hu)⟩
theorem ad8:ou ⟨ms⟩ ⟨hs⟩=some 0:=by
 obtain⟨v1,v2⟩:=vP hl hu h7 hm hh;obtain⟨l1,l2⟩:=AH hl hu h7 hm hh;have hA:=hm.HE hl;have hB:=hh.HE hl;unfold ou;simp only[etas,v1,v2,Qa,decide_true,Qo,Ql,bc,l1,l2];rw[z7 (c:=⟨ms⟩) (by show ms.length<=_;omega),z7 (c:=⟨hs⟩) (by show hs.length<=_;omega),decl_eq hl hu h7 hm hh]
 simp only[Qa,decide_true,Qo,Ql];rw[Qh (by omega),Ql]
 refine Yd.DF ?_;rw[<-l2];refine Yd.list hs (by omega) (fun i (_:Unit)=>(i,())) (fun _ _=>True) (fun i m' _ _ hdr hm' hi hd hw ha=> ?_) (fun _ _ hd=> ?_) (s:=()) trivial
 ·have h2:hs[i]?=some m':=by rw[<-aP];exact hw
  have h1:ms[i]?=some (ms[i]'(by omega)):=Qv _
  have g1:=hB.mem m' hm';have g2:=hA.mem _ (Q7 h1);simp only[hd,Qk,hw,Qa,ha,g1.1,Qo,Ql,aP ms,h1,aaY g1.2 g2.2 (Zi hl hu h7 hm hh h1 h2)];exact .some ⟨(),rfl,trivial⟩
 ·simp only[hd,Ql];exact .some rfl
theorem VK:sK ⟨ms⟩ ⟨hs⟩=some 0:=by
 obtain⟨v1,v2⟩:=vR hl hu h7 hm hh;obtain⟨l1,l2⟩:=AH hl hu h7 hm hh;have hA:=hm.HE hl;have hB:=hh.HE hl;have hp:=eL (n:=l.length) (by omega)
 have hp1:1<=2 ^ l.length:=Nat.one_le_two_pow;have hmem:dK ⟨ms⟩=some ((2 ^ l.length - 1:Nat):Int):=by rw[<-l1];exact yR (f:=dK) (fun c=>rfl) (c:=⟨ms⟩) (by show ms.length<=10;omega)
 unfold sK;simp only[etas,v1,v2,Qa,decide_true,Qo,Ql,bc,l1,l2,hmem];rw[qC (c:=⟨ms⟩) (by show ms.length<=_;omega),qC (c:=⟨hs⟩) (by show hs.length<=_;omega),decl_eq hl hu h7 hm hh]
 simp only[Qa,decide_true,Qo,Ql];rw[Qh (by omega),Ql]
 refine Yd.DF ?_;rw[<-l1];refine Yd.list ms (by omega) (fun i (_:Unit)=>(i,())) (fun _ _=>True) (fun i m _ _ hdr hm' hi hd hw ha=> ?_) (fun _ _ hd=> ?_) (s:=()) trivial
 ·have h1:ms[i]?=some m:=by rw[<-aP];exact hw
  have h2:hs[i]?=some (hs[i]'(by omega)):=Qv _
  have g1:=hB.mem _ (Q7 h2);have g2:=hA.mem m hm';have himp:=Zi hl hu h7 hm hh h1 h2;simp only[hd,Qk,hw,Qa,ha,g2.1,Qo,Ql,aP hs,h2];rw[l1]
  suffices key:∀(k s:Nat),s+k=2 ^ l.length->Yd (ax _ ((s:Int),())) fun y:(Int×Unit)⊕Int=>y= .inl (((i+1:Nat):Int),())from(key (2 ^ l.length) 0 (by omega)).mono fun y hy=>by rw[hy];exact⟨(),rfl,trivial⟩
  intro k
  induction k with
  |zero=>
   intro s hk;refine Yd.loop ?_;simp only[];rw[Qh (by omega),Ql]
   exact .some rfl
  |succ k ih=>
   intro s hk;refine Yd.loop ?_;simp only[];rw[Qg (by omega),Qk,oH (by omega) g1.2.sm,Qa,oH (by omega) g2.2.sm]
   have hbad:(bif dC s (hs[i]'(by omega)).ab then Option.bind (some (dC s m.ab)) fun r14=>some (!r14)else some false)=some false:=by
    cases hsat:dC s (hs[i]'(by omega)).ab with
    |false=>rfl
    |true=>rw[himp s hsat];rfl
   rw[hbad,Qa,Ql,bN (by omega) (by omega)]
   exact .some (ih (s+1) (by omega))
 ·simp only[hd,Ql];exact .some rfl
section
variable {b : Nat} (hb : b < 2 ^ l.length)
 include hb
theorem abp:gU ⟨ms⟩ (b:Int)=some 0/\gU ⟨hs⟩ (b:Int)=some 0:=by
 obtain⟨v1,v2⟩:=vP hl hu h7 hm hh;obtain⟨l1,l2⟩:=AH hl hu h7 hm hh;have m1:di ⟨ms⟩=some ((2 ^ l.length - 1:Nat):Int):=by rw[<-l1];exact yR (f:=di) (fun c=>rfl) (c:=⟨ms⟩) (by show ms.length<=10;omega)
 have m2:di ⟨hs⟩=some ((2 ^ l.length - 1:Nat):Int):=by rw[<-l2];exact yR (f:=di) (fun c=>rfl) (c:=⟨hs⟩) (by show hs.length<=10;omega)
 unfold gU;rw[v1,v2,m1,m2];simp only[Qa,decide_true,Qo,Ql];rw[Qh (show¬(b:Int)<0 by omega),Qh (show¬((2 ^ l.length - 1:Nat):Int)<(b:Int)by omega)]
 exact⟨rfl,rfl⟩
theorem aab:pT ⟨ms⟩ (b:Int)=some 0/\pT ⟨hs⟩ (b:Int)=some 0:=by
 obtain⟨l1,l2⟩:=AH hl hu h7 hm hh;have m1:dK ⟨ms⟩=some ((2 ^ l.length - 1:Nat):Int):=by rw[<-l1];exact yR (f:=dK) (fun c=>rfl) (c:=⟨ms⟩) (by show ms.length<=10;omega)
 have m2:dK ⟨hs⟩=some ((2 ^ l.length - 1:Nat):Int):=by rw[<-l2];exact yR (f:=dK) (fun c=>rfl) (c:=⟨hs⟩) (by show hs.length<=10;omega)
 unfold pT;rw[m1,m2];rw[Qh (show¬(b:Int)<0 by omega)]
 simp only[Qa,Ql];rw[Qh (show¬((2 ^ l.length - 1:Nat):Int)<(b:Int)by omega)]
 exact⟨rfl,rfl⟩
theorem afP:kY ⟨hs⟩ (b:Int)=some (As hs l.length b,0,()):=by
 obtain⟨l1,l2⟩:=AH hl hu h7 hm hh;have hp:=eL (n:=l.length) (by omega)
 have m2:di ⟨hs⟩=some ((2 ^ l.length - 1:Nat):Int):=by rw[<-l2];exact yR (f:=di) (fun c=>rfl) (c:=⟨hs⟩) (by show hs.length<=10;omega)
 unfold kY;rw[(abp hl hu h7 hm hh hb).2,m2];simp only[Qa,decide_true,Qo,Ql];rw[Rx (by omega) hb,Pd (hh.Hv hl).sm (by omega)]
 have e:decide (((2 ^ l.length - 1 - b:Nat):Int)=0)=decide (2 ^ l.length - 1 - b=0):=by rw[decide_eq_decide];omega
 rw[e];unfold As;cases decide (2 ^ l.length - 1 - b=0)<;>rfl
theorem afO:qk ⟨hs⟩ (b:Int)=some (As hs l.length b,0,()):=by
 obtain⟨l1,l2⟩:=AH hl hu h7 hm hh;obtain⟨v1,v2⟩:=vR hl hu h7 hm hh;have hp:=eL (n:=l.length) (by omega)
 have m2:dK ⟨hs⟩=some ((2 ^ l.length - 1:Nat):Int):=by rw[<-l2];exact yR (f:=dK) (fun c=>rfl) (c:=⟨hs⟩) (by show hs.length<=10;omega)
 unfold qk;rw[v2,(aab hl hu h7 hm hh hb).2,m2];simp only[Qa,decide_true,Qo,Ql];rw[Rw (by omega) hb,Lh (hh.Hv hl).sm (by omega)]
 have e:decide (((2 ^ l.length - 1 - b:Nat):Int)=0)=decide (2 ^ l.length - 1 - b=0):=by rw[decide_eq_decide];omega
 rw[e];unfold As;cases decide (2 ^ l.length - 1 - b=0)<;>rfl
theorem Zh:Yd (iN ⟨ms⟩ (b:Int)) fun r=>r.1=true↔pd (jK b ms) l.length:=by
 obtain⟨l1,l2⟩:=AH hl hu h7 hm hh;have hp:=eL (n:=l.length) (by omega)
 have hA:=hm.HE hl;have hlen:(jK b ms).length=l.length:=(sN b ms).trans l1;unfold iN sd;rw[(abp hl hu h7 hm hh hb).1,aih hA (by omega)]
 have hv:c9 ⟨jK b ms⟩=some 0:=Yd.zero (Xu (hA.del b)) (Tv hA ((hm.bR hl).2 hu) b);simp only[Qa,decide_true,Qo,Ql,hv];obtain⟨r,h1,h2⟩:=aa1 (hA.del b).sm (by show(jK b ms).length<=10;omega)
 rw[h1];refine .some ?_;show decide (r.1=0)=true↔_;rw[Qi,h2,<-hlen]
theorem Zg:Yd (mf ⟨ms⟩ (b:Int)) fun r=>r.1=true↔pd (jK b ms) l.length:=by
 obtain⟨l1,l2⟩:=AH hl hu h7 hm hh;obtain⟨v1,v2⟩:=vR hl hu h7 hm hh;have hp:=eL (n:=l.length) (by omega)
 have hA:=hm.HE hl;have hlen:(jK b ms).length=l.length:=(sN b ms).trans l1;unfold mf AL;rw[v1,(aab hl hu h7 hm hh hb).1,aif hA (by omega)]
 have hv:et ⟨jK b ms⟩=some 0:=Yd.zero (TM (hA.del b)) (Tv hA ((hm.bR hl).2 hu) b);simp only[Qa,decide_true,Qo,Ql,hv];obtain⟨r,h1,h2⟩:=Zj (hA.del b).sm (by show(jK b ms).length<=10;omega)
 rw[h1];refine .some ?_;show decide (r.1=0)=true↔_;rw[Qi,h2,<-hlen]
theorem isP:Yd (n9 ⟨ms⟩ ⟨hs⟩ (b:Int)) fun r=>r=true↔wI ms hs l.length b:=by
 unfold n9 wI;rw[afP hl hu h7 hm hh hb,Qa]
 cases As hs l.length b with
 |false=>exact .some (by simp)
 |true=>
  simp only[Qo,Ql,true_and];exact(Zh hl hu h7 hm hh hb).bind fun r hr=> .some hr
theorem isR:Yd (yy ⟨ms⟩ ⟨hs⟩ (b:Int)) fun r=>r=true↔wI ms hs l.length b:=by
 unfold yy wI;rw[afO hl hu h7 hm hh hb,Qa]
 cases As hs l.length b with
 |false=>exact .some (by simp)
 |true=>
  simp only[Qo,Ql,true_and];exact(Zg hl hu h7 hm hh hb).bind fun r hr=> .some hr
end
theorem OB{T:List Int}{ill:Nat}(hT:hY (2 ^ l.length - 1) T)(hTl:T.length<=100000){ρ:Type}{k:List Int->Option ρ}{p:ρ->Prop}{test:Int->Option Bool}(ht:∀b:Nat,b<2 ^ l.length->Yd (test (b:Int)) fun r=>r=true↔pU ill b/\wI ms hs l.length b)
  (hk:∀S:List Int,S.length<=100000->(∀x,x∈S↔∃b:Nat,x=b/\b<2 ^ l.length/\(pU ill b/\wI ms hs l.length b))->Yd (k S) p) {step:Int×List Int×Unit->Option ((Int×List Int×Unit)⊕ρ)}
  (h1:∀(i:Nat) (x:Int) (S:List Int),decide ((i:Int)<(T.length:Int))=true->idx T (i:Int)=some x->step ((i:Int),S,())=(test x).bind fun b9=>bif b9 then(bif aX 8 (S.length+[x].length)then some (.inl (aq .i64 (i:Int) 1,S++[x],()))else none)else some (.inl (aq .i64 (i:Int) 1,S,())))
  (h2:∀S:List Int,decide ((T.length:Int)<(T.length:Int))=false->step ((T.length:Int),S,())=Option.map Sum.inr (k S)):Yd (ax step (0,[],())) p:=by
 refine Yd.list T (by omega) (fun i (S:List Int)=>(i,S,())) (fun i S=>S.length<=i/\∀x,x∈S↔x∈T.take i/\∃b:Nat,x=b/\(pU ill b/\wI ms hs l.length b)) (fun i x S ⟨g1,g2⟩ hdr hx hi hd hw ha=> ?_) (fun S ⟨g1,g2⟩ hd=> ?_) (s:=[]) ⟨QS _,fun x=>by simp⟩
 ·obtain⟨b,rfl,hb⟩:=(hT.m x).1 hx;have hb:=DI.1 hb;have hx':T[i]?=some (b:Int):=by rw[<-aP];exact hw
  rw[h1 i _ S hd hw,ha];refine(ht b hb).bind fun r hr=>Yd.cond (fun hr1=> ?_) (fun hr0=> .some ⟨S,rfl,by omega,fun y=> ?_⟩)
  ·rw[ba (by simp;omega),Qk]
   refine .some ⟨_,rfl,by simp;omega,fun y=> ?_⟩
   rw[Qz,g2,List.take_add_one,hx'];simp only[Option.toList_some,Qz,Q4];constructor
   ·rintro(⟨q1,q2⟩|rfl)
    ·exact⟨.inl q1,q2⟩
    ·exact⟨.inr rfl,b,rfl,hr.1 hr1⟩
   ·rintro⟨q1|rfl,q2⟩
    ·exact .inl ⟨q1,q2⟩
    ·exact .inr rfl
  ·rw[g2,List.take_add_one,hx'];simp only[Option.toList_some,Qz,Q4];constructor
   ·rintro⟨q1,q2⟩;exact⟨.inl q1,q2⟩
   ·rintro⟨q1|rfl,q2⟩
    ·exact⟨q1,q2⟩
    ·obtain⟨b',e,q3⟩:=q2;obtain rfl:b'=b:=by omega
     rw[hr.2 q3]at hr0;cases hr0
 ·rw[h2 S hd];refine Yd.inr ?_;rw[Q9]at g2;refine hk S (by omega) fun x=> ?_
  rw[g2,hT.m];constructor
  ·rintro⟨⟨m,rfl,hm⟩,b,e,q⟩;obtain rfl:m=b:=by omega
   exact⟨m,rfl,DI.1 hm,q⟩
  ·rintro⟨b,rfl,hb,q⟩;exact⟨⟨b,rfl,DI.2 hb⟩,b,rfl,q⟩
section
variable {ill : Nat} (hi : ill < 2 ^ l.length)
 include hi
theorem aid:Yd (qv ⟨ms⟩ ⟨hs⟩ (ill:Int)) fun q=>q.2.1=0/\q.1.length<=100000/\∀x,x∈q.1↔∃b:Nat,x=b/\b<2 ^ l.length/\(pU ill b/\wI ms hs l.length b):=by
 obtain⟨l1,l2⟩:=AH hl hu h7 hm hh;have hp:=eL (n:=l.length) (by omega)
 have hp1:1<=2 ^ l.length:=Nat.one_le_two_pow;have m1:di ⟨ms⟩=some ((2 ^ l.length - 1:Nat):Int):=by rw[<-l1];exact yR (f:=di) (fun c=>rfl) (c:=⟨ms⟩) (by show ms.length<=10;omega)
 have hpair:pF ⟨ms⟩ ⟨hs⟩ (ill:Int)=some 0:=by
  unfold pF;rw[ad8 hl hu h7 hm hh,(abp hl hu h7 hm hh hi).1];rfl
 unfold qv;rw[hpair,m1];simp only[Qa,decide_true,Qo,Ql];refine(XM (f:=2 ^ l.length - 1) (by omega)).bind fun T ⟨hT,hTl⟩=> ?_
 refine OB hl hu h7 hm hh (ill:=ill) hT (by omega) (test:=fun x7=>bif (decide ((gn .i64 (ill:Int) x7)=(0:Int)))then Option.bind (n9 ⟨ms⟩ ⟨hs⟩ x7) fun r8=>some r8 else some false) (fun b hb=> ?_) (k:=fun S=>some (S,(0:Int),())) (fun S hS hx=> .some ⟨rfl,hS,hx⟩) (fun i x S hd hw=>by simp only[hd,Qk,hw,Qa,bc]) (fun S hd=>by simp only[hd,Ql])
 have hz:=Dv (a:=ill) (b:=b) (by omega) (by omega)
 cases hs':decide (gn .i64 (ill:Int) (b:Int)=0)with
 |true=>exact(isP hl hu h7 hm hh hb).bind fun r hr=> .some (by rw[hr];simp[hz.1 hs'])
 |false=>
  refine .some ⟨fun h=>(by cases h),fun h=> ?_⟩
  rw[hz.2 h.1]at hs';cases hs'
theorem aic:Yd (zY ⟨ms⟩ ⟨hs⟩ (ill:Int)) fun q=>q.2.1=0/\q.1.length<=100000/\∀x,x∈q.1↔∃b:Nat,x=b/\b<2 ^ l.length/\(pU ill b/\wI ms hs l.length b):=by
 obtain⟨l1,l2⟩:=AH hl hu h7 hm hh;have hp:=eL (n:=l.length) (by omega)
 have hp1:1<=2 ^ l.length:=Nat.one_le_two_pow;have m1:dK ⟨ms⟩=some ((2 ^ l.length - 1:Nat):Int):=by rw[<-l1];exact yR (f:=dK) (fun c=>rfl) (c:=⟨ms⟩) (by show ms.length<=10;omega)
 have hpair:wF ⟨ms⟩ ⟨hs⟩ (ill:Int)=some 0:=by
  unfold wF;rw[VK hl hu h7 hm hh,(aab hl hu h7 hm hh hi).1];rfl
 unfold zY;rw[hpair,m1];simp only[Qa,decide_true,Qo,Ql];refine(Jd (f:=2 ^ l.length - 1) (by omega)).bind fun T ⟨hT,hTl⟩=> ?_
 refine OB hl hu h7 hm hh (ill:=ill) hT (by omega) (test:=fun x7=>bif (decide ((bp .i64 x7 (ill:Int))=(ill:Int)))then Option.bind (yy ⟨ms⟩ ⟨hs⟩ x7) fun r8=>some r8 else some false) (fun b hb=> ?_) (k:=fun S=>some (S,(0:Int),())) (fun S hS hx=> .some ⟨rfl,hS,hx⟩) (fun i x S hd hw=>by simp only[hd,Qk,hw,Qa,bc]) (fun S hd=>by simp only[hd,Ql])
 have hz:=N6 (i:=ill) (f:=b) (by omega) (by omega)
 have hcomm:bp .i64 (b:Int) (ill:Int)=bp .i64 (ill:Int) (b:Int):=by rw[kv _ _ (by omega) (by omega),kv _ _ (by omega) (by omega),Nat.and_comm]
 rw[hcomm]
 cases hs':decide (bp .i64 (ill:Int) (b:Int)=(ill:Int))with
 |true=>exact(isR hl hu h7 hm hh hb).bind fun r hr=> .some (by rw[hr];simp[hz.1 hs'])
 |false=>
  refine .some ⟨fun h=>(by cases h),fun h=> ?_⟩
  rw[hz.2 h.1]at hs';cases hs'
def OfQ(ms hs:List aA)(n ill:Nat)(q:Int×Int×Unit):Prop:=q.2.1=0/\∃r:Nat,q.1=r/\r<1024/\∀k,r.testBit k=true↔xh ms hs n ill k
theorem Ot{B:Nat}(hB:B<2 ^ l.length)(hI:pd (jK ill ms) l.length)(hb:∀j,B.testBit j=true↔j<l.length/\∀b,b<2 ^ l.length->(pU ill b/\wI ms hs l.length b)->b.testBit j=true)(k:Nat):(2 ^ l.length - 1 - B).testBit k=true↔xh ms hs l.length ill k:=by
 rw[show 2 ^ l.length - 1 - B=2 ^ l.length - (B+1)by omega,Nat.testBit_two_pow_sub_succ hB,Qm,Qi]
 unfold xh;constructor
 ·rintro⟨h1,h2⟩;refine⟨hI,h1,?_⟩
  have h3:¬∀b,b<2 ^ l.length->(pU ill b/\wI ms hs l.length b)->b.testBit k=true:=fun h=>by
   rw[(hb k).2 ⟨h1,h⟩]at h2;cases h2
  simp only[Classical.not_forall]at h3;obtain⟨b,g1,⟨g2,g3⟩,g4⟩:=h3;exact⟨b,g1,g2,g3,by simpa using g4⟩
 ·rintro⟨_,h1,b,g1,g2,g3,g4⟩;refine⟨h1,?_⟩
  cases hBk:B.testBit k with
  |false=>rfl
  |true=>
   have:=((hb k).1 hBk).2 b g1 ⟨g2,g3⟩;rw[g4]at this;cases this
theorem OF(hI:¬pd (jK ill ms) l.length)(k:Nat):(0:Nat).testBit k=true↔xh ms hs l.length ill k:=by
 rw[Nat.zero_testBit];exact⟨fun h=>(by cases h),fun h=>absurd h.1 hI⟩
theorem OfP:Yd (z6 ⟨ms⟩ ⟨hs⟩ (ill:Int)) (OfQ ms hs l.length ill):=by
 obtain⟨l1,l2⟩:=AH hl hu h7 hm hh;have hp:=eL (n:=l.length) (by omega)
 have m1:n5 ⟨ms⟩=some ((2 ^ l.length - 1:Nat):Int):=by rw[<-l1];exact yR (f:=n5) (fun c=>rfl) (c:=⟨ms⟩) (by show ms.length<=10;omega)
 unfold z6 DA;rw[m1];refine Yd.bind (p:=fun r=>OfQ ms hs l.length ill (r.1,r.2.2.1,())) ?_ fun r hr=> .some hr
 refine(aid hl hu h7 hm hh hi).bind fun S ⟨s0,sl,sx⟩=> ?_
 rw[Qg s0,Qo,Ql];refine(Zh hl hu h7 hm hh hi).bind fun r hr=> ?_
 cases hr1:r.1 with
 |false=>
  refine .some ⟨rfl,0,rfl,by omega,OF hl hu h7 hm hh hi fun h=> ?_⟩
  rw[hr.2 h]at hr1;cases hr1
 |true=>
  simp only[Qo,Ql,Qa];refine TX (n:=l.length) (by omega) sx (by omega) (k:=fun B=>some (gn .i64 ((2 ^ l.length - 1:Nat):Int) B,true,(0:Int),())) (fun B hB hb=> ?_) (fun i x s hd hw=>by simp only[hd,Qk,hw,Qa]) (fun s hd=>by simp only[hd,Ql])
  rw[Rx (by omega) hB]
  exact .some ⟨rfl,_,rfl,by omega,Ot hl hu h7 hm hh hi hB (hr.1 hr1) hb⟩
theorem OfR:Yd (Bo ⟨ms⟩ ⟨hs⟩ (ill:Int)) (OfQ ms hs l.length ill):=by
 obtain⟨l1,l2⟩:=AH hl hu h7 hm hh;have hp:=eL (n:=l.length) (by omega)
 have hp1:1<=2 ^ l.length:=Nat.one_le_two_pow;have m1:mz ⟨ms⟩=some ((2 ^ l.length - 1:Nat):Int):=by rw[<-l1];exact yR (f:=mz) (fun c=>rfl) (c:=⟨ms⟩) (by show ms.length<=10;omega)
 have hbeg:wE ⟨ms⟩ ⟨hs⟩ (ill:Int)=some 0:=by
  unfold wE;rw[VK hl hu h7 hm hh,m1];simp only[Qa,decide_true,Qo,Ql];rw[Qh (show¬(ill:Int)<0 by omega),Qh (show¬((2 ^ l.length - 1:Nat):Int)<(ill:Int)by omega)]
  rfl
 unfold Bo wY;rw[hbeg,m1];simp only[Qa,decide_true,Qo,Ql];refine Yd.bind (p:=fun r:Int×Int×Unit=>r.2.1=0/\∃B:Nat,r.1=(B:Int)/\B<2 ^ l.length/\∀k,(2 ^ l.length - 1 - B).testBit k=true↔xh ms hs l.length ill k) ?_ fun r ⟨r0,B,e,hB,hk⟩=> ?_
 ·refine(Zg hl hu h7 hm hh hi).bind fun r hr=> ?_
  cases hr1:r.1 with
  |false=>
   refine .some ⟨rfl,2 ^ l.length - 1,rfl,by omega,?_⟩
   rw[Nat.sub_self];refine OF hl hu h7 hm hh hi fun h=> ?_
   rw[hr.2 h]at hr1;cases hr1
  |true=>
   simp only[Qo,Ql];refine(aic hl hu h7 hm hh hi).bind fun S ⟨s0,sl,sx⟩=> ?_
   refine TX (n:=l.length) (by omega) sx (by omega) (k:=fun B=>some (B,(0:Int),())) (fun B hB hb=> ?_) (fun i x s hd hw=>by simp only[hd,Qk,hw,Qa]) (fun s hd=>by simp only[hd,Ql])
   exact .some ⟨rfl,B,rfl,hB,Ot hl hu h7 hm hh hi hB (hr.1 hr1) hb⟩
 ·rw[Qg r0,Qo,Ql,e,Rw (by omega) hB]
  exact .some ⟨rfl,_,rfl,by omega,hk⟩
end
end
theorem xh.congr{l:List (List aa)}(hl:zl l){ms hs ms' hs':List aA}(hm:LH false l ms)(hh:LH true l hs)(hm':LH false l ms')(hh':LH true l hs'){ill k:Nat}(h:xh ms hs l.length ill k):xh ms' hs' l.length ill k:=by
 have e1:=hm.eqv hm';have e2:=hh.eqv hh';have hp:=eL hl.len;have d1:=fun b=>((hm.HE hl).del b).sm
 have d2:=fun b=>((hm'.HE hl).del b).sm
 obtain⟨g1,g2,b,g3,g4,⟨g5,g6⟩,g7⟩:=h;refine⟨(e1.del ill).inter (d1 _) (d2 _) hl.len g1,g2,b,g3,g4,⟨?_,(e1.del b).inter (d1 _) (d2 _) hl.len g6⟩,g7⟩;unfold As at g5 ⊢;rw[<-e2.quo (hh.Hv hl).sm (hh'.Hv hl).sm (by omega)]
 exact g5
end
section
def JB(i:Nat)(b:Bool):Option ((Int×Unit)⊕Bool):=bif b then some (.inr false)else some (.inl (((i+1:Nat):Int),()))
theorem ZP{n:Nat}{step step':Int×Unit->Option ((Int×Unit)⊕Bool)}(h:∀i:Nat,i<n->∃b,step ((i:Int),())=JB i b/\step' ((i:Int),())=JB i b)(h1:step ((n:Int),())=some (.inr true))(h2:step' ((n:Int),())=some (.inr true)):ax step (0,())=ax step' (0,()):=by
 suffices key:∀(k i:Nat),i+k=n->ax step ((i:Int),())=ax step' ((i:Int),())from key n 0 (by omega)
 intro k
 induction k with
 |zero=>
  intro i hi;obtain rfl:i=n:=by omega
  rw[ct h1,ct h2]
 |succ k ih=>
  intro i hi;obtain⟨b,e1,e2⟩:=h i (by omega)
  cases b with
  |true=>rw[ct e1,ct e2]
  |false=>rw[cD e1,cD e2,ih (i+1) (by omega)]
theorem Wc{a b:aa}(h:cJ a):∃r,jM a b=some r/\iL a b=some r/\(r=true↔a=b):=by
 obtain⟨r1,e1,h1⟩:=eqT (a:=a) (b:=b) h;obtain⟨r2,e2,h2⟩:=B0 (a:=a) (b:=b) h;have:r1=r2:=by rw[QW,h1,h2]
 subst this;exact⟨r1,e1,e2,h1⟩
theorem YB{nd k:Int}{p:az}(h:mI nd k p)(hk:k<=999999):oo p=c7 p:=by
 have hlen:=h.len;have hn:p.ao=nd:=h.aJ;have hn0:=h.n0;have hn1:=h.n1;unfold oo c7 uF;simp only[bG.eta,aB.eta,ae.eta,etas,yK h.aR.sm,jH h.aR.sm,l5 h.aR,Qa,decide_true,Qo];rw[Qg (show(0:Int)<=p.ao by omega),Qh (show¬p.ao<0 by omega),Qg (show p.ao<10 by omega),Qh (show¬(9:Int)<p.ao by omega),Qh (show¬(8:Int)<(p.aQ.length:Int)by omega)]
 simp only[Qk,Ql,Qa,Qo];refine ZP (n:=p.aQ.length) (fun i hi=> ?_) ?_ ?_
 ·have hw:idx p.aQ (i:Int)=some p.aQ[i]:=by rw[aP];exact Qv hi
  have hs:=h.bx _ (QZ hi);obtain⟨r,e1,e2,_⟩:=Wc (a:=p.aQ[i].aC.ab) (b:=p.ab) hs.2.2.pre.mY.aR.sm;simp only[];rw[Qg (show(i:Int)<(p.aQ.length:Int)by omega),hw,bN (a:=(i:Int)) (by omega) (by omega)]
  simp only[Qk,Qa,bc,aaE hs.2.2 hk,rC hs.2.2 hk,Qo,Ql,e1,e2]
  cases decide (p.aQ[i].aC.ao=p.ao)with
  |false=>exact⟨true,rfl,rfl⟩
  |true=>
   cases r with
   |false=>exact⟨true,rfl,rfl⟩
   |true=>
    simp only[Qo,Ql]
    by_cases h0:0<i
    ·obtain⟨m,rfl⟩:∃m:Nat,i=m+1:=⟨i - 1,by omega⟩
     rw[Qg (by omega),jA (by omega) (by omega),show(((m+1:Nat):Int)) - 1=(m:Int)by omega,aP,Qv (show m<p.aQ.length by omega)]
     simp only[Qk,Qa];exact⟨decide (p.aQ[m+1].aC.aK<=p.aQ[m].aC.aK),rfl,rfl⟩
    ·rw[Qh (by omega)]
     exact⟨false,rfl,rfl⟩
 ·simp only[Qh (Qq63 _),Ql,Qe]
 ·simp only[Qh (Qq63 _),Ql,Qe]
theorem parts_eq(l:List Int):tI l=kR l:=by
 unfold tI kR;refine congrArg (fun f=>ax f ((0:Int),(0:Int),())) ?_
 funext v
 refine congrArg (fun k=>bif decide (v.2.1<((List.length l:Nat):Int))then Option.bind (idx l v.2.1) k else Option.map Sum.inr (some (decide (((List.length l:Nat):Int)<=(10:Int))))) ?_
 funext x
 have e:(bif decide (x=(0:Int))then some true else Option.bind (dz x) fun r3=>some (!r3))=(bif decide (x<(1:Int))then some true else some (decide ((1023:Int)<x))):=by
  rw[Eg,Qa]
  by_cases h1:x<1
  ·rw[Qg h1]
   by_cases h0:x=0
   ·rw[Qg h0];rfl
   ·rw[Qh h0,Qh (show¬(0:Int)<=x by omega)];rfl
  ·rw[Qh h1,Qh (show¬x=0 by omega),Qg (show(0:Int)<=x by omega)]
   by_cases h2:x<1024
   ·rw[Qg h2,Qh (show¬(1023:Int)<x by omega)];rfl
   ·rw[Qh h2,Qg (show(1023:Int)<x by omega)];rfl
 rw[e]
theorem Xq(a b:dv):∃c r,kM a b=some c/\je a b=some r/\decide (0<=c)= !r:=by
 have key:∀x y:Int,x≠y->vA x y≠0/\decide (0<=vA x y)= !decide (x<y):=by
  intro x y hne;refine⟨fun h=>hne ((ui x y).1 h),?_⟩
  rw[QW];have:=B4 x y;simp only[Qi,Bool.not_eq_true',Qj];omega
 have zero:∀x y:Int,x=y->vA x y=0:=fun x y h=>(ui x y).2 h
 unfold kM je;simp only[sf,Qa];rw[yD _ (by simp),Qa]
 by_cases h1:a.lg=b.lg
 ·rw[Qg h1,DT,Qr (zero _ _ h1)]
  by_cases h2:a.lu=b.lu
  ·rw[Qg h2,DT,Qr (zero _ _ h2)]
   by_cases h3:a.To=b.To
   ·rw[Qg h3,DT,Qr (zero _ _ h3),DT,DT]
    by_cases h4:a.Number=b.Number
    ·rw[Qr (zero _ _ h4)];exact⟨_,_,rfl,rfl,by rw[Qh (show¬a.Number<b.Number by omega)];rfl⟩
    ·rw[Qs (key _ _ h4).1];exact⟨_,_,rfl,rfl,(key _ _ h4).2⟩
   ·rw[Qh h3,DT,Qs (key _ _ h3).1];exact⟨_,_,rfl,rfl,(key _ _ h3).2⟩
  ·rw[Qh h2,DT,Qs (key _ _ h2).1];exact⟨_,_,rfl,rfl,(key _ _ h2).2⟩
 ·rw[Qh h1,DT,Qs (key _ _ h1).1];exact⟨_,_,rfl,rfl,(key _ _ h1).2⟩
def B6(d:Int):Bool:=decide (d<0)||decide (20<d)
theorem VU(d:Int):(bif decide (d<(0:Int))then some true else some (decide ((20:Int)<d)))=some (B6 d):=by
 unfold B6;cases decide (d<0)<;>rfl
theorem ag0(l:List Int)(hl:l.length<=1000000):fL l=some (l.any B6):=by
 unfold fL jZ uH;simp only[VU,Qa];refine Yd.DF (Yd.bind (p:=fun r=>decide ((0:Int)<=r)=l.any B6) ?_ fun r h=> .some h)
 refine Yd.list l hl (fun i (_:Unit)=>(i,())) (fun i _=>(l.take i).any B6=false) (fun i x u hu hdr hx hi hd hw ha=> ?_) (fun u hu hd=> ?_) (s:=()) (by simp)
 ·have hx':l[i]?=some x:=by rw[<-aP];exact hw
  simp only[hd,Qk,hw,Qa,ha]
  cases hb:B6 x with
  |true=>
   refine .some ?_;show decide ((0:Int)<=(i:Int))=l.any B6;rw[Qg (by omega)]
   exact(List.any_eq_true.2 ⟨x,hx,hb⟩).symm
  |false=>
   refine .some ⟨(),rfl,?_⟩;rw[List.take_add_one,hx',List.any_append,hu];simp[hb]
 ·simp only[hd,Ql];rw[Q9]at hu;refine .some ?_;rw[hu];rfl
theorem UJ(l:List Int)(hl:l.length<=1000000)(K:Option Bool):ax (fun(v7:Int×Unit)=>
  bif (decide (v7.1<((List.length l:Nat):Int)))then
  Option.bind (idx l v7.1) fun x8=>
  Option.bind (bif (decide (x8<(0:Int)))then some true
  else
  some (decide ((20:Int)<x8))) fun b9=>
  bif b9 then
  Option.map Sum.inr (some false)
  else
  some (Sum.inl ((aq .i64 v7.1 (1:Int)),()))
  else
  Option.map Sum.inr K) ((0:Int),())=bif l.any B6 then some false else K:=by
 simp only[VU,Qa]
 suffices key:∀(k i:Nat),i+k=l.length->ax _ ((i:Int),())=bif (l.drop i).any B6 then some false else K by
  have:=key l.length 0 (by omega)
  rwa [List.drop_zero]at this
 intro k
 induction k with
 |zero=>
  intro i hi;obtain rfl:i=l.length:=by omega
  rw[Qq65,jJ];simp only[Qh (Qq63 _),Ql,List.any_nil];cases K<;>rfl
 |succ k ih=>
  intro i hi;have hlt:i<l.length:=by omega
  have hw:idx l (i:Int)=some l[i]:=by rw[aP];exact Qv hlt
  rw[QM hlt,List.any_cons]
  cases hb:B6 l[i]with
  |true=>
   refine ct ?_;simp only[Qg (show(i:Int)<(l.length:Int)by omega),Qk,hw,Qa,hb]
   rfl
  |false=>
   rw[cD (s':=(((i+1:Nat):Int),()))]
   ·rw[ih (i+1) (by omega),Bool.false_or]
   ·simp only[Qg (show(i:Int)<(l.length:Int)by omega),Qk,hw,Qa,hb,Ql,bN (show(-9223372036854775808:Int)<=(i:Int)+1 by omega) (show(i:Int)+1<=9223372036854775807 by omega)]
    rfl
theorem Y0{n:bq}(h:wT n):tJ n=eG n:=by
 have hlen:=h.len;have hdl:n.eE.length<=1000000:=by rcases h.Am with e|e<;>omega
 unfold tJ eG wZ;simp only[aN.eta,aj.eta,bM.eta,dv.eta,etas,parts_eq];rw[UJ _ hdl,ag0 _ hdl]
 have e1:(bif decide (((List.length n.eE:Nat):Int)=(0:Int))then some true else some (decide (((List.length n.eE:Nat):Int)=(100:Int))))=some true:=by
  rcases h.Am with e|e
  ·rw[Qg (by omega)];rfl
  ·rw[Qh (by omega),Qg (by omega)];rfl
 have e2:(bif !decide (((List.length n.eE:Nat):Int)=(0:Int))then some (!decide (((List.length n.eE:Nat):Int)=(100:Int)))else some false)=some false:=by
  rcases h.Am with e|e
  ·rw[Qg (by omega)];rfl
  ·rw[Qh (by omega),Qg (by omega)];rfl
 rw[e1,e2];simp only[Qa,Qk];obtain⟨pr,hpr,_⟩:=No n.hY h.parts;rw[hpr]
 have hloop:ax (fun(v7:Int×Unit)=>
   bif (decide (v7.1<((List.length n.bh:Nat):Int)))then
   Option.bind (idx n.bh v7.1) fun x8=>
   bb (fun(v9:Bool×Unit)=>
   bif v9.1 then
   Option.map Sum.inr (some false)
   else
   some (Sum.inl ((aq .i64 v7.1 (1:Int)),()))) fun j10=>
   Option.bind (lG x8.lu) fun r11=>
   bif (!r11)then
   j10 (true,())
   else
   Option.bind (lG x8.To) fun r12=>
   bif (!r12)then
   j10 (true,())
   else
   bif (decide (x8.lu=x8.To))then
   j10 (true,())
   else
   bif (decide (x8.lg<(0:Int)))then
   j10 (true,())
   else
   bif (decide ((220:Int)<x8.lg))then
   j10 (true,())
   else
   bif (decide (x8.Number<(0:Int)))then
   j10 (true,())
   else
   bif (decide (n.Next<=x8.Number))then
   j10 (true,())
   else
   bif (decide ((0:Int)<v7.1))then
   Option.bind (idx n.bh (da .i64 v7.1 (1:Int))) fun x13=>
   Option.bind (kM x13 x8) fun r14=>
   j10 ((decide ((0:Int)<=r14)),())
   else
   j10 (false,())
   else
   Option.map Sum.inr (some true)) ((0:Int),())=ax (fun(v10:Int×Unit)=>
   bif (decide (v10.1<((List.length n.bh:Nat):Int)))then
   Option.bind (idx n.bh v10.1) fun x11=>
   bb (fun(v12:Bool×Unit)=>
   bif v12.1 then
   Option.map Sum.inr (some false)
   else
   some (Sum.inl ((aq .i64 v10.1 (1:Int)),()))) fun j13=>
   Option.bind (eY x11.lu) fun r14=>
   bif (!r14)then
   j13 (true,())
   else
   Option.bind (eY x11.To) fun r15=>
   bif (!r15)then
   j13 (true,())
   else
   bif (decide (x11.lu=x11.To))then
   j13 (true,())
   else
   bif (decide (x11.lg<(0:Int)))then
   j13 (true,())
   else
   bif (decide ((220:Int)<x11.lg))then
   j13 (true,())
   else
   bif (decide (x11.Number<(0:Int)))then
   j13 (true,())
   else
   bif (decide (n.Next<=x11.Number))then
   j13 (true,())
   else
   bif (decide ((0:Int)<v10.1))then
   Option.bind (idx n.bh (da .i64 v10.1 (1:Int))) fun x16=>
   Option.bind (je x16 x11) fun r17=>
   j13 ((!r17),())
   else
   j13 (false,())
   else
   Option.map Sum.inr (some true)) ((0:Int),()):=by
  refine congrArg (fun f=>ax f ((0:Int),())) ?_
  funext v
  refine congrArg (fun k=>bif decide (v.1<((List.length n.bh:Nat):Int))then Option.bind (idx n.bh v.1) k else Option.map Sum.inr (some true)) ?_
  funext x
  simp only[bc]
  have en:∀y:Int,lG y=eY y:=fun y=>by
   unfold lG eY;have:decide (y<10)=decide (y<=9):=by rw[decide_eq_decide];omega
   rw[this]
  have ec:∀y:dv,(Option.bind (kM y x) fun r14=>bif decide ((0:Int)<=r14)then Option.map Sum.inr (some false)else some (Sum.inl ((aq .i64 v.1 (1:Int)),())))=(Option.bind (je y x) fun r17=>bif (!r17)then Option.map Sum.inr (some false)else some (Sum.inl ((aq .i64 v.1 (1:Int)),())):Option ((Int×Unit)⊕Bool)):=fun y=>by
   obtain⟨c,r,h1,h2,h3⟩:=Xq y x;rw[h1,h2,Qa,Qa,h3]
  simp only[en,ec]
 rw[hloop];generalize ax _ ((0:Int),())=K;cases decide ((4000:Int)<((List.length n.bh:Nat):Int))<;>cases decide (n.Next<(0:Int))<;>cases decide ((1000000000:Int)<n.Next)<;>cases pr<;>cases n.eE.any B6<;>rfl
end
section
theorem Vy{l:List aa}(hl:l.length<=1000)(hs:∀t∈l,cJ t)(t:aa):Yd (lU l t) fun r=>r=true↔t∈l:=by
 unfold lU;simp only[etas];refine Yd.list l (by omega) (fun i (_:Unit)=>(i,())) (fun i _=>t∉l.take i) (fun i x s g _ hx hi hd hw ha=> ?_) (fun s g hd=> ?_) (s:=()) (by simp)
 ·have hx':l[i]?=some x:=by rw[<-aP];exact hw
  obtain⟨r,hr,hi⟩:=B0 (a:=x) (b:=t) (hs x hx);simp only[hd,Qk,hw,Qa,ha,hr];refine Yd.cond (fun hr=> .some ?_) (fun hr=> .some ⟨(),rfl,?_⟩)
  ·show true=true↔_;exact⟨fun _=>by rw[<-hi.1 hr];exact hx,fun _=>rfl⟩
  ·rw[List.take_add_one,hx'];intro hm;rcases Qz.1 hm with h|h
   ·exact g h
   ·simp only[Option.toList_some,Q4]at h;rw[hi.2 h.symm]at hr;cases hr
 ·simp only[hd,Ql];rw[Q9]at g;refine .some ?_;show false=true↔_;exact⟨fun h=>(by cases h),fun h=>absurd h g⟩
theorem aa2{l:List aa}(hl:l.length<=1000)(hs:∀t∈l,cJ t)(t:aa):Yd (dV l t) fun r=>r=true↔t∈l:=by
 unfold dV fH s5;simp only[etas];refine Yd.bind (p:=fun r=>decide ((0:Int)<=r)=true↔t∈l) ?_ fun r h=> .some h
 refine Yd.list l (by omega) (fun i (_:Unit)=>(i,())) (fun i _=>t∉l.take i) (fun i x s g _ hx hi hd hw ha=> ?_) (fun s g hd=> ?_) (s:=()) (by simp)
 ·have hx':l[i]?=some x:=by rw[<-aP];exact hw
  obtain⟨r,hr,_,hi⟩:=Wc (a:=x) (b:=t) (hs x hx);simp only[hd,Qk,hw,Qa,ha,hr];refine Yd.cond (fun hr=> .some ?_) (fun hr=> .some ⟨(),rfl,?_⟩)
  ·show decide ((0:Int)<=(i:Int))=true↔_;exact⟨fun _=>by rw[<-hi.1 hr];exact hx,fun _=>Qg (by omega)⟩
  ·rw[List.take_add_one,hx'];intro hm;rcases Qz.1 hm with h|h
   ·exact g h
   ·simp only[Option.toList_some,Q4]at h;rw[hi.2 h.symm]at hr;cases hr
 ·simp only[hd,Ql];rw[Q9]at g;refine .some ?_;show decide ((0:Int)<= -1)=true↔_;exact⟨fun h=>absurd (of_decide_eq_true h) (by decide),fun h=>absurd h g⟩
theorem LD{α:Type}{l:List α}{i:Nat}{t:α}(hx:l[i]?=some t)(h:(l.take i).Nodup)(hn:t∉l.take i):(l.take (i+1)).Nodup:=by
 rw[List.take_add_one,hx];refine List.nodup_append.2 ⟨h,by simp,fun a ha b hb e=> ?_⟩
 simp only[Option.toList_some,Q4]at hb;rw[e,hb]at ha;exact hn ha
theorem OG{α:Type}{l:List α}{i:Nat}{t:α}(hx:l[i]?=some t)(hn:t∈l.take i):¬l.Nodup:=by
 intro h;exact ER h hx (List.Perm.refl _) hn
theorem acA{l:List aa}(hl:l.length<=4)(hg:∀t∈l,cn t)(now:aa):Yd (qc l now) fun b=>b=true↔l.Nodup/\now∈l:=by
 unfold qc;simp only[etas];refine Yd.list l (by omega) (fun i (s:Bool)=>(s,i,())) (fun i s=>(l.take i).Nodup/\(s=true↔now∈l.take i)) (fun i t s ⟨g1,g2⟩ _ ht hi hd hw ha=> ?_) (fun s ⟨g1,g2⟩ hd=> ?_) (s:=false) ⟨by simp,by simp⟩
 ·have ht':l[i]?=some t:=by rw[<-aP];exact hw
  have hd1:(l.take (Int.toNat ((i:Nat):Int))).drop (Int.toNat 0)=l.take i:=by simp
  simp only[hd,Qk,hw,Qa,ha,yK (hg t ht).sm,l5 (hg t ht),decide_true,Qo,Ql,hd1];rw[tP (by omega),Qk]
  obtain⟨r4,e4,h4⟩:=aa2 (l:=l.take i) (by rw[List.length_take];omega) (fun u hu=>(hg u (Q0 hu)).sm) t
  rw[e4,Qa,Qa];refine Yd.cond (fun hr=> .some ?_) (fun hr=> ?_)
  ·show false=true↔_;exact⟨fun h=>(by cases h),fun h=>absurd h.1 (OG ht' (h4.1 hr))⟩
  ·have hn:t∉l.take i:=fun h=>by rw[h4.2 h]at hr;cases hr
   obtain⟨r6,e6,_,h6⟩:=Wc (a:=t) (b:=now) (hg t ht).sm;rw[e6];have e7:(bif s then some true else Option.bind (some r6) fun r6=>some r6)=some (s||r6):=by cases s<;>rfl
   rw[e7,Qa];refine .some ⟨s||r6,rfl,LD ht' g1 hn,?_⟩
   rw[Qn,g2,h6,List.take_add_one,ht',Qz];simp only[Option.toList_some,Q4];exact or_congr Iff.rfl ⟨fun e=>e.symm,fun e=>e.symm⟩
 ·simp only[hd,Ql];rw[Q9]at g1 g2;rw[Qg (show(l.length:Int)<=4 by omega)]
  refine Yd.inr ?_
  cases s with
  |true=>exact .some ⟨fun _=>⟨g1,g2.1 rfl⟩,fun _=>rfl⟩
  |false=>exact .some ⟨fun h=>(by cases h),fun h=>absurd (g2.2 h.2) (by decide)⟩
def XO(p:az)(l:List aa):Prop:=c7 p=some true/\l.Nodup/\p.ab∈l
structure Cn (w:aS):Prop where
 aa0:0<=w.ox
 aaZ:w.ox<((2 ^ w.au.length:Nat):Int)
 BN:eG w.Net=some true
 aJ:∀(i:Nat) (p:az) (l:List aa),w.au[i]?=some p->w.bO[i]?=some l->XO p l
section
variable {k : Int} {w : aS} (h : gg k w) (hk : k <= 999999)
 include h hk
theorem acw:Yd (eF w) fun b=>b=true↔Cn w:=by
 have hn0:=h.n0;have hn:=h.n1;have ht0:=h.t0;have ht1:=h.t1;have htl:=h.tl;obtain⟨rn,hrn,_⟩:=zh h.BN;have no:∀(hno:¬Cn w),Yd (some false) fun b=>b=true↔Cn w:=fun hno=> .some ⟨fun e=>(by cases e),fun e=>absurd e hno⟩
 unfold eF;simp only[etas,az.eta,bc,Y0 h.BN,hrn,Qa,Qk,Ql];rw[Qh (show¬w.Time<0 by omega),Qh (show¬(200:Int)<w.Time by omega),Qh (show¬(w.au.length:Int)<1 by omega),Qh (show¬(10:Int)<(w.au.length:Int)by omega)]
 simp only[Ql];refine Yd.cond (fun hi=>no fun hc=> ?_) (fun hi0=> ?_)
 ·have:=of_decide_eq_true hi;have:=hc.aa0;omega
 rw[Qs (by omega),mE _ (by omega)]
 refine Yd.cond (fun hi=>no fun hc=> ?_) (fun hi1=> ?_)
 ·have:=of_decide_eq_true hi;have:=hc.aaZ;omega
 rw[Qg (show(w.bO.length:Int)=(w.au.length:Int)by omega)]
 simp only[Qo,Ql];refine Yd.cond (fun hr=>no fun hc=> ?_) (fun hr=> ?_)
 ·have:=hc.BN;rw[hrn]at this;injection this with this
  rw[this]at hr;cases hr
 have hi0:=of_decide_eq_false hi0;have hi1:=of_decide_eq_false hi1;have hnet:eG w.Net=some true:=by rw[hrn];cases rn<;>first|rfl|(cases hr)
 refine Yd.list w.au (by omega) (fun i (_:Unit)=>(i,())) (fun i _=>∀(j:Nat) (p:az) (l:List aa),j<i->w.au[j]?=some p->w.bO[j]?=some l->XO p l) (fun i p s g _ hp hi hd hw ha=> ?_) (fun s g hd=> ?_) (s:=()) (fun j p l hj=>by omega)
 ·have hp':w.au[i]?=some p:=by rw[<-aP];exact hw
  have hT:w.bO[i]?=some w.bO[i]:=Qv (by omega)
  obtain⟨g1,g2⟩:=h.tr _ (QZ (show i<w.bO.length by omega))
  have hP:=h.nodes i p hp';obtain⟨r7,e7,_⟩:=sP hP hk;simp only[hd,Qk,hw,Qa,ha,hP.aJ,decide_true,Qo,Ql,YB hP hk,e7,aP w.bO,hT];refine Yd.cond (fun hr7=> .some ?_) (fun hr7=> ?_)
  ·show false=true↔_;refine⟨fun e=>(by cases e),fun hc=> ?_⟩
   have:=(hc.aJ i p _ hp' hT).1;rw[e7]at this;injection this with this
   rw[this]at hr7;cases hr7
  ·have e7:c7 p=some true:=by rw[e7];cases r7<;>first|rfl|(cases hr7)
   obtain⟨r9,e9,h9⟩:=acA g1 g2 p.ab;rw[e9,Qa];refine Yd.cond (fun hr9=> .some ?_) (fun hr9=> .some ⟨(),rfl,fun j q l hj hq hl=> ?_⟩)
   ·show false=true↔_;refine⟨fun e=>(by cases e),fun hc=> ?_⟩
    rw[h9.2 (hc.aJ i p _ hp' hT).2]at hr9;cases hr9
   ·by_cases hji:j<i
    ·exact g j q l hji hq hl
    ·obtain rfl:j=i:=by omega
     rw[hp']at hq;rw[hT]at hl;injection hq with hq
     injection hl with hl
     subst hq hl;exact⟨e7,h9.1 (by cases r9<;>first|rfl|(cases hr9))⟩
 ·simp only[hd,Ql];refine .some ?_;show true=true↔_;refine⟨fun _=>⟨by omega,by omega,hnet,fun i p l hp hl=>g i p l ?_ hp hl⟩,fun _=>rfl⟩
  exact(Qw.1 hp).1
theorem acv:Yd (fO w) fun b=>b=true↔Cn w:=by
 have hn0:=h.n0;have hn:=h.n1;have ht0:=h.t0;have ht1:=h.t1;have htl:=h.tl;obtain⟨rn,hrn,_⟩:=zh h.BN;have no:∀(hno:¬Cn w),Yd (some false) fun b=>b=true↔Cn w:=fun hno=> .some ⟨fun e=>(by cases e),fun e=>absurd e hno⟩
 unfold fO;simp only[etas,az.eta,bc,hrn,Qa,Qk,Ql];rw[Qh (show¬w.Time<0 by omega),Qh (show¬(200:Int)<w.Time by omega),Qh (show¬(w.au.length:Int)<1 by omega),Qh (show¬(10:Int)<(w.au.length:Int)by omega)]
 simp only[Ql,Qa];rw[CX (by omega),Qs (by omega),mE _ (by omega),Qg (show(w.bO.length:Int)=(w.au.length:Int)by omega)]
 by_cases hi0:w.ox<0
 ·rw[Qg hi0];exact no fun hc=>by have:=hc.aa0;omega
 by_cases hi1:((2 ^ w.au.length:Nat):Int)<=w.ox
 ·rw[Qh hi0,Qg hi1];exact no fun hc=>by have:=hc.aaZ;omega
 rw[Qh hi0,Qh hi1]
 cases hrnb:rn with
 |false=>
  refine no fun hc=> ?_
  have:=hc.BN;rw[hrn,hrnb]at this;cases this
 |true=>
 have hnet:eG w.Net=some true:=by rw[hrn,hrnb]
 simp only[Qo,Ql,Qa];refine Yd.list w.au (by omega) (fun i (_:Unit)=>(i,())) (fun i _=>∀(j:Nat) (p:az) (l:List aa),j<i->w.au[j]?=some p->w.bO[j]?=some l->XO p l) (fun i p s g _ hp hi hd hw ha=> ?_) (fun s g hd=> ?_) (s:=()) (fun j p l hj=>by omega)
 ·have hp':w.au[i]?=some p:=by rw[<-aP];exact hw
  have hT:w.bO[i]?=some w.bO[i]:=Qv (by omega)
  obtain⟨g1,g2⟩:=h.tr _ (QZ (show i<w.bO.length by omega))
  have hP:=h.nodes i p hp';obtain⟨r7,e7,_⟩:=sP hP hk;simp only[hd,Qk,hw,Qa,ha,hP.aJ,decide_true,Qo,Ql,e7,aP w.bO,hT];refine Yd.cond (fun hr7=> .some ?_) (fun hr7=> ?_)
  ·show false=true↔_;refine⟨fun e=>(by cases e),fun hc=> ?_⟩
   have:=(hc.aJ i p _ hp' hT).1;rw[e7]at this;injection this with this
   rw[this]at hr7;cases hr7
  ·have e7:c7 p=some true:=by rw[e7];cases r7<;>first|rfl|(cases hr7)
   rw[Qh (show¬(4:Int)<((w.bO[i].length:Nat):Int)by omega),Ql]
   obtain⟨r24,e24,h24⟩:=Vy (l:=w.bO[i]) (by omega) (fun t ht=>(g2 t ht).sm) p.ab
   rw[e24,Qa];refine Yd.cond (fun hr=> .some ?_) (fun hr=> ?_)
   ·show false=true↔_;refine⟨fun e=>(by cases e),fun hc=> ?_⟩
    rw[h24.2 (hc.aJ i p _ hp' hT).2.2]at hr;cases hr
   ·have hin:p.ab∈w.bO[i]:=h24.1 (by cases r24<;>first|rfl|(cases hr))
    refine Yd.list w.bO[i] (by omega) (fun i (_:Unit)=>(i,())) (fun j _=>(w.bO[i].take j).Nodup) (fun j t s gd _ ht hj hd' hw' ha'=> ?_) (fun s gd hd'=> ?_) (s:=()) (by simp)
    ·have ht':w.bO[i][j]?=some t:=by rw[<-aP];exact hw'
     have hd1:(w.bO[i].take (Int.toNat ((j:Nat):Int))).drop (Int.toNat 0)=w.bO[i].take j:=by simp
     simp only[hd',Qk,hw',Qa,ha',hd1];rw[tP (by omega),Qk]
     obtain⟨r4,e4,h4⟩:=Vy (l:=w.bO[i].take j) (by rw[List.length_take];omega) (fun u hu=>(g2 u (Q0 hu)).sm) t
     rw[e4,Qa];refine Yd.cond (fun hr=> .some ?_) (fun hr=> ?_)
     ·show false=true↔_;exact⟨fun e=>(by cases e),fun hc=>absurd (hc.aJ i p _ hp' hT).2.1 (OG ht' (h4.1 hr))⟩
     ·rw[jH (g2 t ht).sm,l5 (g2 t ht)];simp only[Qa,decide_true,Qo,Ql];exact .some ⟨(),rfl,LD ht' gd fun hm=>by rw[h4.2 hm]at hr;cases hr⟩
    ·simp only[hd',Ql];rw[Q9]at gd;refine .some ⟨(),rfl,fun j q l hj hq hl=> ?_⟩
     by_cases hji:j<i
     ·exact g j q l hji hq hl
     ·obtain rfl:j=i:=by omega
      rw[hp']at hq;rw[hT]at hl;injection hq with hq
      injection hl with hl
      subst hq hl;exact⟨e7,gd,hin⟩
 ·simp only[hd,Ql];refine .some ?_;show true=true↔_;refine⟨fun _=>⟨by omega,by omega,hnet,fun i p l hp hl=>g i p l ?_ hp hl⟩,fun _=>rfl⟩
  exact(Qw.1 hp).1
theorem Ec:∃b,eF w=some b/\fO w=some b/\(b=true↔Cn w):=by
 obtain⟨b1,e1,h1⟩:=acw h hk;obtain⟨b2,e2,h2⟩:=acv h hk;have:b1=b2:=by rw[QW,h1,h2]
 subst this;exact⟨b1,e1,e2,h1⟩
end
end
section
theorem PK{Q:Nat->Prop}{n:Nat}{step:Int×Unit->Option ((Int×Unit)⊕Bool)}(h:∀i:Nat,i<n->∃b,step ((i:Int),())=JB i b/\(b=false->Q i))(ht:ax step (0,())=some true):∀i,i<n->Q i:=by
 suffices key:∀(k i:Nat),i+k=n->ax step ((i:Int),())=some true->∀j,i<=j->j<n->Q j from fun j hj=>key n 0 (by omega) ht j (by omega) hj
 intro k
 induction k with
 |zero=>intro i hi _ j h1 h2;omega
 |succ k ih=>
  intro i hi hl j h1 h2;obtain⟨b,e,hq⟩:=h i (by omega)
  cases b with
  |true=>rw[ct (r:=false) e]at hl;cases hl
  |false=>
   rw[cD e]at hl
   by_cases hj:j=i
   ·rw[hj];exact hq rfl
   ·exact ih (i+1) (by omega) hl j (by omega) h2
theorem ag3{nd k:Int}{p:az}(h:mI nd k p)(hk:k<=999999)(hc:c7 p=some true):∀(i j:Nat) (x y:bG),i<j->p.aQ[i]?=some x->p.aQ[j]?=some y->x.aC.aK<y.aC.aK:=by
 have hlen:=h.len;have hn:p.ao=nd:=h.aJ;have hn0:=h.n0;have hn1:=h.n1
 have step:∀i,i<p.aQ.length->∀m,i=m+1->∀x y,p.aQ[m]?=some x->p.aQ[i]?=some y->x.aC.aK<y.aC.aK:=by
  unfold c7 at hc;simp only[bG.eta,aB.eta,ae.eta,etas,jH h.aR.sm,l5 h.aR,Qa,decide_true,Qo]at hc;rw[Qh (show¬p.ao<0 by omega),Qh (show¬(9:Int)<p.ao by omega),Qh (show¬(8:Int)<(p.aQ.length:Int)by omega)]at hc
  simp only[Ql,Qa]at hc;refine PK (fun i hi=> ?_) hc
  have hw:idx p.aQ (i:Int)=some p.aQ[i]:=by rw[aP];exact Qv hi
  have hs:=h.bx _ (QZ hi);obtain⟨r,e2,_⟩:=B0 (a:=p.aQ[i].aC.ab) (b:=p.ab) hs.2.2.pre.mY.aR.sm;simp only[];rw[Qg (show(i:Int)<(p.aQ.length:Int)by omega),hw,bN (a:=(i:Int)) (by omega) (by omega)]
  simp only[Qk,Qa,bc,rC hs.2.2 hk,Qo,Ql,e2]
  cases decide (p.aQ[i].aC.ao=p.ao)with
  |false=>exact⟨true,rfl,fun e=>by cases e⟩
  |true=>
   cases r with
   |false=>exact⟨true,rfl,fun e=>by cases e⟩
   |true=>
    simp only[Qo,Ql]
    by_cases h0:0<i
    ·obtain⟨m,rfl⟩:∃m:Nat,i=m+1:=⟨i - 1,by omega⟩
     rw[Qg (by omega),jA (by omega) (by omega),show(((m+1:Nat):Int)) - 1=(m:Int)by omega,aP,Qv (show m<p.aQ.length by omega)]
     simp only[Qk,Qa];refine⟨decide (p.aQ[m+1].aC.aK<=p.aQ[m].aC.aK),rfl,fun e m' hm' x y hx hy=> ?_⟩
     obtain rfl:m'=m:=by omega
     have e:=of_decide_eq_false e;rw[Qv (show m'<p.aQ.length by omega)]at hx
     rw[Qv hi]at hy;injection hx with hx
     injection hy with hy
     rw[<-hx,<-hy];omega
    ·rw[Qh (by omega)]
     exact⟨false,rfl,fun _ m hm=>by omega⟩
 intro i j
 induction j with
 |zero=>intro x y hij;omega
 |succ j ih=>
  intro x y hij hx hy;have hj:j+1<p.aQ.length:=(Qw.1 hy).1;have hz:p.aQ[j]?=some p.aQ[j]:=Qv (by omega)
  have h1:=step (j+1) hj j rfl _ y hz hy
  by_cases he:i=j
  ·subst he;rw[hz]at hx;injection hx with hx
   rw[<-hx];exact h1
  ·have:=ih x _ (by omega) hx hz
   omega
theorem agY{nd k:Int}{p:az}(h:mI nd k p)(hk:k<=999999)(hc:c7 p=some true){i:Nat}{x:bG}(hx:p.aQ[i]?=some x):tC p x.aC.aK=some (if x.kK then x.Value else bE,x.kK,()):=by
 obtain⟨j,b,e1,e2,e3,e4,e5,e6⟩:=ack h.len x.aC.aK;have hil:i<p.aQ.length:=(Qw.1 hx).1
 have hji:j=i:=by
  rcases Nat.lt_trichotomy j i with hlt|he|hgt
  ·have hj:p.aQ[j]?=some p.aQ[j]:=Qv (by omega)
   have h1:=e4 _ hj;have h2:=ag3 h hk hc j i _ _ hlt hj hx;omega
  ·exact he
  ·have:=e3 i x hgt hx;omega
 subst hji;have hb:=e6 x hx rfl;unfold tC;simp only[etas,az.eta];rw[hc,Qa,Qo,Ql,e1,Qa,hb];simp only[Qk,aP,hx,Qa];cases x.kK<;>rfl
def uM(ill:Int)(i:Nat):Bool:=decide (bp .i64 (cm .i64 ill (i:Int)) 1=1)
def H3(ill:Int)(i:Nat)(p:az):List bK:=if uM ill i then[]else(p.aQ.filter (·.kK)).map fun x=>⟨(i:Int),x.aC.aK,x.Value⟩
def outs(ill:Int)(ps:List az):List bK:=(ps.mapIdx (H3 ill)).flatten
theorem JQ{ill:Int}{ps:List az}{i:Nat}{p:az}(h:ps[i]?=some p):outs ill (ps.take (i+1))=outs ill (ps.take i)++H3 ill i p:=by
 have hi:i<ps.length:=(Qw.1 h).1;have e:ps.take (i+1)=ps.take i++[p]:=by rw[List.take_add_one,h];rfl
 unfold outs;rw[e,List.mapIdx_concat,List.length_take,Nat.min_eq_left (by omega),List.flatten_append]
 simp
theorem YP(ill:Int)(i:Nat)(p:az):(H3 ill i p).length<=p.aQ.length:=by
 unfold H3;split
 ·simp
 ·rw[QC];exact List.length_filter_le _ _
theorem Lt{ill:Int}{i:Nat}{p:az}(hl:p.aQ.length<=8){acc:List bK}(ha:acc.length<=1000){f:bG->Option (ByteArray×Bool)}(hf:∀x∈p.aQ,f x=some (x.Value,x.kK&& !uM ill i)\/∃v,f x=some (v,false)/\(x.kK&& !uM ill i)=false){ρ:Type}{fin:List bK->Option ρ}{q:ρ->Prop}(hq:Yd (fin (acc++H3 ill i p)) q)
  {step:Int×List bK×Unit->Option ((Int×List bK×Unit)⊕ρ)}
  (h1:∀(j:Nat) (x:bG) (o:List bK),decide ((j:Int)<(p.aQ.length:Int))=true->x∈p.aQ->p.aQ[j]?=some x->idx p.aQ (j:Int)=some x->aq .i64 (j:Int) 1=((j+1:Nat):Int)->step ((j:Int),o,())=(f x).bind fun r=>bif r.2 then(bif aX 32 (o.length+[(bK.mk (i:Int) x.aC.aK r.1)].length)then some (.inl (((j+1:Nat):Int),o++[bK.mk (i:Int) x.aC.aK r.1],()))else none)else some (.inl (((j+1:Nat):Int),o,())))
  (h2:∀o:List bK,decide ((p.aQ.length:Int)<(p.aQ.length:Int))=false->step ((p.aQ.length:Int),o,())=Option.map Sum.inr (fin o)):Yd (ax step (0,acc,())) q:=by
 refine Yd.list p.aQ (by omega) (fun j (o:List bK)=>(j,o,())) (fun j o=>o=acc++(if uM ill i then[]else((p.aQ.take j).filter (·.kK)).map fun x=>(⟨(i:Int),x.aC.aK,x.Value⟩:bK))) (fun j x o g hdr hx hj hd hw hadd=> ?_) (fun o g hd=> ?_) (s:=acc) (by simp)
 ·have hx':p.aQ[j]?=some x:=by rw[<-aP];exact hw
  have hol:o.length<=1000+j:=by
   rw[g,QB];split
   ·simp;omega
   ·rw[QC];have:=List.length_filter_le (fun x:bG=>x.kK) (p.aQ.take j)
    rw[List.length_take]at this;omega
  have e:p.aQ.take (j+1)=p.aQ.take j++[x]:=by rw[List.take_add_one,hx'];rfl
  rw[h1 j x o hd hx hx' hw hadd]
  have eu:(x.kK&& !uM ill i)=false->o=acc++(if uM ill i then[]else((p.aQ.take (j+1)).filter (·.kK)).map fun x=>(⟨(i:Int),x.aC.aK,x.Value⟩:bK)):=by
   intro hb;rw[g,e]
   cases hs:uM ill i with
   |true=>simp
   |false=>
    rw[hs]at hb;have hdn:x.kK=false:=by simpa using hb
    simp[hdn]
  rcases hf x hx with hfx|⟨v,hfx,hb⟩
  ·rw[hfx,Qa]
   cases hb:(x.kK&& !uM ill i)with
   |false=>exact .some ⟨o,rfl,eu hb⟩
   |true=>
    simp only[Qk];rw[ba (by simp;omega),Qk]
    refine .some ⟨_,rfl,?_⟩;rw[Qm]at hb;have hs:uM ill i=false:=by simpa using hb.2
    rw[g,e];simp[hs,hb.1]
  ·rw[hfx,Qa];exact .some ⟨o,rfl,eu hb⟩
 ·rw[h2 o hd];refine Yd.inr ?_;rw[g,Q9];exact hq
section
variable {k : Int} {w : aS} (h : gg k w) (hk : k <= 999999) (hc : Cn w)
 include h hk hc
theorem JP:∀i,i<=w.au.length->(outs w.ox (w.au.take i)).length<=8*i:=by
 intro i
 induction i with
 |zero=>intro _;simp[outs]
 |succ i ih=>
  intro hi;have hg:w.au[i]?=some w.au[i]:=Qv (by omega)
  rw[JQ hg,QB];have h1:=YP w.ox i w.au[i];have h2:=(h.nodes i _ hg).len;have:=ih (by omega)
  omega
theorem ae7:dq w=some (outs w.ox w.au):=by
 have hn:=h.n1;obtain⟨b,e1,_,e3⟩:=Ec h hk;unfold dq;rw[e1,e3.2 hc,Qa,Qo,Ql];refine Yd.DF ?_;refine Yd.list w.au (by omega) (fun i (o:List bK)=>(i,o,())) (fun i o=>o=outs w.ox (w.au.take i)) (fun i p o g hdr hp hi hd hw ha=> ?_) (fun o g hd=> ?_) (s:=[]) (by simp[outs])
 ·have hp':w.au[i]?=some p:=by rw[<-aP];exact hw
  have hol:=JP h hk hc i (by omega)
  simp only[hd,Qk,hw,Qa,ha];refine Lt (ill:=w.ox) (i:=i) (h.nodes i p hp').len (acc:=o) (by rw[g];omega) (f:=fun x=>some (x.Value,x.kK&& !uM w.ox i)) (fun x hx=> .inl rfl) (fin:=fun o=>some (Sum.inl (((i+1:Nat):Int),o,()))) (.some ⟨_,rfl,by rw[g,JQ hp']⟩) (fun j x o hd' hx hx' hw' ha'=> ?_) (fun o hd'=>by simp only[hd',Ql])
  have hh:ve w.ox (i:Int)=some (uM w.ox i):=by unfold ve;rw[Qs (by omega)];rfl
  simp only[hd',Qk,hw',Qa,ha',hh,bc];cases x.kK<;>rfl
 ·simp only[hd,Ql];rw[Q9]at g;exact .some g
theorem ahZ:gy w=some (outs w.ox w.au):=by
 have hn:=h.n1;obtain⟨b,_,e2,e3⟩:=Ec h hk;unfold gy;simp only[etas,az.eta];rw[e2,e3.2 hc,Qa,Qo,Ql];refine Yd.DF ?_;refine Yd.list w.au (by omega) (fun i (o:List bK)=>(i,o,())) (fun i o=>o=outs w.ox (w.au.take i)) (fun i p o g hdr hp hi hd hw ha=> ?_) (fun o g hd=> ?_) (s:=[]) (by simp[outs])
 ·have hp':w.au[i]?=some p:=by rw[<-aP];exact hw
  have hT:w.bO[i]?=some (w.bO[i]'(by have:=h.tl;omega)):=Qv _
  have hP:=h.nodes i p hp';have hcp:=(hc.aJ i p _ hp' hT).1;have hol:=JP h hk hc i (by omega)
  have hh:iH w (i:Int)=some (uM w.ox i):=by unfold iH;rw[CX (by omega),Qs (by omega)];rfl
  simp only[hd,Qk,hw,Qa,ha];refine Lt (ill:=w.ox) (i:=i) hP.len (acc:=o) (by rw[g];omega) (f:=fun x=>some (if x.kK then x.Value else bE,x.kK&& !uM w.ox i)) (fun x hx=> ?_) (fin:=fun o=>some (Sum.inl (((i+1:Nat):Int),o,()))) (.some ⟨_,rfl,by rw[g,JQ hp']⟩) (fun j x o hd' hx hx' hw' ha'=> ?_) (fun o hd'=>by simp only[hd',Ql])
  ·cases hdn:x.kK with
   |true=>exact .inl (by simp[hdn])
   |false=>exact .inr ⟨_,rfl,rfl⟩
  ·simp only[hd',Qk,hw',Qa,ha',hh,bc,agY hP hk hcp hx'];cases x.kK<;>rfl
 ·simp only[hd,Ql];rw[Q9]at g;exact .some g
theorem Zu:∃r:Nat,r<2 ^ w.au.length/\pf w=some (r:Int)/\uq w=some (r:Int):=by
 have hn:=h.n1;have hp:=eL (n:=w.au.length) (by omega)
 obtain⟨b,e1,e2,e3⟩:=Ec h hk;obtain⟨m,hm⟩:=Int.eq_ofNat_of_zero_le hc.aa0;have hm1:=hc.aaZ
 have key:∀{step:Int×Int×Unit->Option ((Int×Int×Unit)⊕Int)},(∀(i:Nat) (p:az) (s:Int),decide ((i:Int)<(w.au.length:Int))=true->i<10->idx w.au (i:Int)=some p->aq .i64 (i:Int) 1=((i+1:Nat):Int)->step (s,(i:Int),())=some (.inl (if p.fQ then ka .i64 s (cg .i64 1 (i:Int))else s,((i+1:Nat):Int),())))->
   (∀s:Int,decide ((w.au.length:Int)<(w.au.length:Int))=false->step (s,(w.au.length:Int),())=some (.inr s))->Yd (ax step (w.ox,0,())) fun r=>r=(((w.au.mapIdx fun i p=>if p.fQ then 2 ^ i else 0).foldl (·|||·) m:Nat):Int)/\∃q:Nat,r=q/\q<2 ^ w.au.length:=by
  intro step h1 h2;refine Yd.list w.au (by omega) (fun i (s:Int)=>(s,i,())) (fun i s=>s=((((w.au.take i).mapIdx fun i p=>if p.fQ then 2 ^ i else 0).foldl (·|||·) m:Nat):Int)/\∃q:Nat,s=q/\q<2 ^ w.au.length) (fun i p s ⟨g,q,hq,hq1⟩ hdr hp hi hd hw ha=> ?_) (fun s g hd=> ?_) (s:=w.ox) ⟨by simpa using hm,m,hm,by omega⟩
  ·have hp':w.au[i]?=some p:=by rw[<-aP];exact hw
   have e:w.au.take (i+1)=w.au.take i++[p]:=by rw[List.take_add_one,hp'];rfl
   rw[h1 i p s hd (by omega) hw ha]
   refine .some ⟨_,rfl,?_⟩;rw[e,List.mapIdx_concat,List.length_take,Nat.min_eq_left (by omega),List.foldl_append]
   simp only[QU,List.foldl_nil];rw[hq]at g;have g:q=((w.au.take i).mapIdx fun i p=>if p.fQ then 2 ^ i else 0).foldl (·|||·) m:=by omega
   rw[<-g,hq]
   cases p.fQ with
   |true=>
    simp only[Qt];rw[qF (by omega) (by omega) (by omega),QV]
    exact⟨rfl,_,rfl,Nat.or_lt_two_pow hq1 (Nat.pow_lt_pow_right (by omega) hi)⟩
   |false=>
    simp only[Qq,Qu,Nat.or_zero];exact⟨trivial,q,rfl,hq1⟩
  ·rw[h2 s hd];rw[Q9]at g;exact .some g
 have hP:Yd (pf w) fun r=>r=(((w.au.mapIdx fun i p=>if p.fQ then 2 ^ i else 0).foldl (·|||·) m:Nat):Int)/\∃q:Nat,r=q/\q<2 ^ w.au.length:=by
  unfold pf;rw[e1,e3.2 hc,Qa,Qo,Ql];refine key (fun i p s hd hi hw ha=> ?_) (fun s hd=>by simp only[hd,Ql,Qe])
  simp only[hd,Qk,hw,Qa,ha,bc];rw[Qs (by omega)]
  cases p.fQ<;>rfl
 have hR:Yd (uq w) fun r=>r=(((w.au.mapIdx fun i p=>if p.fQ then 2 ^ i else 0).foldl (·|||·) m:Nat):Int)/\∃q:Nat,r=q/\q<2 ^ w.au.length:=by
  unfold uq;rw[e2,e3.2 hc,Qa,Qo,Ql];refine key (fun i p s hd hi hw ha=> ?_) (fun s hd=>by simp only[hd,Ql,Qe])
  simp only[hd,Qk,hw,Qa,ha,bc,CX (n:=i) (by omega)]
  rw[Qs (by omega)]
  cases p.fQ<;>rfl
 obtain⟨r1,a1,a2,q,a3,a4⟩:=hP;obtain⟨r2,b1,b2,_⟩:=hR;exact⟨q,a4,by rw[a1,a3],by rw[b1,b2,<-a2,a3]⟩
theorem ahL:zl w.bO:=by
 have hn:=h.n1;have htl:=h.tl;refine⟨by omega,fun l hl=> ?_⟩
 obtain⟨i,hi,rfl⟩:=List.mem_iff_getElem.1 hl;obtain⟨g1,g2⟩:=h.tr _ hl;obtain⟨_,g3,g4⟩:=hc.aJ i _ _ (Qv (by omega)) (Qv hi)
 exact⟨List.length_pos_of_mem g4,g1,g2,g3⟩
end
def aco(q q':Int×Int×Unit):Prop:=(q.2.1=0/\q'.2.1=0/\q.1=q'.1/\∃r:Nat,q.1=r/\r<1024)\/(q.2.1≠0/\q'.2.1≠0)
theorem Jt{k:Int}{w:aS}(h:gg k w)(hk:k<=999999):∃q q',ib w=some q/\nA w=some q'/\aco q q'/\(q.2.1=0->Cn w)/\(Cn w->VX w.bO->q.2.1=0):=by
 obtain⟨b,e1,e2,e3⟩:=Ec h hk;unfold ib nA wu yj;rw[e1,e2]
 cases b with
 |false=>
  refine⟨_,_,rfl,rfl,.inr ⟨by decide,by decide⟩,fun e=>absurd e (by decide),fun hc=> ?_⟩
  have:=e3.2 hc;cases this
 |true=>
  have hc:=e3.1 rfl;have hl:=ahL h hk hc;have hn:=h.n1;have htl:=h.tl;obtain⟨ql,a1,a2⟩:=agB hl;obtain⟨qh,b1,b2⟩:=afl hl;obtain⟨rl,c1,c2⟩:=agA hl;obtain⟨rh,d1,d2⟩:=afk hl;simp only[Qa,Qo,Ql,a1,b1,c1,d1];rcases a2 with⟨a0,aL,aU⟩|⟨a0,aU⟩
  ·rcases b2 with⟨b0,bL,_⟩|⟨_,bU⟩
   ·rcases c2 with⟨c0,cL,_⟩|⟨_,cU⟩
    ·rcases d2 with⟨d0,dL,_⟩|⟨_,dU⟩
     ·obtain⟨m,hm,f1,f2⟩:=Zu h hk hc;rw[<-htl]at hm;have hP:=OfP hl aU (by omega) aL bL hm
      have hR:=OfR hl aU (by omega) cL dL hm
      obtain⟨p,p1,p2,r,p3,p4,p5⟩:=hP;obtain⟨p',p1',p2',r',p3',p4',p5'⟩:=hR
      have er:r=r':=by
       refine qH fun j=> ?_
       rw[QW,p5,p5'];exact⟨fun z=>z.congr hl aL bL cL dL,fun z=>z.congr hl cL dL aL bL⟩
      rw[Qg a0,Qg b0,Qg c0,Qg d0];simp only[Qo,Ql,Qa,decide_true,f1,f2];rw[show(⟨ql.1.ay⟩:av)=ql.1 from rfl,show(⟨qh.1.ay⟩:av)=qh.1 from rfl]at p1
      rw[show(⟨rl.1.ay⟩:av)=rl.1 from rfl,show(⟨rh.1.ay⟩:av)=rh.1 from rfl]at p1'
      rw[p1,p1'];refine⟨_,_,rfl,rfl,.inl ⟨p2,p2',?_,r,p3,p4⟩,fun _=>hc,fun _ _=>p2⟩
      show p.1=p'.1;rw[p3,p3',er]
     ·exact absurd aU dU
    ·exact absurd aU cU
   ·exact absurd aU bU
  ·rcases c2 with⟨_,_,cU⟩|⟨c0,_⟩
   ·exact absurd cU aU
   ·rw[Qh a0,Qh c0];simp only[Qp,Qk,Qa];rw[Qh a0,Qh c0];exact⟨_,_,rfl,rfl,.inr ⟨a0,c0⟩,fun e=>absurd e a0,fun _ hu=>absurd hu aU⟩
end
section
def ij(l:List bK):Nat:=l.foldl (fun s o=>if o.aK=1 then s|||2 ^ o.ao.toNat else s) 0
def Bt(l:List bK):Prop:=∀o∈l,∃i:Nat,o.ao=i/\i<4
theorem TB{l:List bK}{i:Nat}{o:bK}(h:l[i]?=some o):ij (l.take (i+1))=if o.aK=1 then ij (l.take i)|||2 ^ o.ao.toNat else ij (l.take i):=by
 unfold ij;rw[List.take_add_one,h,List.foldl_append];rfl
theorem VH{l:List bK}(hn:Bt l):∀i,ij (l.take i)<16:=by
 intro i
 induction i with
 |zero=>unfold ij;simp
 |succ i ih=>
  cases h:l[i]? with
  |none=>
   have:l.length<=i:=List.getElem?_eq_none_iff.1 h;rw[List.take_of_length_le (by omega)]at ih ⊢
   exact ih
  |some o=>
   rw[TB h];split
   ·obtain⟨m,h1,h2⟩:=hn o (Q7 h);rw[h1,QV];exact Nat.or_lt_two_pow (n:=4) ih (Nat.pow_lt_pow_right (by omega) h2)
   ·exact ih
theorem Zv{l:List bK}(h:∀o∈l,o.aK≠1):ij l=0:=by
 unfold ij
 suffices key:∀(l:List bK),(∀o∈l,o.aK≠1)->l.foldl (fun s o=>if o.aK=1 then s|||2 ^ o.ao.toNat else s) 0=0 from key l h
 intro l
 induction l with
 |nil=>intro _;rfl
 |cons o l ih=>
  intro hl;rw[QU,Qs (hl o Qx)];exact ih fun o ho=>hl o (Qy _ ho)
theorem Tz{l:List bK}(hl:l.length<=1000)(hn:Bt l){ρ:Type}{fin:Int->Option ρ}{q:ρ->Prop}(hq:Yd (fin ((ij l:Nat):Int)) q){step:Int×Int×Unit->Option ((Int×Int×Unit)⊕ρ)}
  (h1:∀(s:Int) (i m:Nat) (o:bK),decide ((i:Int)<(l.length:Int))=true->idx l (i:Int)=some o->aq .i64 (i:Int) 1=((i+1:Nat):Int)->o.ao=m->m<4->step (s,(i:Int),())=some (.inl (if o.aK=1 then ka .i64 s (cg .i64 1 (m:Int))else s,((i+1:Nat):Int),())))
  (h2:∀s:Int,decide ((l.length:Int)<(l.length:Int))=false->step (s,(l.length:Int),())=Option.map Sum.inr (fin s)):Yd (ax step (0,0,())) q:=by
 refine Yd.list l (by omega) (fun i (s:Int)=>(s,i,())) (fun i s=>s=((ij (l.take i):Nat):Int)) (fun i o s g _ ho hi hd hw ha=> ?_) (fun s g hd=> ?_) (s:=0) (by rfl)
 ·have ho':l[i]?=some o:=by rw[<-aP];exact hw
  obtain⟨m,hm,hm4⟩:=hn o ho;rw[h1 s i m o hd hw ha hm hm4];refine .some ⟨_,rfl,?_⟩;have hlt:=VH hn i;rw[TB ho',g,qF (by omega) (by omega) (by omega),hm,QV]
  split<;>rfl
 ·rw[h2 s hd];rw[Q9]at g;rw[g];exact Yd.inr hq
theorem O9{w:aS}{l:List bK}(he:gy w=some l)(hl:l.length<=1000)(hn:Bt l):Yd (vg w 1) fun r=>r.2.1=0->ij l=0:=by
 unfold vg;rw[he,Qa];refine Yd.list l (by omega) (fun i (s:ByteArray×Int×Bool)=>(s.1,s.2.1,s.2.2,i,())) (fun i s=>(∃m:Nat,s.2.1=m/\m<16)/\(s.2.2=true->s.2.1≠0)/\(s.2.2=false->∀o∈l.take i,o.aK≠1)) (fun i o s ⟨⟨a,ha1,ha2⟩,g2,g3⟩ _ ho hi hd hw ha=> ?_) (fun s ⟨_,g2,g3⟩ hd=> ?_) (s:=(bE,0,false)) ⟨⟨0,rfl,by omega⟩,(fun h=>by cases h),fun _ o ho=>by simp at ho⟩
 ·have ho':l[i]?=some o:=by rw[<-aP];exact hw
  obtain⟨m,hm,hm4⟩:=hn o ho;have e:l.take (i+1)=l.take i++[o]:=by rw[List.take_add_one,ho'];rfl
  simp only[hd,Qk,hw,Qa,ha,bc,hm,CX (n:=m) (by omega)]
  rw[ha1,qF (by omega) (by omega) (by omega),QV,Qs (show¬((m:Nat):Int)<0 by omega)]
  have hb:a|||2 ^ m<16:=Nat.or_lt_two_pow (n:=4) ha2 (Nat.pow_lt_pow_right (by omega) hm4)
  have hnz:((a|||2 ^ m:Nat):Int)≠0:=by
   intro h0;have h0:a|||2 ^ m=0:=by omega
   have:=congrArg (fun x=>x.testBit m) h0
   simp at this
  by_cases hs:o.aK=1
  ·rw[Qg hs];simp only[Qo,Ql]
   cases hf:s.2.2 with
   |true=>
    have hsz:=g2 hf;rw[ha1]at hsz;simp only[Qo,Ql];refine Yd.cond (fun _=> .some ⟨(s.1,_,true),rfl,⟨_,rfl,hb⟩,fun _=>hnz,(fun h=>by cases h)⟩) (fun _=> .some ⟨(s.1,_,true),rfl,⟨_,rfl,ha2⟩,fun _=>hsz,(fun h=>by cases h)⟩)
   |false=>
    simp only[Qp,Qk,decide_true];exact .some ⟨(o.Value,_,true),rfl,⟨_,rfl,hb⟩,fun _=>hnz,(fun h=>by cases h)⟩
  ·rw[Qh hs];simp only[Qp,Qk];refine .some ⟨(s.1,(a:Int),s.2.2),rfl,⟨a,rfl,ha2⟩,fun h=>by rw[<-ha1];exact g2 h,fun h o' ho'=> ?_⟩
   rw[e]at ho';rcases Qz.1 ho' with h'|h'
   ·exact g3 h o' h'
   ·rw[Q4.1 h'];exact hs
 ·simp only[hd,Ql];refine .some ?_;show s.2.1=0->_;intro h0;rw[Q9]at g3
  cases hf:s.2.2 with
  |true=>exact absurd h0 (g2 hf)
  |false=>exact Zv (g3 hf)
theorem MN{w:aS}{l:List bK}(he:dq w=some l)(hl:l.length<=1000)(hn:Bt l):jR w 1=some ((ij l:Nat):Int):=by
 refine Yd.DF ?_;unfold jR;rw[he,Qa];refine Tz (q:=fun r=>r=((ij l:Nat):Int)) hl hn (fin:=fun s=>some s) (.some rfl) (fun s i m o hd hw ha hm hm4=> ?_) (fun s hd=>by simp only[hd,Ql])
 simp only[hd,Qk,hw,Qa,ha,bc,hm];rw[Qs (show¬((m:Nat):Int)<0 by omega)]
 by_cases hs:o.aK=1
 ·rw[Qg hs,Qk,Qr hs]
 ·rw[Qh hs,Ql,Qs hs]
theorem WG{ill:Int}{ps:List az}(h:ps.length<=4):Bt (outs ill ps):=by
 intro o ho;unfold outs at ho;obtain⟨x,hx,hox⟩:=List.mem_flatten.1 ho;obtain⟨i,hi,rfl⟩:=List.mem_iff_getElem.1 hx;rw[List.length_mapIdx]at hi;rw[List.getElem_mapIdx]at hox;unfold H3 at hox;split at hox
 ·cases hox
 ·obtain⟨s,_,rfl⟩:=QP.1 hox;exact⟨i,rfl,by omega⟩
structure XS (w:aS):Prop where
 out:∃l,dq w=some l/\gy w=some l/\l.length<=1000/\Bt l
 int:∃q q',ib w=some q/\nA w=some q'/\aco q q'
theorem adt{k:Int}{w:aS}(h:gg k w)(hk:k<=999999):XS w:=by
 obtain⟨b,e1,e2,e3⟩:=Ec h hk;refine⟨?_,?_⟩
 ·cases b with
  |false=>exact⟨[],by unfold dq;rw[e1];rfl,by unfold gy;rw[e2];rfl,QS _,fun o ho=>by cases ho⟩
  |true=>
   have hc:=e3.1 rfl;have hn:=h.n1;have hl:=JP h hk hc w.au.length (QI _);rw[Q9]at hl;exact⟨_,ae7 h hk hc,ahZ h hk hc,by omega,WG hn⟩
 ·obtain⟨q,q',h1,h2,h3,_⟩:=Jt h hk;exact⟨q,q',h1,h2,h3⟩
theorem adu:XS ⟨0,[],0,⟨[],0,[],[]⟩,[]⟩:=by
 have e1:eF ⟨0,[],0,⟨[],0,[],[]⟩,[]⟩=some false:=by
  unfold eF;simp only[bc];rfl
 have e2:fO ⟨0,[],0,⟨[],0,[],[]⟩,[]⟩=some false:=by
  unfold fO;rfl
 refine⟨⟨[],by unfold dq;rw[e1];rfl,by unfold gy;rw[e2];rfl,QS _,fun o ho=>by cases ho⟩,?_⟩
 unfold ib nA wu yj;rw[e1,e2];exact⟨_,_,rfl,rfl,.inr ⟨by decide,by decide⟩⟩
theorem WT{w:aS}(h:XR w):XS w:=by
 rcases h with rfl|⟨s,h0,h1,hJ⟩
 ·exact adu
 ·have ht0:=hJ.t0;have ht1:=hJ.t1;exact adt (k:=4100*w.Time+2*s) hJ (by omega)
def yS:aa:=⟨1,[0],[]⟩
def Bv:aS:=⟨0,[⟨0,false,yS,[]⟩],0,⟨[],0,[],[]⟩,[[yS]]⟩
theorem CC:cn yS:=kP (by decide) (by decide)
theorem Od(k:Nat):fV yS k=decide (k=0):=by
 rw[Re];unfold yS;rw[ta];simp
theorem adP:G2 yS:=CC.g2
theorem Vh:pR ⟨[⟨true,yS⟩]⟩ 0=some (Bv,0,()):=by
 have hv:et ⟨[⟨true,yS⟩]⟩=some 0:=by
  refine Yd.zero (TM ⟨by simp,fun m hm=> ?_⟩) fun m hm=> ?_
  ·rw[Q4.1 hm];exact .inl ⟨rfl,adP⟩
  ·rw[Q4.1 hm];unfold te;rw[Qn];refine .inr (QH.2 fun k hk=> ?_)
   rw[Od]
   by_cases h0:k=0
   ·subst h0;rfl
   ·rw[Qh h0];rfl
 unfold pR;simp only[etas];rw[hv,Qa];simp only[decide_true,Qo,Ql];rw[cD (s':=(1,⟨0,[],0,⟨[],0,[],[]⟩,[]⟩,())) (by rfl)]
 refine ct ?_;show Option.map Sum.inr (ax _ _)=_;rw[cD (s':=(1,⟨0,[],0,⟨[],0,[],[]⟩,[]⟩,[⟨0,false,yS,[]⟩],[[yS]],())) (by rfl)]
 rw[ct (r:=(Bv,0,())) (by rfl)]
 rfl
theorem Xt:eG ⟨[],0,[],[]⟩=some true:=by
 unfold eG kR;simp only[];rw[ct (r:=true) (by rfl)]
 refine ct ?_;show Option.map Sum.inr (ax _ _)=_;rw[ct (r:=true) (by rfl)]
 rfl
theorem abj:c7 ⟨0,false,yS,[]⟩=some true:=by
 unfold c7;simp only[etas,jH CC.sm,l5 CC,Qa];exact ct rfl
theorem M6:gg 0 Bv:=by
 obtain⟨q,h1,h2⟩:=abV (c:=⟨[⟨true,yS⟩]⟩) (fun m hm=>by rw[Q4.1 hm];exact CC) (by simp) 0
 rw[Vh]at h1;injection h1 with h1
 subst h1;exact h2 rfl
theorem M7:Cn Bv:=by
 refine⟨by decide,by decide,Xt,fun i p l hp hl=> ?_⟩
 have hi:i=0:=by
  have:=(Qw.1 hp).1;have:i<1:=this;omega
 subst hi;injection hp with hp
 injection hl with hl
 subst hp hl;exact⟨abj,by simp,by simp⟩
theorem aeB:VX Bv.bO:=by
 intro x hx t ht k hk hu;rw[Q4.1 hx]at ht;rw[Q4.1 ht,Od]at hu;have:=of_decide_eq_true hu;show k<1;omega
theorem U0:q9=some true:=by
 have hF:sS 1 1=some yS:=V1 1 (by omega) 1
 obtain⟨q,q',h1,h2,h3,_,h5⟩:=Jt M6 (by omega)
 have hq:=h5 M7 aeB
 obtain⟨a,ha,ha1⟩:∃r:Nat,q.1=r/\r<1024:=by
  rcases h3 with⟨_,_,_,h⟩|⟨h,_⟩
  ·exact h
  ·exact absurd hq h
 have ho:dq Bv=some []:=by
  rw[ae7 M6 (by omega) M7]
  congr 1
 obtain⟨b,c1,_,c3⟩:=Ec M6 (by omega)
 have hc:eF Bv=some true:=by rw[c1,c3.2 M7]
 have hd:jR Bv 1=some 0:=MN ho (QS _) fun o ho=>by cases ho
 have h0:bp .i64 0 (a:Int)=0:=by
  have:=kv 0 a (by omega) (by omega)
  rw[Nat.zero_and]at this;exact this
 have hS:ez Bv 1=some true:=by
  unfold ez;rw[h1,Qa,hq,hd,ha];simp only[decide_true,Qo,Ql,Qa,h0,Qk]
 have hW:fB Bv 1=some 0:=by
  unfold fB;rw[h1,Qa,hq,hd,ha];simp only[decide_true,Qo,Ql,Qa,h0,Qk]
 have hK:wv Bv Bv=some true:=by
  unfold wv eW fp;rw[ho,hc];simp only[Qa,Qk];rw[ct (r:= -1) (by rfl)]
  rfl
 have hH:rW Bv Bv=some true:=by
  unfold rW;rw[h1,hK,ho,Qa,Qa,hq];simp only[decide_true,Qo,Ql,Qa];refine ct ?_;show Option.map Sum.inr (ax _ _)=_;rw[ct (r:=true) (by rfl)]
  rfl
 have hE:qn Bv=some 29:=by
  unfold qn;exact congrArg some (by decide)
 unfold q9;simp only[etas];rw[hF,Qa,Vh,Qa];simp only[decide_true,Qk,hS,hE,hW,hH,Qa]
theorem waits(l:List Int):ra l=some true:=by
 refine Yd.eq_true ?_;unfold ra Dz;refine(af2 l).bind fun s hs=> ?_
 refine Yd.bind (p:=fun p:aS×cv=>XR p.1) ?_ fun p hp=> ?_
 ·refine(mH hs (by omega) (by omega) (by omega)).bind fun p1 ⟨a1,a2,a3,_⟩=> ?_
  obtain⟨n,hn⟩:∃n:Nat,p1.1=n:=Int.eq_ofNat_of_zero_le (by omega)
  have a3:=a3 (by omega)
  rw[hn]at a2 a3 ⊢;refine(abC a1 (n:=n) (by omega) (by omega)).bind fun p2 ⟨b1,b2,b3⟩=> ?_
  refine(ag9 _ b1 n (by omega) (by omega)).bind fun p3 ⟨c1,c2,c3⟩=> ?_
  refine(aeA c1 (n:=n) (by omega) (by omega)).bind fun p4 ⟨d1,d2,d3⟩=> ?_
  refine(agq b3 b2 p3.1 (l:=p4.1) (by omega) d3).bind fun r hr=> ?_
  exact .some hr
 ·obtain⟨⟨o,o1,o2,o3,o4⟩,q,q',i1,i2,i3⟩:=WT hp;have hD:=MN o1 o3 o4
  have hD16:ij o<16:=by
   have:=VH o4 o.length;rw[Q9]at this;exact this
  rw[i2,Qa];rcases i3 with⟨q0,q0',qe,a,ha,ha1⟩|⟨q0,q0'⟩
  ·have ha':q'.1=a:=by rw[<-qe];exact ha
   obtain⟨c,hc,hca,hcb⟩:=vW a (ij o) (by omega) (by omega)
   have hand:bp .i64 ((ij o:Nat):Int) (a:Int)=((ij o&&&a:Nat):Int):=kv _ _ (by omega) (by omega)
   have hand':bp .i64 (a:Int) ((ij o:Nat):Int)=((a&&&ij o:Nat):Int):=kv _ _ (by omega) (by omega)
   obtain⟨x,hx,hx1,hxz,hxn⟩:∃x:Nat,fB p.1 1=some (x:Int)/\x<=1024/\(ij o&&&a=0->x=0)/\(ij o&&&a≠0->x=c):=by
    unfold fB;rw[i1,Qa,hD,Qa,q0,ha,hand,hc];simp only[decide_true,Qo,Ql,Qa]
    by_cases hz:ij o&&&a=0
    ·rw[hz];exact⟨0,rfl,by omega,fun _=>rfl,fun h=>absurd rfl h⟩
    ·rw[Qh (show¬((ij o&&&a:Nat):Int)=0 by omega),Ql]
     exact⟨c,rfl,by omega,fun h=>absurd h hz,fun _=>rfl⟩
   have hset:ez p.1 1=some (decide ((x:Int)=0)):=by
    unfold ez;rw[i1,Qa,hD,Qa,q0,ha,hand];simp only[decide_true,Qo,Ql,Qa]
    by_cases hz:ij o&&&a=0
    ·rw[hz,hxz hz];rfl
    ·rw[Qh (show¬((ij o&&&a:Nat):Int)=0 by omega),Ql,Qa,hxn hz]
     congr 1;rw[decide_eq_decide]
     have key:(ij o&&&a=a)↔c=0:=by
      constructor
      ·intro e;refine Nat.eq_of_testBit_eq fun k=> ?_
       have:=congrArg (fun x=>x.testBit k) e
       simp only[Nat.testBit_and]at this;rw[hcb,Nat.zero_testBit];revert this;cases (ij o).testBit k<;>cases a.testBit k<;>simp
      ·intro e;refine Nat.eq_of_testBit_eq fun k=> ?_
       have:=hcb k;rw[e,Nat.zero_testBit]at this;rw[Nat.testBit_and];revert this;cases (ij o).testBit k<;>cases a.testBit k<;>simp
     constructor
     ·intro e;have:=key.1 (by omega)
      omega
     ·intro e;have:=key.2 (by omega)
      omega
   rw[hx,Qa];refine(O9 o2 o3 o4).bind fun r hr=> ?_
   rw[q0',o2,ha'];simp only[decide_true,Qo,Ql,Qa];obtain⟨c1,hc1,hc2,hc3⟩:=vW x a (by omega) (by omega)
   have hxD:bp .i64 (x:Int) ((ij o:Nat):Int)=((x&&&ij o:Nat):Int):=kv _ _ (by omega) (by omega)
   have e1:c1=0:=by
    refine Nat.eq_of_testBit_eq fun k=> ?_
    rw[hc3,Nat.zero_testBit]
    by_cases hz:ij o&&&a=0
    ·rw[hxz hz,Nat.zero_testBit];rfl
    ·rw[hxn hz,hcb];cases a.testBit k<;>simp
   have e2:x&&&ij o=0:=by
    refine Nat.eq_of_testBit_eq fun k=> ?_
    rw[Nat.testBit_and,Nat.zero_testBit]
    by_cases hz:ij o&&&a=0
    ·rw[hxz hz,Nat.zero_testBit];rfl
    ·rw[hxn hz,hcb];cases (ij o).testBit k<;>simp
   refine Tz o3 o4 (fin:=fun s=>Option.bind (bif (decide ((gn .i64 (x:Int) (a:Int))=(0:Int)))then some (decide ((bp .i64 (x:Int) s)=(0:Int)))else some false) fun b15=>Option.bind (bif b15 then Option.bind (bif (decide ((x:Int)=(0:Int)))then some true else some (!decide ((bp .i64 (a:Int) s)=(0:Int)))) fun b16=>some b16 else some false) fun b17=>Option.bind (bif b17 then Option.bind (bif (!decide (r.2.1=(0:Int)))then some true else some (decide ((x:Int)=(0:Int)))) fun b18=>some b18 else some false) fun b19=>Option.bind (bif b19 then Option.bind (ez p.1 (1:Int)) fun r20=>some (xor false (decide (r20=(decide ((x:Int)=(0:Int))))))else some false) fun b21=>Option.bind (bif b21 then Option.bind (q9) fun r22=>some r22 else some false) fun b23=>some b23) ?_ (fun s i m o' hd hw hadd hm hm4=> ?_) (fun s hd=>by simp only[hd,Ql])
   ·rw[hc1,e1,hxD,e2,hand',hset,U0]
    have b16:(bif (decide ((x:Int)=(0:Int)))then some true else some (!decide (((a&&&ij o:Nat):Int)=(0:Int))))=some true:=by
     by_cases hz:x=0
     ·rw[Qg (by omega),Qk]
     ·rw[Qh (by omega),Ql]
      have:a&&&ij o≠0:=fun h=>hz (hxz (by rw[Nat.and_comm];exact h))
      rw[Qh (by omega)]
      rfl
    have b18:(bif (!decide (r.2.1=(0:Int)))then some true else some (decide ((x:Int)=(0:Int))))=some true:=by
     by_cases hz:r.2.1=0
     ·have:=hxz (by rw[hr hz,Nat.zero_and])
      rw[this];cases (!decide (r.2.1=(0:Int)))<;>rfl
     ·rw[Qh hz];rfl
    rw[show(decide (((0:Nat):Int)=0))=true from rfl,b16,b18]
    simp only[Qk,Qa,decide_true,Bool.false_xor];exact .some rfl
   ·simp only[hd,Qk,hw,Qa,hadd,bc,hm,CX (n:=m) (by omega)]
    rw[Qs (show¬((m:Nat):Int)<0 by omega)]
    by_cases hs:o'.aK=1
    ·rw[Qg hs,Qk,Qr hs]
    ·rw[Qh hs,Ql,Qs hs]
  ·have hW:fB p.1 1=some 0:=by
    unfold fB;rw[i1,Qa,hD,Qa,Qh q0];rfl
   have hset:ez p.1 1=some false:=by
    unfold ez;rw[i1,Qa,Qh q0];rfl
   rw[hW,Qa];refine(O9 o2 o3 o4).bind fun r hr=> ?_
   rw[Qh q0',hset,U0];exact .some rfl
end
end Go.Proofs.YtgjpkadjihpddaaGreat
end
noncomputable section
namespace Go.TQ
open Go.RowKit
theorem aak{w:World}{M:Nat->Prop}{G:Gh}{a:Option Addr}{len cap:Nat}{zs:List Int}(hM:∀b,¬M b)
  (h:(a=none/\len=0/\cap=0/\zs=[])\/∃x,a=some x/\len<=cap/\cap<=maxLen/\zs.length=cap/\(∀i,i<zs.length->w.cell? (x.add i)=some (.int .i64 (zs.getD i 0)))/\∀n∈zs,(Lit.int .i64 n).wf=true):
  bm w M G (.sl ((zs.take len).map fun n=>[.int .i64 n])) (.slice a len cap):=by
 rcases h with⟨rfl,rfl,rfl,rfl⟩|⟨x,rfl,h1,h2,h3,h4,_⟩
 ·exact .slnil
 ·have hfl:∀l:List Int,(l.map fun n=>[PV.int .i64 n]).flatten=l.map fun n=> .int .i64 n:=by
   intro l
   induction l with
   |nil=>rfl
   |cons n l ih=>simp only[QD,List.flatten_cons,ih];rfl
  have hlen:((zs.take len).map fun n=>[PV.int .i64 n]).length=len:=by simp;omega
  have:=bm.sl (w:=w) (M:=M) (G:=G) ((zs.take len).map fun n=>[.int .i64 n]) x cap 1 ((zs.take len).map fun n=> .int .i64 n) (fun e he=>by obtain⟨n,_,rfl⟩:=QP.1 he;rfl) (by rw[hfl];simp)
   (fun i v hv=> ?_) (fun i y v hy hv=> ?_) (by rw[hlen];exact h1) h2
  ·rw[hlen]at this;exact this
  ·refine⟨?_,hM _⟩;rw[QT,Qb]at hv;obtain⟨n,hn,rfl⟩:=hv;rw[Qq67]at hn;split at hn
   ·have hi:i<zs.length:=(Qw.1 hn).1;rw[h4 i hi,List.getD_eq_getElem?_getD,hn];rfl
   ·cases hn
  ·rw[hfl]at hy;rw[QT]at hy hv;rw[Qb]at hy hv;obtain⟨n,hn,rfl⟩:=hy;obtain⟨n',hn',rfl⟩:=hv;rw[hn]at hn';injection hn' with e
   subst e;exact .int _ _
theorem Zd{P:Program}{f:FuncId}{args:List PV}{vs:List Value}{w:World}(hG:GI w)(h:M4 P f false [] args (.bool true) [])(hr:bg w (fun _=>False) dX args vs):
  Calls P f vs.toArray w fun e w'=>e= .returned (.bool true)/\Below w.heap.size w w':=by
 refine(h w (fun _=>False) (.nil hG) 0 0 [] vs (fun hq=>by cases hq) ?_).mono ?_
 ·exact⟨hr.1,fun i x v hx hv=>(hr.2 i x v hx hv).mono (dZ.of fun _ _=>fun hq=>by rcases hq with⟨hq,_⟩|hq;cases hq;exact hq) (Gh.le.refl _)⟩
 ·rintro e w' ⟨v,_,rfl,hv,_,hF⟩;refine⟨by rw[hv.ku],hF.os,hF.tape,hF.output,hF.size,fun k hk=>hF.block k hk (by simp)⟩
end Go.TQ
end
