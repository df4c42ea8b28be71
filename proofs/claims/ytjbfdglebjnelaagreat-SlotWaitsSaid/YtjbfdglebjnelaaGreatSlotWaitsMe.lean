/-
  Texts made small by a program (see NOTES). Conditions: those that each theorem names.
-/
import Derived.Test.YtjbfdglebjnelaaGreatSlotWaitsMd
set_option linter.unusedVariables false
set_option linter.unusedSimpArgs false
set_option linter.unusedSectionVars false
set_option maxHeartbeats 2000000
noncomputable section
namespace Go.Proofs.YtjbfdglebjnelaaGreat
open Go.TQ
section
theorem lexLt{a a' b b' B:Nat}(hb:b<B)(h:a<a'):a*B+b<a'*B+b':=by
 have h1:(a+1)*B<=a'*B:=Qq62 B h;rw[Qq72]at h1;omega
theorem uv{a a' b b' B:Nat}(h:a=a')(hb:b<b'):a*B+b<a'*B+b':=by rw[h];omega
theorem zU{a b A B:Nat}(ha:a<A)(hb:b<B):a*B+b<A*B:=by
 have h1:(a+1)*B<=A*B:=Qq62 B ha;rw[Qq72]at h1;omega
theorem cn.sm{b:af}(h:cn b):Sm b:=⟨by have:=h.1;omega,h.2.1,h.2.2.2⟩
theorem Oq:Sm bK:=⟨by decide,by decide,by decide⟩
theorem nK{b:af}(h:b=bK\/cn b):Sm b:=by
 rcases h with rfl|h
 ·exact Oq
 ·exact h.sm
theorem GP{b:af}(h:cn b):kV bK<kV b:=o4 Oq h.sm ((sb _ _).2 (.inl h.1))
 def t1(m:ab):Nat:=2*m.aa.ae.toNat+(if m.aa.Value=lR m then 1 else 0)
 def pq(m:ab):Nat:=kV m.ak*WB+kV m.au
 def r1(m:ab):Nat:=(pq m*WB+kV m.ar)*2002+t1 m
def K1:Nat:=(WB*WB)*WB*2002
 def r2(m:ab):Nat:=(((m.bg.toNat*1001+(1000 - m.aQ).toNat)*WB+kV m.ak)*WB+kV m.ar)*1001+m.aa.ae.toNat
def K2:Nat:=((1001*1001)*WB*WB)*1001
 def iV(m:ab):Nat:=if m.aJ=1 then r1 m else if m.aJ=2 then K1+r2 m else K1+K2
def ur(m:ab):Prop:=(m.ak=bK\/cn m.ak)/\(m.au=bK\/cn m.au)/\(m.ar=bK\/cn m.ar)/\(m.aa=bK\/cn m.aa)
theorem P0.ok{m:ab}(h:P0 m):ur m:=⟨.inl h.cP,.inl h.bC,.inl h.dq,.inl h.aG⟩
theorem P1.ok{m:ab}(h:P1 m):ur m:=⟨h.cP,h.bC.imp id (·.1),h.dq.imp id (·.1),.inr h.aG⟩
theorem P2.ok{m:ab}(h:P2 m):ur m:=⟨.inr h.cP.1,.inl h.bC,h.dq.imp id (·.1),.inr h.aG⟩
theorem L8{m:ab}(h:ur m):t1 m<2002:=by
 have:m.aa.ae<=1000:=by
  rcases h.2.2.2 with e|e
  ·rw[e];decide
  ·exact e.2.1
 unfold t1;split<;>omega
theorem VX{m:ab}(h:ur m):pq m<WB*WB:=zU (lV (nK h.1)) (lV (nK h.2.1))
theorem Mm{m:ab}(h:ur m):r1 m<K1:=zU (zU (VX h) (lV (nK h.2.2.1))) (L8 h)
theorem P2.bU{m:ab}(h:P2 m):m.bg<=1000:=by have:=h.range.2.2;have:=h.cP.1.2.1;omega
theorem R5{m:ab}(h:P2 m):r2 m<K2:=by
 have h1:=h.range;have h2:=h.bU;refine zU (zU (zU (zU (A:=1001) ?_ ?_) (lV h.cP.1.sm)) (lV (nK h.ok.2.2.1))) ?_
 ·omega
 ·omega
 ·have:=h.aG.2.1;omega
theorem sF{m:ab}(h:m.aJ=1):iV m=r1 m:=Qr h
theorem sE{m:ab}(h:m.aJ=2):iV m=K1+r2 m:=by unfold iV;rw[Qs (by omega),Qr h]
theorem NY{m:ab}(h:m.aJ=3):iV m=K1+K2:=by unfold iV;rw[Qs (by omega),Qs (by omega)]
theorem SU{m:ab}(h:aY m):iV m<=K1+K2:=by
 rcases h.body with h0|h1|h2|h3
 ·rw[sF h0.aE];have:=Mm h0.ok;omega
 ·rw[sF h1.aE];have:=Mm h1.ok;omega
 ·rw[sE h2.aE];have:=R5 h2;omega
 ·rw[NY h3.aE];exact QI _
theorem pV.WH{p q b p' q':af}(h:oe p q)(hb:b=bK\/cn b)(hj:pV p q b p' q'):(p'=p/\q'=q)\/kV p*WB+kV q<kV p'*WB+kV q':=by
 have hok:=hj.ok h hb;have hp:=nK h.1;have hq:Sm q:=nK (h.2.imp id (·.1))
 cases hj with
 |same=>exact .inl ⟨rfl,rfl⟩
 |first h1 h2=>
  subst h1 h2;rcases hb with e|e
  ·exact .inl ⟨e,rfl⟩
  ·exact .inr (lexLt (lV hq) (GP e))
 |up h1 hl hc=>exact .inr (lexLt (lV hq) (o4 hp (nK hb) hl))
 |xY h1 hl hc=>exact .inr (lexLt (lV hq) (o4 hp (nK hb) hl))
 |under h1 hl hc hq'=>
  rcases hq' with e|e
  ·subst e;rcases hb with e2|e2
   ·exact .inl ⟨rfl,e2⟩
   ·exact .inr (uv rfl (GP e2))
  ·exact .inr (uv rfl (o4 hq (nK hb) e))
theorem tN{m m':ab}(he:gF m m')(h1:m'.aJ=m.aJ)(h2:m'.aa=m.aa)(h3:m'.ak=m.ak)(h4:m'.au=m.au)(h5:m'.ar=m.ar)(h6:m'.aQ=m.aQ)(h7:m'.bg=m.bg):m'=m:=by
 obtain⟨e1,e2,e3,e4,e5,e6⟩:=he;cases m;cases m';simp only at*;subst e1 e2 e3 e4 e5 e6 h1 h2 h3 h4 h5 h6 h7;rfl
theorem IM{m m':ab}(he:gF m m')(h:xy m m'=true):m'=m:=by
 unfold xy at h;simp only[Qm,Qi,Hd]at h;obtain⟨⟨⟨⟨⟨⟨h1,h2⟩,h3⟩,h4⟩,h5⟩,h6⟩,h7⟩:=h;exact tN he h1.symm h2.symm h3.symm h4.symm h5.symm h6.symm h7.symm
theorem Me(m:ab):xy m m=true:=by
 unfold xy;simp only[decide_true,Hd.2 rfl,Bool.and_self]
theorem VW{m m':ab}(h:ur m)(hlt:pq m<pq m'):r1 m<r1 m':=lexLt (L8 h) (lexLt (lV (nK h.2.2.1)) hlt)
theorem Xx{m m':ab}(h:ur m)(hpq:pq m=pq m')(hlt:kV m.ar<kV m'.ar):r1 m<r1 m':=lexLt (L8 h) (uv hpq hlt)
theorem Xw{m m':ab}(hpq:pq m=pq m')(hc:m.ar=m'.ar)(hlt:t1 m<t1 m'):r1 m<r1 m':=uv (by rw[hpq,hc]) hlt
theorem E3{m:ab}(h1:P1 m):qm m m.ak m.au=m.aQ:=by
 unfold qm;split
 ·rename_i hc;rcases h1.low with e|⟨g1,g2,g3⟩
  ·exact absurd e hc.2
  ·rw[Ow g1 g3,Qs (by omega)]
 ·rfl
theorem Xl{m:ab}(h:aY m):cy m=m\/iV m<iV (cy m):=by
 have hid:m.aJ=3\/aI m.aa=true->cy m=m:=fun hc=>Qr hc
 rcases h.body with h0|h1|h2|h3
 ·exact .inl (hid (.inr (by rw[h0.aG];exact bO)))
 ·have hj:=(Cu h h1.gg).WH h1.gg (s6 h);have he:cy m={m with ak:=(cJ m.ak m.au (dh (dU m))).1,au:=(cJ m.ak m.au (dh (dU m))).2,aQ:=qm m (cJ m.ak m.au (dh (dU m))).1 (cJ m.ak m.au (dh (dU m))).2}:=Qs (by rw[h1.aE,h1.aG.nz];decide)
  rcases hj with⟨e1,e2⟩|hlt
  ·left;rw[he,e1,e2,E3 h1]
  ·right;rw[sF h1.aE,sF (by rw[he];exact h1.aE)]
   exact VW h1.ok (by rw[he];exact hlt)
 ·have hj:=(Cu h h2.gg).WH h2.gg (s6 h);have hk:=Lg h h2;have he:cy m={m with ak:=(cJ m.ak m.au (dh (dU m))).1,au:=(cJ m.ak m.au (dh (dU m))).2,aQ:=qm m (cJ m.ak m.au (dh (dU m))).1 (cJ m.ak m.au (dh (dU m))).2}:=Qs (by rw[h2.aE,h2.aG.nz];decide)
  have hlow:∀p q,qm m p q=m.aQ:=fun p q=>Qs (fun h=>by have:=h.1;rw[h2.aE]at this;cases this)
  rcases hj with⟨e1,e2⟩|hlt
  ·left;rw[he,e1,e2,hlow]
  ·right;rw[sE h2.aE,sE (by rw[he];exact h2.aE)]
   have e2:(cJ m.ak m.au (dh (dU m))).2=m.au:=by
    have h3:=hk.2.2;rw[he]at h3;exact h3.trans h2.bC.symm
   have hp:kV m.ak<kV (cy m).ak:=by
    rw[he];simp only;rw[e2]at hlt;refine Nat.lt_of_not_le fun hle=> ?_
    have:=Qq62 WB hle;omega
   have e3:(cy m).bg=m.bg/\(cy m).aQ=m.aQ/\(cy m).ar=m.ar/\(cy m).aa=m.aa:=by rw[he];exact⟨rfl,hlow _ _,rfl,rfl⟩
   have:r2 m<r2 (cy m):=by
    unfold r2;rw[e3.1,e3.2.1,e3.2.2.1,e3.2.2.2];exact lexLt (by have:=h2.aG.2.1;omega) (lexLt (lV (nK h2.ok.2.2.1)) (uv rfl hp))
   omega
 ·exact .inl (hid (.inl h3.aE))
theorem Xk{m:ab}(h:aY m):ga m=m\/iV m<iV (ga m):=by
 rcases h.body with h0|h1|h2|h3
 ·exact .inl (oU (.inr (.inl (by rw[h0.aG];exact bO))))
 ·obtain⟨g1,g2⟩:=Gv h h1;rcases g2 with e|⟨e1,e2,e3,_⟩
  ·exact .inl e
  ·right;rw[sF h1.aE,sF g1.aE];exact Xx h1.ok (by unfold pq;rw[e1,e2]) (o4 (nK h1.ok.2.2.1) (nK g1.ok.2.2.1) e3)
 ·exact .inl (oU (.inl (by rw[h2.aE];decide)))
 ·exact .inl (oU (.inl (by rw[h3.aE];decide)))
theorem Fh(a b:Int):(bn a b=a/\b<=a)\/(bn a b=b/\a<b):=by unfold bn;split<;>omega
theorem kX{a b:af}(h1:a.ae=b.ae)(h2:a.Value=b.Value):a=b:=by cases a;cases b;simp only at h1 h2;rw[h1,h2]
theorem Xo{m:ab}(h:aY m):fE m=m\/iV m<iV (fE m):=by
 have hC:m.aJ=1->ur m->fE m=m\/iV m<iV (fE m):=by
  intro hp hok
  by_cases hk:(fA m).2.2.2.1=true
  ·right;have e:fE m=Eu m (fA m).1 (fA m).2.1 (fA m).2.2.1:=by unfold fE;rw[Qr hp,Qr hk]
   rw[sF hp,sE (by rw[e];rfl)]
   have:=Mm hok;omega
  ·left;unfold fE;rw[Qr hp,Qs hk]
 rcases h.body with h0|h1|h2|h3
 ·exact hC h0.aE h0.ok
 ·exact hC h1.aE h1.ok
 ·have e:fE m=tz m (dy m).1 (dy m).2:=by unfold fE;rw[Qs (by rw[h2.aE];decide),Qr h2.aE]
  obtain⟨g1,g2,g3,g4⟩:=JJ h h2;have h2':=MU h2 g1 g2 g3;rw[e]
  have hr:m.bg.toNat<=1000/\(1000 - m.aQ).toNat<1001/\m.aa.ae.toNat<1001:=by
   have:=h2.bU;have:=h2.range;have:=h2.aG.2.1;omega
  have hcB:m.ar=(tz m (dy m).1 (dy m).2).ar\/kV m.ar<kV (tz m (dy m).1 (dy m).2).ar:=by
   rcases h2.dq with e|⟨hf,hv⟩
   ·right;rw[e]
    exact GP (h2'.dq.resolve_left (fun e=>by
     have h1:=h2'.range;have h3:(tz m (dy m).1 (dy m).2).ar.ae=bn m.ar.ae (dy m).2:=rfl;rw[e]at h3;have h4:=Fh m.ar.ae (dy m).2;have h5:(bK:af).ae=0:=rfl
     omega)).1
   ·rcases Fh m.ar.ae (dy m).2 with⟨e1,_⟩|⟨e1,e2⟩
    ·exact .inl (kX e1.symm hv)
    ·right;refine o4 hf.sm (nK h2'.ok.2.2.1) ((sb _ _).2 (.inl ?_));show m.ar.ae<bn m.ar.ae (dy m).2;omega
  have hpB:m.ak=(tz m (dy m).1 (dy m).2).ak\/kV m.ak<kV (tz m (dy m).1 (dy m).2).ak:=by
   rcases Fh m.ak.ae (dy m).2 with⟨e1,_⟩|⟨e1,e2⟩
   ·exact .inl (kX e1.symm rfl)
   ·right;refine o4 h2.cP.1.sm h2'.cP.1.sm ((sb _ _).2 (.inl ?_));show m.ak.ae<bn m.ak.ae (dy m).2;omega
  have hbB:m.aa=(tz m (dy m).1 (dy m).2).aa\/m.aa.ae<(tz m (dy m).1 (dy m).2).aa.ae:=by
   rcases Fh m.aa.ae (dy m).2 with⟨e1,_⟩|⟨e1,e2⟩
   ·exact .inl (kX e1.symm rfl)
   ·right;show m.aa.ae<bn m.aa.ae (dy m).2;omega
  rw[sE h2.aE,sE h2'.aE];have hPs:=lV h2.cP.1.sm;have hCs:=lV (nK h2.ok.2.2.1);have hHi:(tz m (dy m).1 (dy m).2).bg=(dy m).2:=rfl;have hLo:(tz m (dy m).1 (dy m).2).aQ=(dy m).1:=rfl;have fin:r2 m<r2 (tz m (dy m).1 (dy m).2)->K1+r2 m<K1+r2 (tz m (dy m).1 (dy m).2):=fun h=>by omega
  have hrng:=h2.range;rcases g4 with⟨e1,e2⟩|e1
  ·rcases Int.lt_or_eq_of_le e2 with e3|e3
   ·
    refine .inr (fin (lexLt hr.2.2 (lexLt hCs (lexLt hPs (uv ?_ ?_)))))
    ·rw[hHi,e1]
    ·rw[hLo];omega
   ·rcases hpB with hp|hp
    ·rcases hcB with hc|hc
     ·rcases hbB with hb|hb
      ·left;exact tN ⟨rfl,rfl,rfl,rfl,rfl,rfl⟩ rfl hb.symm hp.symm rfl hc.symm e3 e1
      ·refine .inr (fin (uv ?_ (by have:=h2.aG.1;omega)))
       rw[hHi,hLo,<-hp,<-hc,e1,e3]
     ·refine .inr (fin (lexLt hr.2.2 (uv ?_ hc)));rw[hHi,hLo,<-hp,e1,e3]
    ·refine .inr (fin (lexLt hr.2.2 (lexLt hCs (uv ?_ hp))));rw[hHi,hLo,e1,e3]
  ·refine .inr (fin (lexLt hr.2.2 (lexLt hCs (lexLt hPs (lexLt hr.2.1 ?_)))));rw[hHi];omega
 ·left;unfold fE;rw[Qs (by rw[h3.aE];decide),Qs (by rw[h3.aE];decide)]
theorem Xn{m:ab}(h:aY m):iX m=m\/iV m<iV (iX m):=by
 by_cases hc:m.aJ=2/\(kU m).2.2.1=true
 ·right;have e:iX m=CF m (kU m).1 (kU m).2.1:=Qr hc;rw[sE hc.1,NY (by rw[e];rfl)]
  rcases h.body with h0|h1|h2|h3
  ·have:=h0.aE;have:=hc.1;omega
  ·have:=h1.aE;have:=hc.1;omega
  ·have:=R5 h2;omega
  ·have:=h3.aE;have:=hc.1;omega
 ·exact .inl (Qs hc)
theorem Xm{m:ab}(h:aY m):eE m=m\/iV m<iV (eE m):=by
 have hid:m.aJ=3\/hU m m.aa.ae=false->eE m=m:=fun hc=>Qr hc
 cases ha:hU m m.aa.ae with
 |false=>exact .inl (hid (.inr ha))
 |true=>
  have hC:m.aJ=1->ur m->0<=m.aa.ae/\m.aa.ae<=1000->eE m=m\/iV m<iV (eE m):=by
   intro hp hok hb;obtain⟨c1,c2,c3,c4,_⟩:=BY h hb;have e:eE m={m with aQ:=if lR m=m.aa.Value then m.aQ else 0,aa:=⟨bn m.aa.ae (dp (fj m) 1000),lR m⟩}:=Qs (by rw[hp,ha];decide)
   have hnv:lR (eE m)=lR m:=by
    unfold lR dJ;rw[e];simp only[hp,Qt,not_true_eq_false,Qu,ne_eq]
   by_cases hs:bn m.aa.ae (dp (fj m) 1000)=m.aa.ae/\lR m=m.aa.Value
   ·left;rw[e];refine tN ⟨rfl,rfl,rfl,rfl,rfl,rfl⟩ rfl (kX hs.1 hs.2) rfl rfl rfl ?_ rfl;exact Qr hs.2
   ·right;rw[sF hp,sF (by rw[e];exact hp)]
    refine Xw (by rw[e];rfl) (by rw[e]) ?_
    unfold t1;rw[hnv];have hb':(eE m).aa=⟨bn m.aa.ae (dp (fj m) 1000),lR m⟩:=by rw[e]
    rw[hb',Qr rfl];simp only
    by_cases hv:lR m=m.aa.Value
    ·rw[Qr hv.symm];have:bn m.aa.ae (dp (fj m) 1000)≠m.aa.ae:=fun e=>hs ⟨e,hv⟩
     omega
    ·rw[Qs (fun e=>hv e.symm)]
     omega
  rcases h.body with h0|h1|h2|h3
  ·exact hC h0.aE h0.ok (by rw[h0.aG];decide)
  ·exact hC h1.aE h1.ok ⟨by have:=h1.aG.1;omega,h1.aG.2.1⟩
  ·obtain⟨c1,c2,c3,c4,_⟩:=BY h ⟨by have:=h2.aG.1;omega,h2.aG.2.1⟩
   have hnv:lR m=m.aa.Value:=Qs (by rw[h2.aE];decide)
   have e:eE m={m with aa:=⟨bn m.aa.ae (dp (fj m) 1000),m.aa.Value⟩}:=by
    unfold eE;rw[Qs (by rw[h2.aE,ha];decide),hnv,Qr rfl]
   rw[e]
   by_cases hs:bn m.aa.ae (dp (fj m) 1000)=m.aa.ae
   ·left;exact tN ⟨rfl,rfl,rfl,rfl,rfl,rfl⟩ rfl (kX hs rfl) rfl rfl rfl rfl rfl
   ·right;rw[sE h2.aE,sE (show({m with aa:=⟨bn m.aa.ae (dp (fj m) 1000),m.aa.Value⟩}:ab).aJ=2 from h2.aE)]
    have:r2 m<r2 {m with aa:=⟨bn m.aa.ae (dp (fj m) 1000),m.aa.Value⟩}:=by
     refine uv rfl ?_;have:=h2.aG.1;show m.aa.ae.toNat<(bn m.aa.ae (dp (fj m) 1000)).toNat;omega
    omega
  ·exact .inl (hid (.inl h3.aE))
end
section
def Wv(p:ai->Bool):Prop:=∀e s,p {e with aN:=s}=p e
structure Alike (l l':List ai):Prop where
 view:∀az,az<10->∀t,fu az t l=fu az t l'
 K7:∀p,Wv p->dQ p (bM l)=dQ p (bM l')
 Xg:eW l=eW l'
 val:gy l=gy l'
 gG:∀v,cm l v=cm l' v
section
variable {l l' : List ai} (h : Alike l l')
 include h
theorem Alike.acc{az:Nat}(hn:az<10)(t:an):jE az t l=jE az t l':=by
 funext b
 unfold jE;rw[h.view az hn t,h.K7 _ (fun e s=>rfl),h.K7 _ (fun e s=>rfl)]
theorem Alike.dq{az:Nat}(hn:az<10)(t:an):iW az t l=iW az t l':=by
 funext b
 unfold iW;rw[h.view az hn t,h.K7 _ (fun e s=>rfl)]
theorem Alike.ready{az:Nat}(hn:az<10)(t:an):pr az t l=pr az t l':=by
 funext v lo hi
 unfold pr;rw[h.view az hn t,h.K7 _ (fun e s=>rfl),h.K7 _ (fun e s=>rfl)]
theorem Alike.sure{az:Nat}(hn:az<10)(t:an):rE az t l=rE az t l':=by
 funext v lo hi
 unfold rE;rw[h.view az hn t,h.K7 _ (fun e s=>rfl)]
theorem Alike.next{az:Nat}(hn:az<10)(t:an)(p q:af)(v:ByteArray):iK az t l p q v=iK az t l' p q v:=by
 unfold iK;rw[h.Xg,h.acc hn t]
theorem Alike.bU{az:Nat}(hn:az<10)(t:an)(a:af):vY az t l a=vY az t l' a:=by
 unfold vY;rw[h.Xg,h.dq hn t]
theorem Alike.B3(x:ByteArray->Int->Int->Bool)(p q:af):fT x l p q=fT x l' p q:=by
 unfold fT;rw[h.val];congr 1
 funext s v
 rw[h.gG]
theorem Alike.first(x:ByteArray->Int->Int->Bool)(p q:af)(s:Bool×af):ph x l p q s=ph x l' p q s:=by
 unfold ph;rw[h.gG]
end
theorem F4{l l':List ai}(hl:ob l)(hn:l.length<=1000)(hl':ob l')(hn':l'.length<=1000)
  (h1:∀x,(∃e∈l,x∈said e/\aI x=false)↔∃e∈l',x∈said e/\aI x=false) (h2:∀x,(∃e∈l,bm e=true/\x=e.aa.Value)↔∃e∈l',bm e=true/\x=e.aa.Value)
  (h3:∀v x,x∈ends v l↔x∈ends v l'):eW l=eW l'/\gy l=gy l'/\∀v,cm l v=cm l' v:=by
 obtain⟨_,a2,_,a4⟩:=oq hl.bb hn;obtain⟨_,b2,_,b4⟩:=oq hl'.bb hn';obtain⟨_,c2,_,c4⟩:=sy hl.bb hn;obtain⟨_,d2,_,d4⟩:=sy hl'.bb hn';refine⟨xv.flip.unique a2 b2 fun x=> ?_,um.unique c2 d2 fun x=> ?_,fun v=> ?_⟩
 ·rw[a4,b4];exact h1 x
 ·rw[c4,d4];exact h2 x
 ·obtain⟨_,e2,_,e4⟩:=mq hl.bb hn v;obtain⟨_,f2,_,f4⟩:=mq hl'.bb hn' v;refine Cj.unique (e2.imp fun h=>Qg h) (f2.imp fun h=>Qg h) fun x=> ?_
  rw[e4,f4];exact h3 v x
theorem Nl{l l':List ai}(hl:ob l)(hn:l.length<=1000)(ha:uB l)(h:l.Perm l'):Alike l l':=by
 have hl':ob l':=⟨by rw[<-h.length_eq];exact hl.len,fun e he=>hl.bb e (h.mem_iff.2 he)⟩
 have hm:∀(P:ai->Prop),(∃e∈l,P e)↔∃e∈l',P e:=fun P=>⟨fun⟨e,he,hp⟩=>⟨e,h.mem_iff.1 he,hp⟩,fun⟨e,he,hp⟩=>⟨e,h.mem_iff.2 he,hp⟩⟩
 obtain⟨a,b,c⟩:=F4 hl hn hl' (by rw[<-h.length_eq];exact hn) (fun x=>hm _) (fun x=>hm _) (fun v x=>by rw[tM,tM];exact hm _)
 exact⟨fun az hn t=>L0 hn t ha h,fun p _=>NC (KH h) p,a,b,c⟩
theorem Pf{l:List ai}(hl:ob l)(hn:l.length<=1000)(f:ai->ai)(hf:∀e∈l,f e={e with aN:=(f e).aN}/\bm (f e)=bm e):Alike l (l.map f):=by
 have e1:∀e∈l,(f e).aq=e.aq/\(f e).ao=e.ao/\(f e).aa=e.aa/\(f e).bW=e.bW/\(f e).ak=e.ak/\(f e).au=e.au/\(f e).aQ=e.aQ/\(f e).bg=e.bg:=fun e he=>by
  have:=(hf e he).1;rw[this];exact⟨rfl,rfl,rfl,rfl,rfl,rfl,rfl,rfl⟩
 have hl':ob (l.map f):=⟨by rw[QC];exact hl.len,fun e he=>by
  obtain⟨x,hx,rfl⟩:=QP.1 he
  rw[(e1 x hx).2.1];exact hl.bb x hx⟩
 have hm:∀(P:ai->Prop),(∀e∈l,P e↔P (f e))->((∃e∈l,P e)↔∃e∈l.map f,P e):=fun P hP=>⟨fun⟨e,he,hp⟩=>⟨f e,QP.2 ⟨e,he,rfl⟩,(hP e he).1 hp⟩,fun⟨e,he,hp⟩=>by
  obtain⟨x,hx,rfl⟩:=QP.1 he
  exact⟨x,hx,(hP x hx).2 hp⟩⟩
 have hsaid:∀e∈l,said (f e)=said e:=fun e he=>by
  obtain⟨g1,g2,g3,g4,g5,g6,g7,g8⟩:=e1 e he;unfold said at_
  rw[(hf e he).2,g4,g3,g5,g6]
 have hbnd:∀v,∀e∈l,jN v (f e)=jN v e:=fun v e he=>by
  obtain⟨g1,g2,g3,g4,g5,g6,g7,g8⟩:=e1 e he;unfold jN;simp only[(hf e he).2,g4,g3,g7,g8]
 obtain⟨a,b,c⟩:=F4 hl hn hl' (by rw[QC];exact hn) (fun x=>hm _ fun e he=>by rw[hsaid e he]) (fun x=>hm _ fun e he=>by rw[(hf e he).2,(e1 e he).2.2.1])
  (fun v x=>by rw[tM,tM];exact hm _ fun e he=>by rw[hbnd v e he,(e1 e he).2.2.2.2.2.2.1,(e1 e he).2.2.2.2.2.2.2])
 refine⟨fun az hn t=> ?_,fun p hp=> ?_,a,b,c⟩
 ·unfold fu;generalize (List.replicate 10 gi).set az ⟨true,t⟩=ms
  suffices key:∀(k:List ai) (ms:List aO),(∀e∈k,e∈l)->k.foldl dg ms=(k.map f).foldl dg ms from key l ms fun e he=>he
  intro k
  induction k with
  |nil=>intro ms _;rfl
  |cons x k ih=>
   intro ms hk;have hx:=hk x Qx
   have:dg ms (f x)=dg ms x:=by
    unfold dg;rw[(hf x hx).2,(e1 x hx).1,(e1 x hx).2.1]
   rw[QD,QU,QU,this];exact ih _ fun e he=>hk e (Qy _ he)
 ·unfold bM
  suffices key:∀(k:List ai),(∀e∈k,e∈l)->dQ p (k.filter bm)=dQ p ((k.map f).filter bm)from key l fun e he=>he
  intro k
  induction k with
  |nil=>intro _;rfl
  |cons x k ih=>
   intro hk;have hx:=hk x Qx
   have hpx:p (f x)=p x:=by
    rw[(hf x hx).1];exact hp x _
   rw[QD,List.filter_cons,List.filter_cons,(hf x hx).2];split
   ·rw[dQ,dQ,hpx,(e1 x hx).1,ih fun e he=>hk e (Qy _ he)]
   ·exact ih fun e he=>hk e (Qy _ he)
structure gb (m:ab):Prop where
 zero:aI m.aa=true->m.aN=0
 pos:aI m.aa=false->1<=m.aN
def Bt(m:ab):ai:=⟨m.aq,m.bf,m.aN,m.ao,m.aJ,m.aa,m.ak,m.au,m.aQ,if m.aJ=1 then eH m else m.bg⟩
theorem uG(m:ab):cY m=some (Bt m):=by
 unfold cY Bt eH;simp only[bq,etas,bX,dZ,Qa]
 by_cases h1:m.aJ=1
 ·rw[Qg h1,Qr h1];cases aI m.ar<;>cases bI m.ar m.aa<;>rfl
 ·rw[Qh h1,Qs h1];rfl
theorem yH{m:ab}(h:aY m):Bt m=fO m:=by
 unfold Bt fO;rcases h.body with h0|h1|h2|h3
 ·rw[Qr h0.aE,Qr h0.aE]
 ·rw[Qr h1.aE,Qr h1.aE]
 ·rw[Qs (by rw[h2.aE];decide),Qs (by rw[h2.aE];decide),Qr h2.aE,h2.bC]
 ·rw[Qs (by rw[h3.aE];decide),Qs (by rw[h3.aE];decide),Qs (by rw[h3.aE];decide),h3.bC,h3.cP]
theorem Ll{m:ab}(hs:gb m)(hz:aI m.aa=false):gX m=fO m:=by
 unfold gX
 have:bn (fO m).aN 1=(fO m).aN:=by
  have:=hs.pos hz;rw[JL];unfold bn;split<;>omega
 rw[this]
def pL(m:ab):List ai:=if aI m.aa=true then m.aB else m.aB++[Bt m]
theorem O3{l:List ai}(hl:l.length<=1000):cW l=some l:=by
 unfold cW;have h1:bL 176 (List.length ([]:List ai)+List.length l)=true:=cd (by simp;omega)
 rw[h1]
 cases l with
 |nil=>simp
 |cons x l=>rfl
theorem Bq{m:ab}(h:m.aB.length<=100):cu ⟨m⟩=some (pL m,⟨m⟩):=by
 unfold cu pL;simp only[ab.eta,etas,ai.eta,av.eta,bX,uG,Qa,O3 (show m.aB.length<=1000 by omega)]
 cases aI m.aa with
 |true=>rfl
 |false=>
  simp only[Ql,Qq,Qu];rw[cd (by simp;omega)]
  rfl
theorem aY.apart{m:ab}(h:aY m):uB (aS m):=by
 have hs:∀a∈m.aB,∀b∈m.aB,a.aq=b.aq->a=b:=by
  have:=h.kC;revert this;generalize m.aB=l;intro hp
  induction l with
  |nil=>intro a ha;cases ha
  |cons x l ih=>
   rw[Q4]at hp;intro a ha b hb e;rcases QA.1 ha with ha'|ha'<;>rcases QA.1 hb with hb'|hb'
   ·rw[ha',hb']
   ·have:=hp.1 b hb';rw[ha']at e;omega
   ·have:=hp.1 a ha';rw[hb']at e;omega
   ·exact ih hp.2 a ha' b hb' e
 intro a ha b hb e;rcases ug ha with ha|⟨_,rfl⟩<;>rcases ug hb with hb|⟨_,rfl⟩
 ·exact hs a ha b hb e
 ·exact absurd (e.trans (sf m)) (h.hv a ha).2.2.2
 ·exact absurd (e.symm.trans (sf m)) (h.hv b hb).2.2.2
 ·rfl
theorem Hr{m:ab}(h:aY m)(hs:gb m):(aS m).Perm (pL m):=by
 unfold aS pL;split
 ·exact .refl _
 ·rename_i hz;rw[yH h,<-Ll hs (by simpa using hz)]
  exact xL _ _
theorem jF{m:ab}(h:aY m)(hs:gb m):Alike (aS m) (pL m):=Nl h.ev.n3.1 h.ev.n3.2 h.apart (Hr h hs)
theorem nM{m:ab}(h:aY m)(hs:gb m):ob (pL m)/\(pL m).length<=1000:=by
 have hp:=Hr h hs;have:=h.ev.n3;exact⟨⟨by rw[<-hp.length_eq];exact this.1.len,fun e he=>this.1.bb e (hp.mem_iff.2 he)⟩,by rw[<-hp.length_eq];exact this.2⟩
section
variable {m : ab} (h : aY m) (hs : gb m)
 include h hs
theorem UP(p q:af)(v:ByteArray):ll m.aq m.ao (pL m) p q v=some (iK m.aq.toNat m.ao (aS m) p q v):=by
 have:=Te h.ev.az.2 h.ev.bb (nM h hs).1 (nM h hs).2 p q v
 rwa [h.ev.az.1,<-(jF h hs).next h.ev.az.2]at this
theorem UR(a:af):jj m.aq m.ao (pL m) a=some (vY m.aq.toNat m.ao (aS m) a):=by
 have:=Th h.ev.az.2 h.ev.bb (nM h hs).1 (nM h hs).2 a
 rwa [h.ev.az.1,<-(jF h hs).bU h.ev.az.2]at this
theorem Tj:nG m.aq m.ao (pL m) m.ak m.au=some (fA m):=by
 have hl:=nM h hs;have:=VC (IV h.ev.az.2 h.ev.bb hl.1) hl.1 hl.2 (look_eq h.ev.az.2 h.ev.bb hl.1) m.ak m.au;rw[h.ev.az.1,<-(jF h hs).ready h.ev.az.2,<-(jF h hs).B3,<-(jF h hs).first]at this
 exact this
theorem V0:mI m.aq m.ao (pL m) m.aa.Value m.aQ m.bg=some ((dy m).1,(dy m).2,()):=by
 have hl:=nM h hs;have:=Uy (IV h.ev.az.2 h.ev.bb hl.1) hl.1 hl.2 (look_eq h.ev.az.2 h.ev.bb hl.1) m.aa.Value m.aQ m.bg;rw[h.ev.az.1,<-(jF h hs).ready h.ev.az.2,<-(jF h hs).gG]at this;exact this
theorem VZ:nH m.aq m.ao (pL m) m.aa.Value=some (kU m):=by
 have hl:=nM h hs;have:=VD (SK h.ev.az.2 h.ev.bb hl.1) hl.1 hl.2 (look_eq h.ev.az.2 h.ev.bb hl.1) m.aa.Value;rw[h.ev.az.1,<-(jF h hs).sure h.ev.az.2,<-(jF h hs).gG]at this;exact this
end
theorem Hk(v:ByteArray)(n:Int)(p q:af):lI v n p q=some (kS v n p q):=by
 unfold lI kS;generalize bn n 1=k
 have hst:∀(i:Nat) (x:af) (k:Int),i<2->[p,q][i]?=some x->
   (fun(v1:Int×Int×Unit)=>
    bif (decide (v1.2.1<((List.length [p,q]:Nat):Int)))then
    bu (fun(v2:Int×Unit)=>some (Sum.inl (v2.1,(aA .i64 v1.2.1 (1:Int)),()))) fun j3=>
    Option.bind (idx [p,q] v1.2.1) fun x4=>
    Option.bind (fg x4) fun r5=>
    Option.bind (bif (!r5)then some true else Option.bind (dm x4 (af.mk v1.1 v)) fun r6=>some (!r6)) fun b7=>
    bif b7 then j3 (v1.1,())
    else Option.bind (dm x4 (af.mk x4.ae v)) fun r8=>
     bif r8 then j3 ((aA .i64 x4.ae (1:Int)),())else j3 (x4.ae,())
    else(Option.map Sum.inr (some v1.1):Option ((Int×Int×Unit)⊕Int))) (k,(i:Int),())=some (Sum.inl (uo v k x,((i+1:Nat):Int),())):=by
  intro i x k hi hx;have hd:decide ((i:Int)<((List.length [p,q]:Nat):Int))=true:=Qg (by simp;omega)
  have hw:aA .i64 (i:Int) 1=((i+1:Nat):Int):=cO (by omega) (by omega)
  have hx':idx [p,q] (i:Int)=some x:=by rw[bQ];exact hx
  simp only[hd,hw,hx',Qk,bq,Qa,u0,oC];unfold uo
  cases hv:cF x with
  |false=>simp
  |true=>
   have hc:aA .i64 x.ae 1=x.ae+1:=by
    have:1<=x.ae/\x.ae<=1000000:=by
     simp only[cF,Qm,Qn,Qi]at hv;omega
    exact cO (by omega) (by omega)
   cases h1:eJ x ⟨k,v⟩with
   |false=>simp
   |true=>cases h2:eJ x ⟨x.ae,v⟩<;>simp[hc]
 refine(bD (hst 0 p k (by omega) rfl)).trans ((bD (hst 1 q _ (by omega) rfl)).trans (bs ?_))
 rfl
theorem P4(b:af):(⟨dp b.ae 1000,b.Value⟩:af)=dh b:=by
 unfold dp dh;split<;>rfl
section
variable {m : ab} (h : aY m) (hs : gb m)
 include h
theorem Mu(hz:aI (dU m)=true):cy m=m:=by
 have hid:m.aJ=3\/aI m.aa=true->cy m=m:=fun hc=>Qr hc
 have hj:cJ m.ak m.au (dh (dU m))=(m.ak,m.au):=by
  have:dh (dU m)=bK:=by rw[rP.1 hz];decide
  rw[this];exact Qr bO
 have he:¬(m.aJ=3\/aI m.aa=true)->qm m m.ak m.au=m.aQ->cy m=m:=by
  intro hc hl;unfold cy;rw[Qs hc,hj];simp only;rw[hl]
 rcases h.body with h0|h1|h2|h3
 ·exact hid (.inr (by rw[h0.aG];exact bO))
 ·exact he (by rw[h1.aE,h1.aG.nz];decide) (E3 h1)
 ·exact he (by rw[h2.aE,h2.aG.nz];decide) (Qs (fun h=>by have:=h.1;rw[h2.aE]at this;cases this))
 ·exact hid (.inl h3.aE)
 include hs
theorem Mt:iN ⟨m⟩=some ((),⟨cy m⟩):=by
 have hl:m.aB.length<=100:=by have:=h.len;omega
 unfold iN;simp only[ab.eta,etas,av.eta,bX,Bq hl,UP h hs,SZ,Hk,uG,Qa,bq,P4]
 by_cases h3:m.aJ=3\/aI m.aa=true
 ·have e:cy m=m:=Qr h3;rw[e];rcases h3 with h3|h3
  ·rw[Qg h3];cases aI m.aa<;>rfl
  ·rw[h3];rfl
 ·have hz:aI m.aa=false:=by
   cases hz:aI m.aa with
   |true=>exact absurd (.inr hz) h3
   |false=>rfl
  have h3':¬m.aJ=3:=fun e=>h3 (.inl e)
  rw[hz,Qh h3'];simp only[Ql,Qa]
  have hmain:∀v:ByteArray,v=Dg m->(bif aI (iK m.aq.toNat m.ao (aS m) m.ak m.au v)then some ((),(⟨m⟩:av))else
    Option.bind (bif decide (m.aJ=1)then some (!decide (m.aQ=0))else some false) fun b9=>
    bif b9 then
     bif decide ((Bt ⟨m.aq,m.bf,m.aN,m.ao,m.aJ,m.aa,(cJ m.ak m.au (dh (iK m.aq.toNat m.ao (aS m) m.ak m.au v))).1,(cJ m.ak m.au (dh (iK m.aq.toNat m.ao (aS m) m.ak m.au v))).2,m.ar,kS m.aa.Value m.aQ (cJ m.ak m.au (dh (iK m.aq.toNat m.ao (aS m) m.ak m.au v))).1 (cJ m.ak m.au (dh (iK m.aq.toNat m.ao (aS m) m.ak m.au v))).2,m.bg,m.bh,m.aB⟩).bg<kS m.aa.Value m.aQ (cJ m.ak m.au (dh (iK m.aq.toNat m.ao (aS m) m.ak m.au v))).1 (cJ m.ak m.au (dh (iK m.aq.toNat m.ao (aS m) m.ak m.au v))).2)then
      some ((),(⟨⟨m.aq,m.bf,m.aN,m.ao,m.aJ,m.aa,(cJ m.ak m.au (dh (iK m.aq.toNat m.ao (aS m) m.ak m.au v))).1,(cJ m.ak m.au (dh (iK m.aq.toNat m.ao (aS m) m.ak m.au v))).2,m.ar,0,m.bg,m.bh,m.aB⟩⟩:av))
     else some ((),(⟨⟨m.aq,m.bf,m.aN,m.ao,m.aJ,m.aa,(cJ m.ak m.au (dh (iK m.aq.toNat m.ao (aS m) m.ak m.au v))).1,(cJ m.ak m.au (dh (iK m.aq.toNat m.ao (aS m) m.ak m.au v))).2,m.ar,kS m.aa.Value m.aQ (cJ m.ak m.au (dh (iK m.aq.toNat m.ao (aS m) m.ak m.au v))).1 (cJ m.ak m.au (dh (iK m.aq.toNat m.ao (aS m) m.ak m.au v))).2,m.bg,m.bh,m.aB⟩⟩:av))
    else some ((),(⟨⟨m.aq,m.bf,m.aN,m.ao,m.aJ,m.aa,(cJ m.ak m.au (dh (iK m.aq.toNat m.ao (aS m) m.ak m.au v))).1,(cJ m.ak m.au (dh (iK m.aq.toNat m.ao (aS m) m.ak m.au v))).2,m.ar,m.aQ,m.bg,m.bh,m.aB⟩⟩:av)))=some ((),(⟨cy m⟩:av)):=by
   intro v hv;subst hv;rw[show iK m.aq.toNat m.ao (aS m) m.ak m.au (Dg m)=dU m from rfl]
   cases hzn:aI (dU m)with
   |true=>rw[Mu h hzn];rfl
   |false=>
    simp only[Ql];have e:cy m={m with ak:=(cJ m.ak m.au (dh (dU m))).1,au:=(cJ m.ak m.au (dh (dU m))).2,aQ:=qm m (cJ m.ak m.au (dh (dU m))).1 (cJ m.ak m.au (dh (dU m))).2}:=Qs h3
    rw[e];unfold qm
    by_cases hc:m.aJ=1/\m.aQ≠0
    ·rw[Qg hc.1,Qh hc.2,Qr hc];simp only[Qk,Qa,Qp];have hh:∀(p q:af) (L:Int),(Bt {m with ak:=p,au:=q,aQ:=L}).bg=eH m:=fun p q L=>by unfold Bt;exact Qr hc.1
     rw[hh];split
     ·rename_i hlt;rw[Qg hlt];rfl
     ·rename_i hlt;rw[Qh hlt];rfl
    ·rw[Qs hc]
     by_cases h1:m.aJ=1
     ·rw[Qg h1,Qg (show m.aQ=0 from Classical.byContradiction fun hn=>hc ⟨h1,hn⟩)];rfl
     ·rw[Qh h1];rfl
  by_cases h2:m.aJ=2
  ·rw[Qg h2];exact hmain _ (Qr h2).symm
  ·rw[Qh h2];exact hmain _ (Qs h2).symm
end
theorem NO(m:ab)(b:af):fZ ⟨m⟩ b=some ((),⟨{m with aQ:=bif bI m.aa b then m.aQ else 0,aa:=b}⟩):=by
 unfold fZ;simp only[ab.eta,etas,av.eta,dZ,Qa,bq];cases bI m.aa b<;>rfl
theorem DO(m:ab)(b:af){α:Type}(j:ab->Option α):
  (bif decide (m.aQ=(0:Int))then(bif bI m.aa b then(bif decide (kS b.Value m.aa.ae m.ak m.au<=b.ae)then j {m with aQ:=kS b.Value m.aa.ae m.ak m.au}else j m)else j m)else(bif false then(bif decide (kS b.Value m.aa.ae m.ak m.au<=b.ae)then j {m with aQ:=kS b.Value m.aa.ae m.ak m.au}else j m)else j m))=j (mW m b):=by
 unfold mW
 by_cases hL:m.aQ=0
 ·rw[Qg hL]
  cases hc:bI m.aa b with
  |true=>
   by_cases hle:kS b.Value m.aa.ae m.ak m.au<=b.ae
   ·rw[Qr ⟨hL,rfl,hle⟩,Qg hle];rfl
   ·rw[Qs (fun h=>hle h.2.2),Qh hle];rfl
  |false=>
   rw[Qs (fun h=>by cases h.2.1)];rfl
 ·rw[Qh hL,Qs (fun h=>hL h.1)];rfl
section
variable {m : ab} (h : aY m) (hs : gb m)
 include h hs
theorem UB:kh ⟨m⟩=some ((),⟨ga m⟩):=by
 have hl:m.aB.length<=100:=by have:=h.len;omega
 unfold kh;simp only[ab.eta,etas,av.eta,bX,Bq hl,UR h hs,Hk,NO,dZ,gN,Qa,bq];have hb:vY m.aq.toNat m.ao (aS m) m.ar=iQ m:=rfl;simp only[hb];unfold ga
 cases hz:aI m.aa with
 |true=>rw[Qr (.inr (.inl rfl))];rfl
 |false=>
  by_cases h1:m.aJ=1
  ·rw[Qg h1]
   cases hzb:aI (iQ m)with
   |true=>rw[Qr (.inr (.inr rfl))];rfl
   |false=>
    rw[Qs (by simp[h1])]
    simp only[Qo,Ql,Qa];unfold vB
    cases hlt:bd m.aa (iQ m)with
    |true=>
     simp only[Qk,Qt]
     cases hcp:bI m.aa (iQ m)with
     |true=>exact DO {m with ar:=iQ m,aa:=iQ m} (iQ m) (fun x=>some ((),(⟨x⟩:av)))
     |false=>exact DO {m with ar:=iQ m,aa:=iQ m,aQ:=0} (iQ m) (fun x=>some ((),(⟨x⟩:av)))
    |false=>
     simp only[Ql,Qq,Qu];exact DO {m with ar:=iQ m} (iQ m) (fun x=>some ((),(⟨x⟩:av)))
  ·rw[Qh h1,Qr (.inl h1)];rfl
theorem OZ:je ⟨m⟩=some ((),⟨fE m⟩):=by
 have hl:m.aB.length<=100:=by have:=h.len;omega
 unfold je;simp only[ab.eta,etas,av.eta,Bq hl,Tj h hs,V0 h hs,dZ,gN,Qa,bq];unfold fE
 by_cases h1:m.aJ=1
 ·rw[Qg h1,Qr h1];simp only[Qk]
  cases hk:(fA m).2.2.2.1 with
  |false=>rfl
  |true=>
   have hf:=FJ h hk
   have hcov:js m.ak ⟨(fA m).2.2.1,(fA m).1⟩= !(bd m.ak ⟨(fA m).2.2.1,(fA m).1⟩|| !bI m.ak ⟨(fA m).2.2.1,(fA m).1⟩):=by
    cases hc:bI m.ak ⟨(fA m).2.2.1,(fA m).1⟩with
    |false=>unfold js;rw[hc];simp
    |true=>
     have hv:=iq.1 hc
     have hnz:aI m.ak=false:=by
      cases hz:aI m.ak with
      |false=>rfl
      |true=>rw[rP.1 hz]at hv;exact absurd hv.symm hf.fin.ne
     unfold js;rw[hc,hnz,zV hv,Qo,Bool.or_false,Qp,Bool.and_self,Bool.true_and];rw[QW];simp only[Qi,Bool.not_eq_true',Qj];omega
   simp only[Qo,Ql,Qt];unfold Eu;rw[hcov];cases bI m.aa ⟨(fA m).2.2.1,(fA m).1⟩<;>cases bd m.aa ⟨(fA m).2.2.1,(fA m).1⟩<;>cases bd m.ak ⟨(fA m).2.2.1,(fA m).1⟩<;>cases bI m.ak ⟨(fA m).2.2.1,(fA m).1⟩<;>rfl
 ·rw[Qh h1,Qs h1]
  by_cases h2:m.aJ=2
  ·rw[Qg h2,Qr h2];rcases h.body with k|k|k|k
   ·exact absurd k.aE h1
   ·exact absurd k.aE h1
   ·unfold tz;rw[k.cP.2];rfl
   ·have:=k.aE;omega
  ·rw[Qh h2,Qs h2];rfl
theorem Rk:jr ⟨m⟩=some ((),⟨iX m⟩):=by
 have hl:m.aB.length<=100:=by have:=h.len;omega
 unfold jr iX;simp only[ab.eta,etas,av.eta,Bq hl,VZ h hs,Qa]
 by_cases h2:m.aJ=2
 ·rw[Qg h2]
  cases hk:(kU m).2.2.1 with
  |false=>rw[Qs (fun h=>by cases h.2)];rfl
  |true=>rw[Qr ⟨h2,rfl⟩];rfl
 ·rw[Qh h2,Qs (fun h=>h2 h.1)];rfl
end
theorem IZ{m:ab}(h:Cd m):dI ⟨m⟩=some (dJ m):=by
 have hl:m.aB.length<=1000:=by have:=h.len;omega
 unfold dI dJ;simp only[bX,Qa]
 cases hz:aI m.ar with
 |false=>rfl
 |true=>
  simp only[Qo,Ql,Bool.true_eq_false,Qu]
  by_cases h1:m.aJ=1
  ·rw[Qg h1,Qs (fun h=>h h1)]
   simp only[Qo,Ql]
   by_cases hp:m.bh=il
   ·have hp':decide (m.bh=ByteArray.mk #[])=true:=Qg hp;rw[hp',Qs (fun h=>h hp)]
    simp only[Qo,Ql]
    rw[O0 m.aB hl (·.aa) (fin:=fun s=>Option.bind (jY s) fun r=>some r.Value) (fun i e s hs he hd hx hw=>by
     simp only[hd,hx,hw,Qk,Qa]
     rw[cd (by simp;omega),Qk]) (fun s hd=>by simp only[hd,Ql]),PN _ (by simp;omega)]
    rfl
   ·have hp':decide (m.bh=ByteArray.mk #[])=false:=Qh hp;rw[hp',Qr hp];rfl
  ·rw[Qh h1,Qr h1];rfl
theorem Tc(l:List ai)(hlen:l.length<=1000)(p:ai->Bool)(hp:∀e∈l,p e=true->0<=e.aq/\e.aq<10):mG l (l.map p)=some ((dQ p l:Nat):Int):=by
 unfold mG
 suffices key:∀(k i s:Nat),i+k=l.length->s<1024->aD _ ((s:Int),(i:Int),())=some ((s|||dQ p (l.drop i):Nat):Int)by
  have:=key l.length 0 0 (by omega) (by omega)
  rw[Nat.zero_or,List.drop_zero]at this;exact this
 intro k
 induction k with
 |zero=>
  intro i s hi hs;obtain rfl:i=l.length:=by omega
  have hd:decide (((l.length:Nat):Int)<((l.length:Nat):Int))=false:=Qh (Qq63 _);rw[bs (r:=(s:Int)) (by simp only[hd,Ql,Qe]),Qq65,dQ]
  simp
 |succ k ih=>
  intro i s hi hs;have hlt:i<l.length:=by omega
  have hd:decide ((i:Int)<((l.length:Nat):Int))=true:=Qg (by omega)
  have hd2:decide ((i:Int)<(((l.map p).length:Nat):Int))=true:=Qg (by rw[QC];omega)
  have hw:aA .i64 (i:Int) 1=((i+1:Nat):Int):=cO (by omega) (by omega)
  have hx:idx l (i:Int)=some l[i]:=by rw[bQ];exact Qv hlt
  have hx2:idx (l.map p) (i:Int)=some (p l[i]):=by rw[bQ,QT,Qv hlt];rfl
  rw[QM hlt,dQ]
  cases hpe:p l[i]with
  |false=>
   rw[bD (s':=((s:Int),((i+1:Nat):Int),())) (by simp only[hd,hd2,hx,hx2,hw,hpe,Qk,Ql,bq,Qa]),ih (i+1) s (by omega) hs]
   simp
  |true=>
   obtain⟨h0,h1⟩:=hp _ (Q0 hlt) hpe;have hn0:¬l[i].aq<0:=by omega
   have d1:decide ((0:Int)<=l[i].aq)=true:=Qg h0;have d2:decide (l[i].aq<(10:Int))=true:=Qg (by omega)
   rw[bD (s':=(((s|||2 ^ l[i].aq.toNat:Nat):Int),((i+1:Nat):Int),())) (by
    simp only[hd,hd2,hx,hx2,hw,hpe,Qk,bq,Qa,d1,d2,hn0,Qu]
    rw[wj hs h0 h1]),ih (i+1) _ (by omega) (Il hs h1)]
   simp[Nat.or_assoc]
theorem PQ{m:ab}(h:Cd m)(n:Int):jK ⟨m⟩ n=some ((ze m n:Nat):Int):=by
 have hl:m.aB.length<=1000:=by have:=h.len;omega
 unfold jK;have d1:decide (((m.aB.length:Nat):Int)=((m.aB.length:Nat):Int))=true:=Qg rfl;have d2:decide (0<=((m.aB.length:Nat):Int))=true:=Qg (Int.natCast_nonneg _);have d3:bL 1 m.aB.length=true:=cd (by omega)
 simp only[d1,d2,d3,QV,Bool.and_self,Qk]
 rw[ON m.aB hl (fun e=>decide (n<fo e)) (fin:=fun s=>Option.bind (mG m.aB s) fun r=>some r)
  (fun i e s hsl he hi hd hx hw=>by
   have h1:idx s (i:Int)=some s[i]:=by rw[bQ];exact Qv (by omega)
   have h2:s[i]?=some s[i]:=Qv (by omega)
   simp only[hd,hx,hw,h1,h2,Qk,Qa,etas,ai.eta,I6 (h.sm e he) (h.valid e he),QV])
  (fun s hd=>by simp only[hd,Ql]) (by simp),Tc m.aB hl _ (fun e he _=>h.Lu e he)]
 rfl
section
variable {m : ab} (h : aY m) (hs : gb m)
 include h hs
theorem HD(n:Int):fV n ⟨fu m.aq.toNat m.ao (pL m)⟩ ⟨m⟩=some (hU m n):=by
 unfold fV;simp only[ab.eta,etas,av.eta,PQ h.ev,Qa];have hb:=HX (q7 (az:=m.aq.toNat) h.ev.bb (nM h hs).1) (v:=m.aq.toNat) (Pg h.ev n);rw[h.ev.az.1]at hb;rw[hb,Qa];unfold hU;rw[(jF h hs).view _ h.ev.az.2]
theorem Rb:jq ⟨m⟩=some ((),⟨eE m⟩):=by
 have hl:m.aB.length<=100:=by have:=h.len;omega
 have hv:=LU h.ev.az.2 h.ev.bb (nM h hs).1;rw[h.ev.az.1]at hv;unfold jq eE;simp only[ab.eta,etas,av.eta,bX,Bq hl,hv,HD h hs,IZ h.ev,NO,Qa,bq]
 by_cases h3:m.aJ=3
 ·rw[Qg h3,Qr (.inl h3)];rfl
 ·rw[Qh h3]
  cases ha:hU m m.aa.ae with
  |false=>rw[Qr (.inr rfl)];rfl
  |true=>
   rw[Qs (by simp[h3])]
   simp only[Ql,Qo]
   have hbc:0<=m.aa.ae/\m.aa.ae<=1000:=by
    rcases h.body with k|k|k|k
    ·rw[k.aG];decide
    ·exact⟨by have:=k.aG.1;omega,k.aG.2.1⟩
    ·exact⟨by have:=k.aG.1;omega,k.aG.2.1⟩
    ·exact absurd k.aE h3
   have hz1:aI m.aa=true->m.aJ=1:=by
    intro hz;rcases h.body with k|k|k|k
    ·exact k.aE
    ·exact k.aE
    ·rw[k.aG.nz]at hz;cases hz
    ·exact absurd k.aE h3
   refine(Ru h.ev (fin:=fun c=>some ((),(⟨{m with aQ:=bif bI m.aa ⟨dp c 1000,lR m⟩then m.aQ else 0,aa:=⟨dp c 1000,lR m⟩}⟩:av))) (fun i e s he hd hx hw=> ?_) (fun s hd=> ?_)).trans ?_
   ·simp only[hd,hx,hw,Qk,bq,Qa,etas,ai.eta,I6 (h.ev.sm e he) (h.ev.valid e he),HD h hs];unfold ka
    by_cases c1:m.aa.ae<fo e
    ·by_cases c2:fo e<s
     ·rw[Qg c1,Qg c2]
      cases c3:hU m (fo e)with
      |true=>rw[Qs (by simp)];rfl
      |false=>rw[Qr ⟨c1,c2,rfl⟩];rfl
     ·rw[Qg c1,Qh c2,Qs (fun h=>c2 h.2.1)];rfl
    ·rw[Qh c1,Qs (fun h=>c1 h.1)];rfl
   ·simp only[hd,Ql,bq,Qa];unfold lR
    by_cases h1:m.aJ=1
    ·rw[Qg h1,Qr h1];cases aI m.aa<;>rfl
    ·rw[Qh h1,Qs h1]
     cases hz:aI m.aa with
     |true=>exact absurd (hz1 hz) h1
     |false=>rfl
   ·have hm:=(BY h hbc).2.2.2.2;rw[hm]
    have hcp:(bif bI m.aa ⟨dp (fj m) 1000,lR m⟩then m.aQ else 0)=(if lR m=m.aa.Value then m.aQ else 0):=by
     by_cases e:lR m=m.aa.Value
     ·rw[Qr e,(iq (a:=m.aa) (b:=⟨dp (fj m) 1000,lR m⟩)).2 e.symm];rfl
     ·rw[Qs e,(gr (a:=m.aa) (b:=⟨dp (fj m) 1000,lR m⟩)).2 (fun hc=>e hc.symm)];rfl
    rw[hcp]
end
end
section
theorem Kf{m:ab}(h:aY m)(s:Int):aS {m with aN:=s}=(aS m).map (fun e=>if e.aq=m.aq then{e with aN:=bn s 1}else e):=by
 have hf:∀e∈m.aB,(if e.aq=m.aq then{e with aN:=bn s 1}else e)=e:=fun e he=>Qs (h.hv e he).2.2.2
 have hmap:m.aB.map (fun e=>if e.aq=m.aq then{e with aN:=bn s 1}else e)=m.aB:=by
  rw[Qq70 hf];simp
 have hown:gX {m with aN:=s}={gX m with aN:=bn s 1}:=by
  unfold gX fO eH;split
  ·rfl
  ·split<;>rfl
 unfold aS;split
 ·exact hmap.symm
 ·rw[hown];have hn:(gX m).aq=m.aq:=sf m
  suffices key:∀l:List ai,(∀e∈l,(if e.aq=m.aq then{e with aN:=bn s 1}else e)=e)->BK {gX m with aN:=bn s 1} l=(BK (gX m) l).map (fun e=>if e.aq=m.aq then{e with aN:=bn s 1}else e)from key _ hf
  intro l
  induction l with
  |nil=>
   intro _;simp only[BK,QD,QO,hn,Qt]
  |cons x l ih=>
   intro hx;unfold BK;simp only;split
   ·rw[QD,QD,hn,Qr rfl,hx x Qx,Qq70 (fun e he=>hx e (Qy _ he))]
    simp
   ·rw[QD,hx x Qx,ih fun e he=>hx e (Qy _ he)]
theorem GK{m:ab}(h:aY m){s:Int}(hs:0<=s/\s<=1000000):aY {m with aN:=s}:=by
 refine⟨h.n0,h.n1,h.bJ,hs,h.bb,h.sJ,h.hv,h.kC,?_⟩;rcases h.body with k|k|k|k
 ·exact .inl ⟨k.aE,k.aG,k.cP,k.bC,k.dq,k.low,k.bU⟩
 ·exact .inr (.inl ⟨k.aE,k.aG,k.cP,k.bC,k.dq,k.up,k.bU,k.low⟩)
 ·exact .inr (.inr (.inl ⟨k.aE,k.aG,k.cP,k.bC,k.dq,k.range⟩))
 ·exact .inr (.inr (.inr ⟨k.aE,k.aG,k.cP,k.bC,k.dq,k.range⟩))
theorem mu{m:ab}(h:aY m){s:Int}(hs:0<=s/\s<=1000000):Alike (aS m) (aS {m with aN:=s}):=by
 rw[Kf h s];refine Pf h.ev.n3.1 h.ev.n3.2 _ fun e he=> ?_
 split
 ·rename_i hn;refine⟨rfl,?_⟩;rw[h.jl e he];have hv:=h.jl e he
  have hm:{e with aN:=bn s 1}∈aS {m with aN:=s}:=by
   rw[Kf h s];exact QP.2 ⟨e,he,Qr hn⟩
  exact(GK h hs).jl _ hm
 ·exact⟨rfl,rfl⟩
theorem TI(m:ab)(s:Int)(b:af):vB {m with aN:=s} b={vB m b with aN:=s}:=by
 unfold vB
 by_cases h:bd m.aa b=true
 ·simp only[Qr h]
 ·simp only[Qs h]
theorem ND(m:ab)(s:Int)(b:af):mW {m with aN:=s} b={mW m b with aN:=s}:=by
 unfold mW
 by_cases h:m.aQ=0/\bI m.aa b=true/\kS b.Value m.aa.ae m.ak m.au<=b.ae
 ·simp only[Qr h]
 ·simp only[Qs h]
section
variable {m : ab} (h : aY m) {s : Int} (hs : 0 <= s /\ s <= 1000000)
 include h hs
theorem Tp:dU {m with aN:=s}=dU m:=((mu h hs).next h.ev.az.2 m.ao _ _ _).symm
theorem TG:iQ {m with aN:=s}=iQ m:=((mu h hs).bU h.ev.az.2 m.ao _).symm
theorem Hf:eR {m with aN:=s}=eR m:=((mu h hs).ready h.ev.az.2 m.ao).symm
theorem PA:zt {m with aN:=s}=zt m:=((mu h hs).sure h.ev.az.2 m.ao).symm
theorem TV:fA {m with aN:=s}=fA m:=by
 unfold fA;rw[Hf h hs];simp only;rw[<-(mu h hs).B3,<-(mu h hs).first]
theorem TY:dy {m with aN:=s}=dy m:=by
 unfold dy;rw[Hf h hs];simp only;rw[<-(mu h hs).gG]
theorem TX:kU {m with aN:=s}=kU m:=by
 unfold kU;rw[PA h hs];simp only;rw[<-(mu h hs).gG]
theorem HV(n:Int):hU {m with aN:=s} n=hU m n:=by
 unfold hU;simp only;rw[<-(mu h hs).view _ h.ev.az.2];rfl
theorem Ug:fj {m with aN:=s}=fj m:=by
 unfold fj;simp only;congr 1
 funext b e
 unfold ka;simp only[HV h hs]
theorem N7:cy {m with aN:=s}={cy m with aN:=s}:=by
 unfold cy;simp only[Tp h hs];split<;>rfl
theorem N5:ga {m with aN:=s}={ga m with aN:=s}:=by
 unfold ga;simp only[TG h hs];split
 ·rfl
 ·rw[TI,ND]
theorem Oc:fE {m with aN:=s}={fE m with aN:=s}:=by
 unfold fE;simp only[TV h hs,TY h hs];split
 ·split<;>rfl
 ·split<;>rfl
theorem Oa:iX {m with aN:=s}={iX m with aN:=s}:=by
 unfold iX;simp only[TX h hs];split<;>rfl
theorem N9:eE {m with aN:=s}={eE m with aN:=s}:=by
 unfold eE;simp only[HV h hs,Ug h hs];split<;>rfl
end
open Classical in
 def cQ(m:ab):ab:=
 if cy m=m then(if ga m=m then(if fE m=m then(if iX m=m then eE m else iX m)else fE m)else ga m)else cy m
structure Nt (m:ab):Prop where
 p:cy m=m
 s:ga m=m
 c:fE m=m
 f:iX m=m
 k:eE m=m
theorem PB{m:ab}(h:cQ m=m):Nt m:=by
 unfold cQ at h;split at h
 ·split at h
  ·split at h
   ·split at h
    ·exact⟨by assumption,by assumption,by assumption,by assumption,h⟩
    ·contradiction
   ·contradiction
  ·contradiction
 ·contradiction
theorem Rc{m:ab}(h:Nt m):cQ m=m:=by
 unfold cQ;rw[Qr h.p,Qr h.s,Qr h.c,Qr h.f,h.k]
theorem zw{m:ab}{Q:ab->Prop}(h1:Q (cy m))(h2:Q (ga m))(h3:Q (fE m))(h4:Q (iX m))(h5:Q (eE m)):Q (cQ m):=by
 unfold cQ;split
 ·split
  ·split
   ·split
    ·exact h5
    ·exact h4
   ·exact h3
  ·exact h2
 ·exact h1
theorem A7{m:ab}(h:aY m):aY (cQ m):=zw (Hn h) (Hm h) (Hq h) (Hp h) (Ho h)
theorem xw(m:ab):gF m (cQ m):=zw (uE m) (rX m) (rZ m) (rY m) (xC m)
theorem PC{m:ab}(h:aY m):cQ m=m\/iV m<iV (cQ m):=zw (Q:=fun x=>x=m\/iV m<iV x) (Xl h) (Xk h) (Xo h) (Xn h) (Xm h)
theorem Xz(m:ab):(cy m).aa=m.aa:=by unfold cy;split<;>rfl
theorem II{m:ab}(h:aY m)(hz:aI m.aa=false):aI (cQ m).aa=false:=by
 have hb:P1 m\/P2 m\/P3 m:=h.body.resolve_left fun k=>by rw[k.aG,bO]at hz;cases hz
 refine zw (Q:=fun x=>aI x.aa=false) (by rw[Xz];exact hz) ?_ ?_ ?_ ?_
 ·rcases hb with k|k|k
  ·exact(Gv h k).1.aG.nz
  ·rw[oU (.inl (by rw[k.aE];decide))];exact hz
  ·rw[oU (.inl (by rw[k.aE];decide))];exact hz
 ·unfold fE;rcases hb with k|k|k
  ·rw[Qr k.aE];split
   ·rename_i hk;have hf:=FJ h hk;exact(J4 (.inr k.aG) k.cP hf.fin hf.U1 hf.le).aG.nz
   ·exact hz
  ·rw[Qs (by rw[k.aE];decide),Qr k.aE]
   obtain⟨g1,g2,g3,_⟩:=JJ h k;exact(MU k g1 g2 g3).aG.nz
  ·rw[Qs (by rw[k.aE];decide),Qs (by rw[k.aE];decide)];exact hz
 ·unfold iX;split
  ·rename_i hc;rcases hb with k|k|k
   ·have:=k.aE;have:=hc.1;omega
   ·exact(Li h k hc.2).aG.nz
   ·have:=k.aE;have:=hc.1;omega
  ·exact hz
 ·cases ha:hU m m.aa.ae with
  |false=>
   have:eE m=m:=Qr (.inr ha);rw[this];exact hz
  |true=>
   rcases hb with k|k|k
   ·exact(Gw h (.inr k) ha).aG.nz
   ·exact(Lh h k).aG.nz
   ·have:eE m=m:=Qr (.inl k.aE);rw[this];exact hz
def eK(m:ab):ab:=if aI m.aa=false then{m with aN:=bn m.aN 1}else m
theorem Tq{m:ab}(h:aY m):0<=bn m.aN 1/\bn m.aN 1<=1000000:=by
 have:=h.seq;unfold bn;split<;>omega
theorem Jb{m:ab}(h:aY m):aY (eK m):=by
 unfold eK;split
 ·exact GK h (Tq h)
 ·exact h
theorem Lo{m:ab}(h:aI m.aa=true->m.aN=0):gb (eK m):=by
 unfold eK;split
 ·rename_i hz;exact⟨fun e=>(by rw[show({m with aN:=bn m.aN 1}:ab).aa=m.aa from rfl,hz]at e;cases e),fun _=>by show 1<=bn m.aN 1;unfold bn;split<;>omega⟩
 ·rename_i hz;exact⟨h,fun e=>absurd e hz⟩
theorem PH(m:ab):iV (eK m)=iV m:=by
 unfold eK;split<;>rfl
theorem Ja{m:ab}(h:0<=m.aN):cz ⟨m⟩=some ((),⟨eK m⟩):=by
 unfold cz eK;simp only[ab.eta,etas,av.eta,bX,Qa]
 cases hz:aI m.aa with
 |true=>rfl
 |false=>
  simp only[Qp,Qk,Qa,Qt]
  by_cases hs:m.aN=0
  ·have e:bn m.aN 1=1:=by unfold bn;split<;>omega
   rw[Qg hs,e];rfl
  ·have e:bn m.aN 1=m.aN:=by unfold bn;split<;>omega
   rw[Qh hs,e];rfl
theorem qC{m m':ab}(he:gF m m'):
  (decide (m'.aJ=m.aJ)&&(decide (m'.aQ=m.aQ)&&(decide (m'.bg=m.bg)&&(decide (m'.aa.ae=m.aa.ae)&&(decide (m'.aa.Value=m.aa.Value)&&(decide (m'.ak.ae=m.ak.ae)&&(decide (m'.ak.Value=m.ak.Value)&&(decide (m'.au.ae=m.au.ae)&&(decide (m'.au.Value=m.au.Value)&&(decide (m'.ar.ae=m.ar.ae)&&(decide (m'.ar.Value=m.ar.Value)&&true)))))))))))=true↔m'=m:=by
 simp only[Qm,Qi];constructor
 ·rintro⟨h1,h2,h3,h4,h5,h6,h7,h8,h9,h10,h11,_⟩;exact tN he h1 (kX h4 h5) (kX h6 h7) (kX h8 h9) (kX h10 h11) h2 h3
 ·rintro rfl;simp
open Classical in
theorem UD{m:ab}(h:aY m)(hs:gb m):ki ⟨m⟩=some (if cQ m=m then(false,⟨m⟩)else(true,⟨eK (cQ m)⟩)):=by
 have hnum:∀{x:ab},aY x->cz ⟨x⟩=some ((),⟨eK x⟩):=fun hx=>Ja hx.seq.1
 unfold ki;simp only[ab.eta,etas,av.eta,er,Qa,Mt h hs]
 by_cases hP:cy m=m
 ·simp only[(qC (uE m)).2 hP,Bool.xor_true,Qo,Ql,show xor true true=false from rfl]
  rw[hP,UB h hs];simp only[Qa]
  by_cases hS:ga m=m
  ·simp only[(qC (rX m)).2 hS,Ql,show xor true true=false from rfl]
   rw[hS,OZ h hs];simp only[Qa]
   by_cases hC:fE m=m
   ·simp only[(qC (rZ m)).2 hC,Ql,show xor true true=false from rfl]
    rw[hC,Rk h hs];simp only[Qa]
    by_cases hF:iX m=m
    ·simp only[(qC (rY m)).2 hF,Ql,show xor true true=false from rfl]
     rw[hF,Rb h hs];simp only[Qa];have e:cQ m=eE m:=by unfold cQ;rw[Qr hP,Qr hS,Qr hC,Qr hF]
     rw[e]
     by_cases hK:eE m=m
     ·simp only[(qC (xC m)).2 hK,Ql,show xor true true=false from rfl]
      rw[Qr hK,hK]
     ·have hb:=mt (qC (xC m)).1 hK;rw[QX]at hb;simp only[hb,Qk,show xor true false=true from rfl]
      rw[hnum (Ho h),Qs hK];rfl
    ·have e:cQ m=iX m:=by unfold cQ;rw[Qr hP,Qr hS,Qr hC,Qs hF]
     have hb:=mt (qC (rY m)).1 hF;rw[QX]at hb;simp only[hb,Qk,show xor true false=true from rfl]
     rw[hnum (Hp h),e,Qs hF];rfl
   ·have e:cQ m=fE m:=by unfold cQ;rw[Qr hP,Qr hS,Qs hC]
    have hb:=mt (qC (rZ m)).1 hC;rw[QX]at hb;simp only[hb,Qk,show xor true false=true from rfl]
    rw[hnum (Hq h),e,Qs hC];rfl
  ·have e:cQ m=ga m:=by unfold cQ;rw[Qr hP,Qs hS]
   have hb:=mt (qC (rX m)).1 hS;rw[QX]at hb;simp only[hb,Qk,show xor true false=true from rfl]
   rw[hnum (Hm h),e,Qs hS];rfl
 ·have e:cQ m=cy m:=by unfold cQ;rw[Qs hP]
  have hb:=mt (qC (uE m)).1 hP;rw[QX]at hb;simp only[hb,Qk,show xor true false=true from rfl]
  rw[hnum (Hn h),e,Qs hP];rfl
structure Ky (R:ab->Prop) (m m':ab):Prop where
 inv:aY m'
 seq:gb m'
 env:m'.aq=m.aq/\m'.bf=m.bf/\m'.ao=m.ao/\m'.bh=m.bh/\m'.aB=m.aB
 num:m'.aN=m.aN\/(m.aN=0/\m'.aN=1)
 nz:aI m.aa=false->aI m'.aa=false
 rel:R m'
 fix:Nt m'
theorem Ph{R:ab->Prop}(hR1:∀m,aY m->R m->R (cQ m))(hR2:∀m,R m->R (eK m)){m:ab}(h:aY m)(hs:aI m.aa=true->m.aN=0)(hr:R m):Yd (eY ⟨m⟩) fun q=>∃m',q=((),⟨m'⟩)/\Ky R m m':=by
 unfold eY;simp only[ab.eta,etas,av.eta,Ja h.seq.1,Qa]
 have num1:∀{x:ab},aY x->(eK x).aN=x.aN\/(x.aN=0/\(eK x).aN=1):=fun{x} hx=>by
  have:=hx.seq;unfold eK;split
  ·show bn x.aN 1=x.aN\/(x.aN=0/\bn x.aN 1=1);unfold bn;split<;>omega
  ·exact .inl rfl
 have env1:∀x:ab,(eK x).aq=x.aq/\(eK x).bf=x.bf/\(eK x).ao=x.ao/\(eK x).bh=x.bh/\(eK x).aB=x.aB/\(eK x).aa=x.aa:=fun x=>by
  unfold eK;split<;>exact⟨rfl,rfl,rfl,rfl,rfl,rfl⟩
 refine Yd.down (fun s=>∃x,s=((⟨x⟩:av),())/\aY x/\gb x/\R x/\(x.aq=m.aq/\x.bf=m.bf/\x.ao=m.ao/\x.bh=m.bh/\x.aB=m.aB)/\(x.aN=m.aN\/(m.aN=0/\x.aN=1))/\(aI m.aa=false->aI x.aa=false)) (fun s=>K1+K2 - iV s.1.aj) ?_ ⟨eK m,rfl,Jb h,Lo hs,hR2 _ hr,⟨(env1 m).1,(env1 m).2.1,(env1 m).2.2.1,(env1 m).2.2.2.1,(env1 m).2.2.2.2.1⟩,num1 h,fun hz=>by rw[(env1 m).2.2.2.2.2];exact hz⟩
 rintro s ⟨x,rfl,hx,hsx,hrx,hex,hnx,hzx⟩;simp only[UD hx hsx,Qa]
 by_cases hst:cQ x=x
 ·rw[Qr hst];exact .some ⟨x,rfl,⟨hx,hsx,hex,hnx,hzx,hrx,PB hst⟩⟩
 ·rw[Qs hst];have hi:=A7 hx;have hv:=xw x;have hup:=(PC hx).resolve_left hst;refine .some ⟨⟨eK (cQ x),rfl,Jb hi,Lo ?_,hR2 _ (hR1 _ hx hrx),?_,?_,?_⟩,?_⟩
  ·intro hz;rw[hv.seq];refine hsx.zero ?_
   cases hzz:aI x.aa with
   |true=>rfl
   |false=>rw[II hx hzz]at hz;cases hz
  ·obtain⟨e1,e2,e3,e4,e5,_⟩:=env1 (cQ x);exact⟨e1.trans (hv.az.trans hex.1),e2.trans (hv.bJ.trans hex.2.1),e3.trans (hv.bb.trans hex.2.2.1),e4.trans (hv.sJ.trans hex.2.2.2.1),e5.trans (hv.heard.trans hex.2.2.2.2)⟩
  ·have h1:=num1 hi;rw[hv.seq]at h1;rcases h1 with e|⟨e1,e2⟩
   ·rw[e];exact hnx
   ·right;rcases hnx with e3|⟨_,e3⟩
    ·exact⟨by rw[<-e3];exact e1,e2⟩
    ·omega
  ·intro hz;rw[(env1 (cQ x)).2.2.2.2.2];exact II hx (hzx hz)
  ·have h1:=SU hi;show K1+K2 - iV (eK (cQ x))<K1+K2 - iV x;rw[PH];omega
end
section
theorem Vp{α:Type}{s t:List α}(hl:s.length=t.length)(hn:s.length<=1000000){step:Int×Unit->Option ((Int×Unit)⊕Bool)}
  (h1:∀(i:Nat) (h:i<s.length) (h':i<t.length),decide ((i:Int)<((s.length:Nat):Int))=true->idx s (i:Int)=some s[i]->idx t (i:Int)=some t[i]->aA .i64 (i:Int) 1=((i+1:Nat):Int)->∃b:Bool,step ((i:Int),())=some (bif b then .inl (((i+1:Nat):Int),())else .inr false)/\(b=true↔s[i]=t[i]))
  (h2:decide (((s.length:Nat):Int)<((s.length:Nat):Int))=false->step (((s.length:Nat):Int),())=some (.inr true)):∃b,aD step (0,())=some b/\(b=true↔s=t):=by
 suffices key:∀(k i:Nat),i+k=s.length->∃b,aD step ((i:Int),())=some b/\(b=true↔s.drop i=t.drop i)from by simpa using key s.length 0 (by omega)
 intro k
 induction k with
 |zero=>
  intro i hi;obtain rfl:i=s.length:=by omega
  refine⟨true,bs (h2 (Qh (Qq63 _))),?_⟩;rw[List.drop_eq_nil_of_le (by omega),List.drop_eq_nil_of_le (by omega)]
  simp
 |succ k ih=>
  intro i hi;have hi':i<s.length:=by omega
  have hi'':i<t.length:=by omega
  obtain⟨b,h3,h4⟩:=h1 i hi' hi'' (Qg (by omega)) (by rw[bQ];exact Qv hi') (by rw[bQ];exact Qv hi'') (cO (by omega) (by omega))
  rw[QM hi',QM hi'',List.cons.injEq]
  cases b with
  |false=>
   refine⟨false,bs h3,?_⟩;simp only[Qq,false_iff]at h4 ⊢;exact fun h=>h4 h.1
  |true=>
   obtain⟨b,h5,h6⟩:=ih (i+1) (by omega)
   refine⟨b,(bD h3).trans h5,?_⟩;rw[h6];exact⟨fun h=>⟨h4.1 rfl,h⟩,fun h=>h.2⟩
theorem OB{α:Type}{s t:List α}(h:s.length≠t.length):(false=true↔s=t):=by
 simp only[Qq,false_iff];exact fun h1=>h (by rw[h1])
 def Sl(a0:List Int)(a1:List Int):Option Bool:=
 bif (!decide (((List.length a0:Nat):Int)=((List.length a1:Nat):Int)))then
 some false
 else
 aD (fun(v1:Int×Unit)=>
 bif (decide (v1.1<((List.length a0:Nat):Int)))then
 Option.bind (idx a0 v1.1) fun x2=>
 Option.bind (idx a1 v1.1) fun x3=>
 bif (!decide (x2=x3))then
 Option.map Sum.inr (some false)
 else
 some (Sum.inl ((aA .i64 v1.1 (1:Int)),()))
 else
 Option.map Sum.inr (some true)) ((0:Int),())
theorem V7(s t:List Int)(h:s.length<=1000000):∃b,Sl s t=some b/\(b=true↔s=t):=by
 unfold Sl
 by_cases hl:s.length=t.length
 ·rw[Qg (by omega:((s.length:Nat):Int)=((t.length:Nat):Int)),Qo,Ql]
  refine Vp hl h (fun i hi hi' hd hx hy hw=> ?_) (fun hd=> ?_)
  ·refine⟨decide (s[i]=t[i]),?_,by simp⟩
   simp only[hd,hx,hy,hw,Qk,Qa];cases decide (s[i]=t[i])<;>rfl
  ·simp only[hd,Ql];rfl
 ·rw[Qh (by omega:¬((s.length:Nat):Int)=((t.length:Nat):Int)),Qp,Qk]
  exact⟨false,rfl,OB hl⟩
theorem V8(s t:List Int)(h:s.length<=1000000):∃b,mR s t=some b/\(b=true↔s=t):=V7 s t h
theorem NQ(a b:an):a=b↔a.aH=b.aH/\a.a8=b.a8/\a.aM=b.aM:=by
 cases a;cases b;simp
theorem Wz{n:Nat}:∀{a b:an},SizeOf.sizeOf a<n->ea a->∃r,rI n (a,b,())=some r/\(r=true↔a=b):=by
 induction n with
 |zero=>intro a b h;omega
 |succ n ih=>
  intro a b hs hm;show∃r,nZ (rI n) a b=some r/\(r=true↔a=b);have hl:=hm.len;have hns:=hm.nodes;obtain⟨r,h1,h2⟩:=V8 a.a8 b.a8 hns;rw[NQ];unfold nZ
  by_cases ht:a.aH=b.aH
  ·rw[Qg ht];simp only[Qk,h1,Qa]
   cases r with
   |false=>
    simp only[Ql,Qa];refine⟨false,rfl,?_⟩;simp only[Qq,false_iff]at h2 ⊢;exact fun h=>h2 h.2.1
   |true=>
    simp only[Qk,Qa]
    have key:∀o:Option Bool,(∃r,o=some r/\(r=true↔a.aM=b.aM))->∃r,(Option.bind (Option.bind o fun r3=>some r3) fun b4=>some b4)=some r/\(r=true↔a.aH=b.aH/\a.a8=b.a8/\a.aM=b.aM):=by
     rintro o ⟨r,rfl,h4⟩;exact⟨r,rfl,by rw[h4];exact⟨fun h=>⟨ht,h2.1 rfl,h⟩,fun h=>h.2.2⟩⟩
    refine key _ ?_;unfold cD
    by_cases hi:a.aM.length=b.aM.length
    ·rw[Qg (by omega:((a.aM.length:Nat):Int)=((b.aM.length:Nat):Int)),Qo,Ql]
     refine Vp hi hl (fun i hi hi' hd hx hy hw=> ?_) (fun hd=> ?_)
     ·have hu:=Q0 hi;obtain⟨r,h3,h4⟩:=ih (a:=a.aM[i]) (b:=b.aM[i]) (by have:=rC hu;omega) (hm.inner _ hu)
      refine⟨r,?_,h4⟩;simp only[hd,hx,hy,hw,Qk,Qa,etas,h3];cases r<;>rfl
     ·simp only[hd,Ql];rfl
    ·rw[Qh (by omega:¬((a.aM.length:Nat):Int)=((b.aM.length:Nat):Int)),Qp,Qk]
     exact⟨false,rfl,OB hi⟩
  ·rw[Qh ht];refine⟨false,rfl,?_⟩;simp only[Qq,false_iff];exact fun h=>ht h.1
theorem Xc{a b:an}(h:ea a):∃r,lB a b=some r/\(r=true↔a=b):=Wz (by omega) h
theorem TZ(a b:Int)(s t:ByteArray):lN false a b s t=(decide (a=b)&&decide (s=t)):=by
 simp
theorem Nh(a b:af):a=b↔a.ae=b.ae/\a.Value=b.Value:=by
 cases a;cases b;simp
theorem T0(a b:ai):a=b↔a.aq=b.aq/\a.bf=b.bf/\a.aN=b.aN/\a.ao=b.ao/\a.bW=b.bW/\a.aa=b.aa/\a.ak=b.ak/\a.au=b.au/\a.aQ=b.aQ/\a.bg=b.bg:=by
 cases a;cases b;simp
theorem Ue(a b:Bool):(bif a then some b else some false)=some (a&&b):=by cases a<;>rfl
end
section
theorem MJ{m:ab}(h:aY m){ρ:Type}{step:Int×Unit->Option ((Int×Unit)⊕ρ)}{fin:Option ρ}
  (h1:∀(i:Nat) (e:ai),e∈m.aB->decide ((i:Int)<((m.aB.length:Nat):Int))=true->idx m.aB (i:Int)=some e->aA .i64 (i:Int) 1=((i+1:Nat):Int)->
   (i=0\/(decide ((0:Int)<(i:Int))=true/\∃x,idx m.aB (gf .i64 (i:Int) 1)=some x/\decide (e.aq<=x.aq)=false))->step ((i:Int),())=some (.inl (((i+1:Nat):Int),())))
  (h2:decide (((m.aB.length:Nat):Int)<((m.aB.length:Nat):Int))=false->step (((m.aB.length:Nat):Int),())=Option.map Sum.inr fin):aD step (0,())=fin:=by
 have hl:=h.len;refine NW m.aB.length (by omega) (fun i hi hd hw=> ?_) h2
 have hx:idx m.aB (i:Int)=some m.aB[i]:=by rw[bQ];exact Qv hi
 refine h1 i m.aB[i] (Q0 hi) hd hx hw ?_
 cases i with
 |zero=>exact .inl rfl
 |succ i=>
  refine .inr ⟨Qg (by omega),m.aB[i],?_,?_⟩
  ·have:gf .i64 ((i+1:Nat):Int) 1=(i:Int):=by rw[zu (by omega) (by omega)];omega
   rw[this,bQ];exact Qv (by omega)
  ·have:=List.pairwise_iff_getElem.1 h.kC i (i+1) (by omega) hi (by omega)
   exact Qh (by omega)
theorem TH{m:ab}(h:aY m):oK m=some true:=by
 unfold oK;refine MJ h (fun i e he hd hx hw hi=> ?_) (fun hd=>by simp only[hd,Ql])
 obtain⟨g1,g2,g3,g4⟩:=h.hv e he;simp only[hd,hx,hw,Qk,Qa,bq,etas,ai.eta,rG g2.sm,g1,Qo,Ql,Qg g3,Qh g4];rcases hi with rfl|⟨hi,x,hx2,hn⟩
 ·rfl
 ·rw[hi,hx2];simp only[Qk,Qa,hn,Ql]
theorem Lm{m:ab}(h:aY m)(hs:gb m)(hz:aI m.aa=false):bm (fO m)=true:=by
 rw[<-Ll hs hz];exact Hs h hz
theorem Tr:lN false bK.ae (0:Int) bK.Value (ByteArray.mk #[])=true:=by decide
theorem CI{m:ab}(h:aY m)(hs:gb m):gR m=some true:=by
 have d1:decide (m.aq<0)=false:=Qh (by have:=h.n0;omega)
 have d2:decide ((10:Int)<=m.aq)=false:=Qh (by have:=h.n1;omega)
 have d3:decide (m.bf<1)=false:=Qh (by have:=h.bJ;omega)
 have d4:decide ((1000000:Int)<m.bf)=false:=Qh (by have:=h.bJ;omega)
 have d5:decide (m.aN<0)=false:=Qh (by have:=h.seq;omega)
 have d6:decide ((1000000:Int)<m.aN)=false:=Qh (by have:=h.seq;omega)
 have d7:decide ((200:Int)<((m.bh.size:Nat):Int))=false:=Qh (by have:=h.sJ;omega)
 have hm:ea (fO m).ao:=by rw[vZ];exact h.bb.sm
 unfold gR;simp only[d1,d2,d3,d4,d5,d6,d7,Ql,Qa,etas,ab.eta,ai.eta,dH h.bb,decide_true,Qo,TH h,bX,uG,yH h,rG hm]
 cases hz:aI m.aa with
 |true=>
  have h0:P0 m:=by
   rcases h.body with k|k|k|k
   ·exact k
   ·rw[k.aG.nz]at hz;cases hz
   ·rw[k.aG.nz]at hz;cases hz
   ·rw[k.aG.nz]at hz;cases hz
  unfold tf;simp only[h0.aE,hs.zero hz,h0.cP,h0.bC,h0.dq,h0.low,h0.bU,Tr,decide_true,Qk,Qa]
 |false=>
  have hv:=Lm h hs hz;simp only[hv,Ql,Qk]
  have hconf:lK m=some true:=by
   unfold lK;simp only[bX,u0,nI,dZ,Qa]
   have fin:∀(hf:cn m.ar) (hp:(dF m.ak m.au m.ar||(!decide (m.aJ=1)&&bI m.ar m.aa))=true),_:=fun hf hp=>(show(bif aI m.ar then some true else
     (bif !cF m.ar then some true else some (decide (1000<m.ar.ae))).bind fun b3=>bif b3 then some false else
     (bif dF m.ak m.au m.ar then some true else(bif !decide (m.aJ=1)then some (bI m.ar m.aa)else some false).bind fun b6=>some b6).bind fun b7=>some b7)=some true by
    rw[hf.nz,hf.valid,Qh (show¬1000<m.ar.ae by have:=hf.2.1;omega)]
    revert hp
    cases dF m.ak m.au m.ar<;>cases decide (m.aJ=1)<;>cases bI m.ar m.aa<;>simp)
   have nob:m.ar=bK->(bif aI m.ar then some true else
     (bif !cF m.ar then some true else some (decide (1000<m.ar.ae))).bind fun b3=>bif b3 then some false else
     (bif dF m.ak m.au m.ar then some true else(bif !decide (m.aJ=1)then some (bI m.ar m.aa)else some false).bind fun b6=>some b6).bind fun b7=>some b7)=some true:=fun e=>by rw[e,bO];rfl
   rcases h.body with k|k|k|k
   ·exact nob k.dq
   ·rcases k.dq with e|⟨hf,hp⟩
    ·exact nob e
    ·exact fin hf (by rw[hp];rfl)
   ·rcases k.dq with e|⟨hf,hp⟩
    ·exact nob e
    ·exact fin hf (by rw[iq.2 hp,Qh (show¬m.aJ=1 by have:=k.aE;omega)];simp)
   ·exact nob k.dq
  rw[hconf];simp only[Qa,Qk];rcases h.body with k|k|k|k
  ·rw[k.aG,bO]at hz;cases hz
  ·simp only[k.aE,k.bU,decide_true,Qo,Ql,Qa,Qp,Qk,show decide ((1:Int)=3)=false from rfl]
  ·simp only[k.aE,k.bC,bO,show decide ((2:Int)=1)=false from rfl,show decide ((2:Int)=3)=false from rfl,Qo,Ql,Qa,Qp,Qk]
  ·simp only[k.aE,k.bC,k.cP,bO,show decide ((3:Int)=1)=false from rfl,decide_true,Qo,Ql,Qa,Qp,Qk]
end
section
theorem Jc(x:ab):(eK x).aq=x.aq/\(eK x).bf=x.bf/\(eK x).ao=x.ao/\(eK x).bh=x.bh/\(eK x).aB=x.aB/\(eK x).aa=x.aa:=by
 unfold eK;split<;>exact⟨rfl,rfl,rfl,rfl,rfl,rfl⟩
theorem PY{m m':ab}(he:gF m m')(h:¬m'=m):xy m m'=false:=by
 cases hs:xy m m' with
 |false=>rfl
 |true=>exact absurd (IM he hs) h
open Classical in
 def s7(m m2:ab):ab:=if aI m.aa=false/\{fO m with aN:=0}≠{fO m2 with aN:=0}then{m2 with aN:=dp (m2.aN+1) 1000000}else m2
theorem Ex(m m2:ab):∃s,s7 m m2={m2 with aN:=s}/\(s=m2.aN\/s=dp (m2.aN+1) 1000000):=by
 unfold s7;split
 ·exact⟨_,rfl,.inr rfl⟩
 ·exact⟨m2.aN,rfl,.inl rfl⟩
theorem K4{m m2:ab}(h:aY m2):∃s,s7 m m2={m2 with aN:=s}/\m2.aN<=s/\0<=s/\s<=1000000:=by
 obtain⟨s,h1,h2⟩:=Ex m m2;have:=h.seq;refine⟨s,h1,?_⟩;rcases h2 with rfl|rfl
 ·omega
 ·unfold dp;split<;>omega
theorem Rw{m m2:ab}(h:aY m2):aY (s7 m m2):=by
 obtain⟨s,h1,h2⟩:=K4 (m:=m) h;rw[h1];exact GK h h2.2
theorem Ui{m m2:ab}(h:aY m2)(hs:gb m2)(hnz:aI m.aa=false->aI m2.aa=false):gb (s7 m m2):=by
 unfold s7;split
 ·rename_i hc;have:=hs.pos (hnz hc.1);refine⟨fun hz=> ?_,fun _=> ?_⟩
  ·rw[show({m2 with aN:=dp (m2.aN+1) 1000000}:ab).aa=m2.aa from rfl,hnz hc.1]at hz
   cases hz
  ·show 1<=dp (m2.aN+1) 1000000;unfold dp;split<;>omega
 ·exact hs
def Vw(R:ab->Prop)(m m1:ab)(q:ab×Int×Unit):Prop:=∃m2,q=(s7 m m2,(0:Int),())/\Ky R (eK m1) m2
theorem Um{R:ab->Prop}{m1 m2:ab}(h1:aY m1)(h:Ky R m1 m2):Ky R (eK m1) m2:=by
 obtain⟨e1,e2,e3,e4,e5,e6⟩:=Jc m1;refine⟨h.inv,h.seq,?_,?_,fun hz=>h.nz (by rw[e6]at hz;exact hz),h.rel,h.fix⟩
 ·obtain⟨a1,a2,a3,a4,a5⟩:=h.env;exact⟨a1.trans e1.symm,a2.trans e2.symm,a3.trans e3.symm,a4.trans e4.symm,a5.trans e5.symm⟩
 ·have hn:=h.num;have hq:=h1.seq
  cases hz:aI m1.aa with
  |true=>
   have:eK m1=m1:=Qs (by rw[hz];decide)
   rw[this];exact hn
  |false=>
   have h3:=h.seq.pos (h.nz hz);have:(eK m1).aN=bn m1.aN 1:=by unfold eK;rw[Qr hz]
   rw[this];left;unfold bn;split<;>omega
theorem UI(a b:ai)(h:ea a.ao)(hn:a.aq=b.aq)(hs:a.bf=b.bf):∃r,ln a b=some r/\(r=true↔{a with aN:=0}={b with aN:=0}):=by
 obtain⟨r,h1,h2⟩:=Xc (a:=a.ao) (b:=b.ao) h;refine⟨r&&decide (a.bW=b.bW)&&decide (a.aa=b.aa)&&decide (a.ak=b.ak)&&decide (a.au=b.au)&&decide (a.aQ=b.aQ)&&decide (a.bg=b.bg),?_,?_⟩
 ·unfold ln;simp only[etas,h1,Qa,Ue,TZ,<-Bool.decide_and,<-Nh,Qa]
 ·rw[T0];simp only[Qm,Qi,hn,hs,h2,true_and];simp only[and_assoc]
theorem J2{m:ab}(h:aY m):jD m=some m:=by
 unfold jD;simp only[etas,po h.bb.sm,Qa];rw[VG (fun e he=>(h.hv e he).2.1.sm) (by have:=h.len;omega)]
 rfl
theorem Hi{l:List ai}{e:ai}(hv:bm e=true):
  (∃x∈l,x.aq=e.aq/\e.aN<=x.aN/\Bm l e=(l,false,()))\/
  (∃a b,((∃x,l=a++x::b/\x.aq=e.aq/\x.aN<e.aN)\/(l=a++b/\(∀x∈l,x.aq≠e.aq)/\(∀x∈a,¬e.aq<x.aq)/\(∀x,b.head?=some x->e.aq<x.aq)))/\Bm l e=(a++e::b,true,())):=by
 unfold Bm;rw[Qr hv]
 cases hf:l.findIdx? (fun x=>decide (x.aq=e.aq))with
 |some i=>
  obtain⟨hi,h2,_⟩:=List.findIdx?_eq_some_iff_getElem.1 hf;have hx:l[i]?=some l[i]:=Qv hi;have h2:=of_decide_eq_true h2;simp only[hx,Q3]
  by_cases hle:e.aN<=l[i].aN
  ·left;rw[Qr hle];exact⟨l[i],Q0 hi,h2,hle,rfl⟩
  ·right;rw[Qs hle];refine⟨l.take i,l.drop (i+1),.inl ⟨l[i],?_,h2,by omega⟩,?_⟩
   ·rw[List.getElem_cons_drop];exact(List.take_append_drop i l).symm
   ·rw[List.set_eq_take_append_cons_drop,Qr hi]
 |none=>
  right
  have hne:∀x∈l,x.aq≠e.aq:=fun x hx he=>by
   have:=List.findIdx?_eq_none_iff.1 hf x hx;rw[he]at this;simp at this
  refine⟨l.take (LP l e),l.drop (LP l e),.inr ⟨(List.take_append_drop _ l).symm,hne,?_,?_⟩,by rw[QL];rfl⟩
  ·intro x hx hlt;obtain⟨j,hj,rfl⟩:=List.getElem_of_mem hx;rw[List.getElem_take]at hlt;rw[List.length_take]at hj;unfold LP at hj
   cases hg:l.findIdx? (fun x=>decide (e.aq<x.aq))with
   |none=>
    have:=List.findIdx?_eq_none_iff.1 hg _ (Q0 (show j<l.length by omega))
    simp[hlt]at this
   |some k=>
    obtain⟨_,_,h3⟩:=List.findIdx?_eq_some_iff_getElem.1 hg;rw[hg,Q3]at hj;have:=h3 j (by omega)
    simp[hlt]at this
  ·intro x hx;rw[List.head?_drop]at hx;unfold LP at hx
   cases hg:l.findIdx? (fun x=>decide (e.aq<x.aq))with
   |none=>rw[hg,Option.getD_none,Qq71 (QI _)]at hx;cases hx
   |some k=>
    obtain⟨hk,h2,_⟩:=List.findIdx?_eq_some_iff_getElem.1 hg;rw[hg,Q3,Qv hk]at hx;obtain rfl:=Option.some.inj hx;exact of_decide_eq_true h2
theorem SY{l:List ai}{e:ai}{y:ai}(hy:y∈(Bm l e).1):y=e\/y∈l:=by
 by_cases hv:bm e=true
 ·rcases Hi (l:=l) hv with⟨x,_,_,_,h⟩|⟨a,b,h1,h⟩
  ·rw[h]at hy;exact .inr hy
  ·rw[h]at hy;rcases Qz.1 hy with hy|hy
   ·rcases h1 with⟨x,rfl,_⟩|⟨rfl,_⟩
    ·exact .inr (List.mem_append_left _ hy)
    ·exact .inr (List.mem_append_left _ hy)
   ·rcases QA.1 hy with hy|hy
    ·exact .inl hy
    ·rcases h1 with⟨x,rfl,_⟩|⟨rfl,_⟩
     ·exact .inr (List.mem_append_right _ (Qy _ hy))
     ·exact .inr (List.mem_append_right _ hy)
 ·unfold Bm at hy;rw[Qs hv]at hy;exact .inr hy
theorem Mr{l:List ai}{e:ai}(hl:l.Pairwise (fun a b=>a.aq<b.aq)):(Bm l e).1.Pairwise (fun a b=>a.aq<b.aq):=by
 by_cases hv:bm e=true
 ·rcases Hi (l:=l) hv with⟨x,_,_,_,h⟩|⟨a,b,h1,h⟩
  ·rw[h];exact hl
  ·rw[h];show(a++e::b).Pairwise _;rcases h1 with⟨x,rfl,hn,_⟩|⟨rfl,hne,ha,hb⟩
   ·rw[Qq68,Q4]at hl ⊢;obtain⟨g1,⟨g2,g3⟩,g4⟩:=hl;refine⟨g1,⟨fun y hy=> ?_,g3⟩,fun y hy z hz=> ?_⟩
    ·rw[<-hn];exact g2 y hy
    ·rcases QA.1 hz with rfl|hz
     ·rw[<-hn];exact g4 y hy x Qx
     ·exact g4 y hy z (Qy _ hz)
   ·rw[Qq68]at hl;rw[Qq68,Q4];obtain⟨g1,g3,g4⟩:=hl
    have hbe:∀y∈b,e.aq<y.aq:=by
     intro y hy
     cases b with
     |nil=>cases hy
     |cons z b=>
      have:=hb z rfl;rcases QA.1 hy with rfl|hy
      ·exact this
      ·have:=(Q4.1 g3).1 y hy;omega
    refine⟨g1,⟨hbe,g3⟩,fun y hy z hz=> ?_⟩
    rcases QA.1 hz with rfl|hz
    ·have h2:=ha y hy;have h3:=hne y (List.mem_append_left _ hy);omega
    ·exact g4 y hy z hz
 ·unfold Bm;rw[Qs hv];exact hl
structure Pq (m:ab) (e:ai):Prop where
 valid:bm e=true
 bb:ir e.ao
 bJ:e.bf=m.bf
 az:e.aq≠m.aq
 def Se(m:ab)(e:ai):ab:={m with aB:=(Bm m.aB e).1}
theorem P8{m:ab}(h:aY m){e:ai}(he:Pq m e):aY (Se m e):=by
 refine⟨h.n0,h.n1,h.bJ,h.seq,h.bb,h.sJ,fun y hy=> ?_,Mr h.kC,?_⟩
 ·rcases SY hy with rfl|hy
  ·exact⟨he.valid,he.bb,he.bJ,he.az⟩
  ·exact h.hv y hy
 ·rcases h.body with k|k|k|k
  ·exact .inl ⟨k.aE,k.aG,k.cP,k.bC,k.dq,k.low,k.bU⟩
  ·exact .inr (.inl ⟨k.aE,k.aG,k.cP,k.bC,k.dq,k.up,k.bU,k.low⟩)
  ·exact .inr (.inr (.inl ⟨k.aE,k.aG,k.cP,k.bC,k.dq,k.range⟩))
  ·exact .inr (.inr (.inr ⟨k.aE,k.aG,k.cP,k.bC,k.dq,k.range⟩))
def Sq(m:ab)(t:an):ab:={m with ao:=t}
theorem Rj{m:ab}(h:aY m){t:an}(ht:ir t):aY (Sq m t):=by
 refine⟨h.n0,h.n1,h.bJ,h.seq,ht,h.sJ,h.hv,h.kC,?_⟩;rcases h.body with k|k|k|k
 ·exact .inl ⟨k.aE,k.aG,k.cP,k.bC,k.dq,k.low,k.bU⟩
 ·exact .inr (.inl ⟨k.aE,k.aG,k.cP,k.bC,k.dq,k.up,k.bU,k.low⟩)
 ·exact .inr (.inr (.inl ⟨k.aE,k.aG,k.cP,k.bC,k.dq,k.range⟩))
 ·exact .inr (.inr (.inr ⟨k.aE,k.aG,k.cP,k.bC,k.dq,k.range⟩))
def gA(m:ab)(v:ByteArray):ab:=if aI m.aa=true then{m with bh:=v,aa:=⟨1,dJ {m with bh:=v}⟩}else{m with bh:=v}
theorem SO{v:ByteArray}(h:1<=v.size):v≠il:=by
 rintro rfl;exact absurd h (by decide)
theorem Px{m:ab}(h:P0 m){v:ByteArray}(hv:1<=v.size):dJ {m with bh:=v}=v:=by
 unfold dJ;rw[Qs (by rw[show({m with bh:=v}:ab).ar=m.ar from rfl,h.dq,bO];decide),Qs (by rw[show({m with bh:=v}:ab).aJ=m.aJ from rfl,h.aE];decide),Qr (SO hv)]
theorem DQ{m:ab}(h:aY m){v:ByteArray}(hv:1<=v.size/\v.size<=200):aY (gA m v):=by
 unfold gA;rcases h.body with k|k|k|k
 ·rw[Qr (by rw[k.aG];exact bO),Px k hv.1]
  refine⟨h.n0,h.n1,h.bJ,h.seq,h.bb,hv.2,h.hv,h.kC,.inr (.inl ⟨k.aE,⟨by show(1:Int)<=1;omega,by show(1:Int)<=1000;omega,hv.1,hv.2⟩,.inl k.cP,.inl k.bC,.inl k.dq,?_,k.bU,.inl k.low⟩)⟩
  show bd _ m.ar=false;rw[k.dq]
  cases hl:bd (⟨1,v⟩:af) bK with
  |false=>rfl
  |true=>have:=fY hl;exact absurd (show(1:Int)<=0 from this) (by decide)
 ·rw[Qs (by rw[k.aG.nz];decide)]
  exact⟨h.n0,h.n1,h.bJ,h.seq,h.bb,hv.2,h.hv,h.kC,.inr (.inl ⟨k.aE,k.aG,k.cP,k.bC,k.dq,k.up,k.bU,k.low⟩)⟩
 ·rw[Qs (by rw[k.aG.nz];decide)]
  exact⟨h.n0,h.n1,h.bJ,h.seq,h.bb,hv.2,h.hv,h.kC,.inr (.inr (.inl ⟨k.aE,k.aG,k.cP,k.bC,k.dq,k.range⟩))⟩
 ·rw[Qs (by rw[k.aG.nz];decide)]
  exact⟨h.n0,h.n1,h.bJ,h.seq,h.bb,hv.2,h.hv,h.kC,.inr (.inr (.inr ⟨k.aE,k.aG,k.cP,k.bC,k.dq,k.range⟩))⟩
def vL(m:ab):ab:={m with aQ:=if dJ m=m.aa.Value then m.aQ else 0,aa:=⟨m.aa.ae+1,dJ m⟩}
theorem Pw{m:ab}(h:aY m)(h3:m.aJ≠3)(hv:dJ m≠il):1<=(dJ m).size/\(dJ m).size<=200:=by
 have h1:m.aJ=1->(m.ar=bK\/cn m.ar)->1<=(dJ m).size/\(dJ m).size<=200:=fun hp hc=>by
  refine K8 h hp hc ?_;refine Classical.byContradiction fun hn=>hv ?_
  simp only[not_or,Classical.not_not]at hn;obtain⟨a1,a2,a3⟩:=hn;unfold dJ;rw[Qs (by rw[a3,bO];decide),Qs (by rw[hp];decide),Qs (by rw[a2];exact fun e=>e rfl),a1]
  rfl
 rcases h.body with k|k|k|k
 ·exact h1 k.aE (.inl k.dq)
 ·exact h1 k.aE (k.dq.imp_right And.left)
 ·unfold dJ;rcases k.dq with e|⟨hf,_⟩
  ·rw[Qs (by rw[e,bO];decide),Qr (by rw[k.aE];decide)]
   exact k.aG.2.2
  ·rw[Qr hf.nz];exact hf.2.2
 ·exact absurd k.aE h3
theorem VJ{m:ab}(k:P2 m):dJ m=m.aa.Value:=by
 unfold dJ;rcases k.dq with e|⟨hf,he⟩
 ·rw[Qs (by rw[e,bO];decide),Qr (by rw[k.aE];decide)]
 ·rw[Qr hf.nz,he]
theorem Pz{m:ab}(h:aY m)(h3:m.aJ≠3)(hv:dJ m≠il)(hc:m.aa.ae<1000):aY (vL m):=by
 have hsz:=Pw h h3 hv;refine⟨h.n0,h.n1,h.bJ,h.seq,h.bb,h.sJ,h.hv,h.kC,?_⟩;have hfin:0<=m.aa.ae->cn (vL m).aa:=fun h0=>⟨by show 1<=m.aa.ae+1;omega,by show m.aa.ae+1<=1000;omega,hsz⟩
 rcases h.body with k|k|k|k
 ·have h0:m.aa.ae=0:=by rw[k.aG];rfl
  refine .inr (.inl ⟨k.aE,hfin (by omega),.inl k.cP,.inl k.bC,.inl k.dq,?_,k.bU,.inl ?_⟩)
  ·show bd (⟨m.aa.ae+1,dJ m⟩:af) m.ar=false;rw[k.dq]
   cases hl:bd (⟨m.aa.ae+1,dJ m⟩:af) bK with
   |false=>rfl
   |true=>have:=fY hl;exact absurd (show m.aa.ae+1<=0 from this) (by omega)
  ·show(if dJ m=m.aa.Value then m.aQ else 0)=0
   rw[k.low,ite_self]
 ·have hb:=k.aG;have h0:0<=m.aa.ae:=by have:=hb.1;omega
  refine .inr (.inl ⟨k.aE,hfin h0,k.cP,k.bC,k.dq,?_,k.bU,?_⟩)
  ·show bd (⟨m.aa.ae+1,dJ m⟩:af) m.ar=false
   cases hl:bd (⟨m.aa.ae+1,dJ m⟩:af) m.ar with
   |false=>rfl
   |true=>
    have h1:=fY hl;have h2:=DV k.up;exact absurd (show m.aa.ae+1<=m.ar.ae from h1) (by omega)
  ·show(if dJ m=m.aa.Value then m.aQ else 0)=0\/_
   by_cases he:dJ m=m.aa.Value
   ·have hlow:(vL m).aQ=m.aQ:=by show(if dJ m=m.aa.Value then m.aQ else 0)=m.aQ;rw[Qr he]
    have hhigh:eH (vL m)=eH m:=by
     show(if(!aI m.ar&&bI m.ar ⟨m.aa.ae+1,dJ m⟩)=true then m.ar.ae else 0)=eH m
     rw[he];rfl
    rw[Qr he,hlow,hhigh];rcases k.low with e|⟨g1,g2,g3⟩
    ·exact .inl e
    ·refine .inr ⟨g1,g2,?_⟩;show mU m.ak m.au (dJ m) m.aQ=false;rw[he];exact g3
   ·rw[Qs he];exact .inl rfl
 ·have hb:=k.aG;have h0:0<=m.aa.ae:=by have:=hb.1;omega
  have hv2:=VJ k;have hval:(vL m).aa.Value=m.aa.Value:=hv2;have hlow:(vL m).aQ=m.aQ:=by show(if dJ m=m.aa.Value then m.aQ else 0)=m.aQ;rw[Qr hv2]
  refine .inr (.inr (.inl ⟨k.aE,hfin h0,?_,k.bC,?_,?_⟩))
  ·rw[hval];exact k.cP
  ·rw[hval];exact k.dq
  ·rw[hlow];exact k.range
 ·exact absurd k.aE h3
end
section
theorem yF{m:ab}{v:ByteArray}:(aI m.aa=false->aI (gA m v).aa=false)/\(gA m v).aN=m.aN:=by
 unfold gA;split
 ·rename_i hz;refine⟨fun e=> ?_,rfl⟩
  rw[hz]at e;cases e
 ·exact⟨fun e=>e,rfl⟩
theorem SJ{m:ab}(h:aY m):aI (vL m).aa=false:=by
 have:0<=m.aa.ae:=by
  rcases h.body with k|k|k|k
  ·rw[k.aG];decide
  ·have:=k.aG.1;omega
  ·have:=k.aG.1;omega
  ·have:=k.aG.1;omega
 cases hz:aI (vL m).aa with
 |false=>rfl
 |true=>
  have:=rP.1 hz;have h2:m.aa.ae+1=0:=congrArg af.ae this;omega
section
variable {R : ab -> Prop} (hR1 : ∀ m, aY m -> R m -> R (cQ m)) (hR2 : ∀ m, R m -> R (eK m)) {m : ab} (h : aY m) (hs : gb m)
 include hR1 hR2 h hs
end
def Bs(az bJ:Int)(t:an):ab:=⟨az,bJ,0,t,1,bK,bK,bK,bK,0,0,il,[]⟩
theorem Xy{az bJ:Int}{t:an}(h0:0<=az)(h1:az<10)(h2:1<=bJ)(h3:bJ<=1000000)(ht:ir t):qZ az bJ t=some (Bs az bJ t,(0:Int),()):=by
 unfold qZ;simp only[etas,Qh (show¬az<0 by omega),Qh (show¬(10:Int)<=az by omega),Qh (show¬bJ<1 by omega),Qh (show¬(1000000:Int)<bJ by omega),Ql,Qa,dH ht,decide_true,Qo,po ht.sm]
 rfl
theorem Tu{az bJ:Int}{t:an}(h0:0<=az)(h1:az<10)(h2:1<=bJ)(h3:bJ<=1000000)(ht:ir t):aY (Bs az bJ t)/\gb (Bs az bJ t):=
 ⟨⟨h0,h1,⟨h2,h3⟩,⟨by show(0:Int)<=0;omega,by show(0:Int)<=1000000;omega⟩,ht,(by show il.size<=200;decide),(fun e he=>absurd he QR),List.Pairwise.nil,.inl ⟨rfl,rfl,rfl,rfl,rfl,rfl,rfl⟩⟩,⟨fun _=>rfl,fun hz=>absurd (show aI bK=false from hz) (by rw[bO];decide)⟩⟩
section
variable {R : ab -> Prop} (hR1 : ∀ m, aY m -> R m -> R (cQ m)) (hR2 : ∀ m, R m -> R (eK m)) {m : ab} (h : aY m) (hs : gb m)
 include hR1 hR2 h hs
theorem Rt{m1:ab}(h1:aY m1)(hz1:aI m1.aa=true->m1.aN=0)(hnz:aI m.aa=false->aI m1.aa=false)(hn:m1.aq=m.aq)(hsl:m1.bf=m.bf)(hr:R m1):
  Yd (Option.bind (eY ⟨m1⟩) fun p4=>
   bu (fun(v5:av×Unit)=>some (v5.1.aj,(0:Int),())) fun j6=>
   bu (fun(v7:Bool×Unit)=>
   bif v7.1 then
   j6 ((av.mk (ab.mk p4.2.aj.aq p4.2.aj.bf (dp (aA .i64 p4.2.aj.aN (1:Int)) (1000000:Int)) p4.2.aj.ao p4.2.aj.aJ p4.2.aj.aa p4.2.aj.ak p4.2.aj.au p4.2.aj.ar p4.2.aj.aQ p4.2.aj.bg p4.2.aj.bh p4.2.aj.aB)),())
   else
   j6 (p4.2,())) fun j8=>
   Option.bind (aW m.aa) fun r9=>
   bif (!r9)then
   Option.bind (cY m) fun r10=>
   Option.bind (cY p4.2.aj) fun r11=>
   Option.bind (ln r10 r11) fun r12=>
   j8 ((!r12),())
   else
   j8 (false,())) (Vw R m m1):=by
 refine Yd.bind (Ph hR1 hR2 h1 hz1 hr) fun q hq=> ?_
 obtain⟨m2,rfl,ha⟩:=hq;have hq:=ha.inv.seq;have hadd:aA .i64 m2.aN 1=m2.aN+1:=cO (by omega) (by omega)
 obtain⟨r,g1,g2⟩:=UI (fO m) (fO m2) (by rw[vZ];exact h.bb.sm) (by rw[sf,sf,ha.env.1,hn]) (by rw[xN,xN,ha.env.2.1,hsl])
 simp only[bq,bX,Qa,uG,yH h,yH ha.inv,hadd,g1];have hb:=Um h1 ha;refine Yd.of_eq (x:=(s7 m m2,(0:Int),())) ?_ ⟨m2,rfl,hb⟩;unfold s7
 cases hz:aI m.aa with
 |true=>rw[Qs (by rintro⟨e,_⟩;cases e)];rfl
 |false=>
  cases r with
  |true=>rw[Qs (fun e=>e.2 (g2.1 rfl))];rfl
  |false=>rw[Qr ⟨rfl,fun e=>by have:=g2.2 e;cases this⟩];rfl
theorem PR{v:ByteArray}(hv:1<=v.size/\v.size<=200)(hr:R (gA m v)):Yd (kL m v) (Vw R m (gA m v)):=by
 have d1:decide (((ByteArray.size v:Nat):Int)<(1:Int))=false:=Qh (by omega)
 have d2:decide ((200:Int)<((ByteArray.size v:Nat):Int))=false:=Qh (by omega)
 have hi:=DQ h hv;have hval:dI ⟨{m with bh:=v}⟩=some (dJ {m with bh:=v}):=IZ (m:={m with bh:=v}) ⟨h.ev.n0,h.ev.n1,h.ev.bb,h.ev.len,h.ev.sm,h.ev.valid⟩
 have hdo:lL ⟨m⟩ v=some ((0:Int),⟨gA m v⟩):=by
  unfold lL gA;simp only[ab.eta,av.eta,d1,d2,Ql,Qa,bX,bq]
  cases hz:aI m.aa with
  |true=>
   simp only[Qk,Qt,etas];rw[show(⟨m.aq,m.bf,m.aN,m.ao,m.aJ,m.aa,m.ak,m.au,m.ar,m.aQ,m.bg,v,m.aB⟩:ab)={m with bh:=v}from rfl,hval]
   rfl
  |false=>simp only[Ql,Qq,Qu,etas]
 unfold kL nF;simp only[ab.eta,etas,ai.eta,av.eta,CI h hs,J2 h,hdo,Qa,Qo,Ql,decide_true];refine Yd.bind (Rt hR1 hR2 h hs hi (fun hz=>by rw[yF.2];exact hs.zero (by cases hc:aI m.aa with|true=>rfl|false=>rw[yF.1 hc]at hz;cases hz)) yF.1 (by unfold gA;split<;>rfl) (by unfold gA;split<;>rfl) hr) fun q hq=> ?_
 obtain⟨m2,rfl,ha⟩:=hq;exact .some ⟨m2,rfl,ha⟩
end
theorem PS{m:ab}(h:aY m)(hs:gb m):∃e,kM m=some (e,!aI m.aa,())/\(aI m.aa=false->e=fO m):=by
 unfold kM;simp only[ab.eta,etas,ai.eta,bX,CI h hs,J2 h,uG,yH h,Qa]
 cases aI m.aa with
 |true=>exact⟨_,rfl,fun e=>by cases e⟩
 |false=>exact⟨_,rfl,fun _=>rfl⟩
theorem I5{m:ab}(h:aY m)(hs:gb m):kN m=some (bif decide (m.aJ=3)then m.aa.Value else il,decide (m.aJ=3),()):=by
 unfold kN;simp only[ab.eta,etas,CI h hs,Qa];cases decide (m.aJ=3)<;>rfl
end
section
def gT(n:Nat)(k:Int)(i s:Nat):Bool:=s.testBit i&&decide (k<=(((oE n).countP (jx s):Nat):Int))
def bT(n:Nat)(k:Int)(i s:Nat):Bool:= !decide (k<=(((oE n).countP (jx (wh s i)):Nat):Int))
structure qW (n:Nat) (k:Int) (m:ab):Prop where
 n10:n<=10
 k1:1<=k
 kn:k<=n
 bb:m.ao=flat n k
 heard:∀e∈m.aB,e.ao=flat n k
theorem qW.all{n:Nat}{k:Int}{m:ab}(hf:qW n k m){e:ai}(he:e∈aS m):e.ao=flat n k:=by
 rcases ug he with he|⟨_,rfl⟩
 ·exact hf.heard e he
 ·rw[zJ];exact hf.bb
section
variable {n : Nat} {k : Int} {m : ab} (h : aY m) (hf : qW n k m)
 include h
theorem tH:bM (aS m)=aS m:=EW h.jl
 include hf
theorem IL{j:Nat}(hj:j<10)(hs:j=m.aq.toNat\/∃e∈aS m,e.aq.toNat=j):nn (fu m.aq.toNat m.ao (aS m)) j=true/\k9 (fu m.aq.toNat m.ao (aS m)) j=flat n k:=
 NG h.ev.az.2 (fun _=>flat n k) hf.bb.symm (fun e he=>by rw[tH h]at he;exact hf.all he) hj (by rw[tH h];exact hs)
theorem MM{s:Nat}(hs:∀j,s.testBit j=true->∃e∈aS m,e.aq.toNat=j):(gq (fu m.aq.toNat m.ao (aS m)) s).testBit m.aq.toNat=gT n k m.aq.toNat s:=by
 have hs10:∀j,s.testBit j=true->j<10:=fun j hj=>by
  obtain⟨e,he,rfl⟩:=hs j hj;have:=jM (h.jl e he);omega
 have hg:=CB (q7 (az:=m.aq.toNat) h.bb.sm h.ev.n3.1) (yI hs10);have hi:=IL h hf h.ev.az.2 (.inl rfl);unfold gT;rw[QW,Qm,Qi];constructor
 ·intro hb;have h1:=hg.inside _ hb;refine⟨h1.1,?_⟩;have h3:=h1.2.2;rw[hi.2,DM]at h3;have h3:=of_decide_eq_true h3;have h2:=M5 (s':=s) (fun j hj=>(hg.inside j hj).1) (oE n)
  omega
 ·rintro⟨hb,hc⟩;refine hg.max s (fun j hj=> ?_) _ hb
  obtain⟨g1,g2⟩:=IL h hf (hs10 j hj) (.inr (hs j hj));exact⟨hj,g1,by rw[g2,DM];exact Qg hc⟩
theorem Rx(s:Nat):ud (fu m.aq.toNat m.ao (aS m)) m.aq.toNat s=bT n k m.aq.toNat s:=by
 obtain⟨g1,g2⟩:=IL h hf h.ev.az.2 (.inl rfl);unfold ud bT;rw[g1,g2,DM,Bool.true_and]
end
theorem Cg{p:ai->Bool}{l:List ai}{j:Nat}(hb:(dQ p l).testBit j=true):∃e∈l,e.aq.toNat=j:=by
 rw[q5,List.any_eq_true]at hb;obtain⟨e,he,hp⟩:=hb;rw[Qm,Qi]at hp;exact⟨e,he,hp.2⟩
theorem IB{p q:ai->Bool}{l:List ai}{j:Nat}(hb:(dQ p l|||dQ q l).testBit j=true):∃e∈l,e.aq.toNat=j:=by
 rw[Nat.testBit_or,Qn]at hb;rcases hb with hb|hb
 ·exact Cg hb
 ·exact Cg hb
def Kg(n:Nat)(k:Int)(i:Nat)(l:List ai)(b:af):Bool:=bT n k i (dQ (dY · b) l)||gT n k i (dQ (fun e=>uC e b||dY e b) l|||dQ (dY · b) l)
def FR(n:Nat)(k:Int)(i:Nat)(l:List ai)(b:af):Bool:=gT n k i (dQ (dY · b) l)
def oQ(n:Nat)(k:Int)(i:Nat)(l:List ai)(v:ByteArray)(lo hi:Int):Bool:=bT n k i (dQ (iv · v lo hi) l)||gT n k i (dQ (fun e=>wz e v lo hi||iv e v lo hi) l|||dQ (iv · v lo hi) l)
def EI(n:Nat)(k:Int)(i:Nat)(l:List ai)(v:ByteArray)(lo hi:Int):Bool:=gT n k i (dQ (iv · v lo hi) l)
def R1(e:ai):List af:=if e.bW=1 then[e.aa,e.ak,e.au]else if e.bW=2 then[e.ak,at_ e 1000000]else[at_ e 1000000]
def pA(l:List ai):List af:=((l.flatMap R1).filter fun b=> !aI b).foldl (fun l x=>pc (fun x y=>bd y x) x l) []
def Gl(l:List ai):List ByteArray:=(l.map (·.aa.Value)).foldl (fun l x=>pc lJ x l) []
def Iw(v:ByteArray)(e:ai):List Int:=if e.aa.Value=v/\e.aQ≠0 then[e.aQ,e.bg]else[]
def oo(l:List ai)(v:ByteArray):List Int:=(l.flatMap (Iw v)).foldl (fun l x=>pc (fun a b=>decide (a<b)) x l) []
section
variable {l : List ai} (hv : ∀ e ∈ l, bm e = true) (hsm : ∀ e ∈ l, ea e.ao) (hlen : l.length <= 1000)
 include hv hsm hlen
theorem HS:eW l=pA l:=by
 obtain⟨_,h2,_,h4⟩:=oq hsm hlen;obtain⟨h5,h6⟩:=Fz xv.flip ((l.flatMap R1).filter fun b=> !aI b) [] .nil
 refine xv.flip.unique h2 h5 fun x=> ?_
 unfold pA;rw[h4,h6];simp only[List.mem_filter,QQ,QR,or_false,Bool.not_eq_true'];constructor
 ·rintro⟨e,he,hx,hz⟩;refine⟨⟨e,he,?_⟩,hz⟩;unfold said at hx;rw[hv e he]at hx;exact hx
 ·rintro⟨⟨e,he,hx⟩,hz⟩;refine⟨e,he,?_,hz⟩;unfold said;rw[hv e he];exact hx
theorem Pu:gy l=Gl l:=by
 obtain⟨_,h2,_,h4⟩:=sy hsm hlen;obtain⟨h5,h6⟩:=Fz um (l.map (·.aa.Value)) [] .nil;refine um.unique h2 h5 fun x=> ?_
 unfold Gl;rw[h4,h6];simp only[QP,QR,or_false];constructor
 ·rintro⟨e,he,_,rfl⟩;exact⟨e,he,rfl⟩
 ·rintro⟨e,he,rfl⟩;exact⟨e,he,hv e he,rfl⟩
theorem Ey:cm l=oo l:=by
 funext v
 obtain⟨_,h2,_,h4⟩:=mq hsm hlen v;obtain⟨h5,h6⟩:=Fz Cj (l.flatMap (Iw v)) [] .nil;refine Cj.unique (h2.imp fun hab=>Qg hab) h5 fun x=> ?_
 unfold oo;rw[h4,h6,tM];simp only[QQ,QR,or_false];constructor
 ·rintro⟨e,he,hb,hx⟩;refine⟨e,he,?_⟩;simp only[jN,Qm,Qi,Bool.not_eq_true',Qj]at hb;unfold Iw;rw[Qr ⟨hb.1.2,hb.2⟩];simpa using hx
 ·rintro⟨e,he,hx⟩;unfold Iw at hx;split at hx
  ·rename_i hc;refine⟨e,he,?_,by simpa using hx⟩
   simp only[jN,Qm,Qi,Bool.not_eq_true',Qj];exact⟨⟨hv e he,hc.1⟩,hc.2⟩
  ·cases hx
end
section
variable {n : Nat} {k : Int} {m : ab} (h : aY m) (hf : qW n k m)
 include h hf
theorem Wr:jE m.aq.toNat m.ao (aS m)=Kg n k m.aq.toNat (aS m):=by
 funext b
 unfold jE mn Kg;rw[tH h,Rx h hf,MM h hf fun j hj=>IB hj]
theorem Vl:iW m.aq.toNat m.ao (aS m)=FR n k m.aq.toNat (aS m):=by
 funext b
 unfold iW FR;rw[tH h,MM h hf fun j hj=>Cg hj]
theorem Le:eR m=oQ n k m.aq.toNat (aS m):=by
 funext v lo hi
 unfold eR pr mn oQ;rw[tH h,Rx h hf,MM h hf fun j hj=>IB hj]
theorem UC:zt m=EI n k m.aq.toNat (aS m):=by
 funext v lo hi
 unfold zt rE EI;rw[tH h,MM h hf fun j hj=>Cg hj]
end
def Pb(x:ByteArray->Int->Int->Bool)(p q:af)(v:ByteArray)(s:Bool×af)(n:Int):Bool×af:=
 if bd s.2 ⟨n,v⟩&& !mU p q v n&&x v n n then(true,⟨n,v⟩)else s
def Iz(x:ByteArray->Int->Int->Bool)(l:List ai)(p q:af):Bool×af:=
 (Gl l).foldl (fun s v=>(oo l v).foldl (Pb x p q v) s) (false,⟨0,il⟩)
def FN(x:ByteArray->Int->Int->Bool)(l:List ai)(p q:af)(s:Bool×af):ByteArray×Int×Int×Bool×Unit:=
 if s.1 then(s.2.Value,dX (fun n=> !mU p q s.2.Value n&&x s.2.Value n s.2.ae) (oo l s.2.Value).reverse s.2.ae,s.2.ae,true,())else(il,0,0,false,())
def Re(b:List Int)(ready:Int->Int->Bool)(low bU:Int):Int×Int:=
 match b.reverse.find? (fun n=>decide (bU<n)&&ready n n)with
 |none=>(dX (fun x=>ready x bU) b.reverse low,bU)
 |some n=>
  let bottom:=dX (fun x=>ready x n) b.reverse n
  (dX (fun x=>ready x n) b.reverse (if bU<bottom - 1\/bottom<low then bottom else low),n)
def N8(nx:af)(m:ab):ab:=
 if m.aJ=3\/aI m.aa=true then m else
  {m with ak:=(cJ m.ak m.au (dh nx)).1,au:=(cJ m.ak m.au (dh nx)).2,aQ:=qm m (cJ m.ak m.au (dh nx)).1 (cJ m.ak m.au (dh nx)).2}
def N6(hg:af)(m:ab):ab:=if m.aJ≠1\/aI m.aa=true\/aI hg=true then m else mW (vB m hg) hg
def Od(fs:ByteArray×Int×Int×Bool×Unit)(ex:Int×Int)(m:ab):ab:=
 if m.aJ=1 then(if fs.2.2.2.1=true then Eu m fs.1 fs.2.1 fs.2.2.1 else m)
 else if m.aJ=2 then tz m ex.1 ex.2 else m
def Ob(fn:Int×Int×Bool×Unit)(m:ab):ab:=if m.aJ=2/\fn.2.2.1=true then CF m fn.1 fn.2.1 else m
def Rv(ah:Int->Bool)(m:ab):Int:=m.aB.foldl (fun B3 e=>if m.aa.ae<fo e/\fo e<B3/\ah (fo e)=false then fo e else B3) 1000000
def Sa(m:ab):ByteArray:=if m.aJ=1 then dJ m else m.aa.Value
def I3(ah:Int->Bool)(m:ab):ab:=
 if m.aJ=3\/ah m.aa.ae=false then m
 else{m with aQ:=if Sa m=m.aa.Value then m.aQ else 0,aa:=⟨bn m.aa.ae (dp (Rv ah m) 1000),Sa m⟩}
def F5(n:Nat)(k:Int)(m:ab)(c:Int):Bool:=bT n k m.aq.toNat (ze m c)
def Ct(m p r:ab):ab:=bif xy m p then r else p
def stepT(n:Nat)(k:Int)(m:ab):ab:=
 Ct m (N8 (((pA (aS m)).find? (vR (Kg n k m.aq.toNat (aS m)) m.ak m.au (Dg m))).getD xF) m)<|
 Ct m (N6 (((pA (aS m)).find? (vX (FR n k m.aq.toNat (aS m)) m.ar)).getD xF) m)<|
 Ct m (Od (FN (oQ n k m.aq.toNat (aS m)) (aS m) m.ak m.au (Iz (oQ n k m.aq.toNat (aS m)) (aS m) m.ak m.au)) (Re (oo (aS m) m.aa.Value) (oQ n k m.aq.toNat (aS m) m.aa.Value) m.aQ m.bg) m)<|
 Ct m (Ob (w6 (oo (aS m) m.aa.Value) (EI n k m.aq.toNat (aS m) m.aa.Value)) m)<|
 I3 (F5 n k m) m
open Classical in
theorem Cs{m m' r:ab}(he:gF m m'):Ct m m' r=if m'=m then r else m':=by
 unfold Ct
 by_cases h:m'=m
 ·rw[Qr h,h,Me];rfl
 ·rw[Qs h,PY he h];rfl
section
variable {n : Nat} {k : Int} {m : ab} (h : aY m) (hf : qW n k m)
 include h hf
theorem V3:dU m=((pA (aS m)).find? (vR (Kg n k m.aq.toNat (aS m)) m.ak m.au (Dg m))).getD xF:=by
 unfold dU iK;rw[Wr h hf,HS h.jl h.ev.n3.1.bb h.ev.n3.2]
theorem V9:iQ m=((pA (aS m)).find? (vX (FR n k m.aq.toNat (aS m)) m.ar)).getD xF:=by
 unfold iQ vY;rw[Vl h hf,HS h.jl h.ev.n3.1.bb h.ev.n3.2]
theorem Wk:fA m=FN (oQ n k m.aq.toNat (aS m)) (aS m) m.ak m.au (Iz (oQ n k m.aq.toNat (aS m)) (aS m) m.ak m.au):=by
 unfold fA ph fT FN Iz;rw[Le h hf,Ey h.jl h.ev.n3.1.bb h.ev.n3.2,Pu h.jl h.ev.n3.1.bb h.ev.n3.2];rfl
theorem Wo:dy m=Re (oo (aS m) m.aa.Value) (oQ n k m.aq.toNat (aS m) m.aa.Value) m.aQ m.bg:=by
 unfold dy;rw[Le h hf,Ey h.jl h.ev.n3.1.bb h.ev.n3.2];rfl
theorem Wn:kU m=w6 (oo (aS m) m.aa.Value) (EI n k m.aq.toNat (aS m) m.aa.Value):=by
 unfold kU;rw[UC h hf,Ey h.jl h.ev.n3.1.bb h.ev.n3.2]
theorem LS:hU m=F5 n k m:=by
 funext c
 exact Rx h hf _
theorem S8:eE m=I3 (F5 n k m) m:=by
 have e:fj m=Rv (F5 n k m) m:=by
  unfold fj Rv ka;rw[LS h hf]
 unfold eE I3;rw[LS h hf,e];rfl
theorem UE:cQ m=stepT n k m:=by
 have eP:N8 (((pA (aS m)).find? (vR (Kg n k m.aq.toNat (aS m)) m.ak m.au (Dg m))).getD xF) m=cy m:=by rw[<-V3 h hf];rfl
 have eS:N6 (((pA (aS m)).find? (vX (FR n k m.aq.toNat (aS m)) m.ar)).getD xF) m=ga m:=by rw[<-V9 h hf];rfl
 have eC:Od (FN (oQ n k m.aq.toNat (aS m)) (aS m) m.ak m.au (Iz (oQ n k m.aq.toNat (aS m)) (aS m) m.ak m.au)) (Re (oo (aS m) m.aa.Value) (oQ n k m.aq.toNat (aS m) m.aa.Value) m.aQ m.bg) m=fE m:=by rw[<-Wk h hf,<-Wo h hf];rfl
 have eF:Ob (w6 (oo (aS m) m.aa.Value) (EI n k m.aq.toNat (aS m) m.aa.Value)) m=iX m:=by rw[<-Wn h hf];rfl
 unfold cQ stepT;rw[eP,eS,eC,eF,<-S8 h hf,Cs (uE m),Cs (rX m),Cs (rZ m),Cs (rY m)]
end
 def sW:Nat->ab->ab
 |0,m=>m
 |j+1,m=>sW j (cQ m)
theorem Eb:∀(j:Nat) (m:ab),sW (j+1) m=cQ (sW j m)
 |0,_=>rfl
 |j+1,m=>Eb j (cQ m)
theorem GI{m:ab}(h:aY m):∀j,aY (sW j m)
 |0=>h
 |j+1=>by rw[Eb];exact A7 (GI h j)
theorem Ec{m:ab}(h:cQ m=m):∀j,sW j m=m
 |0=>rfl
 |j+1=>by rw[sW,h];exact Ec h j
theorem GJ:∀(i j:Nat) (m:ab),sW (i+j) m=sW j (sW i m)
 |0,j,m=>by rw[Nat.zero_add];rfl
 |i+1,j,m=>by rw[show i+1+j=(i+j)+1 by omega,sW,GJ i j];rfl
theorem TB{m:ab}{i j:Nat}(hi:cQ (sW i m)=sW i m)(hj:cQ (sW j m)=sW j m):sW i m=sW j m:=by
 rcases Nat.le_total i j with hl|hl
 ·have:=GJ i (j - i) m;rw[Ec hi]at this;rw[<-this,show i+(j - i)=j by omega]
 ·have:=GJ j (i - j) m;rw[Ec hj]at this;rw[<-this,show j+(i - j)=i by omega]
theorem Bc{m m':ab}(he:gF m m')(s:Int):({m' with aN:=s}:ab)={m with aN:=s}↔m'=m:=by
 constructor
 ·intro h;have e1:m'.aJ=m.aJ:=(congrArg ab.aJ h:_);have e2:m'.aa=m.aa:=(congrArg ab.aa h:_);have e3:m'.ak=m.ak:=(congrArg ab.ak h:_);have e4:m'.au=m.au:=(congrArg ab.au h:_);have e5:m'.ar=m.ar:=(congrArg ab.ar h:_);have e6:m'.aQ=m.aQ:=(congrArg ab.aQ h:_);have e7:m'.bg=m.bg:=(congrArg ab.bg h:_);exact tN he e1 e2 e3 e4 e5 e6 e7
 ·rintro rfl;rfl
open Classical in
theorem G9{m:ab}(h:aY m){s:Int}(hs:0<=s/\s<=1000000):cQ {m with aN:=s}={cQ m with aN:=s}:=by
 unfold cQ;rw[N7 h hs,N5 h hs,Oc h hs,Oa h hs,N9 h hs];simp only[Bc (uE m),Bc (rX m),Bc (rZ m),Bc (rY m)]
 by_cases hP:cy m=m
 ·by_cases hS:ga m=m
  ·by_cases hC:fE m=m
   ·by_cases hF:iX m=m
    ·simp only[Qr hP,Qr hS,Qr hC,Qr hF]
    ·simp only[Qr hP,Qr hS,Qr hC,Qs hF]
   ·simp only[Qr hP,Qr hS,Qs hC]
  ·simp only[Qr hP,Qs hS]
 ·simp only[Qs hP]
def Reach(m x:ab):Prop:=∃j s,(0<=s/\s<=1000000)/\x={sW j m with aN:=s}
theorem SR{m:ab}(h:aY m):∀x,aY x->Reach m x->Reach m (cQ x):=by
 rintro x _ ⟨j,s,hs,rfl⟩;exact⟨j+1,s,hs,by rw[G9 (GI h j) hs,Eb]⟩
theorem SQ{m:ab}:∀x,Reach m x->Reach m (eK x):=by
 rintro x ⟨j,s,hs,rfl⟩;unfold eK;split
 ·exact⟨j,bn s 1,by unfold bn;split<;>omega,rfl⟩
 ·exact⟨j,s,hs,rfl⟩
theorem SS{m:ab}(h:aY m):Reach m m:=⟨0,m.aN,h.seq,rfl⟩
def runT(n:Nat)(k:Int):Nat->ab->Option ab
 |0,_=>none
 |f+1,m=>if xy m (stepT n k m)=true then some m else runT n k f (stepT n k m)
theorem qW.step{n:Nat}{k:Int}{m m':ab}(hf:qW n k m)(he:gF m m'):qW n k m':=⟨hf.n10,hf.k1,hf.kn,by rw[he.bb];exact hf.bb,by rw[he.heard];exact hf.heard⟩
theorem NU{n:Nat}{k:Int}:∀{f:Nat} {m z:ab},aY m->qW n k m->runT n k f m=some z->∃j,sW j m=z/\cQ z=z
 |0,m,z,_,_,e=>by cases e
 |f+1,m,z,h,hf,e=>by
  rw[runT,<-UE h hf]at e;split at e
  ·rename_i hs;obtain rfl:=Option.some.inj e;exact⟨0,rfl,IM (xw m) hs⟩
  ·obtain⟨j,h1,h2⟩:=NU (A7 h) (hf.step (xw m)) e;exact⟨j+1,h1,h2⟩
theorem Wq{n:Nat}{k:Int}{f:Nat}{m1 z m m2:ab}(h:aY m1)(hf:qW n k m1)(hz:runT n k f m1=some z)(ha:Ky (Reach m1) m m2):m2={z with aN:=m2.aN}:=by
 obtain⟨j,s,hs,e⟩:=ha.rel;obtain⟨i,h1,h2⟩:=NU h hf hz;have h3:=Rc ha.fix;rw[e,G9 (GI h j) hs]at h3;have h4:=(Bc (xw (sW j m1)) s).1 h3;rw[<-h1]at h2;have h5:=TB h2 h4;rw[e,<-h5,h1]
structure Sw (n:Nat) (k:Int) (m:ab):Prop where
 inv:aY m
 seq:gb m
 flat:qW n k m
 nz:aI m.aa=false
 bJ:m.bf=1
theorem Sw.env{n:Nat}{k:Int}{m:ab}(h:Sw n k m):bm (fO m)=true/\(fO m).ao=Go.Proofs.YtjbfdglebjnelaaGreat.flat n k/\(fO m).bf=1:=⟨Lm h.inv h.seq h.nz,by rw[vZ];exact h.flat.bb,by rw[xN];exact h.bJ⟩
end
section
section
variable {n : Nat} {k : Int}
end
end
section
section
variable {n : Nat} {k : Int} (hn : n <= 10) (hk1 : 1 <= k) (hkn : k <= n) {i : Int} (hi0 : 0 <= i) (hi9 : i < 10) {v : ByteArray} (hv : 1 <= v.size /\ v.size <= 200)
 include hn hk1 hkn hi0 hi9
 include hv
end
end
section
def Gi(m m1:ab):Prop:=
 (∃v,(1<=v.size/\v.size<=200)/\m1=gA m v)\/(∃e,Pq m e/\m1=Se m e)\/(m.aJ≠3/\dJ m≠il/\m.aa.ae<1000/\m1=vL m)\/(∃t,ir t/\m1=Sq m t)
structure WC (m m1:ab):Prop where
 inv:aY m1
 az:m1.aq=m.aq
 bJ:m1.bf=m.bf
 seq:m1.aN=m.aN
 nz:aI m.aa=false->aI m1.aa=false
theorem Rz{m m1:ab}(h:aY m)(hb:Gi m m1):WC m m1:=by
 rcases hb with⟨v,hv,rfl⟩|⟨e,he,rfl⟩|⟨h3,hv,hc,rfl⟩|⟨t,ht,rfl⟩
 ·exact⟨DQ h hv,by unfold gA;split<;>rfl,by unfold gA;split<;>rfl,yF.2,yF.1⟩
 ·exact⟨P8 h he,rfl,rfl,rfl,fun e=>e⟩
 ·exact⟨Pz h h3 hv hc,rfl,rfl,rfl,fun _=>SJ h⟩
 ·exact⟨Rj h ht,rfl,rfl,rfl,fun e=>e⟩
structure X9 (m:ab):Prop where
 inv:aY m
 seq:gb m
 fix:Nt m
 az:m.aq=0
 bJ:m.bf=1
theorem NJ{v:ByteArray}(h:HW v):1<=v.size/\v.size<=200:=by
 have:=h.size;omega
end
section
abbrev Lp{σ ρ:Type}(I:σ->Prop)(p:ρ->Prop):σ⊕ρ->Prop
 | .inl s=>I s
 | .inr r=>p r
theorem Yd.Sp{σ ρ:Type}{step:σ->Option (σ⊕ρ)}{p:ρ->Prop}(inv:σ->Prop)(μ:σ->Nat)(h:∀s,inv s->Yd (step s) (Lp (fun s'=>inv s'/\μ s'<μ s) p)){s:σ}(hs:inv s):Yd (aD step s) p:=
 Yd.down inv μ (fun s hi=>(h s hi).mono fun y hy=>by cases y<;>exact hy) hs
theorem Yd.list{α σ τ ρ:Type}{p:ρ->Prop}{step:τ->Option (τ⊕ρ)}(l:List α)(hl:l.length<=1000000)(mk:Int->σ->τ)(inv:Nat->σ->Prop)
  (h1:∀(i:Nat) (x:α) (s:σ),inv i s->l.drop i=x::l.drop (i+1)->x∈l->i<l.length->decide ((i:Int)<((l.length:Nat):Int))=true->idx l (i:Int)=some x->aA .i64 (i:Int) 1=((i+1:Nat):Int)->Yd (step (mk (i:Int) s)) (Lp (fun t=>∃s',t=mk ((i+1:Nat):Int) s'/\inv (i+1) s') p))
  (h2:∀s,inv l.length s->decide (((l.length:Nat):Int)<((l.length:Nat):Int))=false->Yd (step (mk ((l.length:Nat):Int) s)) (Lp (fun _=>False) p))
  {s:σ} (h0:inv 0 s):Yd (aD step (mk 0 s)) p:=by
 suffices key:∀(k i:Nat) (s:σ),i+k=l.length->inv i s->Yd (aD step (mk (i:Int) s)) p from key l.length 0 s (by omega) h0
 intro k
 induction k with
 |zero=>
  intro i s hi hs;obtain rfl:i=l.length:=by omega
  refine Yd.loop ((h2 s hs (Qh (Qq63 _))).mono fun y hy=> ?_)
  cases y with
  |inl t=>exact hy.elim
  |inr r=>exact hy
 |succ k ih=>
  intro i s hi hs;have hi':i<l.length:=by omega
  refine Yd.loop ((h1 i l[i] s hs (QM hi') (Q0 hi') hi' (Qg (by omega)) (by rw[bQ];exact Qv hi') (cO (by omega) (by omega))).mono fun y hy=> ?_)
  cases y with
  |inl t=>
   obtain⟨s',rfl,hs'⟩:=hy;exact ih (i+1) s' (by omega) hs'
  |inr r=>exact hy
def F6(x:ByteArray):Prop:=1<=x.size/\x.size<=200
instance (x:ByteArray):Decidable (F6 x):=by unfold F6;infer_instance
def OS:∀(x:ByteArray) (l:List ByteArray),Decidable (x∈l)
 |_,[]=>isFalse QR
 |x,y::l=>if h:x=y then isTrue (by rw[h];exact Qx)else match OS x l with
  |isTrue h2=>isTrue (Qy _ h2)
  |isFalse h2=>isFalse fun e=>(QA.1 e).elim h h2
instance (x:ByteArray) (l:List ByteArray):Decidable (x∈l):=OS x l
structure VL (l:List ByteArray):Prop where
 Xj:∀x∈l,F6 x
 Xh:l.Pairwise (fun a b=>lJ a b=true)
 len:l.length<=40
theorem VL.nil:VL []:=⟨fun x h=>absurd h QR,List.Pairwise.nil,by simp⟩
theorem VL.UZ{l:List ByteArray}(h:VL l):l.length<=1000000:=QK h.len (by omega)
end
section
structure Gj (t:an) (v bJ round:Int):Prop where
 bb:ir t
 v0:0<=v
 v1:v<10
 s0:0<=bJ
 s1:bJ<=1000000
 r1:1<=round
 r2:round<=1000
section
variable {t : an} {v bJ round : Int}
end
end
section
structure Vx (m:aK):Prop where
 n0:0<=m.aq
 n1:m.aq<10
 seq:1<=m.aN
 bb:ir m.ao
 oD:VL m.de
 GY:VL m.bB
structure uh (n:aC):Prop where
 ask:Gj n.ao n.aq n.bf n.Round
 own:n.oI.size<=200
 oD:VL n.de
 GY:VL n.bB
 Su:VL n.bA
 sub:∀x∈n.bA,x∈n.bB
 heard:∀m∈n.aB,Vx m/\m.aq≠n.aq
 kC:n.aB.Pairwise (fun a b=>a.aq<b.aq)
theorem Ot:∀(l:List aK) (k:Nat),k<=10->(∀e∈l,(k:Int)<=e.aq/\e.aq<10)->l.Pairwise (fun a b=>a.aq<b.aq)->l.length+k<=10
 |[],k,hk,_,_=>by simp;omega
 |e::l,k,hk,h,hp=>by
  rw[Q4]at hp;have h1:=h e Qx;have h2:=Ot l (k+1) (by omega) (fun x hx=>⟨by have:=hp.1 x hx;omega,(h x (Qy _ hx)).2⟩) hp.2
  rw[QE];omega
theorem uh.len{n:aC}(h:uh n):n.aB.length<=10:=by
 have:=Ot n.aB 0 (by omega) (fun e he=>⟨by have:=(h.heard e he).1.n0;omega,(h.heard e he).1.n1⟩) h.kC
 omega
def AD:an:=⟨0,[],[]⟩
theorem UY:ea AD:= .mk _ (by simp[AD]) (by simp[AD]) (fun u hu=>by cases hu)
structure Kn (l:List aO):Prop where
 len:l.length=10
 sm:∀m∈l,ea m.ao
theorem Kn.set{l:List aO}(h:Kn l)(k:Nat){m:aO}(hm:ea m.ao):Kn (l.set k m):=
 ⟨by rw[QY];exact h.len,fun x hx=>(List.mem_or_eq_of_mem_set hx).elim (h.sm x) fun e=>by rw[e];exact hm⟩
structure X7 (n r:aC):Prop where
 ok:uh r
 az:r.aq=n.aq
 bJ:r.bf=n.bf
 round:r.Round=n.Round
 seq:r.aN=n.aN
 bb:r.ao=n.ao
 own:r.oI=n.oI
 heard:r.aB=n.aB
structure X8 (b n r:aC):Prop where
 ok:uh r
 az:r.aq=n.aq
 bJ:r.bf=n.bf
 round:r.Round=n.Round
 bb:r.ao=n.ao
 seq:r.aN=n.aN\/r.aN=b.aN+1
end
section
end
section
theorem UF{m:ab}(h:m.aJ=3):cQ m=m:=by
 have h1:cy m=m:=by unfold cy;rw[Qr (.inl h)]
 have h2:ga m=m:=by unfold ga;rw[Qr (.inl (by rw[h];decide))]
 have h3:fE m=m:=by unfold fE;rw[Qs (by rw[h];decide),Qs (by rw[h];decide)]
 have h4:iX m=m:=by unfold iX;rw[Qs (by rw[h];rintro⟨e,_⟩;exact absurd e (by decide))]
 have h5:eE m=m:=by unfold eE;rw[Qr (.inl h)]
 unfold cQ;rw[Qr h1,Qr h2,Qr h3,Qr h4];exact h5
structure Ww (m:ab) (t:an) (x:ab):Prop where
 inv:aY x
 seq:gb x
 az:x.aq=m.aq
 bJ:x.bf=m.bf
 bb:x.ao=t
 ext:m.aJ=3->x.aJ=3/\x.aa.Value=m.aa.Value
def Av(m x:ab):Prop:=m.aJ=3->x.aJ=3/\x.aa.Value=m.aa.Value
theorem SN{m:ab}:∀x,aY x->Av m x->Av m (cQ x):=fun x _ h e=>by
 have h2:=h e;rw[UF h2.1];exact h2
theorem SM{m:ab}:∀x,Av m x->Av m (eK x):=fun x h e=>by
 have h2:=h e;unfold eK;split
 ·exact h2
 ·exact h2
theorem Ng{m m1:ab}(h:aY m)(hb:Gi m m1):Av m m1:=by
 intro e;rcases hb with⟨v,hv,rfl⟩|⟨x,hx,rfl⟩|⟨h3,hv,hc,rfl⟩|⟨t,ht,rfl⟩
 ·have hz:aI m.aa=false:=by
   rcases h.body with k|k|k|k
   ·exact absurd (k.aE.symm.trans e) (by decide)
   ·exact k.aG.nz
   ·exact k.aG.nz
   ·exact k.aG.nz
  unfold gA;rw[Qs (by rw[hz];decide)]
  exact⟨e,rfl⟩
 ·exact⟨e,rfl⟩
 ·exact absurd e h3
 ·exact⟨e,rfl⟩
theorem Tn{m m1:ab}(h:aY m)(hb:Gi m m1){q:ab×Int×Unit}(hq:Vw (Av m) m m1 q):q.2.1=0/\Ww m m1.ao q.1:=by
 obtain⟨m2,rfl,ha⟩:=hq;have hf:=Rz h hb;obtain⟨f1,f2,f3,f4,f5,f6⟩:=Jc m1;obtain⟨s,e,_⟩:=Ex m m2;refine⟨rfl,Rw ha.inv,Ui ha.inv ha.seq (fun hz=>ha.nz (by rw[f6];exact hf.nz hz)),?_,?_,?_,?_⟩
 ·rw[e];exact ha.env.1.trans (f1.trans hf.az)
 ·rw[e];exact ha.env.2.1.trans (f2.trans hf.bJ)
 ·rw[e];exact ha.env.2.2.1.trans f3
 ·rw[e];exact ha.rel
section
variable {m : ab} (h : aY m) (hs : gb m)
 include h hs
def G0(t:fU):Prop:=0<=t.ae/\t.ae<=1000000/\ -1<=t.Ce/\t.Ce<=212
 omit h hs in
theorem R4{c:Int}(hc:0<=c)(hc2:c<=1000000):Yd (nC c) fun w=>1<=w/\w<=12:=by
  unfold nC
  by_cases h:12<=c
  ·rw[Qg h];exact .some ⟨by decide,by decide⟩
  ·have hadd:aA .i64 c 1=c+1:=cO (by omega) (by omega)
   rw[Qh h,Ql,hadd];refine .some ?_;unfold bn;split<;>omega
end
end
section
structure Nr (nd sl:Int) (k:Int) (x:bS):Prop where
 Ji:aY x.aj
 ME:gb x.aj
 az:x.aj.aq=nd
 bJ:x.aj.bf=sl
 Hu:uh x.aF
 My:1<=x.aF.aN/\x.aF.aN<=1+k
 R9:x.aF.aq=nd
 R8:x.aF.bf=sl
 bb:x.aF.ao=x.aj.ao
 timer:G0 x.Timer
 round:1<=x.Round/\x.Round<=1000
 next:0<=x.Next/\x.Next<=212
structure ta (nd sl:Int) (k:Int) (x:bS):Prop where
 pre:Nr nd sl k x
 done:x.yx=decide (x.aj.aJ=3)
 value:x.Value=bif decide (x.aj.aJ=3)then x.aj.aa.Value else il
theorem Nr.le{nd sl k k':Int}{x:bS}(h:Nr nd sl k x)(hk:k<=k'):Nr nd sl k' x:=⟨h.Ji,h.ME,h.az,h.bJ,h.Hu,⟨h.My.1,by have:=h.My.2;omega⟩,h.R9,h.R8,h.bb,h.timer,h.round,h.next⟩
theorem ta.le{nd sl k k':Int}{x:bS}(h:ta nd sl k x)(hk:k<=k'):ta nd sl k' x:=⟨h.pre.le hk,h.done,h.value⟩
section
variable {nd sl k : Int} {x : bS} (h : ta nd sl k x) (hk : k <= 999998)
 include h hk
end
end
section
theorem DU(a b:ByteArray):dE a b=some (xb a b):=by
 simp[dE,xb]
theorem O1{a b:ByteArray}:decide (0<=xb a b)= !lJ a b:=by
 rw[<-Al]
 by_cases h:xb a b<0
 ·rw[Qg h,Qh (by omega)];rfl
 ·rw[Qh h,Qg (by omega)];rfl
theorem Oe(x:ByteArray):mC x=some (decide (F6 x)):=XQ x
theorem E5{l:List ByteArray}(h:VL l):fM l=some true:=by
 unfold fM;refine Yd.eq_true (Yd.list l h.UZ (fun i (_:Unit)=>(i,())) (fun _ _=>True) ?_ ?_ (s:=()) trivial)
 ·intro i y s hs hd hy hi hdec hx hadd;simp only;rw[hdec,Qk,hx,Qa,Oe,Qa,Qg (h.Xj y hy),hadd];simp only[Qo,Ql]
  by_cases h0:i=0
  ·subst h0;rw[Qh (by omega:¬(0:Int)<((0:Nat):Int))]
   exact .some ⟨(),rfl,trivial⟩
  ·rw[Qg (by omega:(0:Int)<(i:Int))]
   simp only[Qk];have hsub:gf .i64 (i:Int) 1=((i - 1:Nat):Int):=by rw[zu (by omega) (by have:=h.len;omega)];omega
   have hi1:i - 1<l.length:=by omega
   rw[hsub,bQ,Qv hi1,Qa,DU,Qa,O1]
   have hyi:y=l[i]:=by
    rw[bQ,Qv hi]at hx;exact(Option.some.inj hx).symm
   have hlt:lJ l[i - 1] y=true:=by
    rw[hyi];exact List.pairwise_iff_getElem.1 h.Xh (i - 1) i hi1 hi (by omega)
   rw[hlt];exact .some ⟨(),rfl,trivial⟩
 ·intro s hs hdec;simp only;rw[hdec,Ql,Qg (by have:=h.len;omega:((l.length:Nat):Int)<=(40:Int))]
  exact .some rfl
theorem UQ(l:List ByteArray)(hl:l.length<=1000000)(x:ByteArray):Yd (gE l x) fun r=>decide (0<=r)=decide (x∈l):=by
 unfold gE;refine Yd.list l hl (fun i (_:Unit)=>(i,())) (fun i _=>x∉l.take i) ?_ ?_ (s:=()) (by simp)
 ·intro i y s hs hd hy hi hdec hx hadd;simp only;rw[hdec,Qk,hx,Qa,hadd]
  by_cases hxy:x=y
  ·rw[Qg hxy,Qk];refine .some ?_;show decide ((0:Int)<=(i:Int))=decide (x∈l);rw[Qg (by omega:(0:Int)<=(i:Int))]
   exact(Qg (by rw[hxy];exact hy)).symm
  ·rw[Qh hxy,Ql];refine .some ⟨(),rfl,?_⟩
   have hi2:l[i]?=some y:=by
    rw[bQ]at hx;exact hx
   rw[List.take_add_one,hi2];simp only[Option.toList_some,Qz,Q5];exact fun h=>h.elim hs hxy
 ·intro s hs hdec;simp only;rw[hdec,Ql];rw[Q9]at hs;refine .some ?_;show decide ((0:Int)<= -1)=decide (x∈l);rw[Qh hs];rfl
theorem I4(l:List ByteArray)(hl:l.length<=1000000)(x:ByteArray):iC l x=some (decide (x∈l)):=by
 obtain⟨r,h1,h2⟩:=UQ l hl x;unfold iC iS;rw[h1,Qa,Qa,h2]
theorem Ik{v:Int}(h0:0<=v)(h1:v<10):jk v=some true:=by
 unfold jk;rw[Qg h0,Qg h1];rfl
theorem Td{m:aK}(h:Vx m):mD m=some true:=by
 unfold mD;simp only[etas,Ik h.n0 h.n1,dH h.bb,E5 h.oD,E5 h.GY];rw[Qg h.seq];rfl
theorem Oj{n:aC}(h:uh n):dP n.bA n=some false:=by
 unfold dP gm;simp only[etas,aC.eta]
 have:=Yd.list (p:=fun r:Int=>r= -1) (step:=fun(v1:Int×Unit)=>
   bif (decide (v1.1<((List.length n.bA:Nat):Int)))then
   Option.bind (idx n.bA v1.1) fun x2=>
   Option.bind (kZ x2 n) fun r3=>
   bif r3 then
   Option.map Sum.inr (some v1.1)
   else
   some (Sum.inl ((aA .i64 v1.1 (1:Int)),()))
   else
   Option.map Sum.inr (some (-1:Int))) n.bA h.Su.UZ (fun i (_:Unit)=>(i,())) (fun _ _=>True) ?_ ?_ (s:=()) trivial
 ·obtain⟨r,h1,rfl⟩:=this;rw[h1];rfl
 ·intro i x s _ hd hx' hi hdec hx hadd;simp only;unfold kZ;rw[hdec,Qk,hx,Qa,hadd,I4 _ h.GY.UZ,Qg (h.sub x hx')];exact .some ⟨(),rfl,trivial⟩
 ·intro s _ hdec;simp only;rw[hdec,Ql];exact .some rfl
theorem Ta{n:aC}(h:uh n)(hs:1<=n.aN/\n.aN<=1000000):jT n=some true:=by
 have hlen:=h.len;unfold jT nU;simp only[etas,aC.eta,Ik h.ask.v0 h.ask.v1,dH h.ask.bb,E5 h.oD,E5 h.GY,E5 h.Su,Oj h];rw[Qg h.ask.s0,Qg h.ask.s1,Qg h.ask.r1,Qg h.ask.r2,Qg hs.1,Qg hs.2,Qh (by have:=h.own;omega:¬(200:Int)<((n.oI.size:Nat):Int))]
 simp only[Ql,Qk,Qa,decide_true,Qo];refine Yd.eq_true ?_;refine Yd.list n.aB (by omega) (fun i (_:Unit)=>(i,())) (fun _ _=>True) ?_ ?_ (s:=()) trivial
 ·intro i m s _ hd hm hi hdec hx hadd;obtain⟨hm1,hm2⟩:=h.heard m hm;simp only[bq];rw[hdec,Qk,hx,Qa,hadd];simp only[aK.eta];rw[Td hm1,Qa,Qh hm2];simp only[Qo,Ql]
  by_cases h0:i=0
  ·subst h0;rw[Qh (by omega:¬(0:Int)<((0:Nat):Int))]
   exact .some ⟨(),rfl,trivial⟩
  ·rw[Qg (by omega:(0:Int)<(i:Int))]
   simp only[Qk];have hsub:gf .i64 (i:Int) 1=((i - 1:Nat):Int):=by rw[zu (by omega) (by omega)];omega
   have hi1:i - 1<n.aB.length:=by omega
   rw[hsub,bQ,Qv hi1,Qa]
   have hyi:m=n.aB[i]:=by
    rw[bQ,Qv hi]at hx;exact(Option.some.inj hx).symm
   have hlt:n.aB[i - 1].aq<m.aq:=by
    rw[hyi];exact List.pairwise_iff_getElem.1 h.kC (i - 1) i hi1 hi (by omega)
   rw[Qh (by omega:¬m.aq<=n.aB[i - 1].aq)]
   exact .some ⟨(),rfl,trivial⟩
 ·intro s _ hdec;simp only;rw[hdec,Ql];exact .some rfl
theorem UO{t:fU}(ht:G0 t):pY t=some true:=XR ht
theorem I7{nd sl k:Int}{x:bS}(h:ta nd sl k x)(hk:k<=999999):nB x=some true:=by
 have p:=h.pre;obtain⟨b,f,hb⟩:=Xc (a:=x.aF.ao) (b:=x.aj.ao) p.Hu.ask.bb.sm;have hbt:=hb.2 p.bb;subst hbt;unfold nB;simp only[aC.eta,ab.eta,etas,CI p.Ji p.ME,Ta p.Hu ⟨p.My.1,by have:=p.My.2;omega⟩,f,UO p.timer,I5 p.Ji p.ME,Qa,Qk]
 rw[Qg (p.R9.trans p.az.symm),Qg (p.R8.trans p.bJ.symm),Qg p.round.1,Qg p.round.2,Qg p.next.1,Qg p.next.2,Qg h.done,Qg h.value]
 rfl
theorem yY(l:List ByteArray)(h:l.length<=1000):bl l=some l:=by
 unfold bl;have hk:bL 16 (([]:List ByteArray).length+l.length)=true:=cd ⟨by simp;omega,by simp;omega⟩
 rw[hk]
 cases l with
 |nil=>simp
 |cons x l=>simp
theorem Lj{t:an}(h:ea t):jR t=some t:=(show jR t=eZ t from rfl).trans (po h)
theorem Oh{m:aK}(ht:ea m.ao)(hv:m.de.length<=1000)(ha:m.bB.length<=1000):jd m=some m:=by
 unfold jd;simp only[etas,Lj ht,yY _ hv,yY _ ha,Qa]
theorem PU{m:aK}(ht:ea m.ao)(hv:m.de.length<=1000)(ha:m.bB.length<=1000):jw m=some m:=by
 unfold jw;simp only[etas,po ht,yY _ hv,yY _ ha,Qa]
theorem IA{m:ab}(h:aY m):aI m.aa=decide (m.aa.ae=0):=by
 rcases h.body with k|k|k|k
 ·rw[k.aG];rfl
 all_goals
  rw[k.aG.nz,Qh (by have:=k.aG.1;omega)]
theorem PT{nd sl k:Int}{x:bS}(h:ta nd sl k x)(hk:k<=999999):Yd (pZ x) fun l=>l.length=(bif x.yx then 0 else 1)+(bif decide (x.aj.aa.ae=0)then 0 else 1):=by
 have p:=h.pre;obtain⟨e,he,_⟩:=PS p.Ji p.ME;have l1:=p.Hu.oD.len;have l2:=p.Hu.GY.len;unfold pZ rL iA;simp only[bS.eta,aC.eta,ab.eta,aK.eta,ai.eta,etas,I7 h hk,Qa,Qo,Ql,he,bq];rw[Oh p.Hu.ask.bb.sm (by show x.aF.de.length<=1000;omega) (by show x.aF.bB.length<=1000;omega)]
 simp only[Qa];rw[PU p.Hu.ask.bb.sm (by show x.aF.de.length<=1000;omega) (by show x.aF.bB.length<=1000;omega)]
 rw[<-IA p.Ji];simp only[Qa,List.nil_append];rw[cd (by simp),cd (by simp),cd (by simp)]
 cases x.yx<;>cases aI x.aj.aa<;>exact .some rfl
end
section
def tA:an:=⟨1,oE 1,[]⟩
def vA:ByteArray:=ByteArray.mk #[97]
theorem pH:ir tA:=by
 refine⟨fun x hx=> ?_,?_,?_,.inl rfl,?_⟩
 ·obtain⟨k,hk,rfl⟩:=Cw.1 hx;omega
 ·decide
 ·decide
 ·decide
theorem Ci:F6 vA:=by decide
theorem Uz:VL [vA]:=⟨fun x hx=>by rw[Q5.1 hx];exact Ci,List.pairwise_singleton _ _,by decide⟩
theorem Tg(l:List Int)(hl:l.length<=1000000)(x:Int):Yd (jJ l x) fun r=>decide (0<=r)=true->x∈l:=by
 unfold jJ;refine Yd.list l hl (fun i (_:Unit)=>(i,())) (fun _ _=>True) ?_ ?_ (s:=()) trivial
 ·intro i y s hs hd hy hi hdec hx hadd;simp only;rw[hdec,Qk,hx,Qa,hadd]
  by_cases hxy:x=y
  ·rw[Qg hxy,Qk];exact .some fun _=>by rw[hxy];exact hy
  ·rw[Qh hxy,Ql];exact .some ⟨(),rfl,trivial⟩
 ·intro s hs hdec;simp only;rw[hdec,Ql];exact .some fun e=>by cases e
theorem VY(a b c d:Int):∃r,qa a b c d=some r:=⟨_,rfl⟩
theorem Tf{k:Int}(h:k≠0):gV tA 0 1 1 k=some false:=by
 unfold gV;rw[Qh h];simp only[etas,Ql,bq]
 have hw:Yd (rM tA k) fun q=>q.2.1=false:=by
  show Yd (n2 (xk (SizeOf.sizeOf tA+SizeOf.sizeOf k)) tA k) fun q=>q.2.1=false
  unfold n2
  have hc:iM tA.a8 k=some false:=by
   obtain⟨r,h1,h2⟩:=Tg tA.a8 (by decide) k
   unfold iM;rw[h1,Qa]
   cases e:decide (0<=r)with
   |false=>rfl
   |true=>
    obtain⟨j,hj,rfl⟩:=Cw.1 (h2 e);exact absurd (by omega) h
  rw[hc,Qa,Ql];refine Yd.list tA.aM (by decide) (fun i (s:mw)=>(i,s,())) (fun _ _=>True) (fun i x s _ _ hx=>absurd hx QR) (fun s _ hdec=> ?_) trivial
  simp only;rw[hdec,Ql];exact .some rfl
 obtain⟨q,h1,h2⟩:=hw;rw[h1,Qa,h2];rfl
theorem PX:lF tA 0 1 1=some 0:=by
 have:Yd (lF tA 0 1 1) fun r=>r=0:=by
  unfold lF;simp only[etas,bq];refine Yd.Sp (fun(s:Int×Int×Int×Unit)=>s.1=0/\0<=s.2.2.1/\s.2.2.1<=10) (fun s=>(10 - s.2.2.1).toNat) ?_ ⟨rfl,Int.le_refl _,by show(0:Int)<=10;omega⟩
  rintro⟨b,hsh,k,u⟩ ⟨h1,h2,h3⟩;simp only at h1 h2 h3;subst h1;simp only
  by_cases hk:k<10
  ·rw[Qg hk];have hadd:aA .i64 k 1=k+1:=cO (by omega) (by omega)
   simp only[Qk];rw[hadd]
   have fin:∀x:Int,Yd (some (Sum.inl ((0:Int),x,k+1,())):Option ((Int×Int×Int×Unit)⊕Int)) (Lp (fun s'=>(s'.1=0/\0<=s'.2.2.1/\s'.2.2.1<=10)/\(10 - s'.2.2.1).toNat<(10 - k).toNat) (fun r=>r=0)):=
    fun x=> .some ⟨⟨rfl,by show 0<=k+1;omega,by show k+1<=10;omega⟩,by show(10 - (k+1)).toNat<(10 - k).toNat;omega⟩
   by_cases h0:k=0
   ·subst h0
    have hn:gV tA 0 1 1 0=some true:=by
     unfold gV;rfl
    rw[hn,Qa];obtain⟨hsv,eh⟩:=VY 2 1 1 0;rw[eh];simp only[Qo,Ql,Qa];refine Yd.cond (fun _=> ?_) fun _=> ?_
    ·exact fin _
    ·exact fin _
   ·rw[Tf h0,Qa];exact fin _
  ·rw[Qh hk];exact .some rfl
 obtain⟨r,h1,rfl⟩:=this;exact h1
theorem Oi:mZ tA 0 1 1=some (((1:Nat):Int),0,()):=by
 unfold mZ ti;simp only[etas,dH pH,Qa,decide_true,Qo,Ql];rw[Qh (by omega:¬(0:Int)<0),Qh (by omega:¬(10:Int)<=0),Qh (by omega:¬(1:Int)<0),Qh (by omega:¬(1000000:Int)<1),Qh (by omega:¬(1:Int)<1),Qh (by omega:¬(1000:Int)<1)]
 simp only[Ql,Qa,decide_true,Qo];rw[bD (s':=(((1:Nat):Int),1,())) ?_,bs ?_]
 ·rfl
 ·simp only;rw[Qg (by omega:(0:Int)<1),show aA .i64 0 1=1 from rfl,PX,Qa,Qk,Qs (by omega)]
  have:=wj (s:=0) (x:=0) (by omega) (by omega) (by omega)
  rw[show n5 .i64 (0:Int) (c7 .i64 1 0)=((0|||2 ^ (0:Int).toNat:Nat):Int)from this]
  rfl
theorem Vn:bl []=some []:=yY [] (by decide)
theorem LN:cq []=some []:=by
 unfold cq;rw[cd (by decide)]
 simp
theorem Mw:iB [] vA=some [vA]:=by
 unfold iB dB;rw[bs (r:=((0:Int),false,())) (by rfl),Qa]
 simp only[Ql,Qa];rw[Qh (by decide),Ql,Vn,Qa]
 unfold jm Jr;rw[cd (by decide)]
 rfl
theorem S9{n:aC}(hT:n.ao=tA)(hN:n.aq=0)(hS:n.bf=1)(hR:n.Round=1)(hO:n.oI=vA)(hV:n.de=[]):mB n=some [vA]:=by
 unfold mB;simp only[etas,bq];rw[hT,hN,hS,hR,hO,hV,Oi,Qa,Kp (by omega),Qa,show qD 1=[0]from by decide]
 rw[bD (s':=([vA],1,())) ?_,bs (r:=[vA]) ?_]
 ·rfl
 ·simp only;rw[Qg (by decide:(0:Int)<((List.length [(0:Int)]:Nat):Int)),show idx [(0:Int)] 0=some 0 from rfl]
  simp only[Qk,Qa,decide_true];rw[Qh (by decide:¬vA=ByteArray.mk #[])]
  simp only[Qp,Qk];rw[Mw];rfl
theorem VF{rec:(an×Unit)->Option an}{t:an}(hm:ea t)(hr:∀u∈t.aM,rec (u,())=some u):j0 rec t=some t:=by
 have hn:=hm.nodes;have hi:=hm.len;unfold j0;rw[cd ⟨by omega,by omega⟩,Qk]
 simp only[etas]
 have:=Yd.list (p:=fun r=>r=t) (step:=fun(v1:Int×an×(List Int)×(List an)×Unit)=>
   bif (decide (v1.1<((List.length t.aM:Nat):Int)))then
   Option.bind (idx t.aM v1.1) fun x2=>
   Option.bind (rec (x2,())) fun r3=>
   bif bL 56 (List.length v1.2.2.2.1+List.length [r3])then
   some (Sum.inl ((aA .i64 v1.1 (1:Int)),(an.mk v1.2.1.aH ([]:List Int) ([]:List an)),v1.2.2.1,(v1.2.2.2.1++[r3]),()))
   else none
   else
   Option.map Sum.inr (some (an.mk v1.2.1.aH v1.2.2.1 v1.2.2.2.1))) t.aM hi (fun i (s:List an)=>(i,(an.mk t.aH [] []),t.a8,s,())) (fun i s=>s=t.aM.take i) ?_ ?_ (s:=[]) (by simp)
 ·obtain⟨r,h1,rfl⟩:=this;exact h1
 ·rintro i x s rfl hd hx' hi' hdec hx hadd;have hi2:t.aM[i]?=some x:=by rw[bQ]at hx;exact hx
  simp only;rw[hdec,Qk,hx,Qa,hr x hx',Qa,hadd,cd ⟨by simp;omega,by simp;omega⟩,Qk]
  refine .some ⟨_,rfl,?_⟩;rw[List.take_add_one,hi2];rfl
 ·rintro s rfl hdec;simp only;rw[hdec,Ql,Q9];exact .some (an.eta t)
theorem VB{n:Nat}:∀{t:an},SizeOf.sizeOf t<n->ea t->pC n (t,())=some t:=by
 induction n with
 |zero=>intro t h;omega
 |succ n ih=>
  intro t hz hm;show j0 (pC n) t=some t;exact VF hm fun u hu=>ih (t:=u) (by have:=rC hu;omega) (hm.inner u hu)
theorem PW{t:an}(h:ea t):mF t=some t:=VB (by omega) h
def cA:List aO:=(List.replicate 10 ⟨false,⟨0,[],[]⟩⟩).set 0 ⟨true,tA⟩
theorem UN{n:aC}(hT:n.ao=tA)(hN:n.aq=0)(hH:n.aB=[]):mY n=some ⟨cA⟩:=by
 unfold mY;simp only[etas];rw[hT,hN,hH]
 have hv:nX 0 tA []=some ⟨cA⟩:=by
  unfold nX
  have h1:(decide ((10:Int)=(10:Int))&&decide (0<=(10:Int))&&bL 64 (Int.toNat (10:Int)))=true:=by
   rw[cd (by decide)];rfl
  rw[h1,Qk];refine bs ?_;simp only[etas,bq,QZ];rw[Qh (by decide:¬(0:Int)<((0:Nat):Int)),Ql]
  have hcp:=PW pH.sm;rw[show nW 0=some true from Ik (v:=0) (by omega) (by omega),dH pH,hcp]
  rfl
 refine bs ?_;simp only[QZ];rw[Qh (by decide:¬(0:Int)<((0:Nat):Int)),Ql,hv]
 rfl
theorem Nc:DC ⟨cA⟩:=⟨by decide,fun m hm=>by
 rcases List.mem_or_eq_of_mem_set hm with hm|rfl
 ·rw[(List.mem_replicate.1 hm).2];exact UY
 ·exact pH.sm⟩
theorem W8:(gq cA 1).testBit 0=true:=by
 refine(CB Nc (s:=1) (by omega)).max 1 (fun k hk=> ?_) 0 (by decide)
 have h0:k=0:=by
  rcases Nat.eq_zero_or_pos k with h|h
  ·exact h
  ·rw[Nat.testBit_one_eq_true_iff_self_eq_zero]at hk;exact hk
 subst h0;exact⟨by decide,by decide,by decide⟩
theorem DT{a:List ByteArray}(ha:a=[]\/a=[vA]):jv [(⟨0,1,tA,[vA],a⟩:aK)] vA=some (((1:Nat):Int),((if a=[]then 0 else 1:Nat):Int),()):=by
 unfold jv;simp only[bq];have hb:n5 .i64 (0:Int) (c7 .i64 1 0)=((1:Nat):Int):=wj (s:=0) (x:=0) (by omega) (by omega) (by omega)
 rw[bD (s':=(((1:Nat):Int),((if a=[]then 0 else 1:Nat):Int),1,())) ?_,bs ?_]
 ·rfl
 ·simp only;rw[Qg (show(0:Int)<((List.length [(⟨0,1,tA,[vA],a⟩:aK)]:Nat):Int)from(by decide:(0:Int)<1)),show idx [(⟨0,1,tA,[vA],a⟩:aK)] 0=some ⟨0,1,tA,[vA],a⟩from rfl]
  simp only[Qk,Qa];rw[I4 _ (by decide),I4 _ (by rcases ha with rfl|rfl<;>decide),Qa,Qg (Q5.2 rfl),Qk,Qs (by omega),hb,Qa]
  rcases ha with rfl|rfl
  ·rw[Qh QR];rfl
  ·rw[Qg (Q5.2 rfl),Qk,Qs (by omega)]
   rfl
theorem V1{a:List ByteArray}(ha:a=[]\/a=[vA]):lE [(⟨0,1,tA,[vA],a⟩:aK)]=some [vA]:=by
 unfold lE;have hal:a.length<=1:=by rcases ha with rfl|rfl<;>decide
 rw[bD (s':=(1,[vA]++a,())) ?_]
 ·refine bs ?_;simp only;rw[Qh (show¬(1:Int)<((List.length [(⟨0,1,tA,[vA],a⟩:aK)]:Nat):Int)from(by decide:¬(1:Int)<1)),Ql]
  obtain⟨t,h1,h2,h3,h4⟩:=um.L9 (cmp:=fun x y=>dE x y) DU (fun x y=>Al x y) ([vA]++a) (by simp only[QB,List.length_singleton];omega)
  have hs:gl ([vA]++a)=some ((),t):=h1;have hc:eo t=some (dd t):=wb (eq:=fun a b=>decide (a=b)) (ne:=fun a b=> !decide (a=b)) (z:=ByteArray.mk #[]) (fun _ _=>rfl) (fun _ _=>rfl) t (by rw[h2];simp only[QB,List.length_singleton];omega)
  rw[hs,Qa,hc]
  have he:dd t=[vA]:=by
   refine um.unique h3 (List.pairwise_singleton _ _) fun x=> ?_
   rw[h4];rcases ha with rfl|rfl<;>simp
  rw[he];rfl
 ·simp only;rw[Qg (show(0:Int)<((List.length [(⟨0,1,tA,[vA],a⟩:aK)]:Nat):Int)from(by decide:(0:Int)<1)),show idx [(⟨0,1,tA,[vA],a⟩:aK)] 0=some ⟨0,1,tA,[vA],a⟩from rfl]
  simp only[Qk,Qa];rw[cd (by simp),cd (by simp;omega)]
  rfl
theorem Og{n:aC}{a:List ByteArray}(ha:a=[]\/a=[vA])(hT:n.ao=tA)(hN:n.aq=0)(hH:n.aB=[])(hQ:n.aN=1)(hV:n.de=[vA])(hA:n.bB=a):kK n ⟨cA⟩=some (if a=[]then(vA,true,())else(ByteArray.mk #[],false,())):=by
 unfold kK iA;simp only[etas,Qa];rw[hT,hN,hH,hQ,hV,hA,LN,Qa,cd (by show(0+1)*120<=140737488355328/\0+1<=1000000;decide),Qk]
 simp only[List.nil_append];rw[V1 ha,Qa];have hl:a.length<=1:=by rcases ha with rfl|rfl<;>decide
 rcases ha with rfl|rfl
 ·refine bs ?_;simp only;rw[Qg (by decide:(0:Int)<((List.length [vA]:Nat):Int)),show idx [vA] 0=some vA from rfl]
  simp only[Qk,Qa];rw[DT (.inl rfl),Qa,I4 _ (by decide),Qa,Qh QR]
  have:=vk Nc (v:=0) (oD:=1) (accepts:=0) (by omega) (by omega) (by omega)
  have hacc:mn cA 0 1 0=true:=by
   unfold mn;rw[show(1|||0:Nat)=1 from rfl,W8,Bool.or_true]
  rw[hacc]at this;simp only[Qp,Qk,Qa,Qt];rw[Qg (by decide:((List.length ([]:List ByteArray):Nat):Int)<40),Qk]
  rw[show eL ⟨cA⟩ 0 ((1:Nat):Int) ((0:Nat):Int)=some true from this]
  rfl
 ·rw[bD (s':=(1,())) ?_,bs (r:=(ByteArray.mk #[],false,())) ?_]
  ·rw[Qs (by decide)]
  ·rfl
  ·simp only;rw[Qg (by decide:(0:Int)<((List.length [vA]:Nat):Int)),show idx [vA] 0=some vA from rfl]
   simp only[Qk,Qa];rw[DT (.inr rfl),Qa,I4 _ (by decide),Qa,Qg (Q5.2 rfl)]
   rfl
def nA:aC:=⟨0,1,1,1,tA,vA,[vA],[vA],[vA],[]⟩
theorem Of:jc ⟨0,1,1,1,tA,vA,[],[],[],[]⟩=some nA:=by
 unfold jc iA;simp only[etas,bq,QZ];rw[Qg (by decide:((0:Nat):Int)=0),Qk,S9 rfl rfl rfl rfl rfl rfl,Qa,UN rfl rfl rfl,Qa,Og (.inl rfl) rfl rfl rfl rfl rfl rfl,Qa,Qr rfl]
 rw[bD (s':=(ByteArray.mk #[],false,⟨0,1,1,1,tA,vA,[vA],[vA],[],[]⟩,())) ?_]
 ·refine bs ?_;simp only[Ql];rw[LN];simp only[Qa];rw[cd (by decide),Qk]
  rw[bD (s':=(1,nA,())) ?_,bs (r:=nA) ?_]
  ·rfl
  ·rfl
  ·simp only;rw[Qg (by decide:(0:Int)<((List.length [vA]:Nat):Int)),show idx [vA] 0=some vA from rfl]
   simp only[Qk,Qa,List.nil_append];rw[DT (.inr rfl),Qa];have:=tW Nc (v:=0) (accepts:=1) (by omega) (by omega)
   rw[W8]at this;simp only;rw[Qs (by decide),show et ⟨cA⟩ 0 ((1:Nat):Int)=some true from this,Qa,Qk,Mw]
   rfl
 ·simp only[Qk];rw[Mw,Qa,Og (.inr rfl) rfl rfl rfl rfl rfl rfl,Qa,Qs (by decide)]
theorem XA:uh nA:=⟨⟨pH,by decide,by decide,by decide,by decide,by decide,by decide⟩,by decide,Uz,Uz,Uz,fun x hx=>hx,fun m hm=>absurd hm QR,List.Pairwise.nil⟩
theorem Ti:jS nA=some nA:=by
 unfold jS;simp only[etas];rw[show nA.ao=tA from rfl,Lj pH.sm,Qa,show nA.de=[vA]from rfl,show nA.bB=[vA]from rfl,show nA.bA=[vA]from rfl,yY _ (by decide)]
 simp only[Qa];exact bs rfl
theorem Tb:jU 0 1 tA vA=some (nA,0,()):=by
 unfold jU;simp only[etas,aC.eta,Ik (v:=0) (by omega) (by omega),dH pH,Qa,Qo,Ql,decide_true]
 rw[Qh (by omega:¬(1:Int)<0),Qh (by omega:¬(1000000:Int)<1),Qh (by decide:¬(200:Int)<((vA.size:Nat):Int)),Of]
 simp only[Ql,Qa];rw[Ti];rfl
theorem KO:ib [vA]=some (vA,true,()):=by
 unfold ib;simp only[bq];rw[bD (s':=(vA,1,())) ?_,bs (r:=(vA,true,())) ?_]
 ·rfl
 ·simp only;rw[Qg (by decide:(0:Int)<((List.length [vA]:Nat):Int)),show idx [vA] 0=some vA from rfl]
  simp only[Qk,Qa];rw[Oe,Qg Ci,Qa,Qk,DU,Qa];rw[Qg (by decide:(0:Int)<xb vA (ByteArray.mk #[]))]
  rfl
def mA:ab:=Bs 0 1 tA
def zA:ab:=(runT 1 1 20 (gA mA vA)).getD mA
theorem Xv:runT 1 1 20 (gA mA vA)=some zA/\zA.aJ=3/\zA.aa.Value=vA:=by
 refine⟨?_,by decide+kernel,by decide+kernel⟩
 have h:(runT 1 1 20 (gA mA vA)).isSome=true:=by decide+kernel
 unfold zA
 cases e:runT 1 1 20 (gA mA vA)with
 |none=>rw[e]at h;cases h
 |some z=>rfl
theorem UH:tj=some true:=by
 obtain⟨m1,m2⟩:=Tu (az:=0) (bJ:=1) (by omega) (by omega) (by omega) (by omega) pH
 have hp:=DQ m1 (v:=vA) Ci
 have hflat:qW 1 1 (gA mA vA):=⟨by omega,by omega,by omega,by unfold gA;split<;>rfl,fun e he=>by
  have:(gA mA vA).aB=[]:=by unfold gA;split<;>rfl
  rw[this]at he
  exact absurd he QR⟩
 obtain⟨r1,r2,r3⟩:=Xv;obtain⟨q,e1,x2,hq,ha⟩:=PR (R:=fun x=>Reach (gA mA vA) x/\Av mA x) (fun x h1 h2=>⟨SR hp x h1 h2.1,SN x h1 h2.2⟩) (fun x h=>⟨SQ x h.1,SM x h.2⟩) m1 m2 Ci ⟨SS hp,Ng m1 (.inl ⟨vA,Ci,rfl⟩)⟩
 have hb:Gi mA (gA mA vA):= .inl ⟨vA,Ci,rfl⟩;have hop:=Tn m1 hb (q:=q) ⟨x2,hq,ha.inv,ha.seq,ha.env,ha.num,ha.nz,ha.rel.2,ha.fix⟩;have hx2:x2={zA with aN:=x2.aN}:=Wq hp hflat r1 ⟨ha.inv,ha.seq,ha.env,ha.num,ha.nz,ha.rel.1,ha.fix⟩
 have hph:q.1.aJ=3/\q.1.aa=zA.aa:=by
  obtain⟨s,e,_⟩:=Ex mA x2;rw[hq];show(s7 mA x2).aJ=3/\(s7 mA x2).aa=zA.aa;rw[e,hx2];exact⟨r2,rfl⟩
 have hn:=hop.2;have ht1:(gA mA vA).ao=tA:=by unfold gA;split<;>rfl
 unfold tj;simp only[bS.eta,aC.eta,ab.eta,etas];rw[show mT 1 1=some tA from LW 1 (by omega) 1,Qa]
 let y:bS:=⟨nA,q.1,⟨0, -1⟩,1,2,true,vA⟩
 have hval:q.1.aa.Value=vA:=by rw[hph.2];exact r3
 have ht0:G0 ⟨0, -1⟩:=⟨by decide,by decide,by decide,by decide⟩
 have hy:ta 0 1 0 y:=⟨⟨hn.inv,hn.seq,hn.az,hn.bJ,XA,⟨(by decide:(1:Int)<=1),(by decide:(1:Int)<=1+0)⟩,rfl,rfl,(hn.bb.trans ht1).symm,ht0,⟨(by decide:(1:Int)<=1),(by decide:(1:Int)<=1000)⟩,⟨(by decide:(0:Int)<=2),(by decide:(2:Int)<=212)⟩⟩,(Qg hph.1).symm,by
  show vA=bif decide (q.1.aJ=3)then q.1.aa.Value else il
  rw[Qg hph.1,hval];rfl⟩
 have hnew:tb 0 1 tA (ByteArray.mk #[97]) 0=some (y,0,()):=by
  unfold tb qX og;simp only[bS.eta,aC.eta,ab.eta,etas];rw[Qg (by omega:(0:Int)<=0),Qg (by omega:(0:Int)<=200),Xy (by omega) (by omega) (by omega) (by omega) pH]
  simp only[Qk,Ql,Qa,Qo,decide_true];rw[show jU 0 1 tA (ByteArray.mk #[97])=some (nA,0,())from Tb]
  simp only[Qa,decide_true,Qo,Ql];rw[show aA .i64 0 (aA .i64 (bn (dp 1 11) 0) 1)=2 from by decide]
  unfold oh;simp only[bS.eta,aC.eta,ab.eta,etas,bq,bX];rw[Qg (show(Bs 0 1 tA).aJ=1 from rfl),show aI (Bs 0 1 tA).ar=true from by decide]
  simp only[Qk,Qa];rw[Qg (show(0:Int)<((List.length nA.bA:Nat):Int)from by decide),Qk,show ib nA.bA=some (vA,true,())from KO]
  simp only[Qk,Qa];rw[Qh (show¬vA=(Bs 0 1 tA).bh from by decide)]
  simp only[Qp,Qk];rw[show kL (Bs 0 1 tA) vA=some q from e1,Qa,hop.1]
  simp only[decide_true,Qk];rw[I5 hn.inv hn.seq,Qa,Qg hph.1];simp only[Qk,hval];rfl
 rw[hnew];simp only[Qa,decide_true,Qk];obtain⟨l,hl,hlen⟩:=PT hy (by omega)
 rw[I7 hy (by omega),hl]
 simp only[Qa,Qk]
 have hc:aI q.1.aa=false:=by
  rcases hn.inv.body with k|k|k|k
  ·exact absurd (k.aE.symm.trans hph.1) (by decide)
  ·exact k.aG.nz
  ·exact k.aG.nz
  ·exact k.aG.nz
 rw[IA hn.inv]at hc
 have:l.length=1:=by
  rw[hlen];show(bif true then 0 else 1)+(bif decide (q.1.aa.ae=0)then 0 else 1)=1
  rw[hc];rfl
 rw[this];rfl
end
section
end
section
structure Vz (m:iw):Prop where
 n0:0<=m.aq
 n1:m.aq<10
 seq:1<=m.aN
 bb:ir m.ao
 oD:m.de=[]
 GY:m.bB=[]
section
variable {v : Int} {t : an} (h0 : 0 <= v) (h1 : v < 10) (ht : ir t) {l : List iw} (hl : l.length <= 1000) (h : ∀ m ∈ l, Vz m)
 include h0 h1 ht hl h
end
section
variable {n : aC} (h : uh n)
 include h
end
section
variable {n : aC} (h : uh n)
 include h
end
end
section
def XB(x:Int):List an->Bool
 |[]=>false
 |u::_=>decide (x∈u.a8)
def XY(t:an)(x:Int):Bool:=decide (x∈t.a8)||XB x t.aM
def XD(t:an):Int:=((t.a8.length+t.aM.length:Nat):Int)
 def FE(a b c d:Int):Int:=Classical.choose (XL a b c d)
 def WZ(t:an)(v bJ round k:Int):Bool:=decide (k=v)||(XY t k&&decide (FE 1 bJ round k*XD t<t.aH*4294967296))
section
variable {t : an} {v bJ round : Int} (h : Gj t v bJ round)
 include h
def Wx(bJ round j b:Int):Prop:=FE 2 bJ round j<FE 2 bJ round b\/FE 2 bJ round j=FE 2 bJ round b/\j<=b
structure X2 (t:an) (v bJ round b:Int):Prop where
 b0:0<=b
 b1:b<10
 nb:WZ t v bJ round b=true
 top:∀j,0<=j->j<10->WZ t v bJ round j=true->Wx bJ round j b
end
section
variable {t : an} {v bJ round : Int} (h : Gj t v bJ round)
 include h
theorem Gj.at{r:Int}(h1:1<=r)(h2:r<=round):Gj t v bJ r:=⟨h.bb,h.v0,h.v1,h.s0,h.s1,h1,by have:=h.r2;omega⟩
end
end
section
section
variable {n : aC} (h : uh n)
 include h
end
structure X3 (n:aC) (c:List ByteArray):Prop where
 vl:VL c
 sub:∀x∈c,x∈n.bB
section
variable {n : aC} (h : uh n)
 include h
end
end
section
end
section
section
variable {n : aC} (h : uh n)
 include h
end
end
section
section
variable {m : ab} (h : aY m) (hs : gb m)
 include h hs
end
end
section
def V6(l:List ByteArray):ByteArray:=l.getLast?.getD (ByteArray.mk #[])
section
variable {nd sl k : Int} {x : bS}
structure XN (x y:bS):Prop where
 Hu:y.aF=x.aF
 round:y.Round=x.Round
 next:y.Next=x.Next
 timer:y.Timer=x.Timer
 heard:y.aj.aB=x.aj.aB
 sJ:x.aF.bA≠[]->y.aj.aJ=1->aI y.aj.ar=true->y.aj.bh=V6 x.aF.bA
end
end
section
section
variable {m : ab} (h : aY m) (hs : gb m)
 include h hs
end
section
variable {nd sl k : Int} {x : bS} (h : ta nd sl k x) (hk : k <= 999998)
 include h hk
end
end
section
section
variable {nd sl k : Int} {x : bS} (h : ta nd sl k x) (hk : k <= 999998)
 include h hk
end
end
section
end
section
end
section
theorem xx(l:List Int)(b:Int)(hb:0<=b/\b<256):qw l b=some true:=by
 have hF:mT 3 3=some ⟨3,oE 3,[]⟩:=LW 3 (by omega) 3
 have ht:ir ⟨3,oE 3,[]⟩:=⟨fun x hx=>by obtain⟨k,hk,rfl⟩:=Cw.1 hx;omega,by decide,by decide,.inl rfl,by decide⟩
 obtain⟨now,hnow,hn0,hn1⟩:∃now,sC .i64 (cj .i64 b) 50=now/\0<=now/\now<50:=by
  have e1:cj .i64 b=b:=wrap64 (by omega) (by omega)
  have e2:sC .i64 b 50=b.tmod 50:=rfl;rw[e1,e2];exact⟨_,rfl,Int.tmod_nonneg 50 hb.1,Int.tmod_lt_of_pos b (by omega)⟩
 unfold qw;refine Yd.eq_true ?_;refine Yd.bind (Vy l) fun s hO=> ?_
 rw[hF,Qa];refine Yd.bind (RF hO) fun p3 ⟨hO3,hv⟩=> ?_
 simp only[bS.eta,aC.eta,ab.eta,etas,UH,hnow,bq];rw[X4 (nd:=0) (sl:=1) (by omega) (by omega) (by omega) (by omega) ht (NJ hv).2 (by omega) (by omega)]
 refine Yd.bind (XW (nd:=0) (sl:=1) (by omega) (by omega) (by omega) (by omega) ht (NJ hv).2 (by omega) (by omega)) fun r4 ⟨r0,hx,_,_,hr,hnx⟩=> ?_
 obtain⟨w,ew,w1,w2⟩:=R4 (c:=1) (by omega) (by omega)
 have hadd:aA .i64 now w=now+w:=cO (by omega) (by omega)
 rw[r0,ew];simp only[decide_true,Qo,Ql,Qa,hadd,Qg (hnx w ew)];refine Yd.Sp (fun(v:Int×bS×Unit)=>1<=v.1/\v.1<=40/\ta 0 1 v.1 v.2.1/\v.2.1.Round<=v.1) (fun v=>(40 - v.1).toNat) ?_ ⟨Int.le_refl _,by show(1:Int)<=40;omega,hx.le (by omega),by show r4.1.Round<=1;omega⟩
 rintro⟨k,x,u⟩ ⟨a1,a2,a3,a4⟩;simp only at a1 a2 a3 a4;simp only
 by_cases hk:k<40
 ·rw[Qg hk,Qk];have e1:aA .i64 now k=now+k:=cO (by omega) (by omega)
  have e2:aA .i64 k 1=k+1:=cO (by omega) (by omega)
  have hrd:=a3.pre.round;have e3:aA .i64 x.Round 1=x.Round+1:=cO (by omega) (by omega)
  have e4:dp (x.Round+1) 1000=x.Round+1:=by unfold dp;split<;>omega
  rw[e1,X0 a3 (by omega) (by omega) (by omega)]
  refine Yd.bind (XS a3 (by omega) (by omega) (by omega)) fun q ⟨q0,hy,_,hc,hrr⟩=> ?_
  rw[q0];simp only[decide_true,Qo,Ql,e2,e3];rw[e4]at hc hrr
  have fin:Yd (some (Sum.inl (k+1,q.1,())):Option ((Int×bS×Unit)⊕Bool)) (Lp (fun s'=>(1<=s'.1/\s'.1<=40/\ta 0 1 s'.1 s'.2.1/\s'.2.1.Round<=s'.1)/\(40 - s'.1).toNat<(40 - k).toNat) (fun r=>r=true)):=
   .some ⟨⟨by show 1<=k+1;omega,by show k+1<=40;omega,hy,by show q.1.Round<=k+1;rcases hrr with e|e<;>omega⟩,by show(40 - (k+1)).toNat<(40 - k).toNat;omega⟩
  by_cases hcd:x.aF.bA=[]
  ·have e5:decide (((x.aF.bA.length:Nat):Int)=(0:Int))=true:=by rw[hcd];rfl
   rw[e5,Qk];obtain⟨g1,g2⟩:=hc hcd
   by_cases hlt:now+k<x.Next
   ·rw[Qg hlt,Qh (by omega:¬x.Next<=now+k),Qg (g1 hlt)]
    exact fin
   ·obtain⟨g3,g4⟩:=g2 (by omega)
    obtain⟨w',ew',w1',w2'⟩:=R4 (c:=q.1.Round) (by omega) (by omega)
    have e6:aA .i64 (now+k) w'=now+k+w':=cO (by omega) (by omega)
    rw[Qh hlt,Qg (by omega:x.Next<=now+k),Qg g3,ew']
    simp only[Qk,Ql,Qo,Qa,e6,Qg (g4 w' ew')];exact fin
  ·have hpos:0<x.aF.bA.length:=List.length_pos_iff.2 hcd;rw[Qh (by omega:¬((x.aF.bA.length:Nat):Int)=(0:Int))]
   exact fin
 ·rw[Qh hk];exact .some rfl
end
end Go.Proofs.YtjbfdglebjnelaaGreat
end
noncomputable section
namespace Go.TQ
open Go.RowKit
theorem rep_ints{w:World}{M:Nat->Prop}{G:Gh}{a:Option Addr}{len cap:Nat}{zs:List Int}(hM:∀b,¬M b)
  (h:(a=none/\len=0/\cap=0/\zs=[])\/∃x,a=some x/\len<=cap/\cap<=maxLen/\zs.length=cap/\(∀i,i<zs.length->w.cell? (x.add i)=some (.int .i64 (zs.getD i 0)))/\∀n∈zs,(Lit.int .i64 n).wf=true):
  aR w M G (.sl ((zs.take len).map fun n=>[.int .i64 n])) (.slice a len cap):=by
 rcases h with⟨rfl,rfl,rfl,rfl⟩|⟨x,rfl,h1,h2,h3,h4,_⟩
 ·exact .slnil
 ·have hfl:∀l:List Int,(l.map fun n=>[PV.int .i64 n]).flatten=l.map fun n=> .int .i64 n:=by
   intro l
   induction l with
   |nil=>rfl
   |cons n l ih=>simp only[QD,List.flatten_cons,ih];rfl
  have hlen:((zs.take len).map fun n=>[PV.int .i64 n]).length=len:=by simp;omega
  have:=aR.sl (w:=w) (M:=M) (G:=G) ((zs.take len).map fun n=>[.int .i64 n]) x cap 1 ((zs.take len).map fun n=> .int .i64 n) (fun e he=>by obtain⟨n,_,rfl⟩:=QP.1 he;rfl) (by rw[hfl];simp)
   (fun i v hv=> ?_) (fun i y v hy hv=> ?_) (by rw[hlen];exact h1) h2
  ·rw[hlen]at this;exact this
  ·refine⟨?_,hM _⟩;rw[QT,Qb]at hv;obtain⟨n,hn,rfl⟩:=hv;rw[Qq67]at hn;split at hn
   ·have hi:i<zs.length:=(Qw.1 hn).1;rw[h4 i hi,List.getD_eq_getElem?_getD,hn];rfl
   ·cases hn
  ·rw[hfl]at hy;rw[QT]at hy hv;rw[Qb]at hy hv;obtain⟨n,hn,rfl⟩:=hy;obtain⟨n',hn',rfl⟩:=hv;rw[hn]at hn';injection hn' with e
   subst e;exact .int _ _
theorem law_calls{P:Program}{f:FuncId}{args:List PV}{vs:List Value}{w:World}(h:VE P f false [] args (.bool true) [])(hr:aP w (fun _=>False) cv args vs):
  Calls P f vs.toArray w fun e w'=>e= .returned (.bool true)/\Below w.heap.size w w':=by
 refine(h w (fun _=>False) (fun _ hb=>hb.elim) 0 0 [] vs (fun hq=>by cases hq) ?_).mono ?_
 ·exact⟨hr.1,fun i x v hx hv=>(hr.2 i x v hx hv).mono (cZ.of fun _ _=>fun hq=>by rcases hq with⟨hq,_⟩|hq;cases hq;exact hq) (Gh.le.refl _)⟩
 ·rintro e w' ⟨v,_,rfl,hv,_,hF⟩;refine⟨by rw[hv.ku],hF.os,hF.tape,hF.output,hF.size,fun k hk=>hF.block k hk (by simp)⟩
end Go.TQ
end
