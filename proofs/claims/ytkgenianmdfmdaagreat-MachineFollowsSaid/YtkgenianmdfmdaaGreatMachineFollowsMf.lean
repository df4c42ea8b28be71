/-
  Texts made small by a program (see NOTES). Conditions: those that each theorem names.
-/
import Derived.Test.YtkgenianmdfmdaaGreatMachineFollowsMe
set_option linter.unusedVariables false
set_option linter.unusedSimpArgs false
set_option linter.unusedSectionVars false
set_option maxHeartbeats 2000000
noncomputable section
namespace Go.Proofs.YtkgenianmdfmdaaGreat
open Go.TQ
theorem lexLt{a a' b b' B:Nat}(hb:b<B)(h:a<a'):a*B+b<a'*B+b':=by
 have h1:(a+1)*B<=a'*B:=Nat.mul_le_mul_right B h;rw[Nat.add_mul]at h1;omega
theorem tG{a a' b b' B:Nat}(h:a=a')(hb:b<b'):a*B+b<a'*B+b':=by rw[h];omega
theorem zy{a b A B:Nat}(ha:a<A)(hb:b<B):a*B+b<A*B:=by
 have h1:(a+1)*B<=A*B:=Nat.mul_le_mul_right B ha;rw[Nat.add_mul]at h1;omega
theorem bU.sm{b:af}(h:bU b):Sm b:=⟨by have:=h.1;omega,h.2.1,h.2.2.2⟩
theorem Pl:Sm bm:=⟨by decide,by decide,by decide⟩
theorem mU{b:af}(h:b=bm\/bU b):Sm b:=by
 rcases h with rfl|h
 ·exact Pl
 ·exact h.sm
theorem HN{b:af}(h:bU b):kb bm<kb b:=ox Pl h.sm ((ow _ _).2 (.inl h.1))
 def t1(m:ab):Nat:=2*m.aa.aj.toNat+(if m.aa.Value=j5 m then 1 else 0)
 def pq(m:ab):Nat:=kb m.al*WB+kb m.aw
 def r1(m:ab):Nat:=(pq m*WB+kb m.ar)*2002+t1 m
def K1:Nat:=(WB*WB)*WB*2002
 def r2(m:ab):Nat:=(((m.aX.toNat*1001+(1000 - m.aO).toNat)*WB+kb m.al)*WB+kb m.ar)*1001+m.aa.aj.toNat
def K2:Nat:=((1001*1001)*WB*WB)*1001
 def iD(m:ab):Nat:=if m.aB=1 then r1 m else if m.aB=2 then K1+r2 m else K1+K2
def tE(m:ab):Prop:=(m.al=bm\/bU m.al)/\(m.aw=bm\/bU m.aw)/\(m.ar=bm\/bU m.ar)/\(m.aa=bm\/bU m.aa)
theorem P0.ok{m:ab}(h:P0 m):tE m:=⟨.inl h.cy,.inl h.bB,.inl h.dj,.inl h.aD⟩
theorem P1.ok{m:ab}(h:P1 m):tE m:=⟨h.cy,h.bB.imp id (·.1),h.dj.imp id (·.1),.inr h.aD⟩
theorem P2.ok{m:ab}(h:P2 m):tE m:=⟨.inr h.cy.1,.inl h.bB,h.dj.imp id (·.1),.inr h.aD⟩
theorem Np{m:ab}(h:tE m):t1 m<2002:=by
 have:m.aa.aj<=1000:=by
  rcases h.2.2.2 with e|e
  ·rw[e];decide
  ·exact e.2.1
 unfold t1;split<;>omega
theorem Wf{m:ab}(h:tE m):pq m<WB*WB:=zy (lg (mU h.1)) (lg (mU h.2.1))
theorem NC{m:ab}(h:tE m):r1 m<K1:=zy (zy (Wf h) (lg (mU h.2.2.1))) (Np h)
theorem P2.bM{m:ab}(h:P2 m):m.aX<=1000:=by have:=h.range.2.2;have:=h.cy.1.2.1;omega
theorem SU{m:ab}(h:P2 m):r2 m<K2:=by
 have h1:=h.range;have h2:=h.bM;refine zy (zy (zy (zy (A:=1001) ?_ ?_) (lg h.cy.1.sm)) (lg (mU h.ok.2.2.1))) ?_
 ·omega
 ·omega
 ·have:=h.aD.2.1;omega
theorem rX{m:ab}(h:m.aB=1):iD m=r1 m:=Qr h
theorem rW{m:ab}(h:m.aB=2):iD m=K1+r2 m:=by unfold iD;rw[Qs (by omega),Qr h]
theorem O5{m:ab}(h:m.aB=3):iD m=K1+K2:=by unfold iD;rw[Qs (by omega),Qs (by omega)]
theorem TD{m:ab}(h:aU m):iD m<=K1+K2:=by
 rcases h.body with h0|h1|h2|h3
 ·rw[rX h0.aA];have:=NC h0.ok;omega
 ·rw[rX h1.aA];have:=NC h1.ok;omega
 ·rw[rW h2.aA];have:=SU h2;omega
 ·rw[O5 h3.aA];exact QI _
theorem nW.WZ{p q b p' q':af}(h:mI p q)(hb:b=bm\/bU b)(hj:nW p q b p' q'):(p'=p/\q'=q)\/kb p*WB+kb q<kb p'*WB+kb q':=by
 have hok:=hj.ok h hb;have hp:=mU h.1;have hq:Sm q:=mU (h.2.imp id (·.1))
 cases hj with
 |same=>exact .inl ⟨rfl,rfl⟩
 |first h1 h2=>
  subst h1 h2;rcases hb with e|e
  ·exact .inl ⟨e,rfl⟩
  ·exact .inr (lexLt (lg hq) (HN e))
 |up h1 hl hc=>exact .inr (lexLt (lg hq) (ox hp (mU hb) hl))
 |vN h1 hl hc=>exact .inr (lexLt (lg hq) (ox hp (mU hb) hl))
 |under h1 hl hc hq'=>
  rcases hq' with e|e
  ·subst e;rcases hb with e2|e2
   ·exact .inl ⟨rfl,e2⟩
   ·exact .inr (tG rfl (HN e2))
  ·exact .inr (tG rfl (ox hq (mU hb) e))
theorem qG{m m':ab}(he:ff m m')(h1:m'.aB=m.aB)(h2:m'.aa=m.aa)(h3:m'.al=m.al)(h4:m'.aw=m.aw)(h5:m'.ar=m.ar)(h6:m'.aO=m.aO)(h7:m'.aX=m.aX):m'=m:=by
 obtain⟨e1,e2,e3,e4,e5,e6⟩:=he;cases m;cases m';simp only at*;subst e1 e2 e3 e4 e5 e6 h1 h2 h3 h4 h5 h6 h7;rfl
theorem J3{m m':ab}(he:ff m m')(h:lq m m'=true):m'=m:=by
 unfold lq at h;simp only[Qm,Qi,oa]at h;obtain⟨⟨⟨⟨⟨⟨h1,h2⟩,h3⟩,h4⟩,h5⟩,h6⟩,h7⟩:=h;exact qG he h1.symm h2.symm h3.symm h4.symm h5.symm h6.symm h7.symm
theorem Ns(m:ab):lq m m=true:=by
 unfold lq;simp only[decide_true,oa.2 rfl,Bool.and_self]
theorem Wd{m m':ab}(h:tE m)(hlt:pq m<pq m'):r1 m<r1 m':=lexLt (Np h) (lexLt (lg (mU h.2.2.1)) hlt)
theorem XL{m m':ab}(h:tE m)(hpq:pq m=pq m')(hlt:kb m.ar<kb m'.ar):r1 m<r1 m':=lexLt (Np h) (tG hpq hlt)
theorem XK{m m':ab}(hpq:pq m=pq m')(hc:m.ar=m'.ar)(hlt:t1 m<t1 m'):r1 m<r1 m':=tG (by rw[hpq,hc]) hlt
theorem FQ{m:ab}(h1:P1 m):pJ m m.al m.aw=m.aO:=by
 unfold pJ;split
 ·rename_i hc;rcases h1.low with e|⟨g1,g2,g3⟩
  ·exact absurd e hc.2
  ·rw[Pp g1 g3,Qs (by omega)]
 ·rfl
theorem Xz{m:ab}(h:aU m):bZ m=m\/iD m<iD (bZ m):=by
 have hid:m.aB=3\/aF m.aa=true->bZ m=m:=fun hc=>Qr hc
 rcases h.body with h0|h1|h2|h3
 ·exact .inl (hid (.inr (by rw[h0.aD];exact bl)))
 ·have hj:=(yp h h1.fp).WZ h1.fp (pb h);have he:bZ m={m with al:=(bY m.al m.aw (cp (di m))).1,aw:=(bY m.al m.aw (cp (di m))).2,aO:=pJ m (bY m.al m.aw (cp (di m))).1 (bY m.al m.aw (cp (di m))).2}:=Qs (by rw[h1.aA,h1.aD.nz];decide)
  rcases hj with⟨e1,e2⟩|hlt
  ·left;rw[he,e1,e2,FQ h1]
  ·right;rw[rX h1.aA,rX (by rw[he];exact h1.aA)]
   exact Wd h1.ok (by rw[he];exact hlt)
 ·have hj:=(yp h h2.fp).WZ h2.fp (pb h);have hk:=My h h2;have he:bZ m={m with al:=(bY m.al m.aw (cp (di m))).1,aw:=(bY m.al m.aw (cp (di m))).2,aO:=pJ m (bY m.al m.aw (cp (di m))).1 (bY m.al m.aw (cp (di m))).2}:=Qs (by rw[h2.aA,h2.aD.nz];decide)
  have hlow:∀p q,pJ m p q=m.aO:=fun p q=>Qs (fun h=>by have:=h.1;rw[h2.aA]at this;cases this)
  rcases hj with⟨e1,e2⟩|hlt
  ·left;rw[he,e1,e2,hlow]
  ·right;rw[rW h2.aA,rW (by rw[he];exact h2.aA)]
   have e2:(bY m.al m.aw (cp (di m))).2=m.aw:=by
    have h3:=hk.2.2;rw[he]at h3;exact h3.trans h2.bB.symm
   have hp:kb m.al<kb (bZ m).al:=by
    rw[he];simp only;rw[e2]at hlt;refine Nat.lt_of_not_le fun hle=> ?_
    have:=Nat.mul_le_mul_right WB hle;omega
   have e3:(bZ m).aX=m.aX/\(bZ m).aO=m.aO/\(bZ m).ar=m.ar/\(bZ m).aa=m.aa:=by rw[he];exact⟨rfl,hlow _ _,rfl,rfl⟩
   have:r2 m<r2 (bZ m):=by
    unfold r2;rw[e3.1,e3.2.1,e3.2.2.1,e3.2.2.2];exact lexLt (by have:=h2.aD.2.1;omega) (lexLt (lg (mU h2.ok.2.2.1)) (tG rfl hp))
   omega
 ·exact .inl (hid (.inl h3.aA))
theorem Xy{m:ab}(h:aU m):gg m=m\/iD m<iD (gg m):=by
 rcases h.body with h0|h1|h2|h3
 ·exact .inl (lQ (.inr (.inl (by rw[h0.aD];exact bl))))
 ·obtain⟨g1,g2⟩:=Cz h h1;rcases g2 with e|⟨e1,e2,e3,_⟩
  ·exact .inl e
  ·right;rw[rX h1.aA,rX g1.aA];exact XL h1.ok (by unfold pq;rw[e1,e2]) (ox (mU h1.ok.2.2.1) (mU g1.ok.2.2.1) e3)
 ·exact .inl (lQ (.inl (by rw[h2.aA];decide)))
 ·exact .inl (lQ (.inl (by rw[h3.aA];decide)))
theorem F3(a b:Int):(bn a b=a/\b<=a)\/(bn a b=b/\a<b):=by unfold bn;split<;>omega
theorem ke{a b:af}(h1:a.aj=b.aj)(h2:a.Value=b.Value):a=b:=by cases a;cases b;simp only at h1 h2;rw[h1,h2]
theorem XC{m:ab}(h:aU m):dq m=m\/iD m<iD (dq m):=by
 have hC:m.aB=1->tE m->dq m=m\/iD m<iD (dq m):=by
  intro hp hok
  by_cases hk:(dx m).2.2.2.1=true
  ·right;have e:dq m=xQ m (dx m).1 (dx m).2.1 (dx m).2.2.1:=by unfold dq;rw[Qr hp,Qr hk]
   rw[rX hp,rW (by rw[e];rfl)]
   have:=NC hok;omega
  ·left;unfold dq;rw[Qr hp,Qs hk]
 rcases h.body with h0|h1|h2|h3
 ·exact hC h0.aA h0.ok
 ·exact hC h1.aA h1.ok
 ·have e:dq m=sE m (c9 m).1 (c9 m).2:=by unfold dq;rw[Qs (by rw[h2.aA];decide),Qr h2.aA]
  obtain⟨g1,g2,g3,g4⟩:=KW h h2;have h2':=Ob h2 g1 g2 g3;rw[e]
  have hr:m.aX.toNat<=1000/\(1000 - m.aO).toNat<1001/\m.aa.aj.toNat<1001:=by
   have:=h2.bM;have:=h2.range;have:=h2.aD.2.1;omega
  have hcB:m.ar=(sE m (c9 m).1 (c9 m).2).ar\/kb m.ar<kb (sE m (c9 m).1 (c9 m).2).ar:=by
   rcases h2.dj with e|⟨hf,hv⟩
   ·right;rw[e]
    exact HN (h2'.dj.resolve_left (fun e=>by
     have h1:=h2'.range;have h3:(sE m (c9 m).1 (c9 m).2).ar.aj=bn m.ar.aj (c9 m).2:=rfl;rw[e]at h3;have h4:=F3 m.ar.aj (c9 m).2;have h5:(bm:af).aj=0:=rfl
     omega)).1
   ·rcases F3 m.ar.aj (c9 m).2 with⟨e1,_⟩|⟨e1,e2⟩
    ·exact .inl (ke e1.symm hv)
    ·right;refine ox hf.sm (mU h2'.ok.2.2.1) ((ow _ _).2 (.inl ?_));show m.ar.aj<bn m.ar.aj (c9 m).2;omega
  have hpB:m.al=(sE m (c9 m).1 (c9 m).2).al\/kb m.al<kb (sE m (c9 m).1 (c9 m).2).al:=by
   rcases F3 m.al.aj (c9 m).2 with⟨e1,_⟩|⟨e1,e2⟩
   ·exact .inl (ke e1.symm rfl)
   ·right;refine ox h2.cy.1.sm h2'.cy.1.sm ((ow _ _).2 (.inl ?_));show m.al.aj<bn m.al.aj (c9 m).2;omega
  have hbB:m.aa=(sE m (c9 m).1 (c9 m).2).aa\/m.aa.aj<(sE m (c9 m).1 (c9 m).2).aa.aj:=by
   rcases F3 m.aa.aj (c9 m).2 with⟨e1,_⟩|⟨e1,e2⟩
   ·exact .inl (ke e1.symm rfl)
   ·right;show m.aa.aj<bn m.aa.aj (c9 m).2;omega
  rw[rW h2.aA,rW h2'.aA];have hPs:=lg h2.cy.1.sm;have hCs:=lg (mU h2.ok.2.2.1);have hHi:(sE m (c9 m).1 (c9 m).2).aX=(c9 m).2:=rfl;have hLo:(sE m (c9 m).1 (c9 m).2).aO=(c9 m).1:=rfl;have fin:r2 m<r2 (sE m (c9 m).1 (c9 m).2)->K1+r2 m<K1+r2 (sE m (c9 m).1 (c9 m).2):=fun h=>by omega
  have hrng:=h2.range;rcases g4 with⟨e1,e2⟩|e1
  ·rcases Int.lt_or_eq_of_le e2 with e3|e3
   ·
    refine .inr (fin (lexLt hr.2.2 (lexLt hCs (lexLt hPs (tG ?_ ?_)))))
    ·rw[hHi,e1]
    ·rw[hLo];omega
   ·rcases hpB with hp|hp
    ·rcases hcB with hc|hc
     ·rcases hbB with hb|hb
      ·left;exact qG ⟨rfl,rfl,rfl,rfl,rfl,rfl⟩ rfl hb.symm hp.symm rfl hc.symm e3 e1
      ·refine .inr (fin (tG ?_ (by have:=h2.aD.1;omega)))
       rw[hHi,hLo,<-hp,<-hc,e1,e3]
     ·refine .inr (fin (lexLt hr.2.2 (tG ?_ hc)));rw[hHi,hLo,<-hp,e1,e3]
    ·refine .inr (fin (lexLt hr.2.2 (lexLt hCs (tG ?_ hp))));rw[hHi,hLo,e1,e3]
  ·refine .inr (fin (lexLt hr.2.2 (lexLt hCs (lexLt hPs (lexLt hr.2.1 ?_)))));rw[hHi];omega
 ·left;unfold dq;rw[Qs (by rw[h3.aA];decide),Qs (by rw[h3.aA];decide)]
theorem XB{m:ab}(h:aU m):gX m=m\/iD m<iD (gX m):=by
 by_cases hc:m.aB=2/\(iQ m).2.2.1=true
 ·right;have e:gX m=zT m (iQ m).1 (iQ m).2.1:=Qr hc;rw[rW hc.1,O5 (by rw[e];rfl)]
  rcases h.body with h0|h1|h2|h3
  ·have:=h0.aA;have:=hc.1;omega
  ·have:=h1.aA;have:=hc.1;omega
  ·have:=SU h2;omega
  ·have:=h3.aA;have:=hc.1;omega
 ·exact .inl (Qs hc)
theorem XA{m:ab}(h:aU m):eu m=m\/iD m<iD (eu m):=by
 have hid:m.aB=3\/gu m m.aa.aj=false->eu m=m:=fun hc=>Qr hc
 cases ha:gu m m.aa.aj with
 |false=>exact .inl (hid (.inr ha))
 |true=>
  have hC:m.aB=1->tE m->0<=m.aa.aj/\m.aa.aj<=1000->eu m=m\/iD m<iD (eu m):=by
   intro hp hok hb;obtain⟨c1,c2,c3,c4,_⟩:=B6 h hb;have e:eu m={m with aO:=if j5 m=m.aa.Value then m.aO else 0,aa:=⟨bn m.aa.aj (dD (eU m) 1000),j5 m⟩}:=Qs (by rw[hp,ha];decide)
   have hnv:j5 (eu m)=j5 m:=by
    unfold j5 c6;rw[e];simp only[hp,Qt,not_true_eq_false,Qu,ne_eq]
   by_cases hs:bn m.aa.aj (dD (eU m) 1000)=m.aa.aj/\j5 m=m.aa.Value
   ·left;rw[e];refine qG ⟨rfl,rfl,rfl,rfl,rfl,rfl⟩ rfl (ke hs.1 hs.2) rfl rfl rfl ?_ rfl;exact Qr hs.2
   ·right;rw[rX hp,rX (by rw[e];exact hp)]
    refine XK (by rw[e];rfl) (by rw[e]) ?_
    unfold t1;rw[hnv];have hb':(eu m).aa=⟨bn m.aa.aj (dD (eU m) 1000),j5 m⟩:=by rw[e]
    rw[hb',Qr rfl];simp only
    by_cases hv:j5 m=m.aa.Value
    ·rw[Qr hv.symm];have:bn m.aa.aj (dD (eU m) 1000)≠m.aa.aj:=fun e=>hs ⟨e,hv⟩
     omega
    ·rw[Qs (fun e=>hv e.symm)]
     omega
  rcases h.body with h0|h1|h2|h3
  ·exact hC h0.aA h0.ok (by rw[h0.aD];decide)
  ·exact hC h1.aA h1.ok ⟨by have:=h1.aD.1;omega,h1.aD.2.1⟩
  ·obtain⟨c1,c2,c3,c4,_⟩:=B6 h ⟨by have:=h2.aD.1;omega,h2.aD.2.1⟩
   have hnv:j5 m=m.aa.Value:=Qs (by rw[h2.aA];decide)
   have e:eu m={m with aa:=⟨bn m.aa.aj (dD (eU m) 1000),m.aa.Value⟩}:=by
    unfold eu;rw[Qs (by rw[h2.aA,ha];decide),hnv,Qr rfl]
   rw[e]
   by_cases hs:bn m.aa.aj (dD (eU m) 1000)=m.aa.aj
   ·left;exact qG ⟨rfl,rfl,rfl,rfl,rfl,rfl⟩ rfl (ke hs rfl) rfl rfl rfl rfl rfl
   ·right;rw[rW h2.aA,rW (show({m with aa:=⟨bn m.aa.aj (dD (eU m) 1000),m.aa.Value⟩}:ab).aB=2 from h2.aA)]
    have:r2 m<r2 {m with aa:=⟨bn m.aa.aj (dD (eU m) 1000),m.aa.Value⟩}:=by
     refine tG rfl ?_;have:=h2.aD.1;show m.aa.aj.toNat<(bn m.aa.aj (dD (eU m) 1000)).toNat;omega
    omega
  ·exact .inl (hid (.inl h3.aA))
end Go.Proofs.YtkgenianmdfmdaaGreat
namespace Go.Proofs.YtkgenianmdfmdaaGreat
open Go.TQ
def WQ(p:ai->Bool):Prop:=∀e s,p {e with aL:=s}=p e
structure Alike (l l':List ai):Prop where
 view:∀az,az<10->∀t,fg az t l=fg az t l'
 Ml:∀p,WQ p->dh p (bH l)=dh p (bH l')
 Xw:eI l=eI l'
 val:fA l=fA l'
 gr:∀v,bK l v=bK l' v
section
variable {l l' : List ai} (h : Alike l l')
 include h
theorem Alike.acc{az:Nat}(hn:az<10)(t:aq):iB az t l=iB az t l':=by
 funext b
 unfold iB;rw[h.view az hn t,h.Ml _ (fun e s=>rfl),h.Ml _ (fun e s=>rfl)]
theorem Alike.dj{az:Nat}(hn:az<10)(t:aq):iE az t l=iE az t l':=by
 funext b
 unfold iE;rw[h.view az hn t,h.Ml _ (fun e s=>rfl)]
theorem Alike.ready{az:Nat}(hn:az<10)(t:aq):oH az t l=oH az t l':=by
 funext v lo hi
 unfold oH;rw[h.view az hn t,h.Ml _ (fun e s=>rfl),h.Ml _ (fun e s=>rfl)]
theorem Alike.sure{az:Nat}(hn:az<10)(t:aq):qP az t l=qP az t l':=by
 funext v lo hi
 unfold qP;rw[h.view az hn t,h.Ml _ (fun e s=>rfl)]
theorem Alike.next{az:Nat}(hn:az<10)(t:aq)(p q:af)(v:ByteArray):ix az t l p q v=ix az t l' p q v:=by
 unfold ix;rw[h.Xw,h.acc hn t]
theorem Alike.bM{az:Nat}(hn:az<10)(t:aq)(a:af):vb az t l a=vb az t l' a:=by
 unfold vb;rw[h.Xw,h.dj hn t]
theorem Alike.Cb(x:ByteArray->Int->Int->Bool)(p q:af):ft x l p q=ft x l' p q:=by
 unfold ft;rw[h.val];congr 1
 funext s v
 rw[h.gr]
theorem Alike.first(x:ByteArray->Int->Int->Bool)(p q:af)(s:Bool×af):nv x l p q s=nv x l' p q s:=by
 unfold nv;rw[h.gr]
end
theorem GR{l l':List ai}(hl:nA l)(hn:l.length<=1000)(hl':nA l')(hn':l'.length<=1000)
  (h1:∀x,(∃e∈l,x∈said e/\aF x=false)↔∃e∈l',x∈said e/\aF x=false) (h2:∀x,(∃e∈l,a8 e=true/\x=e.aa.Value)↔∃e∈l',a8 e=true/\x=e.aa.Value)
  (h3:∀v x,x∈ends v l↔x∈ends v l'):eI l=eI l'/\fA l=fA l'/\∀v,bK l v=bK l' v:=by
 obtain⟨_,a2,_,a4⟩:=nI hl.aZ hn;obtain⟨_,b2,_,b4⟩:=nI hl'.aZ hn';obtain⟨_,c2,_,c4⟩:=mT hl.aZ hn;obtain⟨_,d2,_,d4⟩:=mT hl'.aZ hn';refine⟨wY.flip.unique a2 b2 fun x=> ?_,wX.unique c2 d2 fun x=> ?_,fun v=> ?_⟩
 ·rw[a4,b4];exact h1 x
 ·rw[c4,d4];exact h2 x
 ·obtain⟨_,e2,_,e4⟩:=jk hl.aZ hn v;obtain⟨_,f2,_,f4⟩:=jk hl'.aZ hn' v;refine Cp.unique (e2.imp fun h=>Qg h) (f2.imp fun h=>Qg h) fun x=> ?_
  rw[e4,f4];exact h3 v x
theorem OD{l l':List ai}(hl:nA l)(hn:l.length<=1000)(ha:tL l)(h:l.Perm l'):Alike l l':=by
 have hl':nA l':=⟨by rw[<-h.length_eq];exact hl.len,fun e he=>hl.aZ e (h.mem_iff.2 he)⟩
 have hm:∀(P:ai->Prop),(∃e∈l,P e)↔∃e∈l',P e:=fun P=>⟨fun⟨e,he,hp⟩=>⟨e,h.mem_iff.1 he,hp⟩,fun⟨e,he,hp⟩=>⟨e,h.mem_iff.2 he,hp⟩⟩
 obtain⟨a,b,c⟩:=GR hl hn hl' (by rw[<-h.length_eq];exact hn) (fun x=>hm _) (fun x=>hm _) (fun v x=>by rw[s9,s9];exact hm _)
 exact⟨fun az hn t=>Nk hn t ha h,fun p _=>OO (LX h) p,a,b,c⟩
theorem Q8{l:List ai}(hl:nA l)(hn:l.length<=1000)(f:ai->ai)(hf:∀e∈l,f e={e with aL:=(f e).aL}/\a8 (f e)=a8 e):Alike l (l.map f):=by
 have e1:∀e∈l,(f e).au=e.au/\(f e).ae=e.ae/\(f e).aa=e.aa/\(f e).bS=e.bS/\(f e).al=e.al/\(f e).aw=e.aw/\(f e).aO=e.aO/\(f e).aX=e.aX:=fun e he=>by
  have:=(hf e he).1;rw[this];exact⟨rfl,rfl,rfl,rfl,rfl,rfl,rfl,rfl⟩
 have hl':nA (l.map f):=⟨by rw[QC];exact hl.len,fun e he=>by
  obtain⟨x,hx,rfl⟩:=QP.1 he
  rw[(e1 x hx).2.1];exact hl.aZ x hx⟩
 have hm:∀(P:ai->Prop),(∀e∈l,P e↔P (f e))->((∃e∈l,P e)↔∃e∈l.map f,P e):=fun P hP=>⟨fun⟨e,he,hp⟩=>⟨f e,QP.2 ⟨e,he,rfl⟩,(hP e he).1 hp⟩,fun⟨e,he,hp⟩=>by
  obtain⟨x,hx,rfl⟩:=QP.1 he
  exact⟨x,hx,(hP x hx).2 hp⟩⟩
 have hsaid:∀e∈l,said (f e)=said e:=fun e he=>by
  obtain⟨g1,g2,g3,g4,g5,g6,g7,g8⟩:=e1 e he;unfold said at_
  rw[(hf e he).2,g4,g3,g5,g6]
 have hbnd:∀v,∀e∈l,fZ v (f e)=fZ v e:=fun v e he=>by
  obtain⟨g1,g2,g3,g4,g5,g6,g7,g8⟩:=e1 e he;unfold fZ;simp only[(hf e he).2,g4,g3,g7,g8]
 obtain⟨a,b,c⟩:=GR hl hn hl' (by rw[QC];exact hn) (fun x=>hm _ fun e he=>by rw[hsaid e he]) (fun x=>hm _ fun e he=>by rw[(hf e he).2,(e1 e he).2.2.1])
  (fun v x=>by rw[s9,s9];exact hm _ fun e he=>by rw[hbnd v e he,(e1 e he).2.2.2.2.2.2.1,(e1 e he).2.2.2.2.2.2.2])
 refine⟨fun az hn t=> ?_,fun p hp=> ?_,a,b,c⟩
 ·unfold fg;generalize (List.replicate 10 fX).set az ⟨true,t⟩=ms
  suffices key:∀(k:List ai) (ms:List aW),(∀e∈k,e∈l)->k.foldl c8 ms=(k.map f).foldl c8 ms from key l ms fun e he=>he
  intro k
  induction k with
  |nil=>intro ms _;rfl
  |cons x k ih=>
   intro ms hk;have hx:=hk x Qx
   have:c8 ms (f x)=c8 ms x:=by
    unfold c8;rw[(hf x hx).2,(e1 x hx).1,(e1 x hx).2.1]
   rw[QD,QU,QU,this];exact ih _ fun e he=>hk e (Qy _ he)
 ·unfold bH
  suffices key:∀(k:List ai),(∀e∈k,e∈l)->dh p (k.filter a8)=dh p ((k.map f).filter a8)from key l fun e he=>he
  intro k
  induction k with
  |nil=>intro _;rfl
  |cons x k ih=>
   intro hk;have hx:=hk x Qx
   have hpx:p (f x)=p x:=by
    rw[(hf x hx).1];exact hp x _
   rw[QD,List.filter_cons,List.filter_cons,(hf x hx).2];split
   ·rw[dh,dh,hpx,(e1 x hx).1,ih fun e he=>hk e (Qy _ he)]
   ·exact ih fun e he=>hk e (Qy _ he)
structure gl (m:ab):Prop where
 zero:aF m.aa=true->m.aL=0
 pos:aF m.aa=false->1<=m.aL
def BC(m:ab):ai:=⟨m.au,m.bw,m.aL,m.ae,m.aB,m.aa,m.al,m.aw,m.aO,if m.aB=1 then ez m else m.aX⟩
theorem tQ(m:ab):bV m=some (BC m):=by
 unfold bV BC ez;simp only[bD,aq.eta,bW,dV,Qa]
 by_cases h1:m.aB=1
 ·rw[Qg h1,Qr h1];cases aF m.ar<;>cases bs m.ar m.aa<;>rfl
 ·rw[Qh h1,Qs h1];rfl
theorem yr{m:ab}(h:aU m):BC m=cg m:=by
 unfold BC cg;rcases h.body with h0|h1|h2|h3
 ·rw[Qr h0.aA,Qr h0.aA]
 ·rw[Qr h1.aA,Qr h1.aA]
 ·rw[Qs (by rw[h2.aA];decide),Qs (by rw[h2.aA];decide),Qr h2.aA,h2.bB]
 ·rw[Qs (by rw[h3.aA];decide),Qs (by rw[h3.aA];decide),Qs (by rw[h3.aA];decide),h3.bB,h3.cy]
theorem MB{m:ab}(hs:gl m)(hz:aF m.aa=false):dR m=cg m:=by
 unfold dR
 have:bn (cg m).aL 1=(cg m).aL:=by
  have:=hs.pos hz;rw[KX];unfold bn;split<;>omega
 rw[this]
def oY(m:ab):List ai:=if aF m.aa=true then m.aC else m.aC++[BC m]
theorem PY{l:List ai}(hl:l.length<=1000):dF l=some l:=by
 unfold dF;have h1:b0 176 (List.length ([]:List ai)+List.length l)=true:=eM (by simp;omega)
 rw[h1]
 cases l with
 |nil=>simp
 |cons x l=>rfl
theorem By{m:ab}(h:m.aC.length<=100):cr ⟨m⟩=some (oY m,⟨m⟩):=by
 unfold cr oY;simp only[ab.eta,aq.eta,ai.eta,ax.eta,bW,tQ,Qa,PY (show m.aC.length<=1000 by omega)]
 cases aF m.aa with
 |true=>rfl
 |false=>
  simp only[Ql,Qq,Qu];rw[eM (by simp;omega)]
  rfl
theorem aU.apart{m:ab}(h:aU m):tL (aK m):=by
 have hs:∀a∈m.aC,∀b∈m.aC,a.au=b.au->a=b:=by
  have:=h.mw;revert this;generalize m.aC=l;intro hp
  induction l with
  |nil=>intro a ha;cases ha
  |cons x l ih=>
   rw[Q4]at hp;intro a ha b hb e;rcases QA.1 ha with ha'|ha'<;>rcases QA.1 hb with hb'|hb'
   ·rw[ha',hb']
   ·have:=hp.1 b hb';rw[ha']at e;omega
   ·have:=hp.1 a ha';rw[hb']at e;omega
   ·exact ih hp.2 a ha' b hb' e
 intro a ha b hb e;rcases qS ha with ha|⟨_,rfl⟩<;>rcases qS hb with hb|⟨_,rfl⟩
 ·exact hs a ha b hb e
 ·exact absurd (e.trans (kj m)) (h.hv a ha).2.2.2
 ·exact absurd (e.symm.trans (kj m)) (h.hv b hb).2.2.2
 ·rfl
theorem Iz{m:ab}(h:aU m)(hs:gl m):(aK m).Perm (oY m):=by
 unfold aK oY;split
 ·exact .refl _
 ·rename_i hz;rw[yr h,<-MB hs (by simpa using hz)]
  exact rA _ _
theorem jh{m:ab}(h:aU m)(hs:gl m):Alike (aK m) (oY m):=OD h.ev.mR.1 h.ev.mR.2 h.apart (Iz h hs)
theorem mW{m:ab}(h:aU m)(hs:gl m):nA (oY m)/\(oY m).length<=1000:=by
 have hp:=Iz h hs;have:=h.ev.mR;exact⟨⟨by rw[<-hp.length_eq];exact this.1.len,fun e he=>this.1.aZ e (hp.mem_iff.2 he)⟩,by rw[<-hp.length_eq];exact this.2⟩
section
variable {m : ab} (h : aU m) (hs : gl m)
 include h hs
theorem Vc(p q:af)(v:ByteArray):ku m.au m.ae (oY m) p q v=some (ix m.au.toNat m.ae (aK m) p q v):=by
 have:=TO h.ev.az.2 h.ev.aZ (mW h hs).1 (mW h hs).2 p q v
 rwa [h.ev.az.1,<-(jh h hs).next h.ev.az.2]at this
theorem Ve(a:af):iN m.au m.ae (oY m) a=some (vb m.au.toNat m.ae (aK m) a):=by
 have:=TP h.ev.az.2 h.ev.aZ (mW h hs).1 (mW h hs).2 a
 rwa [h.ev.az.1,<-(jh h hs).bM h.ev.az.2]at this
theorem TR:mL m.au m.ae (oY m) m.al m.aw=some (dx m):=by
 have hl:=mW h hs;have:=VW (Kf h.ev.az.2 h.ev.aZ hl.1) hl.1 hl.2 (look_eq h.ev.az.2 h.ev.aZ hl.1) m.al m.aw;rw[h.ev.az.1,<-(jh h hs).ready h.ev.az.2,<-(jh h hs).Cb,<-(jh h hs).first]at this
 exact this
theorem Wh:lN m.au m.ae (oY m) m.aa.Value m.aO m.aX=some ((c9 m).1,(c9 m).2,()):=by
 have hl:=mW h hs;have:=UY (Kf h.ev.az.2 h.ev.aZ hl.1) hl.1 hl.2 (look_eq h.ev.az.2 h.ev.aZ hl.1) m.aa.Value m.aO m.aX;rw[h.ev.az.1,<-(jh h hs).ready h.ev.az.2,<-(jh h hs).gr]at this;exact this
theorem Wg:mM m.au m.ae (oY m) m.aa.Value=some (iQ m):=by
 have hl:=mW h hs;have:=VX (Tz h.ev.az.2 h.ev.aZ hl.1) hl.1 hl.2 (look_eq h.ev.az.2 h.ev.aZ hl.1) m.aa.Value;rw[h.ev.az.1,<-(jh h hs).sure h.ev.az.2,<-(jh h hs).gr]at this;exact this
end
theorem Il(v:ByteArray)(n:Int)(p q:af):kR v n p q=some (ka v n p q):=by
 unfold kR ka;generalize bn n 1=k
 have hst:∀(i:Nat) (x:af) (k:Int),i<2->[p,q][i]?=some x->
   (fun(v1:Int×Int×Unit)=>
    bif (decide (v1.2.1<((List.length [p,q]:Nat):Int)))then
    bO (fun(v2:Int×Unit)=>some (Sum.inl (v2.1,(aJ .i64 v1.2.1 (1:Int)),()))) fun j3=>
    Option.bind (idx [p,q] v1.2.1) fun x4=>
    Option.bind (eR x4) fun r5=>
    Option.bind (bif (!r5)then some true else Option.bind (de x4 (af.mk v1.1 v)) fun r6=>some (!r6)) fun b7=>
    bif b7 then j3 (v1.1,())
    else Option.bind (de x4 (af.mk x4.aj v)) fun r8=>
     bif r8 then j3 ((aJ .i64 x4.aj (1:Int)),())else j3 (x4.aj,())
    else(Option.map Sum.inr (some v1.1):Option ((Int×Int×Unit)⊕Int))) (k,(i:Int),())=some (Sum.inl (tz v k x,((i+1:Nat):Int),())):=by
  intro i x k hi hx;have hd:decide ((i:Int)<((List.length [p,q]:Nat):Int))=true:=Qg (by simp;omega)
  have hw:aJ .i64 (i:Int) 1=((i+1:Nat):Int):=cq (by omega) (by omega)
  have hx':idx [p,q] (i:Int)=some x:=by rw[bN];exact hx
  simp only[hd,hw,hx',Qk,bD,Qa,uk,nQ];unfold tz
  cases hv:ct x with
  |false=>simp
  |true=>
   have hc:aJ .i64 x.aj 1=x.aj+1:=by
    have:1<=x.aj/\x.aj<=1000000:=by
     simp only[ct,Qm,Qn,Qi]at hv;omega
    exact cq (by omega) (by omega)
   cases h1:dZ x ⟨k,v⟩with
   |false=>simp
   |true=>cases h2:dZ x ⟨x.aj,v⟩<;>simp[hc]
 refine(bp (hst 0 p k (by omega) rfl)).trans ((bp (hst 1 q _ (by omega) rfl)).trans (bX ?_))
 rfl
theorem RM(b:af):(⟨dD b.aj 1000,b.Value⟩:af)=cp b:=by
 unfold dD cp;split<;>rfl
section
variable {m : ab} (h : aU m) (hs : gl m)
 include h
theorem NK(hz:aF (di m)=true):bZ m=m:=by
 have hid:m.aB=3\/aF m.aa=true->bZ m=m:=fun hc=>Qr hc
 have hj:bY m.al m.aw (cp (di m))=(m.al,m.aw):=by
  have:cp (di m)=bm:=by rw[ll.1 hz];decide
  rw[this];exact Qr bl
 have he:¬(m.aB=3\/aF m.aa=true)->pJ m m.al m.aw=m.aO->bZ m=m:=by
  intro hc hl;unfold bZ;rw[Qs hc,hj];simp only;rw[hl]
 rcases h.body with h0|h1|h2|h3
 ·exact hid (.inr (by rw[h0.aD];exact bl))
 ·exact he (by rw[h1.aA,h1.aD.nz];decide) (FQ h1)
 ·exact he (by rw[h2.aA,h2.aD.nz];decide) (Qs (fun h=>by have:=h.1;rw[h2.aA]at this;cases this))
 ·exact hid (.inl h3.aA)
 include hs
theorem NJ:iz ⟨m⟩=some ((),⟨bZ m⟩):=by
 have hl:m.aC.length<=100:=by have:=h.len;omega
 unfold iz;simp only[ab.eta,aq.eta,ax.eta,bW,By hl,Vc h hs,TH,Il,tQ,Qa,bD,RM]
 by_cases h3:m.aB=3\/aF m.aa=true
 ·have e:bZ m=m:=Qr h3;rw[e];rcases h3 with h3|h3
  ·rw[Qg h3];cases aF m.aa<;>rfl
  ·rw[h3];rfl
 ·have hz:aF m.aa=false:=by
   cases hz:aF m.aa with
   |true=>exact absurd (.inr hz) h3
   |false=>rfl
  have h3':¬m.aB=3:=fun e=>h3 (.inl e)
  rw[hz,Qh h3'];simp only[Ql,Qa]
  have hmain:∀v:ByteArray,v=Ds m->(bif aF (ix m.au.toNat m.ae (aK m) m.al m.aw v)then some ((),(⟨m⟩:ax))else
    Option.bind (bif decide (m.aB=1)then some (!decide (m.aO=0))else some false) fun b9=>
    bif b9 then
     bif decide ((BC ⟨m.au,m.bw,m.aL,m.ae,m.aB,m.aa,(bY m.al m.aw (cp (ix m.au.toNat m.ae (aK m) m.al m.aw v))).1,(bY m.al m.aw (cp (ix m.au.toNat m.ae (aK m) m.al m.aw v))).2,m.ar,ka m.aa.Value m.aO (bY m.al m.aw (cp (ix m.au.toNat m.ae (aK m) m.al m.aw v))).1 (bY m.al m.aw (cp (ix m.au.toNat m.ae (aK m) m.al m.aw v))).2,m.aX,m.bj,m.aC⟩).aX<ka m.aa.Value m.aO (bY m.al m.aw (cp (ix m.au.toNat m.ae (aK m) m.al m.aw v))).1 (bY m.al m.aw (cp (ix m.au.toNat m.ae (aK m) m.al m.aw v))).2)then
      some ((),(⟨⟨m.au,m.bw,m.aL,m.ae,m.aB,m.aa,(bY m.al m.aw (cp (ix m.au.toNat m.ae (aK m) m.al m.aw v))).1,(bY m.al m.aw (cp (ix m.au.toNat m.ae (aK m) m.al m.aw v))).2,m.ar,0,m.aX,m.bj,m.aC⟩⟩:ax))
     else some ((),(⟨⟨m.au,m.bw,m.aL,m.ae,m.aB,m.aa,(bY m.al m.aw (cp (ix m.au.toNat m.ae (aK m) m.al m.aw v))).1,(bY m.al m.aw (cp (ix m.au.toNat m.ae (aK m) m.al m.aw v))).2,m.ar,ka m.aa.Value m.aO (bY m.al m.aw (cp (ix m.au.toNat m.ae (aK m) m.al m.aw v))).1 (bY m.al m.aw (cp (ix m.au.toNat m.ae (aK m) m.al m.aw v))).2,m.aX,m.bj,m.aC⟩⟩:ax))
    else some ((),(⟨⟨m.au,m.bw,m.aL,m.ae,m.aB,m.aa,(bY m.al m.aw (cp (ix m.au.toNat m.ae (aK m) m.al m.aw v))).1,(bY m.al m.aw (cp (ix m.au.toNat m.ae (aK m) m.al m.aw v))).2,m.ar,m.aO,m.aX,m.bj,m.aC⟩⟩:ax)))=some ((),(⟨bZ m⟩:ax)):=by
   intro v hv;subst hv;rw[show ix m.au.toNat m.ae (aK m) m.al m.aw (Ds m)=di m from rfl]
   cases hzn:aF (di m)with
   |true=>rw[NK h hzn];rfl
   |false=>
    simp only[Ql];have e:bZ m={m with al:=(bY m.al m.aw (cp (di m))).1,aw:=(bY m.al m.aw (cp (di m))).2,aO:=pJ m (bY m.al m.aw (cp (di m))).1 (bY m.al m.aw (cp (di m))).2}:=Qs h3
    rw[e];unfold pJ
    by_cases hc:m.aB=1/\m.aO≠0
    ·rw[Qg hc.1,Qh hc.2,Qr hc];simp only[Qk,Qa,Qp];have hh:∀(p q:af) (L:Int),(BC {m with al:=p,aw:=q,aO:=L}).aX=ez m:=fun p q L=>by unfold BC;exact Qr hc.1
     rw[hh];split
     ·rename_i hlt;rw[Qg hlt];rfl
     ·rename_i hlt;rw[Qh hlt];rfl
    ·rw[Qs hc]
     by_cases h1:m.aB=1
     ·rw[Qg h1,Qg (show m.aO=0 from Classical.byContradiction fun hn=>hc ⟨h1,hn⟩)];rfl
     ·rw[Qh h1];rfl
  by_cases h2:m.aB=2
  ·rw[Qg h2];exact hmain _ (Qr h2).symm
  ·rw[Qh h2];exact hmain _ (Qs h2).symm
end
theorem JU(m:ab)(b:af):eK ⟨m⟩ b=some ((),⟨{m with aO:=bif bs m.aa b then m.aO else 0,aa:=b}⟩):=by
 unfold eK;simp only[ab.eta,aq.eta,ax.eta,dV,Qa,bD];cases bs m.aa b<;>rfl
theorem Eg(m:ab)(b:af){α:Type}(j:ab->Option α):
  (bif decide (m.aO=(0:Int))then(bif bs m.aa b then(bif decide (ka b.Value m.aa.aj m.al m.aw<=b.aj)then j {m with aO:=ka b.Value m.aa.aj m.al m.aw}else j m)else j m)else(bif false then(bif decide (ka b.Value m.aa.aj m.al m.aw<=b.aj)then j {m with aO:=ka b.Value m.aa.aj m.al m.aw}else j m)else j m))=j (mj m b):=by
 unfold mj
 by_cases hL:m.aO=0
 ·rw[Qg hL]
  cases hc:bs m.aa b with
  |true=>
   by_cases hle:ka b.Value m.aa.aj m.al m.aw<=b.aj
   ·rw[Qr ⟨hL,rfl,hle⟩,Qg hle];rfl
   ·rw[Qs (fun h=>hle h.2.2),Qh hle];rfl
  |false=>
   rw[Qs (fun h=>by cases h.2.1)];rfl
 ·rw[Qh hL,Qs (fun h=>hL h.1)];rfl
section
variable {m : ab} (h : aU m) (hs : gl m)
 include h hs
theorem U1:jH ⟨m⟩=some ((),⟨gg m⟩):=by
 have hl:m.aC.length<=100:=by have:=h.len;omega
 unfold jH;simp only[ab.eta,aq.eta,ax.eta,bW,By hl,Ve h hs,Il,JU,dV,gG,Qa,bD];have hb:vb m.au.toNat m.ae (aK m) m.ar=ib m:=rfl;simp only[hb];unfold gg
 cases hz:aF m.aa with
 |true=>rw[Qr (.inr (.inl rfl))];rfl
 |false=>
  by_cases h1:m.aB=1
  ·rw[Qg h1]
   cases hzb:aF (ib m)with
   |true=>rw[Qr (.inr (.inr rfl))];rfl
   |false=>
    rw[Qs (by simp[h1])]
    simp only[Qo,Ql,Qa];unfold uI
    cases hlt:bb m.aa (ib m)with
    |true=>
     simp only[Qk,Qt]
     cases hcp:bs m.aa (ib m)with
     |true=>exact Eg {m with ar:=ib m,aa:=ib m} (ib m) (fun x=>some ((),(⟨x⟩:ax)))
     |false=>exact Eg {m with ar:=ib m,aa:=ib m,aO:=0} (ib m) (fun x=>some ((),(⟨x⟩:ax)))
    |false=>
     simp only[Ql,Qq,Qu];exact Eg {m with ar:=ib m} (ib m) (fun x=>some ((),(⟨x⟩:ax)))
  ·rw[Qh h1,Qr (.inl h1)];rfl
theorem PW:iK ⟨m⟩=some ((),⟨dq m⟩):=by
 have hl:m.aC.length<=100:=by have:=h.len;omega
 unfold iK;simp only[ab.eta,aq.eta,ax.eta,By hl,TR h hs,Wh h hs,dV,gG,Qa,bD];unfold dq
 by_cases h1:m.aB=1
 ·rw[Qg h1,Qr h1];simp only[Qk]
  cases hk:(dx m).2.2.2.1 with
  |false=>rfl
  |true=>
   have hf:=yE h hk
   have hcov:ir m.al ⟨(dx m).2.2.1,(dx m).1⟩= !(bb m.al ⟨(dx m).2.2.1,(dx m).1⟩|| !bs m.al ⟨(dx m).2.2.1,(dx m).1⟩):=by
    cases hc:bs m.al ⟨(dx m).2.2.1,(dx m).1⟩with
    |false=>unfold ir;rw[hc];simp
    |true=>
     have hv:=fj.1 hc
     have hnz:aF m.al=false:=by
      cases hz:aF m.al with
      |false=>rfl
      |true=>rw[ll.1 hz]at hv;exact absurd hv.symm hf.fin.ne
     unfold ir;rw[hc,hnz,zz hv,Qo,Bool.or_false,Qp,Bool.and_self,Bool.true_and];rw[QW];simp only[Qi,Bool.not_eq_true',Qj];omega
   simp only[Qo,Ql,Qt];unfold xQ;rw[hcov];cases bs m.aa ⟨(dx m).2.2.1,(dx m).1⟩<;>cases bb m.aa ⟨(dx m).2.2.1,(dx m).1⟩<;>cases bb m.al ⟨(dx m).2.2.1,(dx m).1⟩<;>cases bs m.al ⟨(dx m).2.2.1,(dx m).1⟩<;>rfl
 ·rw[Qh h1,Qs h1]
  by_cases h2:m.aB=2
  ·rw[Qg h2,Qr h2];rcases h.body with k|k|k|k
   ·exact absurd k.aA h1
   ·exact absurd k.aA h1
   ·unfold sE;rw[k.cy.2];rfl
   ·have:=k.aA;omega
  ·rw[Qh h2,Qs h2];rfl
theorem R8:iX ⟨m⟩=some ((),⟨gX m⟩):=by
 have hl:m.aC.length<=100:=by have:=h.len;omega
 unfold iX gX;simp only[ab.eta,aq.eta,ax.eta,By hl,Wg h hs,Qa]
 by_cases h2:m.aB=2
 ·rw[Qg h2]
  cases hk:(iQ m).2.2.1 with
  |false=>rw[Qs (fun h=>by cases h.2)];rfl
  |true=>rw[Qr ⟨h2,rfl⟩];rfl
 ·rw[Qh h2,Qs (fun h=>h2 h.1)];rfl
end
theorem Eh{m:ab}(h:Cj m):dH ⟨m⟩=some (c6 m):=by
 have hl:m.aC.length<=1000:=by have:=h.len;omega
 unfold dH c6;simp only[bW,Qa]
 cases hz:aF m.ar with
 |false=>rfl
 |true=>
  simp only[Qo,Ql,Bool.true_eq_false,Qu]
  by_cases h1:m.aB=1
  ·rw[Qg h1,Qs (fun h=>h h1)]
   simp only[Qo,Ql]
   by_cases hp:m.bj=fV
   ·have hp':decide (m.bj=ByteArray.mk #[])=true:=Qg hp;rw[hp',Qs (fun h=>h hp)]
    simp only[Qo,Ql]
    rw[IZ m.aC hl (·.aa) (fin:=fun s=>Option.bind (jz s) fun r=>some r.Value) (fun i e s hs he hd hx hw=>by
     simp only[hd,hx,hw,Qk,Qa]
     rw[eM (by simp;omega),Qk]) (fun s hd=>by simp only[hd,Ql]),RE _ (by simp;omega)]
    rfl
   ·have hp':decide (m.bj=ByteArray.mk #[])=false:=Qh hp;rw[hp',Qr hp];rfl
  ·rw[Qh h1,Qr h1];rfl
theorem TM(l:List ai)(hlen:l.length<=1000)(p:ai->Bool)(hp:∀e∈l,p e=true->0<=e.au/\e.au<10):lL l (l.map p)=some ((dh p l:Nat):Int):=by
 unfold lL
 suffices key:∀(k i s:Nat),i+k=l.length->s<1024->aI _ ((s:Int),(i:Int),())=some ((s|||dh p (l.drop i):Nat):Int)by
  have:=key l.length 0 0 (by omega) (by omega)
  rw[Nat.zero_or,List.drop_zero]at this;exact this
 intro k
 induction k with
 |zero=>
  intro i s hi hs;obtain rfl:i=l.length:=by omega
  have hd:decide (((l.length:Nat):Int)<((l.length:Nat):Int))=false:=Qh (Int.lt_irrefl _);rw[bX (r:=(s:Int)) (by simp only[hd,Ql,Qe]),List.drop_length,dh]
  simp
 |succ k ih=>
  intro i s hi hs;have hlt:i<l.length:=by omega
  have hd:decide ((i:Int)<((l.length:Nat):Int))=true:=Qg (by omega)
  have hd2:decide ((i:Int)<(((l.map p).length:Nat):Int))=true:=Qg (by rw[QC];omega)
  have hw:aJ .i64 (i:Int) 1=((i+1:Nat):Int):=cq (by omega) (by omega)
  have hx:idx l (i:Int)=some l[i]:=by rw[bN];exact Qv hlt
  have hx2:idx (l.map p) (i:Int)=some (p l[i]):=by rw[bN,QT,Qv hlt];rfl
  rw[QM hlt,dh]
  cases hpe:p l[i]with
  |false=>
   rw[bp (s':=((s:Int),((i+1:Nat):Int),())) (by simp only[hd,hd2,hx,hx2,hw,hpe,Qk,Ql,bD,Qa]),ih (i+1) s (by omega) hs]
   simp
  |true=>
   obtain⟨h0,h1⟩:=hp _ (Q0 hlt) hpe;have hn0:¬l[i].au<0:=by omega
   have d1:decide ((0:Int)<=l[i].au)=true:=Qg h0;have d2:decide (l[i].au<(10:Int))=true:=Qg (by omega)
   rw[bp (s':=(((s|||2 ^ l[i].au.toNat:Nat):Int),((i+1:Nat):Int),())) (by
    simp only[hd,hd2,hx,hx2,hw,hpe,Qk,bD,Qa,d1,d2,hn0,Qu]
    rw[CA hs h0 h1]),ih (i+1) _ (by omega) (Jz hs h1)]
   simp[Nat.or_assoc]
theorem RG{m:ab}(h:Cj m)(n:Int):jn ⟨m⟩ n=some ((yM m n:Nat):Int):=by
 have hl:m.aC.length<=1000:=by have:=h.len;omega
 unfold jn;have d1:decide (((m.aC.length:Nat):Int)=((m.aC.length:Nat):Int))=true:=Qg rfl;have d2:decide (0<=((m.aC.length:Nat):Int))=true:=Qg (Int.natCast_nonneg _);have d3:b0 1 m.aC.length=true:=eM (by omega)
 simp only[d1,d2,d3,QV,Bool.and_self,Qk]
 rw[PI m.aC hl (fun e=>decide (n<eY e)) (fin:=fun s=>Option.bind (lL m.aC s) fun r=>some r)
  (fun i e s hsl he hi hd hx hw=>by
   have h1:idx s (i:Int)=some s[i]:=by rw[bN];exact Qv (by omega)
   have h2:s[i]?=some s[i]:=Qv (by omega)
   simp only[hd,hx,hw,h1,h2,Qk,Qa,aq.eta,ai.eta,Kp (h.sm e he) (h.valid e he),QV])
  (fun s hd=>by simp only[hd,Ql]) (by simp),TM m.aC hl _ (fun e he _=>h.MM e he)]
 rfl
section
variable {m : ab} (h : aU m) (hs : gl m)
 include h hs
theorem IK(n:Int):fQ n ⟨fg m.au.toNat m.ae (oY m)⟩ ⟨m⟩=some (gu m n):=by
 unfold fQ;simp only[ab.eta,aq.eta,ax.eta,RG h.ev,Qa];have hb:=I8 (qz (az:=m.au.toNat) h.ev.aZ (mW h hs).1) (v:=m.au.toNat) (Q9 h.ev n);rw[h.ev.az.1]at hb;rw[hb,Qa];unfold gu;rw[(jh h hs).view _ h.ev.az.2]
theorem RX:iW ⟨m⟩=some ((),⟨eu m⟩):=by
 have hl:m.aC.length<=100:=by have:=h.len;omega
 have hv:=M9 h.ev.az.2 h.ev.aZ (mW h hs).1;rw[h.ev.az.1]at hv;unfold iW eu;simp only[ab.eta,aq.eta,ax.eta,bW,By hl,hv,IK h hs,Eh h.ev,JU,Qa,bD]
 by_cases h3:m.aB=3
 ·rw[Qg h3,Qr (.inl h3)];rfl
 ·rw[Qh h3]
  cases ha:gu m m.aa.aj with
  |false=>rw[Qr (.inr rfl)];rfl
  |true=>
   rw[Qs (by simp[h3])]
   simp only[Ql,Qo]
   have hbc:0<=m.aa.aj/\m.aa.aj<=1000:=by
    rcases h.body with k|k|k|k
    ·rw[k.aD];decide
    ·exact⟨by have:=k.aD.1;omega,k.aD.2.1⟩
    ·exact⟨by have:=k.aD.1;omega,k.aD.2.1⟩
    ·exact absurd k.aA h3
   have hz1:aF m.aa=true->m.aB=1:=by
    intro hz;rcases h.body with k|k|k|k
    ·exact k.aA
    ·exact k.aA
    ·rw[k.aD.nz]at hz;cases hz
    ·exact absurd k.aA h3
   refine(Sh h.ev (fin:=fun c=>some ((),(⟨{m with aO:=bif bs m.aa ⟨dD c 1000,j5 m⟩then m.aO else 0,aa:=⟨dD c 1000,j5 m⟩}⟩:ax))) (fun i e s he hd hx hw=> ?_) (fun s hd=> ?_)).trans ?_
   ·simp only[hd,hx,hw,Qk,bD,Qa,aq.eta,ai.eta,Kp (h.ev.sm e he) (h.ev.valid e he),IK h hs];unfold jC
    by_cases c1:m.aa.aj<eY e
    ·by_cases c2:eY e<s
     ·rw[Qg c1,Qg c2]
      cases c3:gu m (eY e)with
      |true=>rw[Qs (by simp)];rfl
      |false=>rw[Qr ⟨c1,c2,rfl⟩];rfl
     ·rw[Qg c1,Qh c2,Qs (fun h=>c2 h.2.1)];rfl
    ·rw[Qh c1,Qs (fun h=>c1 h.1)];rfl
   ·simp only[hd,Ql,bD,Qa];unfold j5
    by_cases h1:m.aB=1
    ·rw[Qg h1,Qr h1];cases aF m.aa<;>rfl
    ·rw[Qh h1,Qs h1]
     cases hz:aF m.aa with
     |true=>exact absurd (hz1 hz) h1
     |false=>rfl
   ·have hm:=(B6 h hbc).2.2.2.2;rw[hm]
    have hcp:(bif bs m.aa ⟨dD (eU m) 1000,j5 m⟩then m.aO else 0)=(if j5 m=m.aa.Value then m.aO else 0):=by
     by_cases e:j5 m=m.aa.Value
     ·rw[Qr e,(fj (a:=m.aa) (b:=⟨dD (eU m) 1000,j5 m⟩)).2 e.symm];rfl
     ·rw[Qs e,(fB (a:=m.aa) (b:=⟨dD (eU m) 1000,j5 m⟩)).2 (fun hc=>e hc.symm)];rfl
    rw[hcp]
end
end Go.Proofs.YtkgenianmdfmdaaGreat
namespace Go.Proofs.YtkgenianmdfmdaaGreat
open Go.TQ
theorem Lr{m:ab}(h:aU m)(s:Int):aK {m with aL:=s}=(aK m).map (fun e=>if e.au=m.au then{e with aL:=bn s 1}else e):=by
 have hf:∀e∈m.aC,(if e.au=m.au then{e with aL:=bn s 1}else e)=e:=fun e he=>Qs (h.hv e he).2.2.2
 have hmap:m.aC.map (fun e=>if e.au=m.au then{e with aL:=bn s 1}else e)=m.aC:=by
  rw[List.map_congr_left hf];simp
 have hown:dR {m with aL:=s}={dR m with aL:=bn s 1}:=by
  unfold dR cg ez;split
  ·rfl
  ·split<;>rfl
 unfold aK;split
 ·exact hmap.symm
 ·rw[hown];have hn:(dR m).au=m.au:=kj m
  suffices key:∀l:List ai,(∀e∈l,(if e.au=m.au then{e with aL:=bn s 1}else e)=e)->BS {dR m with aL:=bn s 1} l=(BS (dR m) l).map (fun e=>if e.au=m.au then{e with aL:=bn s 1}else e)from key _ hf
  intro l
  induction l with
  |nil=>
   intro _;simp only[BS,QD,QO,hn,Qt]
  |cons x l ih=>
   intro hx;unfold BS;simp only;split
   ·rw[QD,QD,hn,Qr rfl,hx x Qx,List.map_congr_left (fun e he=>hx e (Qy _ he))]
    simp
   ·rw[QD,hx x Qx,ih fun e he=>hx e (Qy _ he)]
theorem HI{m:ab}(h:aU m){s:Int}(hs:0<=s/\s<=1000000):aU {m with aL:=s}:=by
 refine⟨h.n0,h.n1,h.bL,hs,h.aZ,h.pI,h.hv,h.mw,?_⟩;rcases h.body with k|k|k|k
 ·exact .inl ⟨k.aA,k.aD,k.cy,k.bB,k.dj,k.low,k.bM⟩
 ·exact .inr (.inl ⟨k.aA,k.aD,k.cy,k.bB,k.dj,k.up,k.bM,k.low⟩)
 ·exact .inr (.inr (.inl ⟨k.aA,k.aD,k.cy,k.bB,k.dj,k.range⟩))
 ·exact .inr (.inr (.inr ⟨k.aA,k.aD,k.cy,k.bB,k.dj,k.range⟩))
theorem lJ{m:ab}(h:aU m){s:Int}(hs:0<=s/\s<=1000000):Alike (aK m) (aK {m with aL:=s}):=by
 rw[Lr h s];refine Q8 h.ev.mR.1 h.ev.mR.2 _ fun e he=> ?_
 split
 ·rename_i hn;refine⟨rfl,?_⟩;rw[h.iO e he];have hv:=h.iO e he
  have hm:{e with aL:=bn s 1}∈aK {m with aL:=s}:=by
   rw[Lr h s];exact QP.2 ⟨e,he,Qr hn⟩
  exact(HI h hs).iO _ hm
 ·exact⟨rfl,rfl⟩
theorem Ue(m:ab)(s:Int)(b:af):uI {m with aL:=s} b={uI m b with aL:=s}:=by
 unfold uI
 by_cases h:bb m.aa b=true
 ·simp only[Qr h]
 ·simp only[Qs h]
theorem OP(m:ab)(s:Int)(b:af):mj {m with aL:=s} b={mj m b with aL:=s}:=by
 unfold mj
 by_cases h:m.aO=0/\bs m.aa b=true/\ka b.Value m.aa.aj m.al m.aw<=b.aj
 ·simp only[Qr h]
 ·simp only[Qs h]
section
variable {m : ab} (h : aU m) {s : Int} (hs : 0 <= s /\ s <= 1000000)
 include h hs
theorem TX:di {m with aL:=s}=di m:=((lJ h hs).next h.ev.az.2 m.ae _ _ _).symm
theorem Uc:ib {m with aL:=s}=ib m:=((lJ h hs).bM h.ev.az.2 m.ae _).symm
theorem Ih:dL {m with aL:=s}=dL m:=((lJ h hs).ready h.ev.az.2 m.ae).symm
theorem Rq:wW {m with aL:=s}=wW m:=((lJ h hs).sure h.ev.az.2 m.ae).symm
theorem Uo:dx {m with aL:=s}=dx m:=by
 unfold dx;rw[Ih h hs];simp only;rw[<-(lJ h hs).Cb,<-(lJ h hs).first]
theorem Ut:c9 {m with aL:=s}=c9 m:=by
 unfold c9;rw[Ih h hs];simp only;rw[<-(lJ h hs).gr]
theorem Us:iQ {m with aL:=s}=iQ m:=by
 unfold iQ;rw[Rq h hs];simp only;rw[<-(lJ h hs).gr]
theorem I6(n:Int):gu {m with aL:=s} n=gu m n:=by
 unfold gu;simp only;rw[<-(lJ h hs).view _ h.ev.az.2];rfl
theorem UK:eU {m with aL:=s}=eU m:=by
 unfold eU;simp only;congr 1
 funext b e
 unfold jC;simp only[I6 h hs]
theorem Iq:bZ {m with aL:=s}={bZ m with aL:=s}:=by
 unfold bZ;simp only[TX h hs];split<;>rfl
theorem Io:gg {m with aL:=s}={gg m with aL:=s}:=by
 unfold gg;simp only[Uc h hs];split
 ·rfl
 ·rw[Ue,OP]
theorem Ix:dq {m with aL:=s}={dq m with aL:=s}:=by
 unfold dq;simp only[Uo h hs,Ut h hs];split
 ·split<;>rfl
 ·split<;>rfl
theorem Iv:gX {m with aL:=s}={gX m with aL:=s}:=by
 unfold gX;simp only[Us h hs];split<;>rfl
theorem Is:eu {m with aL:=s}={eu m with aL:=s}:=by
 unfold eu;simp only[I6 h hs,UK h hs];split<;>rfl
end
open Classical in
 def cI(m:ab):ab:=
 if bZ m=m then(if gg m=m then(if dq m=m then(if gX m=m then eu m else gX m)else dq m)else gg m)else bZ m
structure Af (m:ab):Prop where
 p:bZ m=m
 s:gg m=m
 c:dq m=m
 f:gX m=m
 k:eu m=m
theorem Rr{m:ab}(h:cI m=m):Af m:=by
 unfold cI at h;split at h
 ·split at h
  ·split at h
   ·split at h
    ·exact⟨by assumption,by assumption,by assumption,by assumption,h⟩
    ·contradiction
   ·contradiction
  ·contradiction
 ·contradiction
theorem RY{m:ab}(h:Af m):cI m=m:=by
 unfold cI;rw[Qr h.p,Qr h.s,Qr h.c,Qr h.f,h.k]
theorem vx{m:ab}{Q:ab->Prop}(h1:Q (bZ m))(h2:Q (gg m))(h3:Q (dq m))(h4:Q (gX m))(h5:Q (eu m)):Q (cI m):=by
 unfold cI;split
 ·split
  ·split
   ·split
    ·exact h5
    ·exact h4
   ·exact h3
  ·exact h2
 ·exact h1
theorem AS{m:ab}(h:aU m):aU (cI m):=vx (Ir h) (Ip h) (Iy h) (Iw h) (Iu h)
theorem rh(m:ab):ff m (cI m):=vx (rj m) (oi m) (mS m) (rl m) (w6 m)
theorem Rs{m:ab}(h:aU m):cI m=m\/iD m<iD (cI m):=vx (Q:=fun x=>x=m\/iD m<iD x) (Xz h) (Xy h) (XC h) (XB h) (XA h)
theorem Vj(m:ab):(bZ m).aa=m.aa:=by unfold bZ;split<;>rfl
theorem JX{m:ab}(h:aU m)(hz:aF m.aa=false):aF (cI m).aa=false:=by
 have hb:P1 m\/P2 m\/P3 m:=h.body.resolve_left fun k=>by rw[k.aD,bl]at hz;cases hz
 refine vx (Q:=fun x=>aF x.aa=false) (by rw[Vj];exact hz) ?_ ?_ ?_ ?_
 ·rcases hb with k|k|k
  ·exact(Cz h k).1.aD.nz
  ·rw[lQ (.inl (by rw[k.aA];decide))];exact hz
  ·rw[lQ (.inl (by rw[k.aA];decide))];exact hz
 ·unfold dq;rcases hb with k|k|k
  ·rw[Qr k.aA];split
   ·rename_i hk;have hf:=yE h hk;exact(B4 (.inr k.aD) k.cy hf.fin hf.Pr hf.le).aD.nz
   ·exact hz
  ·rw[Qs (by rw[k.aA];decide),Qr k.aA]
   obtain⟨g1,g2,g3,_⟩:=KW h k;exact(Ob k g1 g2 g3).aD.nz
  ·rw[Qs (by rw[k.aA];decide),Qs (by rw[k.aA];decide)];exact hz
 ·unfold gX;split
  ·rename_i hc;rcases hb with k|k|k
   ·have:=k.aA;have:=hc.1;omega
   ·exact(MA h k hc.2).aD.nz
   ·have:=k.aA;have:=hc.1;omega
  ·exact hz
 ·cases ha:gu m m.aa.aj with
  |false=>
   have:eu m=m:=Qr (.inr ha);rw[this];exact hz
  |true=>
   rcases hb with k|k|k
   ·exact(Hu h (.inr k) ha).aD.nz
   ·exact(Mz h k).aD.nz
   ·have:eu m=m:=Qr (.inl k.aA);rw[this];exact hz
def dv(m:ab):ab:=if aF m.aa=false then{m with aL:=bn m.aL 1}else m
theorem TY{m:ab}(h:aU m):0<=bn m.aL 1/\bn m.aL 1<=1000000:=by
 have:=h.seq;unfold bn;split<;>omega
theorem Kt{m:ab}(h:aU m):aU (dv m):=by
 unfold dv;split
 ·exact HI h (TY h)
 ·exact h
theorem ME{m:ab}(h:aF m.aa=true->m.aL=0):gl (dv m):=by
 unfold dv;split
 ·rename_i hz;exact⟨fun e=>(by rw[show({m with aL:=bn m.aL 1}:ab).aa=m.aa from rfl,hz]at e;cases e),fun _=>by show 1<=bn m.aL 1;unfold bn;split<;>omega⟩
 ·rename_i hz;exact⟨h,fun e=>absurd e hz⟩
theorem Ur{m:ab}(h:aU m)(hf:Af m){s:Int}(hs:0<=s/\s<=1000000):Af {m with aL:=s}:=
 ⟨by rw[Iq h hs,hf.p],by rw[Io h hs,hf.s],by rw[Ix h hs,hf.c],by rw[Iv h hs,hf.f],by rw[Is h hs,hf.k]⟩
theorem TZ{m:ab}(hs:gl m):dv m=m:=by
 unfold dv;split
 ·rename_i hz;have:=hs.pos hz;have e:bn m.aL 1=m.aL:=by unfold bn;split<;>omega
  rw[e]
 ·rfl
theorem Ry(m:ab):iD (dv m)=iD m:=by
 unfold dv;split<;>rfl
theorem Ks{m:ab}(h:0<=m.aL):cx ⟨m⟩=some ((),⟨dv m⟩):=by
 unfold cx dv;simp only[ab.eta,aq.eta,ax.eta,bW,Qa]
 cases hz:aF m.aa with
 |true=>rfl
 |false=>
  simp only[Qp,Qk,Qa,Qt]
  by_cases hs:m.aL=0
  ·have e:bn m.aL 1=1:=by unfold bn;split<;>omega
   rw[Qg hs,e];rfl
  ·have e:bn m.aL 1=m.aL:=by unfold bn;split<;>omega
   rw[Qh hs,e];rfl
theorem qf{m m':ab}(he:ff m m'):
  (decide (m'.aB=m.aB)&&(decide (m'.aO=m.aO)&&(decide (m'.aX=m.aX)&&(decide (m'.aa.aj=m.aa.aj)&&(decide (m'.aa.Value=m.aa.Value)&&(decide (m'.al.aj=m.al.aj)&&(decide (m'.al.Value=m.al.Value)&&(decide (m'.aw.aj=m.aw.aj)&&(decide (m'.aw.Value=m.aw.Value)&&(decide (m'.ar.aj=m.ar.aj)&&(decide (m'.ar.Value=m.ar.Value)&&true)))))))))))=true↔m'=m:=by
 simp only[Qm,Qi];constructor
 ·rintro⟨h1,h2,h3,h4,h5,h6,h7,h8,h9,h10,h11,_⟩;exact qG he h1 (ke h4 h5) (ke h6 h7) (ke h8 h9) (ke h10 h11) h2 h3
 ·rintro rfl;simp
open Classical in
theorem U2{m:ab}(h:aU m)(hs:gl m):jI ⟨m⟩=some (if cI m=m then(false,⟨m⟩)else(true,⟨dv (cI m)⟩)):=by
 have hnum:∀{x:ab},aU x->cx ⟨x⟩=some ((),⟨dv x⟩):=fun hx=>Ks hx.seq.1
 unfold jI;simp only[ab.eta,aq.eta,ax.eta,ed,Qa,NJ h hs]
 by_cases hP:bZ m=m
 ·simp only[(qf (rj m)).2 hP,Bool.xor_true,Qo,Ql,show xor true true=false from rfl]
  rw[hP,U1 h hs];simp only[Qa]
  by_cases hS:gg m=m
  ·simp only[(qf (oi m)).2 hS,Ql,show xor true true=false from rfl]
   rw[hS,PW h hs];simp only[Qa]
   by_cases hC:dq m=m
   ·simp only[(qf (mS m)).2 hC,Ql,show xor true true=false from rfl]
    rw[hC,R8 h hs];simp only[Qa]
    by_cases hF:gX m=m
    ·simp only[(qf (rl m)).2 hF,Ql,show xor true true=false from rfl]
     rw[hF,RX h hs];simp only[Qa];have e:cI m=eu m:=by unfold cI;rw[Qr hP,Qr hS,Qr hC,Qr hF]
     rw[e]
     by_cases hK:eu m=m
     ·simp only[(qf (w6 m)).2 hK,Ql,show xor true true=false from rfl]
      rw[Qr hK,hK]
     ·have hb:=mt (qf (w6 m)).1 hK;rw[QX]at hb;simp only[hb,Qk,show xor true false=true from rfl]
      rw[hnum (Iu h),Qs hK];rfl
    ·have e:cI m=gX m:=by unfold cI;rw[Qr hP,Qr hS,Qr hC,Qs hF]
     have hb:=mt (qf (rl m)).1 hF;rw[QX]at hb;simp only[hb,Qk,show xor true false=true from rfl]
     rw[hnum (Iw h),e,Qs hF];rfl
   ·have e:cI m=dq m:=by unfold cI;rw[Qr hP,Qr hS,Qs hC]
    have hb:=mt (qf (mS m)).1 hC;rw[QX]at hb;simp only[hb,Qk,show xor true false=true from rfl]
    rw[hnum (Iy h),e,Qs hC];rfl
  ·have e:cI m=gg m:=by unfold cI;rw[Qr hP,Qs hS]
   have hb:=mt (qf (oi m)).1 hS;rw[QX]at hb;simp only[hb,Qk,show xor true false=true from rfl]
   rw[hnum (Ip h),e,Qs hS];rfl
 ·have e:cI m=bZ m:=by unfold cI;rw[Qs hP]
  have hb:=mt (qf (rj m)).1 hP;rw[QX]at hb;simp only[hb,Qk,show xor true false=true from rfl]
  rw[hnum (Ir h),e,Qs hP];rfl
structure Fa (R:ab->Prop) (m m':ab):Prop where
 inv:aU m'
 seq:gl m'
 env:m'.au=m.au/\m'.bw=m.bw/\m'.ae=m.ae/\m'.bj=m.bj/\m'.aC=m.aC
 num:m'.aL=m.aL\/(m.aL=0/\m'.aL=1)
 nz:aF m.aa=false->aF m'.aa=false
 rel:R m'
 fix:Af m'
theorem Ra{R:ab->Prop}(hR1:∀m,aU m->R m->R (cI m))(hR2:∀m,R m->R (dv m)){m:ab}(h:aU m)(hs:aF m.aa=true->m.aL=0)(hr:R m):Yd (dM ⟨m⟩) fun q=>∃m',q=((),⟨m'⟩)/\Fa R m m':=by
 unfold dM;simp only[ab.eta,aq.eta,ax.eta,Ks h.seq.1,Qa]
 have num1:∀{x:ab},aU x->(dv x).aL=x.aL\/(x.aL=0/\(dv x).aL=1):=fun{x} hx=>by
  have:=hx.seq;unfold dv;split
  ·show bn x.aL 1=x.aL\/(x.aL=0/\bn x.aL 1=1);unfold bn;split<;>omega
  ·exact .inl rfl
 have env1:∀x:ab,(dv x).au=x.au/\(dv x).bw=x.bw/\(dv x).ae=x.ae/\(dv x).bj=x.bj/\(dv x).aC=x.aC/\(dv x).aa=x.aa:=fun x=>by
  unfold dv;split<;>exact⟨rfl,rfl,rfl,rfl,rfl,rfl⟩
 refine Yd.down (fun s=>∃x,s=((⟨x⟩:ax),())/\aU x/\gl x/\R x/\(x.au=m.au/\x.bw=m.bw/\x.ae=m.ae/\x.bj=m.bj/\x.aC=m.aC)/\(x.aL=m.aL\/(m.aL=0/\x.aL=1))/\(aF m.aa=false->aF x.aa=false)) (fun s=>K1+K2 - iD s.1.ak) ?_ ⟨dv m,rfl,Kt h,ME hs,hR2 _ hr,⟨(env1 m).1,(env1 m).2.1,(env1 m).2.2.1,(env1 m).2.2.2.1,(env1 m).2.2.2.2.1⟩,num1 h,fun hz=>by rw[(env1 m).2.2.2.2.2];exact hz⟩
 rintro s ⟨x,rfl,hx,hsx,hrx,hex,hnx,hzx⟩;simp only[U2 hx hsx,Qa]
 by_cases hst:cI x=x
 ·rw[Qr hst];exact .some ⟨x,rfl,⟨hx,hsx,hex,hnx,hzx,hrx,Rr hst⟩⟩
 ·rw[Qs hst];have hi:=AS hx;have hv:=rh x;have hup:=(Rs hx).resolve_left hst;refine .some ⟨⟨dv (cI x),rfl,Kt hi,ME ?_,hR2 _ (hR1 _ hx hrx),?_,?_,?_⟩,?_⟩
  ·intro hz;rw[hv.seq];refine hsx.zero ?_
   cases hzz:aF x.aa with
   |true=>rfl
   |false=>rw[JX hx hzz]at hz;cases hz
  ·obtain⟨e1,e2,e3,e4,e5,_⟩:=env1 (cI x);exact⟨e1.trans (hv.az.trans hex.1),e2.trans (hv.bL.trans hex.2.1),e3.trans (hv.aZ.trans hex.2.2.1),e4.trans (hv.pI.trans hex.2.2.2.1),e5.trans (hv.heard.trans hex.2.2.2.2)⟩
  ·have h1:=num1 hi;rw[hv.seq]at h1;rcases h1 with e|⟨e1,e2⟩
   ·rw[e];exact hnx
   ·right;rcases hnx with e3|⟨_,e3⟩
    ·exact⟨by rw[<-e3];exact e1,e2⟩
    ·omega
  ·intro hz;rw[(env1 (cI x)).2.2.2.2.2];exact JX hx (hzx hz)
  ·have h1:=TD hi;show K1+K2 - iD (dv (cI x))<K1+K2 - iD x;rw[Ry];omega
end Go.Proofs.YtkgenianmdfmdaaGreat
namespace Go.Proofs.YtkgenianmdfmdaaGreat
open Go.TQ
theorem VL{α:Type}{s t:List α}(hl:s.length=t.length)(hn:s.length<=1000000){step:Int×Unit->Option ((Int×Unit)⊕Bool)}
  (h1:∀(i:Nat) (h:i<s.length) (h':i<t.length),decide ((i:Int)<((s.length:Nat):Int))=true->idx s (i:Int)=some s[i]->idx t (i:Int)=some t[i]->aJ .i64 (i:Int) 1=((i+1:Nat):Int)->∃b:Bool,step ((i:Int),())=some (bif b then .inl (((i+1:Nat):Int),())else .inr false)/\(b=true↔s[i]=t[i]))
  (h2:decide (((s.length:Nat):Int)<((s.length:Nat):Int))=false->step (((s.length:Nat):Int),())=some (.inr true)):∃b,aI step (0,())=some b/\(b=true↔s=t):=by
 suffices key:∀(k i:Nat),i+k=s.length->∃b,aI step ((i:Int),())=some b/\(b=true↔s.drop i=t.drop i)from by simpa using key s.length 0 (by omega)
 intro k
 induction k with
 |zero=>
  intro i hi;obtain rfl:i=s.length:=by omega
  refine⟨true,bX (h2 (Qh (Int.lt_irrefl _))),?_⟩;rw[List.drop_eq_nil_of_le (by omega),List.drop_eq_nil_of_le (by omega)]
  simp
 |succ k ih=>
  intro i hi;have hi':i<s.length:=by omega
  have hi'':i<t.length:=by omega
  obtain⟨b,h3,h4⟩:=h1 i hi' hi'' (Qg (by omega)) (by rw[bN];exact Qv hi') (by rw[bN];exact Qv hi'') (cq (by omega) (by omega))
  rw[QM hi',QM hi'',List.cons.injEq]
  cases b with
  |false=>
   refine⟨false,bX h3,?_⟩;simp only[Qq,false_iff]at h4 ⊢;exact fun h=>h4 h.1
  |true=>
   obtain⟨b,h5,h6⟩:=ih (i+1) (by omega)
   refine⟨b,(bp h3).trans h5,?_⟩;rw[h6];exact⟨fun h=>⟨h4.1 rfl,h⟩,fun h=>h.2⟩
theorem Pw{α:Type}{s t:List α}(h:s.length≠t.length):(false=true↔s=t):=by
 simp only[Qq,false_iff];exact fun h1=>h (by rw[h1])
 def Tf(a0:List Int)(a1:List Int):Option Bool:=
 bif (!decide (((List.length a0:Nat):Int)=((List.length a1:Nat):Int)))then
 some false
 else
 aI (fun(v1:Int×Unit)=>
 bif (decide (v1.1<((List.length a0:Nat):Int)))then
 Option.bind (idx a0 v1.1) fun x2=>
 Option.bind (idx a1 v1.1) fun x3=>
 bif (!decide (x2=x3))then
 Option.map Sum.inr (some false)
 else
 some (Sum.inl ((aJ .i64 v1.1 (1:Int)),()))
 else
 Option.map Sum.inr (some true)) ((0:Int),())
theorem Wl(s t:List Int)(h:s.length<=1000000):∃b,Tf s t=some b/\(b=true↔s=t):=by
 unfold Tf
 by_cases hl:s.length=t.length
 ·rw[Qg (by omega:((s.length:Nat):Int)=((t.length:Nat):Int)),Qo,Ql]
  refine VL hl h (fun i hi hi' hd hx hy hw=> ?_) (fun hd=> ?_)
  ·refine⟨decide (s[i]=t[i]),?_,by simp⟩
   simp only[hd,hx,hy,hw,Qk,Qa];cases decide (s[i]=t[i])<;>rfl
  ·simp only[hd,Ql];rfl
 ·rw[Qh (by omega:¬((s.length:Nat):Int)=((t.length:Nat):Int)),Qp,Qk]
  exact⟨false,rfl,Pw hl⟩
theorem Wm(s t:List Int)(h:s.length<=1000000):∃b,l9 s t=some b/\(b=true↔s=t):=Wl s t h
theorem OZ(a b:aq):a=b↔a.aY=b.aY/\a.bu=b.bu/\a.aS=b.aS:=by
 cases a;cases b;simp
theorem WT{n:Nat}:∀{a b:aq},SizeOf.sizeOf a<n->eZ a->∃r,qU n (a,b,())=some r/\(r=true↔a=b):=by
 induction n with
 |zero=>intro a b h;omega
 |succ n ih=>
  intro a b hs hm;show∃r,nr (qU n) a b=some r/\(r=true↔a=b);have hl:=hm.len;have hns:=hm.nodes;obtain⟨r,h1,h2⟩:=Wm a.bu b.bu hns;rw[OZ];unfold nr
  by_cases ht:a.aY=b.aY
  ·rw[Qg ht];simp only[Qk,h1,Qa]
   cases r with
   |false=>
    simp only[Ql,Qa];refine⟨false,rfl,?_⟩;simp only[Qq,false_iff]at h2 ⊢;exact fun h=>h2 h.2.1
   |true=>
    simp only[Qk,Qa]
    have key:∀o:Option Bool,(∃r,o=some r/\(r=true↔a.aS=b.aS))->∃r,(Option.bind (Option.bind o fun r3=>some r3) fun b4=>some b4)=some r/\(r=true↔a.aY=b.aY/\a.bu=b.bu/\a.aS=b.aS):=by
     rintro o ⟨r,rfl,h4⟩;exact⟨r,rfl,by rw[h4];exact⟨fun h=>⟨ht,h2.1 rfl,h⟩,fun h=>h.2.2⟩⟩
    refine key _ ?_;unfold cz
    by_cases hi:a.aS.length=b.aS.length
    ·rw[Qg (by omega:((a.aS.length:Nat):Int)=((b.aS.length:Nat):Int)),Qo,Ql]
     refine VL hi hl (fun i hi hi' hd hx hy hw=> ?_) (fun hd=> ?_)
     ·have hu:=Q0 hi;obtain⟨r,h3,h4⟩:=ih (a:=a.aS[i]) (b:=b.aS[i]) (by have:=tf hu;omega) (hm.inner _ hu)
      refine⟨r,?_,h4⟩;simp only[hd,hx,hy,hw,Qk,Qa,aq.eta,h3];cases r<;>rfl
     ·simp only[hd,Ql];rfl
    ·rw[Qh (by omega:¬((a.aS.length:Nat):Int)=((b.aS.length:Nat):Int)),Qp,Qk]
     exact⟨false,rfl,Pw hi⟩
  ·rw[Qh ht];refine⟨false,rfl,?_⟩;simp only[Qq,false_iff];exact fun h=>ht h.1
theorem X8{a b:aq}(h:eZ a):∃r,qX a b=some r/\(r=true↔a=b):=WT (by omega) h
theorem Uu(a b:Int)(s t:ByteArray):kV false a b s t=(decide (a=b)&&decide (s=t)):=by
 simp
theorem OA(a b:af):a=b↔a.aj=b.aj/\a.Value=b.Value:=by
 cases a;cases b;simp
theorem MT(a b:ai):a=b↔a.au=b.au/\a.bw=b.bw/\a.aL=b.aL/\a.ae=b.ae/\a.bS=b.bS/\a.aa=b.aa/\a.al=b.al/\a.aw=b.aw/\a.aO=b.aO/\a.aX=b.aX:=by
 cases a;cases b;simp
theorem UI(a b:Bool):(bif a then some b else some false)=some (a&&b):=by cases a<;>rfl
end Go.Proofs.YtkgenianmdfmdaaGreat
namespace Go.Proofs.YtkgenianmdfmdaaGreat
open Go.TQ
theorem N0{m:ab}(h:aU m){ρ:Type}{step:Int×Unit->Option ((Int×Unit)⊕ρ)}{fin:Option ρ}
  (h1:∀(i:Nat) (e:ai),e∈m.aC->decide ((i:Int)<((m.aC.length:Nat):Int))=true->idx m.aC (i:Int)=some e->aJ .i64 (i:Int) 1=((i+1:Nat):Int)->
   (i=0\/(decide ((0:Int)<(i:Int))=true/\∃x,idx m.aC (gf .i64 (i:Int) 1)=some x/\decide (e.au<=x.au)=false))->step ((i:Int),())=some (.inl (((i+1:Nat):Int),())))
  (h2:decide (((m.aC.length:Nat):Int)<((m.aC.length:Nat):Int))=false->step (((m.aC.length:Nat):Int),())=Option.map Sum.inr fin):aI step (0,())=fin:=by
 have hl:=h.len;refine Ig m.aC.length (by omega) (fun i hi hd hw=> ?_) h2
 have hx:idx m.aC (i:Int)=some m.aC[i]:=by rw[bN];exact Qv hi
 refine h1 i m.aC[i] (Q0 hi) hd hx hw ?_
 cases i with
 |zero=>exact .inl rfl
 |succ i=>
  refine .inr ⟨Qg (by omega),m.aC[i],?_,?_⟩
  ·have:gf .i64 ((i+1:Nat):Int) 1=(i:Int):=by rw[yY (by omega) (by omega)];omega
   rw[this,bN];exact Qv (by omega)
  ·have:=List.pairwise_iff_getElem.1 h.mw i (i+1) (by omega) hi (by omega)
   exact Qh (by omega)
theorem Ud{m:ab}(h:aU m):nZ m=some true:=by
 unfold nZ;refine N0 h (fun i e he hd hx hw hi=> ?_) (fun hd=>by simp only[hd,Ql])
 obtain⟨g1,g2,g3,g4⟩:=h.hv e he;simp only[hd,hx,hw,Qk,Qa,bD,aq.eta,ai.eta,lX g2.sm,g1,Qo,Ql,Qg g3,Qh g4];rcases hi with rfl|⟨hi,x,hx2,hn⟩
 ·rfl
 ·rw[hi,hx2];simp only[Qk,Qa,hn,Ql]
theorem MC{m:ab}(h:aU m)(hs:gl m)(hz:aF m.aa=false):a8 (cg m)=true:=by
 rw[<-MB hs hz];exact Bz h hz
theorem T0:kV false bm.aj (0:Int) bm.Value (ByteArray.mk #[])=true:=by decide
theorem vp{m:ab}(h:aU m)(hs:gl m):gK m=some true:=by
 have d1:decide (m.au<0)=false:=Qh (by have:=h.n0;omega)
 have d2:decide ((10:Int)<=m.au)=false:=Qh (by have:=h.n1;omega)
 have d3:decide (m.bw<1)=false:=Qh (by have:=h.bL;omega)
 have d4:decide ((1000000:Int)<m.bw)=false:=Qh (by have:=h.bL;omega)
 have d5:decide (m.aL<0)=false:=Qh (by have:=h.seq;omega)
 have d6:decide ((1000000:Int)<m.aL)=false:=Qh (by have:=h.seq;omega)
 have d7:decide ((200:Int)<((m.bj.size:Nat):Int))=false:=Qh (by have:=h.pI;omega)
 have hm:eZ (cg m).ae:=by rw[sF];exact h.aZ.sm
 unfold gK;simp only[d1,d2,d3,d4,d5,d6,d7,Ql,Qa,aq.eta,ab.eta,ai.eta,lZ h.aZ,decide_true,Qo,Ud h,bW,tQ,yr h,lX hm]
 cases hz:aF m.aa with
 |true=>
  have h0:P0 m:=by
   rcases h.body with k|k|k|k
   ·exact k
   ·rw[k.aD.nz]at hz;cases hz
   ·rw[k.aD.nz]at hz;cases hz
   ·rw[k.aD.nz]at hz;cases hz
  unfold sJ;simp only[h0.aA,hs.zero hz,h0.cy,h0.bB,h0.dj,h0.low,h0.bM,T0,decide_true,Qk,Qa]
 |false=>
  have hv:=MC h hs hz;simp only[hv,Ql,Qk]
  have hconf:kS m=some true:=by
   unfold kS;simp only[bW,uk,mO,dV,Qa]
   have fin:∀(hf:bU m.ar) (hp:(dG m.al m.aw m.ar||(!decide (m.aB=1)&&bs m.ar m.aa))=true),_:=fun hf hp=>(show(bif aF m.ar then some true else
     (bif !ct m.ar then some true else some (decide (1000<m.ar.aj))).bind fun b3=>bif b3 then some false else
     (bif dG m.al m.aw m.ar then some true else(bif !decide (m.aB=1)then some (bs m.ar m.aa)else some false).bind fun b6=>some b6).bind fun b7=>some b7)=some true by
    rw[hf.nz,hf.valid,Qh (show¬1000<m.ar.aj by have:=hf.2.1;omega)]
    revert hp
    cases dG m.al m.aw m.ar<;>cases decide (m.aB=1)<;>cases bs m.ar m.aa<;>simp)
   have nob:m.ar=bm->(bif aF m.ar then some true else
     (bif !ct m.ar then some true else some (decide (1000<m.ar.aj))).bind fun b3=>bif b3 then some false else
     (bif dG m.al m.aw m.ar then some true else(bif !decide (m.aB=1)then some (bs m.ar m.aa)else some false).bind fun b6=>some b6).bind fun b7=>some b7)=some true:=fun e=>by rw[e,bl];rfl
   rcases h.body with k|k|k|k
   ·exact nob k.dj
   ·rcases k.dj with e|⟨hf,hp⟩
    ·exact nob e
    ·exact fin hf (by rw[hp];rfl)
   ·rcases k.dj with e|⟨hf,hp⟩
    ·exact nob e
    ·exact fin hf (by rw[fj.2 hp,Qh (show¬m.aB=1 by have:=k.aA;omega)];simp)
   ·exact nob k.dj
  rw[hconf];simp only[Qa,Qk];rcases h.body with k|k|k|k
  ·rw[k.aD,bl]at hz;cases hz
  ·simp only[k.aA,k.bM,decide_true,Qo,Ql,Qa,Qp,Qk,show decide ((1:Int)=3)=false from rfl]
  ·simp only[k.aA,k.bB,bl,show decide ((2:Int)=1)=false from rfl,show decide ((2:Int)=3)=false from rfl,Qo,Ql,Qa,Qp,Qk]
  ·simp only[k.aA,k.bB,k.cy,bl,show decide ((3:Int)=1)=false from rfl,decide_true,Qo,Ql,Qa,Qp,Qk]
end Go.Proofs.YtkgenianmdfmdaaGreat
namespace Go.Proofs.YtkgenianmdfmdaaGreat
open Go.TQ
theorem vP(x:ab):(dv x).au=x.au/\(dv x).bw=x.bw/\(dv x).ae=x.ae/\(dv x).bj=x.bj/\(dv x).aC=x.aC/\(dv x).aa=x.aa:=by
 unfold dv;split<;>exact⟨rfl,rfl,rfl,rfl,rfl,rfl⟩
theorem RJ{m m':ab}(he:ff m m')(h:¬m'=m):lq m m'=false:=by
 cases hs:lq m m' with
 |false=>rfl
 |true=>exact absurd (J3 he hs) h
open Classical in
 def gk(m m2:ab):ab:=if aF m.aa=false/\{cg m with aL:=0}≠{cg m2 with aL:=0}then{m2 with aL:=dD (m2.aL+1) 1000000}else m2
theorem E2(m m2:ab):∃s,gk m m2={m2 with aL:=s}/\(s=m2.aL\/s=dD (m2.aL+1) 1000000):=by
 unfold gk;split
 ·exact⟨_,rfl,.inr rfl⟩
 ·exact⟨m2.aL,rfl,.inl rfl⟩
theorem xR{m m2:ab}(h:aU m2):∃s,gk m m2={m2 with aL:=s}/\m2.aL<=s/\0<=s/\s<=1000000:=by
 obtain⟨s,h1,h2⟩:=E2 m m2;have:=h.seq;refine⟨s,h1,?_⟩;rcases h2 with rfl|rfl
 ·omega
 ·unfold dD;split<;>omega
theorem Lj{m m2:ab}(h:aU m2):aU (gk m m2):=by
 obtain⟨s,h1,h2⟩:=xR (m:=m) h;rw[h1];exact HI h h2.2
theorem Sj{m m2:ab}(h:aU m2)(hf:Af m2):Af (gk m m2):=by
 obtain⟨s,h1,h2⟩:=xR (m:=m) h;rw[h1];exact Ur h hf h2.2
theorem M4{m m2:ab}(h:aU m2)(hs:gl m2)(hnz:aF m.aa=false->aF m2.aa=false):gl (gk m m2):=by
 unfold gk;split
 ·rename_i hc;have:=hs.pos (hnz hc.1);refine⟨fun hz=> ?_,fun _=> ?_⟩
  ·rw[show({m2 with aL:=dD (m2.aL+1) 1000000}:ab).aa=m2.aa from rfl,hnz hc.1]at hz
   cases hz
  ·show 1<=dD (m2.aL+1) 1000000;unfold dD;split<;>omega
 ·exact hs
def To(R:ab->Prop)(m m1:ab)(q:ab×Int×Unit):Prop:=∃m2,q=(gk m m2,(0:Int),())/\Fa R (dv m1) m2
theorem UP{R:ab->Prop}{m1 m2:ab}(h1:aU m1)(h:Fa R m1 m2):Fa R (dv m1) m2:=by
 obtain⟨e1,e2,e3,e4,e5,e6⟩:=vP m1;refine⟨h.inv,h.seq,?_,?_,fun hz=>h.nz (by rw[e6]at hz;exact hz),h.rel,h.fix⟩
 ·obtain⟨a1,a2,a3,a4,a5⟩:=h.env;exact⟨a1.trans e1.symm,a2.trans e2.symm,a3.trans e3.symm,a4.trans e4.symm,a5.trans e5.symm⟩
 ·have hn:=h.num;have hq:=h1.seq
  cases hz:aF m1.aa with
  |true=>
   have:dv m1=m1:=Qs (by rw[hz];decide)
   rw[this];exact hn
  |false=>
   have h3:=h.seq.pos (h.nz hz);have:(dv m1).aL=bn m1.aL 1:=by unfold dv;rw[Qr hz]
   rw[this];left;unfold bn;split<;>omega
theorem U8(a b:ai)(h:eZ a.ae)(hn:a.au=b.au)(hs:a.bw=b.bw):∃r,jf a b=some r/\(r=true↔{a with aL:=0}={b with aL:=0}):=by
 obtain⟨r,h1,h2⟩:=X8 (a:=a.ae) (b:=b.ae) h;refine⟨r&&decide (a.bS=b.bS)&&decide (a.aa=b.aa)&&decide (a.al=b.al)&&decide (a.aw=b.aw)&&decide (a.aO=b.aO)&&decide (a.aX=b.aX),?_,?_⟩
 ·unfold jf;simp only[aq.eta,h1,Qa,UI,Uu,<-Bool.decide_and,<-OA,Qa]
 ·rw[MT];simp only[Qm,Qi,hn,hs,h2,true_and];simp only[and_assoc]
theorem wm{m:ab}(h:aU m):ij m=some m:=by
 unfold ij;simp only[aq.eta,rE h.aZ.sm,Qa];rw[Rj (fun e he=>(h.hv e he).2.1.sm) (by have:=h.len;omega)]
 rfl
theorem tO{l:List ai}{e:ai}(hv:a8 e=true):
  (∃x∈l,x.au=e.au/\e.aL<=x.aL/\ky l e=(l,false,()))\/
  (∃a b,((∃x,l=a++x::b/\x.au=e.au/\x.aL<e.aL)\/(l=a++b/\(∀x∈l,x.au≠e.au)/\(∀x∈a,¬e.au<x.au)/\(∀x,b.head?=some x->e.au<x.au)))/\ky l e=(a++e::b,true,())):=by
 unfold ky;rw[Qr hv]
 cases hf:l.findIdx? (fun x=>decide (x.au=e.au))with
 |some i=>
  obtain⟨hi,h2,_⟩:=List.findIdx?_eq_some_iff_getElem.1 hf;have hx:l[i]?=some l[i]:=Qv hi;have h2:=of_decide_eq_true h2;simp only[hx,Q3]
  by_cases hle:e.aL<=l[i].aL
  ·left;rw[Qr hle];exact⟨l[i],Q0 hi,h2,hle,rfl⟩
  ·right;rw[Qs hle];refine⟨l.take i,l.drop (i+1),.inl ⟨l[i],?_,h2,by omega⟩,?_⟩
   ·rw[List.getElem_cons_drop];exact(List.take_append_drop i l).symm
   ·rw[List.set_eq_take_append_cons_drop,Qr hi]
 |none=>
  right
  have hne:∀x∈l,x.au≠e.au:=fun x hx he=>by
   have:=List.findIdx?_eq_none_iff.1 hf x hx;rw[he]at this;simp at this
  refine⟨l.take (Cc l e),l.drop (Cc l e),.inr ⟨(List.take_append_drop _ l).symm,hne,?_,?_⟩,by rw[QL];rfl⟩
  ·intro x hx hlt;obtain⟨j,hj,rfl⟩:=List.getElem_of_mem hx;rw[List.getElem_take]at hlt;rw[List.length_take]at hj;unfold Cc at hj
   cases hg:l.findIdx? (fun x=>decide (e.au<x.au))with
   |none=>
    have:=List.findIdx?_eq_none_iff.1 hg _ (Q0 (show j<l.length by omega))
    simp[hlt]at this
   |some k=>
    obtain⟨_,_,h3⟩:=List.findIdx?_eq_some_iff_getElem.1 hg;rw[hg,Q3]at hj;have:=h3 j (by omega)
    simp[hlt]at this
  ·intro x hx;rw[List.head?_drop]at hx;unfold Cc at hx
   cases hg:l.findIdx? (fun x=>decide (e.au<x.au))with
   |none=>rw[hg,Option.getD_none,List.getElem?_eq_none (QI _)]at hx;cases hx
   |some k=>
    obtain⟨hk,h2,_⟩:=List.findIdx?_eq_some_iff_getElem.1 hg;rw[hg,Q3,Qv hk]at hx;obtain rfl:=Option.some.inj hx;exact of_decide_eq_true h2
theorem Cv{l:List ai}{e:ai}{y:ai}(hy:y∈(ky l e).1):y=e\/y∈l:=by
 by_cases hv:a8 e=true
 ·rcases tO (l:=l) hv with⟨x,_,_,_,h⟩|⟨a,b,h1,h⟩
  ·rw[h]at hy;exact .inr hy
  ·rw[h]at hy;rcases Qz.1 hy with hy|hy
   ·rcases h1 with⟨x,rfl,_⟩|⟨rfl,_⟩
    ·exact .inr (List.mem_append_left _ hy)
    ·exact .inr (List.mem_append_left _ hy)
   ·rcases QA.1 hy with hy|hy
    ·exact .inl hy
    ·rcases h1 with⟨x,rfl,_⟩|⟨rfl,_⟩
     ·exact .inr (List.mem_append_right _ (Qy _ hy))
     ·exact .inr (List.mem_append_right _ hy)
 ·unfold ky at hy;rw[Qs hv]at hy;exact .inr hy
theorem NH{l:List ai}{e:ai}(hl:l.Pairwise (fun a b=>a.au<b.au)):(ky l e).1.Pairwise (fun a b=>a.au<b.au):=by
 by_cases hv:a8 e=true
 ·rcases tO (l:=l) hv with⟨x,_,_,_,h⟩|⟨a,b,h1,h⟩
  ·rw[h];exact hl
  ·rw[h];show(a++e::b).Pairwise _;rcases h1 with⟨x,rfl,hn,_⟩|⟨rfl,hne,ha,hb⟩
   ·rw[List.pairwise_append,Q4]at hl ⊢;obtain⟨g1,⟨g2,g3⟩,g4⟩:=hl;refine⟨g1,⟨fun y hy=> ?_,g3⟩,fun y hy z hz=> ?_⟩
    ·rw[<-hn];exact g2 y hy
    ·rcases QA.1 hz with rfl|hz
     ·rw[<-hn];exact g4 y hy x Qx
     ·exact g4 y hy z (Qy _ hz)
   ·rw[List.pairwise_append]at hl;rw[List.pairwise_append,Q4];obtain⟨g1,g3,g4⟩:=hl
    have hbe:∀y∈b,e.au<y.au:=by
     intro y hy
     cases b with
     |nil=>cases hy
     |cons z b=>
      have:=hb z rfl;rcases QA.1 hy with rfl|hy
      ·exact this
      ·have:=(Q4.1 g3).1 y hy;omega
    refine⟨g1,⟨hbe,g3⟩,fun y hy z hz=> ?_⟩
    rcases QA.1 hz with rfl|hz
    ·have h2:=ha y hy;have h3:=hne y (List.mem_append_left _ hy);omega
    ·exact g4 y hy z hz
 ·unfold ky;rw[Qs hv];exact hl
structure Ch (m:ab) (e:ai):Prop where
 valid:a8 e=true
 aZ:iV e.ae
 bL:e.bw=m.bw
 az:e.au≠m.au
 def o5(m:ab)(e:ai):ab:={m with aC:=(ky m.aC e).1}
theorem EJ{m:ab}(h:aU m){e:ai}(he:Ch m e):aU (o5 m e):=by
 refine⟨h.n0,h.n1,h.bL,h.seq,h.aZ,h.pI,fun y hy=> ?_,NH h.mw,?_⟩
 ·rcases Cv hy with rfl|hy
  ·exact⟨he.valid,he.aZ,he.bL,he.az⟩
  ·exact h.hv y hy
 ·rcases h.body with k|k|k|k
  ·exact .inl ⟨k.aA,k.aD,k.cy,k.bB,k.dj,k.low,k.bM⟩
  ·exact .inr (.inl ⟨k.aA,k.aD,k.cy,k.bB,k.dj,k.up,k.bM,k.low⟩)
  ·exact .inr (.inr (.inl ⟨k.aA,k.aD,k.cy,k.bB,k.dj,k.range⟩))
  ·exact .inr (.inr (.inr ⟨k.aA,k.aD,k.cy,k.bB,k.dj,k.range⟩))
def Th(m:ab)(t:aq):ab:={m with ae:=t}
theorem R7{m:ab}(h:aU m){t:aq}(ht:iV t):aU (Th m t):=by
 refine⟨h.n0,h.n1,h.bL,h.seq,ht,h.pI,h.hv,h.mw,?_⟩;rcases h.body with k|k|k|k
 ·exact .inl ⟨k.aA,k.aD,k.cy,k.bB,k.dj,k.low,k.bM⟩
 ·exact .inr (.inl ⟨k.aA,k.aD,k.cy,k.bB,k.dj,k.up,k.bM,k.low⟩)
 ·exact .inr (.inr (.inl ⟨k.aA,k.aD,k.cy,k.bB,k.dj,k.range⟩))
 ·exact .inr (.inr (.inr ⟨k.aA,k.aD,k.cy,k.bB,k.dj,k.range⟩))
def dO(m:ab)(v:ByteArray):ab:=if aF m.aa=true then{m with bj:=v,aa:=⟨1,c6 {m with bj:=v}⟩}else{m with bj:=v}
theorem TB{v:ByteArray}(h:1<=v.size):v≠fV:=by
 rintro rfl;exact absurd h (by decide)
theorem JO{m:ab}(h:P0 m){v:ByteArray}(hv:1<=v.size):c6 {m with bj:=v}=v:=by
 unfold c6;rw[Qs (by rw[show({m with bj:=v}:ab).ar=m.ar from rfl,h.dj,bl];decide),Qs (by rw[show({m with bj:=v}:ab).aB=m.aB from rfl,h.aA];decide),Qr (TB hv)]
theorem zm{m:ab}(h:aU m){v:ByteArray}(hv:1<=v.size/\v.size<=200):aU (dO m v):=by
 unfold dO;rcases h.body with k|k|k|k
 ·rw[Qr (by rw[k.aD];exact bl),JO k hv.1]
  refine⟨h.n0,h.n1,h.bL,h.seq,h.aZ,hv.2,h.hv,h.mw,.inr (.inl ⟨k.aA,⟨by show(1:Int)<=1;omega,by show(1:Int)<=1000;omega,hv.1,hv.2⟩,.inl k.cy,.inl k.bB,.inl k.dj,?_,k.bM,.inl k.low⟩)⟩
  show bb _ m.ar=false;rw[k.dj]
  cases hl:bb (⟨1,v⟩:af) bm with
  |false=>rfl
  |true=>have:=fU hl;exact absurd (show(1:Int)<=0 from this) (by decide)
 ·rw[Qs (by rw[k.aD.nz];decide)]
  exact⟨h.n0,h.n1,h.bL,h.seq,h.aZ,hv.2,h.hv,h.mw,.inr (.inl ⟨k.aA,k.aD,k.cy,k.bB,k.dj,k.up,k.bM,k.low⟩)⟩
 ·rw[Qs (by rw[k.aD.nz];decide)]
  exact⟨h.n0,h.n1,h.bL,h.seq,h.aZ,hv.2,h.hv,h.mw,.inr (.inr (.inl ⟨k.aA,k.aD,k.cy,k.bB,k.dj,k.range⟩))⟩
 ·rw[Qs (by rw[k.aD.nz];decide)]
  exact⟨h.n0,h.n1,h.bL,h.seq,h.aZ,hv.2,h.hv,h.mw,.inr (.inr (.inr ⟨k.aA,k.aD,k.cy,k.bB,k.dj,k.range⟩))⟩
def lp(m:ab):ab:={m with aO:=if c6 m=m.aa.Value then m.aO else 0,aa:=⟨m.aa.aj+1,c6 m⟩}
theorem Ro{m:ab}(h:aU m)(h3:m.aB≠3)(hv:c6 m≠fV):1<=(c6 m).size/\(c6 m).size<=200:=by
 have h1:m.aB=1->(m.ar=bm\/bU m.ar)->1<=(c6 m).size/\(c6 m).size<=200:=fun hp hc=>by
  refine Mm h hp hc ?_;refine Classical.byContradiction fun hn=>hv ?_
  simp only[not_or,Classical.not_not]at hn;obtain⟨a1,a2,a3⟩:=hn;unfold c6;rw[Qs (by rw[a3,bl];decide),Qs (by rw[hp];decide),Qs (by rw[a2];exact fun e=>e rfl),a1]
  rfl
 rcases h.body with k|k|k|k
 ·exact h1 k.aA (.inl k.dj)
 ·exact h1 k.aA (k.dj.imp_right And.left)
 ·unfold c6;rcases k.dj with e|⟨hf,_⟩
  ·rw[Qs (by rw[e,bl];decide),Qr (by rw[k.aA];decide)]
   exact k.aD.2.2
  ·rw[Qr hf.nz];exact hf.2.2
 ·exact absurd k.aA h3
theorem SI{m:ab}(k:P2 m):c6 m=m.aa.Value:=by
 unfold c6;rcases k.dj with e|⟨hf,he⟩
 ·rw[Qs (by rw[e,bl];decide),Qr (by rw[k.aA];decide)]
 ·rw[Qr hf.nz,he]
theorem JV{m:ab}(h:aU m)(h3:m.aB≠3)(hv:c6 m≠fV)(hc:m.aa.aj<1000):aU (lp m):=by
 have hsz:=Ro h h3 hv;refine⟨h.n0,h.n1,h.bL,h.seq,h.aZ,h.pI,h.hv,h.mw,?_⟩;have hfin:0<=m.aa.aj->bU (lp m).aa:=fun h0=>⟨by show 1<=m.aa.aj+1;omega,by show m.aa.aj+1<=1000;omega,hsz⟩
 rcases h.body with k|k|k|k
 ·have h0:m.aa.aj=0:=by rw[k.aD];rfl
  refine .inr (.inl ⟨k.aA,hfin (by omega),.inl k.cy,.inl k.bB,.inl k.dj,?_,k.bM,.inl ?_⟩)
  ·show bb (⟨m.aa.aj+1,c6 m⟩:af) m.ar=false;rw[k.dj]
   cases hl:bb (⟨m.aa.aj+1,c6 m⟩:af) bm with
   |false=>rfl
   |true=>have:=fU hl;exact absurd (show m.aa.aj+1<=0 from this) (by omega)
  ·show(if c6 m=m.aa.Value then m.aO else 0)=0
   rw[k.low,ite_self]
 ·have hb:=k.aD;have h0:0<=m.aa.aj:=by have:=hb.1;omega
  refine .inr (.inl ⟨k.aA,hfin h0,k.cy,k.bB,k.dj,?_,k.bM,?_⟩)
  ·show bb (⟨m.aa.aj+1,c6 m⟩:af) m.ar=false
   cases hl:bb (⟨m.aa.aj+1,c6 m⟩:af) m.ar with
   |false=>rfl
   |true=>
    have h1:=fU hl;have h2:=Eo k.up;exact absurd (show m.aa.aj+1<=m.ar.aj from h1) (by omega)
  ·show(if c6 m=m.aa.Value then m.aO else 0)=0\/_
   by_cases he:c6 m=m.aa.Value
   ·have hlow:(lp m).aO=m.aO:=by show(if c6 m=m.aa.Value then m.aO else 0)=m.aO;rw[Qr he]
    have hhigh:ez (lp m)=ez m:=by
     show(if(!aF m.ar&&bs m.ar ⟨m.aa.aj+1,c6 m⟩)=true then m.ar.aj else 0)=ez m
     rw[he];rfl
    rw[Qr he,hlow,hhigh];rcases k.low with e|⟨g1,g2,g3⟩
    ·exact .inl e
    ·refine .inr ⟨g1,g2,?_⟩;show kI m.al m.aw (c6 m) m.aO=false;rw[he];exact g3
   ·rw[Qs he];exact .inl rfl
 ·have hb:=k.aD;have h0:0<=m.aa.aj:=by have:=hb.1;omega
  have hv2:=SI k;have hval:(lp m).aa.Value=m.aa.Value:=hv2;have hlow:(lp m).aO=m.aO:=by show(if c6 m=m.aa.Value then m.aO else 0)=m.aO;rw[Qr hv2]
  refine .inr (.inr (.inl ⟨k.aA,hfin h0,?_,k.bB,?_,?_⟩))
  ·rw[hval];exact k.cy
  ·rw[hval];exact k.dj
  ·rw[hlow];exact k.range
 ·exact absurd k.aA h3
end Go.Proofs.YtkgenianmdfmdaaGreat
namespace Go.Proofs.YtkgenianmdfmdaaGreat
open Go.TQ
def V1:aq:=⟨0,[],[]⟩
def Ju:ab:=⟨0,0,0,V1,0,bm,bm,bm,bm,0,0,fV,[]⟩
theorem Vk{m m1:ab}(hs:gl m)(hb:aF m1.aa=aF m.aa)(hq:m1.aL=m.aL):dv m1=m1:=by
 refine TZ ⟨fun hz=> ?_,fun hz=> ?_⟩
 ·rw[hq];exact hs.zero (by rw[<-hb];exact hz)
 ·rw[hq];exact hs.pos (by rw[<-hb];exact hz)
theorem oX{m:ab}{v:ByteArray}:(aF m.aa=false->aF (dO m v).aa=false)/\(dO m v).aL=m.aL:=by
 unfold dO;split
 ·rename_i hz;refine⟨fun e=> ?_,rfl⟩
  rw[hz]at e;cases e
 ·exact⟨fun e=>e,rfl⟩
theorem RD{m:ab}(h:aU m){v:ByteArray}(hv:1<=v.size/\v.size<=200):aF (dO m v).aa=false:=by
 rcases h.body with k|k|k|k
 ·unfold dO;rw[Qr (by rw[k.aD];exact bl),JO k hv.1]
  exact bU.nz ⟨by show(1:Int)<=1;omega,by show(1:Int)<=1000;omega,hv.1,hv.2⟩
 ·exact oX.1 k.aD.nz
 ·exact oX.1 k.aD.nz
 ·exact oX.1 k.aD.nz
theorem Ha{m:ab}(h:aU m):aF (lp m).aa=false:=by
 have:0<=m.aa.aj:=by
  rcases h.body with k|k|k|k
  ·rw[k.aD];decide
  ·have:=k.aD.1;omega
  ·have:=k.aD.1;omega
  ·have:=k.aD.1;omega
 cases hz:aF (lp m).aa with
 |false=>rfl
 |true=>
  have:=ll.1 hz;have h2:m.aa.aj+1=0:=congrArg af.aj this;omega
section
variable {R : ab -> Prop} (hR1 : ∀ m, aU m -> R m -> R (cI m)) (hR2 : ∀ m, R m -> R (dv m)) {m : ab} (h : aU m) (hs : gl m)
 include hR1 hR2 h hs
end
def fY(az bL:Int)(t:aq):ab:=⟨az,bL,0,t,1,bm,bm,bm,bm,0,0,fV,[]⟩
theorem Vd{az bL:Int}{t:aq}(h0:0<=az)(h1:az<10)(h2:1<=bL)(h3:bL<=1000000)(ht:iV t):lj az bL t=some (fY az bL t,(0:Int),()):=by
 unfold lj;simp only[aq.eta,Qh (show¬az<0 by omega),Qh (show¬(10:Int)<=az by omega),Qh (show¬bL<1 by omega),Qh (show¬(1000000:Int)<bL by omega),Ql,Qa,lZ ht,decide_true,Qo,rE ht.sm]
 rfl
theorem MG{az bL:Int}{t:aq}(h0:0<=az)(h1:az<10)(h2:1<=bL)(h3:bL<=1000000)(ht:iV t):aU (fY az bL t)/\gl (fY az bL t):=
 ⟨⟨h0,h1,⟨h2,h3⟩,⟨by show(0:Int)<=0;omega,by show(0:Int)<=1000000;omega⟩,ht,(by show fV.size<=200;decide),(fun e he=>absurd he QR),List.Pairwise.nil,.inl ⟨rfl,rfl,rfl,rfl,rfl,rfl,rfl⟩⟩,⟨fun _=>rfl,fun hz=>absurd (show aF bm=false from hz) (by rw[bl];decide)⟩⟩
theorem T3{az bL:Int}{t:aq}(h:aU (fY az bL t)):Af (fY az bL t):=by
 have hz:aF (fY az bL t).aa=true:=bl;have hall:aK (fY az bL t)=[]:=Qr hz;refine⟨Qr (.inr hz),lQ (.inr (.inl hz)),?_,Qs (fun e=>by have:=e.1;exact absurd (show(1:Int)=2 from this) (by decide)),?_⟩
 ·unfold dq;rw[Qr (show(fY az bL t).aB=1 from rfl)]
  rw[Qs];intro hk;have:=(yE h hk).val;rw[hall]at this;have hv:=((mT (l:=[]) (fun e he=>by cases he) (by decide)).2.2.2 _).1 this
  obtain⟨e,he,_⟩:=hv;cases he
 ·cases ha:gu (fY az bL t) (fY az bL t).aa.aj with
  |false=>exact Qr (.inr ha)
  |true=>
   obtain⟨e,he,_⟩:=GS h ha;cases he
section
variable {R : ab -> Prop} (hR1 : ∀ m, aU m -> R m -> R (cI m)) (hR2 : ∀ m, R m -> R (dv m)) {m : ab} (h : aU m) (hs : gl m)
 include hR1 hR2 h hs
theorem EZ{m1:ab}(h1:aU m1)(hz1:aF m1.aa=true->m1.aL=0)(hnz:aF m.aa=false->aF m1.aa=false)(hn:m1.au=m.au)(hsl:m1.bw=m.bw)(hr:R m1):
  Yd (Option.bind (dM ⟨m1⟩) fun p4=>
   bO (fun(v5:ax×Unit)=>some (v5.1.ak,(0:Int),())) fun j6=>
   bO (fun(v7:Bool×Unit)=>
   bif v7.1 then
   j6 ((ax.mk (ab.mk p4.2.ak.au p4.2.ak.bw (dD (aJ .i64 p4.2.ak.aL (1:Int)) (1000000:Int)) p4.2.ak.ae p4.2.ak.aB p4.2.ak.aa p4.2.ak.al p4.2.ak.aw p4.2.ak.ar p4.2.ak.aO p4.2.ak.aX p4.2.ak.bj p4.2.ak.aC)),())
   else
   j6 (p4.2,())) fun j8=>
   Option.bind (aR m.aa) fun r9=>
   bif (!r9)then
   Option.bind (bV m) fun r10=>
   Option.bind (bV p4.2.ak) fun r11=>
   Option.bind (jf r10 r11) fun r12=>
   j8 ((!r12),())
   else
   j8 (false,())) (To R m m1):=by
 refine Yd.bind (Ra hR1 hR2 h1 hz1 hr) fun q hq=> ?_
 obtain⟨m2,rfl,ha⟩:=hq;have hq:=ha.inv.seq;have hadd:aJ .i64 m2.aL 1=m2.aL+1:=cq (by omega) (by omega)
 obtain⟨r,g1,g2⟩:=U8 (cg m) (cg m2) (by rw[sF];exact h.aZ.sm) (by rw[kj,kj,ha.env.1,hn]) (by rw[ub,ub,ha.env.2.1,hsl])
 simp only[bD,bW,Qa,tQ,yr h,yr ha.inv,hadd,g1];have hb:=UP h1 ha;refine Yd.of_eq (x:=(gk m m2,(0:Int),())) ?_ ⟨m2,rfl,hb⟩;unfold gk
 cases hz:aF m.aa with
 |true=>rw[Qs (by rintro⟨e,_⟩;cases e)];rfl
 |false=>
  cases r with
  |true=>rw[Qs (fun e=>e.2 (g2.1 rfl))];rfl
  |false=>rw[Qr ⟨rfl,fun e=>by have:=g2.2 e;cases this⟩];rfl
theorem Ko{v:ByteArray}(hv:1<=v.size/\v.size<=200)(hr:R (dO m v)):Yd (fI m v) (To R m (dO m v)):=by
 have d1:decide (((ByteArray.size v:Nat):Int)<(1:Int))=false:=Qh (by omega)
 have d2:decide ((200:Int)<((ByteArray.size v:Nat):Int))=false:=Qh (by omega)
 have hi:=zm h hv;have hval:dH ⟨{m with bj:=v}⟩=some (c6 {m with bj:=v}):=Eh (m:={m with bj:=v}) ⟨h.ev.n0,h.ev.n1,h.ev.aZ,h.ev.len,h.ev.sm,h.ev.valid⟩
 have hdo:kT ⟨m⟩ v=some ((0:Int),⟨dO m v⟩):=by
  unfold kT dO;simp only[ab.eta,ax.eta,d1,d2,Ql,Qa,bW,bD]
  cases hz:aF m.aa with
  |true=>
   simp only[Qk,Qt,aq.eta];rw[show(⟨m.au,m.bw,m.aL,m.ae,m.aB,m.aa,m.al,m.aw,m.ar,m.aO,m.aX,v,m.aC⟩:ab)={m with bj:=v}from rfl,hval]
   rfl
  |false=>simp only[Ql,Qq,Qu,aq.eta]
 unfold fI np;simp only[ab.eta,aq.eta,ai.eta,ax.eta,vp h hs,wm h,hdo,Qa,Qo,Ql,decide_true];refine Yd.bind (EZ hR1 hR2 h hs hi (fun hz=>by rw[oX.2];exact hs.zero (by cases hc:aF m.aa with|true=>rfl|false=>rw[oX.1 hc]at hz;cases hz)) oX.1 (by unfold dO;split<;>rfl) (by unfold dO;split<;>rfl) hr) fun q hq=> ?_
 obtain⟨m2,rfl,ha⟩:=hq;exact .some ⟨m2,rfl,ha⟩
theorem Kn{e:ai}(he:Ch m e)(hr:R (o5 m e)):Yd (fH m e) fun q=>(To R m (o5 m e) q/\(ky m.aC e).2.1=true)\/(q=(Ju,(9:Int),())/\(ky m.aC e).2.1=false):=by
 have hi:=EJ h he;have hlen:=h.len;have hput:=VT (l:=m.aC) (fun x hx=>(h.hv x hx).2.1.sm) (by omega) (e:=e) he.aZ.sm
 have hdo:gN ⟨m⟩ e=some (bif (ky m.aC e).2.1 then((0:Int),⟨o5 m e⟩)else((9:Int),⟨m⟩)):=by
  unfold gN;simp only[ab.eta,ax.eta,ai.eta,aq.eta,bD,lX he.aZ.sm,he.valid,Qa,Qo,Ql,Qh he.az,Qg he.bL,hput];cases (ky m.aC e).2.1<;>rfl
 unfold fH kf;simp only[ab.eta,aq.eta,ai.eta,ax.eta,vp h hs,wm h,hdo,Qa,Qo,Ql]
 cases hp:(ky m.aC e).2.1 with
 |false=>exact .some (.inr ⟨rfl,rfl⟩)
 |true=>
  simp only[Qk,decide_true,Qo,Ql];refine Yd.bind (EZ hR1 hR2 h hs hi hs.zero (fun e=>e) rfl rfl hr) fun q hq=> ?_
  obtain⟨m2,rfl,ha⟩:=hq;exact .some (.inl ⟨⟨m2,rfl,ha⟩,trivial⟩)
theorem RH(hr:R (lp m)):Yd (mn m) fun q=>(To R m (lp m) q/\m.aB≠3/\c6 m≠fV/\m.aa.aj<1000)\/(q=(Ju,(62:Int),())/\(m.aB=3\/c6 m=fV))\/(q=(Ju,(3:Int),())/\1000<=m.aa.aj):=by
 unfold mn nn nO;simp only[ab.eta,aq.eta,ai.eta,ax.eta,vp h hs,wm h,Qa,Qo,Ql,Eh h.ev]
 by_cases h3:m.aB=3
 ·rw[Qg h3];exact .some (.inr (.inl ⟨rfl,.inl h3⟩))
 ·rw[Qh h3]
  by_cases hv:c6 m=ByteArray.mk #[]
  ·rw[Qg hv];exact .some (.inr (.inl ⟨rfl,.inr hv⟩))
  ·rw[Qh hv]
   by_cases hc:(1000:Int)<=m.aa.aj
   ·rw[Qg hc];exact .some (.inr (.inr ⟨rfl,hc⟩))
   ·rw[Qh hc];have hi:=JV h h3 hv (by omega)
    have hb0:0<=m.aa.aj:=by
     rcases h.body with k|k|k|k
     ·rw[k.aD];decide
     ·have:=k.aD.1;omega
     ·have:=k.aD.1;omega
     ·have:=k.aD.1;omega
    have hadd:aJ .i64 m.aa.aj 1=m.aa.aj+1:=cq (by omega) (by omega)
    have ht:eK ⟨m⟩ ⟨m.aa.aj+1,c6 m⟩=some ((),⟨lp m⟩):=by
     rw[JU];unfold lp
     by_cases hev:c6 m=m.aa.Value
     ·have:bs m.aa ⟨m.aa.aj+1,c6 m⟩=true:=fj.2 hev.symm;rw[this,Qr hev];rfl
     ·have:bs m.aa ⟨m.aa.aj+1,c6 m⟩=false:=fB.2 (Ne.symm hev);rw[this,Qs hev];rfl
    simp only[hadd,Ql,Qk,Qa,ht,decide_true,Qo,ab.eta,ax.eta];refine Yd.bind (EZ hR1 hR2 h hs hi (fun hz=>by rw[Ha h]at hz;cases hz) (fun _=>Ha h) rfl rfl hr) fun q hq=> ?_
    obtain⟨m2,rfl,ha⟩:=hq;exact .some (.inl ⟨⟨m2,rfl,ha⟩,h3,hv,by omega⟩)
end
theorem RI{m:ab}(h:aU m)(hs:gl m):∃e,mo m=some (e,!aF m.aa,())/\(aF m.aa=false->e=cg m):=by
 unfold mo;simp only[ab.eta,aq.eta,ai.eta,bW,vp h hs,wm h,tQ,yr h,Qa]
 cases aF m.aa with
 |true=>exact⟨_,rfl,fun e=>by cases e⟩
 |false=>exact⟨_,rfl,fun _=>rfl⟩
theorem El{m:ab}(h:aU m)(hs:gl m):gD m=some (bif decide (m.aB=3)then m.aa.Value else fV,decide (m.aB=3),()):=by
 unfold gD;simp only[ab.eta,aq.eta,vp h hs,Qa];cases decide (m.aB=3)<;>rfl
theorem TN{m:ab}(h:aU m)(hs:gl m){e:ai}(ht:eZ e.ae)(hbad:a8 e=false\/e.au=m.au\/e.bw≠m.bw):fH m e=some (Ju,(61:Int),()):=by
 have hdo:gN ⟨m⟩ e=some ((61:Int),⟨m⟩):=by
  unfold gN;simp only[ab.eta,ax.eta,ai.eta,aq.eta,bD,lX ht,Qa]
  cases hv:a8 e with
  |false=>rfl
  |true=>
   by_cases hn:e.au=m.au
   ·rw[Qg hn];rfl
   ·have hsl:e.bw≠m.bw:=(hbad.resolve_left (by rw[hv];decide)).resolve_left hn
    rw[Qh hn,Qh hsl];rfl
 unfold fH kf;simp only[ab.eta,aq.eta,ai.eta,ax.eta,vp h hs,wm h,hdo,Qa,Qo,Ql];rfl
end Go.Proofs.YtkgenianmdfmdaaGreat
namespace Go.Proofs.YtkgenianmdfmdaaGreat
open Go.TQ
def gT(n:Nat)(k:Int)(i s:Nat):Bool:=s.testBit i&&decide (k<=(((kU n).countP (fT s):Nat):Int))
def bT(n:Nat)(k:Int)(i s:Nat):Bool:= !decide (k<=(((kU n).countP (fT (rn s i)):Nat):Int))
structure lK (n:Nat) (k:Int) (m:ab):Prop where
 n10:n<=10
 k1:1<=k
 kn:k<=n
 aZ:m.ae=flat n k
 heard:∀e∈m.aC,e.ae=flat n k
theorem lK.all{n:Nat}{k:Int}{m:ab}(hf:lK n k m){e:ai}(he:e∈aK m):e.ae=flat n k:=by
 rcases qS he with he|⟨_,rfl⟩
 ·exact hf.heard e he
 ·rw[zn];exact hf.aZ
section
variable {n : Nat} {k : Int} {m : ab} (h : aU m) (hf : lK n k m)
 include h
theorem sZ:bH (aK m)=aK m:=FJ h.iO
 include hf
theorem J2{j:Nat}(hj:j<10)(hs:j=m.au.toNat\/∃e∈aK m,e.au.toNat=j):mE (fg m.au.toNat m.ae (aK m)) j=true/\kl (fg m.au.toNat m.ae (aK m)) j=flat n k:=
 OR h.ev.az.2 (fun _=>flat n k) hf.aZ.symm (fun e he=>by rw[sZ h]at he;exact hf.all he) hj (by rw[sZ h];exact hs)
theorem N3{s:Nat}(hs:∀j,s.testBit j=true->∃e∈aK m,e.au.toNat=j):(gq (fg m.au.toNat m.ae (aK m)) s).testBit m.au.toNat=gT n k m.au.toNat s:=by
 have hs10:∀j,s.testBit j=true->j<10:=fun j hj=>by
  obtain⟨e,he,rfl⟩:=hs j hj;have:=js (h.iO e he);omega
 have hg:=Gu (qz (az:=m.au.toNat) h.aZ.sm h.ev.mR.1) (yt hs10);have hi:=J2 h hf h.ev.az.2 (.inl rfl);unfold gT;rw[QW,Qm,Qi];constructor
 ·intro hb;have h1:=hg.inside _ hb;refine⟨h1.1,?_⟩;have h3:=h1.2.2;rw[hi.2,D0]at h3;have h3:=of_decide_eq_true h3;have h2:=On (s':=s) (fun j hj=>(hg.inside j hj).1) (kU n)
  omega
 ·rintro⟨hb,hc⟩;refine hg.max s (fun j hj=> ?_) _ hb
  obtain⟨g1,g2⟩:=J2 h hf (hs10 j hj) (.inr (hs j hj));exact⟨hj,g1,by rw[g2,D0];exact Qg hc⟩
theorem Sk(s:Nat):tr (fg m.au.toNat m.ae (aK m)) m.au.toNat s=bT n k m.au.toNat s:=by
 obtain⟨g1,g2⟩:=J2 h hf h.ev.az.2 (.inl rfl);unfold tr bT;rw[g1,g2,D0,Bool.true_and]
end
theorem Cm{p:ai->Bool}{l:List ai}{j:Nat}(hb:(dh p l).testBit j=true):∃e∈l,e.au.toNat=j:=by
 rw[lP,List.any_eq_true]at hb;obtain⟨e,he,hp⟩:=hb;rw[Qm,Qi]at hp;exact⟨e,he,hp.2⟩
theorem JM{p q:ai->Bool}{l:List ai}{j:Nat}(hb:(dh p l|||dh q l).testBit j=true):∃e∈l,e.au.toNat=j:=by
 rw[Nat.testBit_or,Qn]at hb;rcases hb with hb|hb
 ·exact Cm hb
 ·exact Cm hb
def HX(n:Nat)(k:Int)(i:Nat)(l:List ai)(b:af):Bool:=bT n k i (dh (da · b) l)||gT n k i (dh (fun e=>pY e b||da e b) l|||dh (da · b) l)
def GF(n:Nat)(k:Int)(i:Nat)(l:List ai)(b:af):Bool:=gT n k i (dh (da · b) l)
def mz(n:Nat)(k:Int)(i:Nat)(l:List ai)(v:ByteArray)(lo hi:Int):Bool:=bT n k i (dh (dn · v lo hi) l)||gT n k i (dh (fun e=>rN e v lo hi||dn e v lo hi) l|||dh (dn · v lo hi) l)
def Co(n:Nat)(k:Int)(i:Nat)(l:List ai)(v:ByteArray)(lo hi:Int):Bool:=gT n k i (dh (dn · v lo hi) l)
def SO(e:ai):List af:=if e.bS=1 then[e.aa,e.al,e.aw]else if e.bS=2 then[e.al,at_ e 1000000]else[at_ e 1000000]
def oK(l:List ai):List af:=((l.flatMap SO).filter fun b=> !aF b).foldl (fun l x=>oC (fun x y=>bb y x) x l) []
def G8(l:List ai):List ByteArray:=(l.map (·.aa.Value)).foldl (fun l x=>oC mX x l) []
def JH(v:ByteArray)(e:ai):List Int:=if e.aa.Value=v/\e.aO≠0 then[e.aO,e.aX]else[]
def nH(l:List ai)(v:ByteArray):List Int:=(l.flatMap (JH v)).foldl (fun l x=>oC (fun a b=>decide (a<b)) x l) []
section
variable {l : List ai} (hv : ∀ e ∈ l, a8 e = true) (hsm : ∀ e ∈ l, eZ e.ae) (hlen : l.length <= 1000)
 include hv hsm hlen
theorem I3:eI l=oK l:=by
 obtain⟨_,h2,_,h4⟩:=nI hsm hlen;obtain⟨h5,h6⟩:=Gk wY.flip ((l.flatMap SO).filter fun b=> !aF b) [] .nil
 refine wY.flip.unique h2 h5 fun x=> ?_
 unfold oK;rw[h4,h6];simp only[List.mem_filter,QQ,QR,or_false,Bool.not_eq_true'];constructor
 ·rintro⟨e,he,hx,hz⟩;refine⟨⟨e,he,?_⟩,hz⟩;unfold said at hx;rw[hv e he]at hx;exact hx
 ·rintro⟨⟨e,he,hx⟩,hz⟩;refine⟨e,he,?_,hz⟩;unfold said;rw[hv e he];exact hx
theorem Rm:fA l=G8 l:=by
 obtain⟨_,h2,_,h4⟩:=mT hsm hlen;obtain⟨h5,h6⟩:=Gk wX (l.map (·.aa.Value)) [] .nil;refine wX.unique h2 h5 fun x=> ?_
 unfold G8;rw[h4,h6];simp only[QP,QR,or_false];constructor
 ·rintro⟨e,he,_,rfl⟩;exact⟨e,he,rfl⟩
 ·rintro⟨e,he,rfl⟩;exact⟨e,he,hv e he,rfl⟩
theorem E4:bK l=nH l:=by
 funext v
 obtain⟨_,h2,_,h4⟩:=jk hsm hlen v;obtain⟨h5,h6⟩:=Gk Cp (l.flatMap (JH v)) [] .nil;refine Cp.unique (h2.imp fun hab=>Qg hab) h5 fun x=> ?_
 unfold nH;rw[h4,h6,s9];simp only[QQ,QR,or_false];constructor
 ·rintro⟨e,he,hb,hx⟩;refine⟨e,he,?_⟩;simp only[fZ,Qm,Qi,Bool.not_eq_true',Qj]at hb;unfold JH;rw[Qr ⟨hb.1.2,hb.2⟩];simpa using hx
 ·rintro⟨e,he,hx⟩;unfold JH at hx;split at hx
  ·rename_i hc;refine⟨e,he,?_,by simpa using hx⟩
   simp only[fZ,Qm,Qi,Bool.not_eq_true',Qj];exact⟨⟨hv e he,hc.1⟩,hc.2⟩
  ·cases hx
end
section
variable {n : Nat} {k : Int} {m : ab} (h : aU m) (hf : lK n k m)
 include h hf
theorem Tl:iB m.au.toNat m.ae (aK m)=HX n k m.au.toNat (aK m):=by
 funext b
 unfold iB o7 HX;rw[sZ h,Sk h hf,N3 h hf fun j hj=>JM hj]
theorem VH:iE m.au.toNat m.ae (aK m)=GF n k m.au.toNat (aK m):=by
 funext b
 unfold iE GF;rw[sZ h,N3 h hf fun j hj=>Cm hj]
theorem Cu:dL m=mz n k m.au.toNat (aK m):=by
 funext v lo hi
 unfold dL oH o7 mz;rw[sZ h,Sk h hf,N3 h hf fun j hj=>JM hj]
theorem O0:wW m=Co n k m.au.toNat (aK m):=by
 funext v lo hi
 unfold wW qP Co;rw[sZ h,N3 h hf fun j hj=>Cm hj]
end
def P9(x:ByteArray->Int->Int->Bool)(p q:af)(v:ByteArray)(s:Bool×af)(n:Int):Bool×af:=
 if bb s.2 ⟨n,v⟩&& !kI p q v n&&x v n n then(true,⟨n,v⟩)else s
def JL(x:ByteArray->Int->Int->Bool)(l:List ai)(p q:af):Bool×af:=
 (G8 l).foldl (fun s v=>(nH l v).foldl (P9 x p q v) s) (false,⟨0,fV⟩)
def Gy(x:ByteArray->Int->Int->Bool)(l:List ai)(p q:af)(s:Bool×af):ByteArray×Int×Int×Bool×Unit:=
 if s.1 then(s.2.Value,dU (fun n=> !kI p q s.2.Value n&&x s.2.Value n s.2.aj) (nH l s.2.Value).reverse s.2.aj,s.2.aj,true,())else(fV,0,0,false,())
def R1(b:List Int)(ready:Int->Int->Bool)(low bM:Int):Int×Int:=
 match b.reverse.find? (fun n=>decide (bM<n)&&ready n n)with
 |none=>(dU (fun x=>ready x bM) b.reverse low,bM)
 |some n=>
  let bottom:=dU (fun x=>ready x n) b.reverse n
  (dU (fun x=>ready x n) b.reverse (if bM<bottom - 1\/bottom<low then bottom else low),n)
def Pd(nx:af)(m:ab):ab:=
 if m.aB=3\/aF m.aa=true then m else
  {m with al:=(bY m.al m.aw (cp nx)).1,aw:=(bY m.al m.aw (cp nx)).2,aO:=pJ m (bY m.al m.aw (cp nx)).1 (bY m.al m.aw (cp nx)).2}
def Pc(hg:af)(m:ab):ab:=if m.aB≠1\/aF m.aa=true\/aF hg=true then m else mj (uI m hg) hg
def Pf(fs:ByteArray×Int×Int×Bool×Unit)(ex:Int×Int)(m:ab):ab:=
 if m.aB=1 then(if fs.2.2.2.1=true then xQ m fs.1 fs.2.1 fs.2.2.1 else m)
 else if m.aB=2 then sE m ex.1 ex.2 else m
def Pe(fn:Int×Int×Bool×Unit)(m:ab):ab:=if m.aB=2/\fn.2.2.1=true then zT m fn.1 fn.2.1 else m
def Si(ah:Int->Bool)(m:ab):Int:=m.aC.foldl (fun Cb e=>if m.aa.aj<eY e/\eY e<Cb/\ah (eY e)=false then eY e else Cb) 1000000
def SY(m:ab):ByteArray:=if m.aB=1 then c6 m else m.aa.Value
def Km(ah:Int->Bool)(m:ab):ab:=
 if m.aB=3\/ah m.aa.aj=false then m
 else{m with aO:=if SY m=m.aa.Value then m.aO else 0,aa:=⟨bn m.aa.aj (dD (Si ah m) 1000),SY m⟩}
def GU(n:Nat)(k:Int)(m:ab)(c:Int):Bool:=bT n k m.au.toNat (yM m c)
def Cy(m p r:ab):ab:=bif lq m p then r else p
def stepT(n:Nat)(k:Int)(m:ab):ab:=
 Cy m (Pd (((oK (aK m)).find? (u0 (HX n k m.au.toNat (aK m)) m.al m.aw (Ds m))).getD w9) m)<|
 Cy m (Pc (((oK (aK m)).find? (u9 (GF n k m.au.toNat (aK m)) m.ar)).getD w9) m)<|
 Cy m (Pf (Gy (mz n k m.au.toNat (aK m)) (aK m) m.al m.aw (JL (mz n k m.au.toNat (aK m)) (aK m) m.al m.aw)) (R1 (nH (aK m) m.aa.Value) (mz n k m.au.toNat (aK m) m.aa.Value) m.aO m.aX) m)<|
 Cy m (Pe (sC (nH (aK m) m.aa.Value) (Co n k m.au.toNat (aK m) m.aa.Value)) m)<|
 Km (GU n k m) m
open Classical in
theorem Cx{m m' r:ab}(he:ff m m'):Cy m m' r=if m'=m then r else m':=by
 unfold Cy
 by_cases h:m'=m
 ·rw[Qr h,h,Ns];rfl
 ·rw[Qs h,RJ he h];rfl
section
variable {n : Nat} {k : Int} {m : ab} (h : aU m) (hf : lK n k m)
 include h hf
theorem Wj:di m=((oK (aK m)).find? (u0 (HX n k m.au.toNat (aK m)) m.al m.aw (Ds m))).getD w9:=by
 unfold di ix;rw[Tl h hf,I3 h.iO h.ev.mR.1.aZ h.ev.mR.2]
theorem Wo:ib m=((oK (aK m)).find? (u9 (GF n k m.au.toNat (aK m)) m.ar)).getD w9:=by
 unfold ib vb;rw[VH h hf,I3 h.iO h.ev.mR.1.aZ h.ev.mR.2]
theorem WA:dx m=Gy (mz n k m.au.toNat (aK m)) (aK m) m.al m.aw (JL (mz n k m.au.toNat (aK m)) (aK m) m.al m.aw):=by
 unfold dx nv ft Gy JL;rw[Cu h hf,E4 h.iO h.ev.mR.1.aZ h.ev.mR.2,Rm h.iO h.ev.mR.1.aZ h.ev.mR.2];rfl
theorem WG:c9 m=R1 (nH (aK m) m.aa.Value) (mz n k m.au.toNat (aK m) m.aa.Value) m.aO m.aX:=by
 unfold c9;rw[Cu h hf,E4 h.iO h.ev.mR.1.aZ h.ev.mR.2];rfl
theorem WE:iQ m=sC (nH (aK m) m.aa.Value) (Co n k m.au.toNat (aK m) m.aa.Value):=by
 unfold iQ;rw[O0 h hf,E4 h.iO h.ev.mR.1.aZ h.ev.mR.2]
theorem M8:gu m=GU n k m:=by
 funext c
 exact Sk h hf _
theorem TL:eu m=Km (GU n k m) m:=by
 have e:eU m=Si (GU n k m) m:=by
  unfold eU Si jC;rw[M8 h hf]
 unfold eu Km;rw[M8 h hf,e];rfl
theorem U3:cI m=stepT n k m:=by
 have eP:Pd (((oK (aK m)).find? (u0 (HX n k m.au.toNat (aK m)) m.al m.aw (Ds m))).getD w9) m=bZ m:=by rw[<-Wj h hf];rfl
 have eS:Pc (((oK (aK m)).find? (u9 (GF n k m.au.toNat (aK m)) m.ar)).getD w9) m=gg m:=by rw[<-Wo h hf];rfl
 have eC:Pf (Gy (mz n k m.au.toNat (aK m)) (aK m) m.al m.aw (JL (mz n k m.au.toNat (aK m)) (aK m) m.al m.aw)) (R1 (nH (aK m) m.aa.Value) (mz n k m.au.toNat (aK m) m.aa.Value) m.aO m.aX) m=dq m:=by rw[<-WA h hf,<-WG h hf];rfl
 have eF:Pe (sC (nH (aK m) m.aa.Value) (Co n k m.au.toNat (aK m) m.aa.Value)) m=gX m:=by rw[<-WE h hf];rfl
 unfold cI stepT;rw[eP,eS,eC,eF,<-TL h hf,Cx (rj m),Cx (oi m),Cx (mS m),Cx (rl m)]
end
 def ru:Nat->ab->ab
 |0,m=>m
 |j+1,m=>ru j (cI m)
theorem EF:∀(j:Nat) (m:ab),ru (j+1) m=cI (ru j m)
 |0,_=>rfl
 |j+1,m=>EF j (cI m)
theorem HG{m:ab}(h:aU m):∀j,aU (ru j m)
 |0=>h
 |j+1=>by rw[EF];exact AS (HG h j)
theorem EG{m:ab}(h:cI m=m):∀j,ru j m=m
 |0=>rfl
 |j+1=>by rw[ru,h];exact EG h j
theorem HH:∀(i j:Nat) (m:ab),ru (i+j) m=ru j (ru i m)
 |0,j,m=>by rw[Nat.zero_add];rfl
 |i+1,j,m=>by rw[show i+1+j=(i+j)+1 by omega,ru,HH i j];rfl
theorem T7{m:ab}{i j:Nat}(hi:cI (ru i m)=ru i m)(hj:cI (ru j m)=ru j m):ru i m=ru j m:=by
 rcases Nat.le_total i j with hl|hl
 ·have:=HH i (j - i) m;rw[EG hi]at this;rw[<-this,show i+(j - i)=j by omega]
 ·have:=HH j (i - j) m;rw[EG hj]at this;rw[<-this,show j+(i - j)=i by omega]
theorem AX{m m':ab}(he:ff m m')(s:Int):({m' with aL:=s}:ab)={m with aL:=s}↔m'=m:=by
 constructor
 ·intro h;have e1:m'.aB=m.aB:=(congrArg ab.aB h:_);have e2:m'.aa=m.aa:=(congrArg ab.aa h:_);have e3:m'.al=m.al:=(congrArg ab.al h:_);have e4:m'.aw=m.aw:=(congrArg ab.aw h:_);have e5:m'.ar=m.ar:=(congrArg ab.ar h:_);have e6:m'.aO=m.aO:=(congrArg ab.aO h:_);have e7:m'.aX=m.aX:=(congrArg ab.aX h:_);exact qG he e1 e2 e3 e4 e5 e6 e7
 ·rintro rfl;rfl
open Classical in
theorem H7{m:ab}(h:aU m){s:Int}(hs:0<=s/\s<=1000000):cI {m with aL:=s}={cI m with aL:=s}:=by
 unfold cI;rw[Iq h hs,Io h hs,Ix h hs,Iv h hs,Is h hs];simp only[AX (rj m),AX (oi m),AX (mS m),AX (rl m)]
 by_cases hP:bZ m=m
 ·by_cases hS:gg m=m
  ·by_cases hC:dq m=m
   ·by_cases hF:gX m=m
    ·simp only[Qr hP,Qr hS,Qr hC,Qr hF]
    ·simp only[Qr hP,Qr hS,Qr hC,Qs hF]
   ·simp only[Qr hP,Qr hS,Qs hC]
  ·simp only[Qr hP,Qs hS]
 ·simp only[Qs hP]
def Reach(m x:ab):Prop:=∃j s,(0<=s/\s<=1000000)/\x={ru j m with aL:=s}
theorem Mu{m:ab}(h:aU m):∀x,aU x->Reach m x->Reach m (cI x):=by
 rintro x _ ⟨j,s,hs,rfl⟩;exact⟨j+1,s,hs,by rw[H7 (HG h j) hs,EF]⟩
theorem Mt{m:ab}:∀x,Reach m x->Reach m (dv x):=by
 rintro x ⟨j,s,hs,rfl⟩;unfold dv;split
 ·exact⟨j,bn s 1,by unfold bn;split<;>omega,rfl⟩
 ·exact⟨j,s,hs,rfl⟩
theorem Mw{m:ab}(h:aU m):Reach m m:=⟨0,m.aL,h.seq,rfl⟩
def runT(n:Nat)(k:Int):Nat->ab->Option ab
 |0,_=>none
 |f+1,m=>if lq m (stepT n k m)=true then some m else runT n k f (stepT n k m)
theorem lK.step{n:Nat}{k:Int}{m m':ab}(hf:lK n k m)(he:ff m m'):lK n k m':=⟨hf.n10,hf.k1,hf.kn,by rw[he.aZ];exact hf.aZ,by rw[he.heard];exact hf.heard⟩
theorem J7{n:Nat}{k:Int}:∀{f:Nat} {m z:ab},aU m->lK n k m->runT n k f m=some z->∃j,ru j m=z/\cI z=z
 |0,m,z,_,_,e=>by cases e
 |f+1,m,z,h,hf,e=>by
  rw[runT,<-U3 h hf]at e;split at e
  ·rename_i hs;obtain rfl:=Option.some.inj e;exact⟨0,rfl,J3 (rh m) hs⟩
  ·obtain⟨j,h1,h2⟩:=J7 (AS h) (hf.step (rh m)) e;exact⟨j+1,h1,h2⟩
theorem Tk{n:Nat}{k:Int}{f:Nat}{m1 z m m2:ab}(h:aU m1)(hf:lK n k m1)(hz:runT n k f m1=some z)(ha:Fa (Reach m1) m m2):m2={z with aL:=m2.aL}:=by
 obtain⟨j,s,hs,e⟩:=ha.rel;obtain⟨i,h1,h2⟩:=J7 h hf hz;have h3:=RY ha.fix;rw[e,H7 (HG h j) hs]at h3;have h4:=(AX (rh (ru j m1)) s).1 h3;rw[<-h1]at h2;have h5:=T7 h2 h4;rw[e,<-h5,h1]
def Ht(l:List ai)(e:ai):List ai×Bool:=
 match l.findIdx? fun x=>decide (x.au=e.au)with
 |some i=>if e.aL<=((l[i]?).getD e).aL then(l,false)else(l.set i e,true)
 |none=>(l.take (Cc l e)++[e]++l.drop (Cc l e),true)
theorem We{l:List ai}{e:ai}(hv:a8 e=true):(ky l e).1=(Ht l e).1/\(ky l e).2.1=(Ht l e).2:=by
 unfold ky Ht;rw[Qr hv]
 cases l.findIdx? (fun x=>decide (x.au=e.au))with
 |none=>exact⟨rfl,rfl⟩
 |some i=>
  by_cases hc:e.aL<=((l[i]?).getD e).aL
  ·simp only[Qr hc];exact⟨trivial,trivial⟩
  ·simp only[Qs hc];exact⟨trivial,trivial⟩
def Jv(a b:ai):Bool:=decide (a.bS=b.bS)&&uP a.aa b.aa&&uP a.al b.al&&uP a.aw b.aw&&decide (a.aO=b.aO)&&decide (a.aX=b.aX)
def JK(m m2:ab):ab:=if Jv (cg m) (cg m2)=true then m2 else{m2 with aL:=dD (m2.aL+1) 1000000}
theorem VJ{m m2:ab}(hz:aF m.aa=false)(hn:m2.au=m.au)(hs:m2.bw=m.bw)(ht:m2.ae=m.ae):gk m m2=JK m m2:=by
 have key:(Jv (cg m) (cg m2)=true)↔({cg m with aL:=0}:ai)={cg m2 with aL:=0}:=by
  rw[MT];unfold Jv;simp only[Qm,Qi,oa,kj,ub,sF,hn,hs,ht,true_and,and_assoc]
 unfold gk JK
 by_cases hk:Jv (cg m) (cg m2)=true
 ·rw[Qr hk,Qs (fun e=>e.2 (key.1 hk))]
 ·rw[Qs hk,Qr ⟨hz,fun e=>hk (key.2 e)⟩]
structure ni (n:Nat) (k:Int) (m:ab):Prop where
 inv:aU m
 seq:gl m
 flat:lK n k m
 nz:aF m.aa=false
 bL:m.bw=1
theorem ni.env{n:Nat}{k:Int}{m:ab}(h:ni n k m):a8 (cg m)=true/\(cg m).ae=Go.Proofs.YtkgenianmdfmdaaGreat.flat n k/\(cg m).bw=1:=⟨MC h.inv h.seq h.nz,by rw[sF];exact h.flat.aZ,by rw[ub];exact h.bL⟩
def NA(n:Nat)(k:Int)(m:ab)(e:ai):Option ab:=
 if e.au=m.au then some m else
 if(Ht m.aC e).2=false then some m else
 (runT n k 20 {m with aC:=(Ht m.aC e).1}).map fun z=>JK m {z with aL:=m.aL}
theorem RO{n:Nat}{k:Int}{m m1 m2:ab}{R:ab->Prop}(h:ni n k m)(hf:lK n k m1)(hnz:aF m1.aa=false)(hsl:m1.bw=1)(ha:Fa R m1 m2):ni n k (gk m m2):=by
 have hz2:=ha.nz hnz;obtain⟨s,e,hs⟩:=xR (m:=m) ha.inv;refine⟨Lj ha.inv,M4 ha.inv ha.seq (fun _=>hz2),?_,by rw[e];exact hz2,by rw[e];exact ha.env.2.1.trans hsl⟩
 rw[e];exact⟨hf.n10,hf.k1,hf.kn,ha.env.2.2.1.trans hf.aZ,fun x hx=>hf.heard x (by have:x∈m2.aC:=hx;rw[ha.env.2.2.2.2]at this;exact this)⟩
theorem O3{n:Nat}{k:Int}{m x:ab}{e:ai}(h:ni n k m)(hv:a8 e=true)(ht:e.ae=flat n k)(hsl:e.bw=1)(hx:NA n k m e=some x):
  ∃y c,fH m e=some (y,c,())/\((c=0/\y=x)\/(c≠0/\x=m))/\ni n k x:=by
 have hgood:iV e.ae:=by rw[ht];exact rB n h.flat.n10 k h.flat.k1 h.flat.kn
 unfold NA at hx;split at hx
 ·rename_i hn;obtain rfl:=Option.some.inj hx;exact⟨_,_,TN h.inv h.seq hgood.sm (.inr (.inl hn)),.inr ⟨by decide,rfl⟩,h⟩
 ·rename_i hn;have he:Ch m e:=⟨hv,hgood,by rw[hsl,h.bL],hn⟩
  have hi:=EJ h.inv he;have hp:=We (l:=m.aC) hv;have hm1:o5 m e={m with aC:=(Ht m.aC e).1}:=by unfold o5;rw[hp.1]
  obtain⟨q,hq,hq2⟩:=Kn (R:=Reach (o5 m e)) (Mu hi) Mt h.inv h.seq he (Mw hi);rcases hq2 with⟨⟨m2,rfl,ha⟩,hok⟩|⟨rfl,hok⟩
  ·rw[hp.2]at hok;rw[Qs (by rw[hok];decide),<-hm1]at hx
   obtain⟨z,hz,rfl⟩:=Qb.1 hx
   have hf1:lK n k (o5 m e):=⟨h.flat.n10,h.flat.k1,h.flat.kn,h.flat.aZ,fun y hy=>by
    rcases Cv hy with rfl|hy
    ·exact ht
    ·exact h.flat.heard y hy⟩
   have e2:=Tk hi hf1 hz ha;have hid:dv (o5 m e)=o5 m e:=Vk h.seq rfl rfl;rw[hid]at ha
   have hsq:m2.aL=m.aL:=by
    rcases ha.num with g|⟨g,_⟩
    ·exact g
    ·have:=h.seq.pos h.nz;have g:m.aL=0:=g;omega
   have hb:gk m m2=JK m {z with aL:=m.aL}:=by
    rw[VJ h.nz ha.env.1 ha.env.2.1 ha.env.2.2.1,<-hsq,<-e2]
   refine⟨_,_,hq,.inl ⟨rfl,hb⟩,?_⟩;rw[<-hb];exact RO h hf1 h.nz h.bL ha
  ·rw[hp.2]at hok;rw[Qr hok]at hx;obtain rfl:=Option.some.inj hx;exact⟨_,_,hq,.inr ⟨by decide,rfl⟩,h⟩
end Go.Proofs.YtkgenianmdfmdaaGreat
namespace Go.Proofs.YtkgenianmdfmdaaGreat
open Go.TQ
theorem PF{σ ρ:Type}(n:Nat)(P:Nat->σ->Prop)(r:ρ->Prop){step:Int×σ×Unit->Option ((Int×σ×Unit)⊕ρ)}
  (h1:∀(i:Nat) (s:σ),i<n->P i s->∃s',step ((i:Int),s,())=some (.inl (((i+1:Nat):Int),s',()))/\P (i+1) s')
  (h2:∀s,P n s->Yd (step ((n:Int),s,())) fun y=>match y with| .inl _=>False| .inr q=>r q):∀s0,P 0 s0->Yd (aI step ((0:Int),s0,())) r:=by
 suffices key:∀(d i:Nat),i+d=n->∀s,P i s->Yd (aI step ((i:Int),s,())) r from fun s0 h=>key n 0 (by omega) s0 h
 intro d
 induction d with
 |zero=>
  intro i hi s hs;obtain rfl:i=n:=by omega
  refine Yd.loop ((h2 s hs).mono fun y hy=> ?_)
  cases y with
  |inl _=>exact hy.elim
  |inr q=>exact hy
 |succ d ih=>
  intro i hi s hs;obtain⟨s',e,hs'⟩:=h1 i s (by omega) hs
  exact Yd.loop (Yd.of_eq e (ih (i+1) (by omega) s' hs'))
theorem V3{α:Type}{o:Option α}{x:α}(h:Yd o fun q=>q=x):o=some x:=by
 obtain⟨q,rfl,rfl⟩:=h;rfl
theorem V2{α β:Type}{o:Option β}{f:α->β}{P:α->Prop}(h:Yd o fun q=>∃s,q=f s/\P s):∃s,o=some (f s)/\P s:=by
 obtain⟨q,rfl,s,rfl,hp⟩:=h;exact⟨s,rfl,hp⟩
def ri(n:Nat)(k:Int):ab->List ai->Option ab
 |m,[]=>some m
 |m,e::es=>(NA n k m e).bind fun x=>ri n k x es
def Bs(n:Nat)(k:Int)(es:List ai):List ab->Option (List ab)
 |[]=>some []
 |m::ms=>(ri n k m es).bind fun x=>(Bs n k es ms).map (x::·)
theorem Kc{n:Nat}{k:Int}{es:List ai}:∀{ms ms':List ab},Bs n k es ms=some ms'->ms'.length=ms.length/\∀(t:Nat) (m:ab),ms[t]?=some m->∃x,ms'[t]?=some x/\ri n k m es=some x
 |[],ms',h=>by
  obtain rfl:=Option.some.inj h;exact⟨rfl,fun t m e=>by simp at e⟩
 |m::ms,ms',h=>by
  rw[Bs]at h;obtain⟨x,h1,h2⟩:=Qc.1 h;obtain⟨r,h3,rfl⟩:=Qb.1 h2;obtain⟨g1,g2⟩:=Kc h3;refine⟨by simp[g1],fun t y e=> ?_⟩
  cases t with
  |zero=>exact⟨x,rfl,by rw[List.getElem?_cons_zero]at e;rw[<-Option.some.inj e];exact h1⟩
  |succ t=>exact g2 t y (by rw[List.getElem?_cons_succ]at e;exact e)
section
variable {n : Nat} {k : Int}
theorem Bu:∀{es:List ai} {m x:ab},ni n k m->(∀e∈es,a8 e=true/\e.ae=flat n k/\e.bw=1)->ri n k m es=some x->ni n k x
 |[],m,x,h,_,e=>by rw[<-Option.some.inj e];exact h
 |e::es,m,x,h,he,hx=>by
  rw[ri]at hx;obtain⟨y,h1,h2⟩:=Qc.1 hx;obtain⟨g1,g2,g3⟩:=he e Qx;obtain⟨_,_,_,_,hl⟩:=O3 h g1 g2 g3 h1;exact Bu hl (fun e he'=>he e (Qy _ he')) h2
theorem vh{ms ms':List ab}(hl:ms.length<=10)(h:∀m∈ms,ni n k m)(hr:Bs n k (ms.map cg) ms=some ms'):qy ms=some ms'/\(∀m∈ms',ni n k m)/\ms'.length=ms.length:=by
 obtain⟨hlen,hat⟩:=Kc hr
 have hes:∀e∈ms.map cg,a8 e=true/\e.ae=flat n k/\e.bw=1:=fun e he=>by
  obtain⟨m,hm,rfl⟩:=QP.1 he;exact(h m hm).env
 refine⟨?_,fun m hm=> ?_,hlen⟩
 ·have hlo:∀{b c:Nat},b<=240->c<=1000000->b0 b c=true:=fun hb hc=>eM ⟨QK (Nat.mul_le_mul hc hb) (by decide),hc⟩
  unfold qy;refine Eq.trans (IZ ms (by omega) cg (fin:= ?fin) (fun i m s hs hm hd hx hw=> ?h1) (fun s hd=> ?h2)) ?h3
  case h2=>
   simp only[hd,Ql];exact rfl
  case h1=>
   obtain⟨e,he1,he2⟩:=RI (h m hm).inv (h m hm).seq;have hz:=(h m hm).nz;rw[he2 hz]at he1;have hlo1:b0 176 (s.length+[cg m].length)=true:=hlo (by omega) (by simp only[List.length_singleton];omega)
   simp only[hd,hx,hw,Qk,bD,Qa,ab.eta,aq.eta,ai.eta,he1,hz,Qp,hlo1]
  case h3=>
   rw[hlo (b:=240) (c:=ms.length) (by omega) (by omega)]
   simp only[Qk];refine V3 (PF ms.length (fun i out=>out.length=ms.length/\(∀t,t<i->out[t]?=ms'[t]?)/\∀t,i<=t->out[t]?=ms[t]?) (fun q=>q=ms') (fun i out hi ho=> ?_) (fun out ho=> ?_) ms ⟨rfl,fun t ht=>by omega,fun t _=>rfl⟩)
   ·
    obtain⟨ho1,ho2,ho3⟩:=ho;have hd6:decide ((i:Int)<((ms.length:Nat):Int))=true:=Qg (by omega)
    have hm:ms[i]?=some ms[i]:=Qv hi;obtain⟨x,hx1,hx2⟩:=hat i ms[i] hm;have hw6:aJ .i64 (i:Int) 1=((i+1:Nat):Int):=cq (by omega) (by omega)
    simp only[hd6,Qk]
    suffices hin:∃o:List ab,_=some (Sum.inl (((i+1:Nat):Int),o,()))/\(o.length=ms.length/\(∀t,t≠i->o[t]?=out[t]?)/\o[i]?=some x)by
     obtain⟨o,hq,g1,g2,g3⟩:=hin;refine⟨o,hq,g1,fun t ht=> ?_,fun t ht=> ?_⟩
     ·by_cases hti:t=i
      ·rw[hti,g3,hx1]
      ·rw[g2 t hti];exact ho2 t (by omega)
     ·rw[g2 t (by omega)];exact ho3 t (by omega)
    refine V2 (f:=fun o:List ab=>Sum.inl (((i+1:Nat):Int),o,())) (PF (ms.map cg).length
     (fun j o=>o.length=ms.length/\(∀t,t≠i->o[t]?=out[t]?)/\∃y,o[i]?=some y/\ni n k y/\ri n k y ((ms.map cg).drop j)=some x) _ (fun j o hj ho=> ?_) (fun o ho=> ?_) out ⟨ho1,fun t _=>rfl,ms[i],by rw[ho3 i (QI i)];exact hm,h _ (Q0 hi),hx2⟩)
    ·obtain⟨g1,g2,y,g3,g4,g5⟩:=ho;have hd7:decide ((j:Int)<(((ms.map cg).length:Nat):Int))=true:=Qg (by omega)
     have hw7:aJ .i64 (j:Int) 1=((j+1:Nat):Int):=cq (by omega) (by rw[QC]at hj;omega)
     have he:(ms.map cg)[j]?=some (ms.map cg)[j]:=Qv hj;have hdrop:(ms.map cg).drop j=(ms.map cg)[j]::(ms.map cg).drop (j+1):=(QM hj);rw[hdrop,ri]at g5;obtain⟨z,h1,h2⟩:=Qc.1 g5;obtain⟨a1,a2,a3⟩:=hes _ (Q0 hj);obtain⟨w,c,b1,b2,b3⟩:=O3 g4 a1 a2 a3 h1;have hxj:idx (ms.map cg) (j:Int)=some (ms.map cg)[j]:=by rw[bN];exact he
     have hxi:idx o (i:Int)=some y:=by rw[bN];exact g3
     simp only[hd7,Qk,bD,ab.eta,aq.eta,ai.eta,hxj,QV,he,Qa,hxi,g3,b1,hw7];rcases b2 with⟨rfl,rfl⟩|⟨hc,rfl⟩
     ·refine⟨o.set i w,by rw[Qg rfl];rfl,by rw[QY];exact g1,fun t ht=>by rw[List.getElem?_set_ne (Ne.symm ht)];exact g2 t ht,w,by rw[List.getElem?_set_self (by omega)],b3,h2⟩
     ·exact⟨o,by rw[Qh hc];rfl,g1,g2,z,g3,b3,h2⟩
    ·obtain⟨g1,g2,y,g3,g4,g5⟩:=ho;have hd7:decide ((((ms.map cg).length:Nat):Int)<(((ms.map cg).length:Nat):Int))=false:=Qh (by omega)
     rw[List.drop_length,ri]at g5;obtain rfl:=Option.some.inj g5;simp only[hd7,Ql,hw6];exact .some ⟨o,rfl,g1,g2,g3⟩
   ·obtain⟨ho1,ho2,ho3⟩:=ho;have hd6:decide (((ms.length:Nat):Int)<((ms.length:Nat):Int))=false:=Qh (by omega)
    simp only[hd6,Ql];refine .some (List.ext_getElem? fun t=> ?_)
    by_cases ht:t<ms.length
    ·exact ho2 t ht
    ·rw[List.getElem?_eq_none (by omega),List.getElem?_eq_none (by omega)]
 ·obtain⟨t,ht,rfl⟩:=List.getElem_of_mem hm;obtain⟨x,hx1,hx2⟩:=hat t (ms[t]'(by omega)) (Qv (by omega))
  rw[Qv ht]at hx1;obtain rfl:=Option.some.inj hx1;exact Bu (h _ (Q0 _)) hes hx2
end
end Go.Proofs.YtkgenianmdfmdaaGreat
namespace Go.Proofs.YtkgenianmdfmdaaGreat
open Go.TQ
def aV:ByteArray:=ByteArray.mk #[97]
def firstM(n:Nat)(k:Int)(i:Int)(v:ByteArray):ab:={dO (fY i 1 (flat n k)) v with aL:=1}
def CC(n:Nat)(k:Int)(s:List ab):Option (List ab):=Bs n k (s.map cg) s
def U6(n:Nat)(k:Int)(s:List ab):Option (List ab):=(CC n k s).bind fun s=>(CC n k s).bind fun s=>(CC n k s).bind fun s=>(CC n k s).bind fun s=>(CC n k s).bind fun s=>CC n k s
def Oh(m:ab):Bool:=decide (m.aB=3)&&decide (m.aa.Value=aV)
def SP:List ab:=[firstM 4 3 0 aV,firstM 4 3 1 aV,firstM 4 3 2 aV,firstM 4 3 3 aV]
theorem PG:([0,1,2,3]:List Int).all (fun i=>(runT 4 3 5 (dO (fY i 1 (flat 4 3)) aV)).any (lq (firstM 4 3 i aV)))=true:=by decide+kernel
theorem U5:((U6 4 3 SP).map (List.all · Oh))=some true:=by decide+kernel
section
variable {n : Nat} {k : Int} (hn : n <= 10) (hk1 : 1 <= k) (hkn : k <= n) {i : Int} (hi0 : 0 <= i) (hi9 : i < 10) {v : ByteArray} (hv : 1 <= v.size /\ v.size <= 200)
 include hn hk1 hkn hi0 hi9
theorem Pm:aU (fY i 1 (flat n k))/\gl (fY i 1 (flat n k))/\lK n k (fY i 1 (flat n k)):=by
 obtain⟨h1,h2⟩:=MG hi0 hi9 (show(1:Int)<=1 by omega) (show(1:Int)<=1000000 by omega) (rB n hn k hk1 hkn)
 exact⟨h1,h2,hn,hk1,hkn,rfl,fun e he=>absurd he QR⟩
 include hv
theorem RZ{z:ab}(hz:runT n k 5 (dO (fY i 1 (flat n k)) v)=some z):fI (fY i 1 (flat n k)) v=some ({z with aL:=1},(0:Int),())/\ni n k {z with aL:=1}:=by
 obtain⟨h1,h2,h3⟩:=Pm hn hk1 hkn hi0 hi9;have hp:=zm h1 hv;have hz0:aF (fY i 1 (flat n k)).aa=true:=bl
 have henv:(dO (fY i 1 (flat n k)) v).ae=flat n k/\(dO (fY i 1 (flat n k)) v).aC=[]/\(dO (fY i 1 (flat n k)) v).bw=1:=by
  unfold dO;split<;>exact⟨rfl,rfl,rfl⟩
 have hf:lK n k (dO (fY i 1 (flat n k)) v):=⟨hn,hk1,hkn,henv.1,fun e he=>by rw[henv.2.1]at he;cases he⟩
 obtain⟨q,hq,m2,rfl,ha⟩:=Ko (R:=Reach (dO (fY i 1 (flat n k)) v)) (Mu hp) Mt h1 h2 hv (Mw hp);have hnz:=RD h1 hv;have e1:=Tk hp hf hz ha
 have hsq:(dv (dO (fY i 1 (flat n k)) v)).aL=1:=by
  unfold dv;rw[Qr hnz,oX.2];rfl
 have hs2:m2.aL=1:=by
  have:=ha.num;rw[hsq]at this;omega
 have hb:gk (fY i 1 (flat n k)) m2=m2:=by
  unfold gk;rw[Qs (fun e=>by rw[hz0]at e;cases e.1)]
 rw[hb]at hq;rw[hs2]at e1;obtain⟨f1,f2,f3,f4,f5,f6⟩:=vP (dO (fY i 1 (flat n k)) v);refine⟨by rw[hq,e1],?_⟩
 rw[<-e1];exact⟨ha.inv,ha.seq,⟨hn,hk1,hkn,ha.env.2.2.1.trans (f3.trans hf.aZ),fun e he=>by rw[ha.env.2.2.2.2,f5,henv.2.1]at he;cases he⟩,ha.nz (by rw[f6];exact hnz),ha.env.2.1.trans (f2.trans henv.2.2)⟩
end
theorem Tm:1<=aV.size/\aV.size<=200:=by decide
theorem BU(i:Int)(hi:i=0\/i=1\/i=2\/i=3):fI (fY i 1 (flat 4 3)) aV=some (firstM 4 3 i aV,(0:Int),())/\ni 4 3 (firstM 4 3 i aV):=by
 have h:=QH.1 PG i (by simp;exact hi)
 cases hr:runT 4 3 5 (dO (fY i 1 (flat 4 3)) aV)with
 |none=>rw[hr]at h;cases h
 |some z=>
  rw[hr]at h;have h:lq (firstM 4 3 i aV) z=true:=h;have hg:=RZ (n:=4) (k:=3) (by omega) (by omega) (by omega) (by omega) (by omega) Tm hr
  obtain⟨h1,h2,h3⟩:=Pm (n:=4) (k:=3) (i:=i) (by omega) (by omega) (by omega) (by omega) (by omega)
  have hp:=zm h1 Tm
  have hf:lK 4 3 (dO (fY i 1 (flat 4 3)) aV):=⟨by omega,by omega,by omega,by unfold dO;split<;>rfl,fun e he=>by
   have:(dO (fY i 1 (flat 4 3)) aV).aC=[]:=by unfold dO;split<;>rfl
   rw[this]at he;cases he⟩
  obtain⟨j,hj,_⟩:=J7 hp hf hr
  have henv:∀(j:Nat) (m:ab),ff m (ru j m):=by
   intro j
   induction j with
   |zero=>exact fun m=>ff.refl m
   |succ j ih=>
    intro m;have a:=rh m;have b:=ih (cI m);exact⟨b.az.trans a.az,b.bL.trans a.bL,b.seq.trans a.seq,b.aZ.trans a.aZ,b.pI.trans a.pI,b.heard.trans a.heard⟩
  have he:=henv j (dO (fY i 1 (flat 4 3)) aV);rw[hj]at he
  have hz:({z with aL:=1}:ab)=firstM 4 3 i aV:=qG (m:=firstM 4 3 i aV) (m':={z with aL:=1}) ⟨he.az,he.bL,rfl,he.aZ,he.pI,he.heard⟩
   (by simp only[lq,Qm,Qi]at h;exact h.1.1.1.1.1.1.symm)
   (by simp only[lq,Qm,Qi,oa]at h;exact h.1.1.1.1.1.2.symm)
   (by simp only[lq,Qm,Qi,oa]at h;exact h.1.1.1.1.2.symm)
   (by simp only[lq,Qm,Qi,oa]at h;exact h.1.1.1.2.symm)
   (by simp only[lq,Qm,Qi,oa]at h;exact h.1.1.2.symm)
   (by simp only[lq,Qm,Qi]at h;exact h.1.2.symm)
   (by simp only[lq,Qm,Qi]at h;exact h.2.symm)
  rw[hz]at hg;exact hg
theorem PN{n:Nat}{k:Int}{m:ab}(h:ni n k m)(hd:Oh m=true):gD m=some (aV,true,()):=by
 simp only[Oh,Qm,Qi]at hd;rw[El h.inv h.seq,Qg hd.1,hd.2];rfl
theorem U7:oL=some true:=by
 have hF:mf 4 3=some (flat 4 3):=Ng 4 (by omega) 3
 have hlo:∀{c:Nat},c<=1000000->b0 240 c=true:=fun hc=>eM ⟨QK (Nat.mul_le_mul hc (QI 240)) (by decide),hc⟩
 have hN:∀i:Int,(i=0\/i=1\/i=2\/i=3)->lj i 1 (flat 4 3)=some (fY i 1 (flat 4 3),(0:Int),()):=fun i hi=>Vd (by omega) (by omega) (by omega) (by omega) (rB 4 (by omega) 3 (by omega) (by omega))
 have ha:(ByteArray.mk #[97]:ByteArray)=aV:=rfl;have hsim:=U5;obtain⟨s6,hs6,hdone⟩:=Qb.1 hsim;unfold U6 at hs6;obtain⟨s1,e1,hs6⟩:=Qc.1 hs6;obtain⟨s2,e2,hs6⟩:=Qc.1 hs6;obtain⟨s3,e3,hs6⟩:=Qc.1 hs6;obtain⟨s4,e4,hs6⟩:=Qc.1 hs6;obtain⟨s5,e5,e6⟩:=Qc.1 hs6
 have h0:∀m∈SP,ni 4 3 m:=by
  intro m hm;simp only[SP,QA,QR,or_false]at hm;rcases hm with rfl|rfl|rfl|rfl
  ·exact(BU 0 (by omega)).2
  ·exact(BU 1 (by omega)).2
  ·exact(BU 2 (by omega)).2
  ·exact(BU 3 (by omega)).2
 obtain⟨g1,h1,l1⟩:=vh (by decide) h0 e1
 have l1:s1.length=4:=l1;obtain⟨g2,h2,l2⟩:=vh (by omega) h1 e2
 obtain⟨g3,h3,l3⟩:=vh (by omega) h2 e3
 obtain⟨g4,h4,l4⟩:=vh (by omega) h3 e4
 obtain⟨g5,h5,l5⟩:=vh (by omega) h4 e5
 obtain⟨g6,h6,l6⟩:=vh (by omega) h5 e6
 have l6':s6.length=4:=by omega
 unfold oL
 have hbeg:∀(i:Int) (l:List ab),(i=0\/i=1\/i=2\/i=3)->l.length<=1000->fI (fY i 1 (flat 4 3)) aV=some (firstM 4 3 i aV,(0:Int),())/\decide (i<4)=true/\aJ .i64 i 1=i+1/\b0 240 (l.length+[firstM 4 3 i aV].length)=true:=fun i l hi hl=>
  ⟨(BU i hi).1,Qg (by omega),cq (by omega) (by omega),hlo (by simp only[List.length_singleton];omega)⟩
 obtain⟨a1,a2,a3,a4⟩:=hbeg 0 [] (by omega) (by decide)
 obtain⟨b1,b2,b3,b4⟩:=hbeg 1 ([]++[firstM 4 3 0 aV]) (by omega) (by decide)
 obtain⟨c1,c2,c3,c4⟩:=hbeg 2 ([]++[firstM 4 3 0 aV]++[firstM 4 3 1 aV]) (by omega) (by decide)
 obtain⟨d1,d2,d3,d4⟩:=hbeg 3 ([]++[firstM 4 3 0 aV]++[firstM 4 3 1 aV]++[firstM 4 3 2 aV]) (by omega) (by decide)
 rw[bp (s':=(1,[]++[firstM 4 3 0 aV],())) (by simp only[hF,hN 0 (by omega),a1,a2,a3,a4,ha,aq.eta,ab.eta,Qa,Qk,Ql,decide_true,Qo];rfl)]
 rw[bp (s':=(2,[]++[firstM 4 3 0 aV]++[firstM 4 3 1 aV],())) (by simp only[hF,hN 1 (by omega),b1,b2,b3,b4,ha,aq.eta,ab.eta,Qa,Qk,Ql,decide_true,Qo];rfl)]
 rw[bp (s':=(3,[]++[firstM 4 3 0 aV]++[firstM 4 3 1 aV]++[firstM 4 3 2 aV],())) (by simp only[hF,hN 2 (by omega),c1,c2,c3,c4,ha,aq.eta,ab.eta,Qa,Qk,Ql,decide_true,Qo];rfl)]
 rw[bp (s':=(4,SP,())) (by simp only[hF,hN 3 (by omega),d1,d2,d3,d4,ha,aq.eta,ab.eta,Qa,Qk,Ql,decide_true,Qo];rfl)]
 refine(bX (r:=true) ?_);have hk:∀j:Int,0<=j->j<6->decide (j<6)=true/\aJ .i64 j 1=j+1:=fun j h0 h6=>⟨Qg h6,cq (by omega) (by omega)⟩
 simp only[show decide ((4:Int)<4)=false from rfl,Ql]
 rw[bp (s':=(s1,1,())) (by simp only[(hk 0 (by omega) (by omega)).1,(hk 0 (by omega) (by omega)).2,Qk,g1,Qa];rfl)]
 rw[bp (s':=(s2,2,())) (by simp only[(hk 1 (by omega) (by omega)).1,(hk 1 (by omega) (by omega)).2,Qk,g2,Qa];rfl)]
 rw[bp (s':=(s3,3,())) (by simp only[(hk 2 (by omega) (by omega)).1,(hk 2 (by omega) (by omega)).2,Qk,g3,Qa];rfl)]
 rw[bp (s':=(s4,4,())) (by simp only[(hk 3 (by omega) (by omega)).1,(hk 3 (by omega) (by omega)).2,Qk,g4,Qa];rfl)]
 rw[bp (s':=(s5,5,())) (by simp only[(hk 4 (by omega) (by omega)).1,(hk 4 (by omega) (by omega)).2,Qk,g5,Qa];rfl)]
 rw[bp (s':=(s6,6,())) (by simp only[(hk 5 (by omega) (by omega)).1,(hk 5 (by omega) (by omega)).2,Qk,g6,Qa];rfl)]
 rw[bX (r:=true) ?_]
 ·rfl
 simp only[show decide ((6:Int)<6)=false from rfl,Ql]
 rw[Ig s6.length (fin:=some true) (by omega) (fun i hi hd hw=> ?_) (fun hd=> ?_)]
 ·rfl
 ·have hx:idx s6 (i:Int)=some s6[i]:=by rw[bN];exact Qv hi
  have hm:s6[i]∈s6:=Q0 hi;have hdec:=PN (h6 _ hm) (QH.1 hdone _ hm);simp only[hd,hx,hw,hdec,ha,Qk,Qa,ab.eta,aq.eta,Qo,Ql,decide_true]
 ·simp only[hd,Ql]
end Go.Proofs.YtkgenianmdfmdaaGreat
namespace Go.Proofs.YtkgenianmdfmdaaGreat
open Go.TQ
def G6(m m1:ab):Prop:=
 (∃v,(1<=v.size/\v.size<=200)/\m1=dO m v)\/(∃e,Ch m e/\m1=o5 m e)\/(m.aB≠3/\c6 m≠fV/\m.aa.aj<1000/\m1=lp m)\/(∃t,iV t/\m1=Th m t)
structure Tp (m m1:ab):Prop where
 inv:aU m1
 az:m1.au=m.au
 bL:m1.bw=m.bw
 seq:m1.aL=m.aL
 nz:aF m.aa=false->aF m1.aa=false
theorem E5{m m1:ab}(h:aU m)(hb:G6 m m1):Tp m m1:=by
 rcases hb with⟨v,hv,rfl⟩|⟨e,he,rfl⟩|⟨h3,hv,hc,rfl⟩|⟨t,ht,rfl⟩
 ·exact⟨zm h hv,by unfold dO;split<;>rfl,by unfold dO;split<;>rfl,oX.2,oX.1⟩
 ·exact⟨EJ h he,rfl,rfl,rfl,fun e=>e⟩
 ·exact⟨JV h h3 hv hc,rfl,rfl,rfl,fun _=>Ha h⟩
 ·exact⟨R7 h ht,rfl,rfl,rfl,fun e=>e⟩
structure G0 (m:ab):Prop where
 inv:aU m
 seq:gl m
 fix:Af m
 az:m.au=0
 bL:m.bw=1
theorem E3(m m2:ab):(gk m m2).au=m2.au/\(gk m m2).bw=m2.bw/\(gk m m2).aC=m2.aC/\(gk m m2).aa=m2.aa:=by
 obtain⟨s,e,_⟩:=E2 m m2;rw[e];exact⟨rfl,rfl,rfl,rfl⟩
theorem Ls{m m1 m2:ab}{R:ab->Prop}(h:G0 m)(hf:Tp m m1)(ha:Fa R (dv m1) m2):G0 (gk m m2):=by
 obtain⟨e1,e2,e3,e4⟩:=E3 m m2;obtain⟨f1,f2,f3,f4,f5,f6⟩:=vP m1;exact⟨Lj ha.inv,M4 ha.inv ha.seq (fun hz=>ha.nz (by rw[f6];exact hf.nz hz)),Sj ha.inv ha.fix,by rw[e1,ha.env.1,f1,hf.az];exact h.az,by rw[e2,ha.env.2.1,f2,hf.bL];exact h.bL⟩
theorem JP{v:ByteArray}(h:I7 v):1<=v.size/\v.size<=200:=by
 have:=h.size;omega
theorem XN{t:aq}(ht:iV t):G0 (fY 0 1 t):=by
 obtain⟨h1,h2⟩:=MG (az:=0) (bL:=1) (by omega) (by omega) (by omega) (by omega) ht
 exact⟨h1,h2,T3 h1,rfl,rfl⟩
theorem Va{l:List ai}{e:ai}(hv:a8 e=true)(hok:(ky l e).2.1=true):e∈(ky l e).1:=by
 rcases tO (l:=l) hv with⟨x,_,_,_,h⟩|⟨a,b,h1,h⟩
 ·rw[h]at hok;cases hok
 ·rw[h];exact List.mem_append_right _ Qx
end Go.Proofs.YtkgenianmdfmdaaGreat
namespace Go.Proofs.YtkgenianmdfmdaaGreat
open Go.TQ
structure Ym (m x:ab):Prop where
 up:m.aL<=x.aL
 one:x.aL<=m.aL+1
 same:aF m.aa=false->x.aL=m.aL->cg x=cg m
 nz:aF m.aa=false->aF x.aa=false
end Go.Proofs.YtkgenianmdfmdaaGreat
namespace Go.Proofs.YtkgenianmdfmdaaGreat
open Go.TQ
theorem DT{p:ai->Bool}:∀{l:List ai},(∀e∈l,p e=false)->dh p l=0
 |[],_=>rfl
 |e::l,hp=>by rw[dh,hp e Qx,DT fun x hx=>hp x (Qy _ hx)];simp
theorem M5{n:Nat}(hn:n<=10){k:Int}(hkn:k<=n)(i:Nat):bT n k i 0=false:=by
 unfold bT
 have:(kU n).countP (fT (rn 0 i))=n:=GD hn fun j hj=>by
  rw[sf (by omega)]
  have:j<10:=by omega
  simp[this]
 rw[this,Qg (by omega)]
 rfl
theorem Mn(a:Int)(n:Nat):(kU n).countP (fun x=>decide (x=a))<=1:=by
 suffices key:∀n:Nat,(kU n).countP (fun x=>decide (x=a))=if 0<=a/\a<n then 1 else 0 by
  rw[key];split<;>omega
 intro n
 induction n with
 |zero=>rw[Qs (by omega)];rfl
 |succ n ih=>
  rw[DU,List.countP_append,ih]
  by_cases hz:(n:Int)=a
  ·have h1:¬(0<=a/\a<(n:Int)):=by omega
   have h2:0<=a/\a<((n+1:Nat):Int):=by omega
   rw[Qs h1,Qr h2];simp[hz]
  ·by_cases h1:0<=a/\a<(n:Int)
   ·have h2:0<=a/\a<((n+1:Nat):Int):=by omega
    rw[Qr h1,Qr h2];simp[hz]
   ·have h2:¬(0<=a/\a<((n+1:Nat):Int)):=by omega
    rw[Qs h1,Qs h2];simp[hz]
theorem IA{m:ab}(h:aU m)(n:Nat){p:ai->Bool}(hp:∀e∈aK m,p e=true->e=dR m):(kU n).countP (fT (dh p (aK m)))<=1:=by
 refine QK (List.countP_mono_left fun x hx hh=> ?_) (Mn m.au n)
 obtain⟨j,hj,rfl⟩:=CD.1 hx;simp only[fT,Qm,QV]at hh;have hb:=hh.2;rw[lP,List.any_eq_true]at hb;obtain⟨e,he,hb⟩:=hb;rw[Qm,Qi]at hb;have he2:=hp e he hb.1;have hn:e.au=m.au:=by rw[he2];exact kj m
 have h0:=h.n0;exact Qg (by omega)
theorem P8{x:ByteArray->Int->Int->Bool}{l:List ai}{p q:af}{v:ByteArray}{n:Int}(hv:v∈fA l)(hn:n∈bK l v)(h1:1<=n)(ha:kI p q v n=false)(hx:x v n n=true):(ft x l p q).1=true:=by
 let G:Bool×af->Prop:=fun s=>s.1=true\/s=(false,⟨0,fV⟩)
 have dm:∀(w:ByteArray) (s:Bool×af) (k:Int),s.1=true->(eE x p q w s k).1=true:=by
  intro w s k hs;unfold eE;split
  ·rfl
  ·exact hs
 have keepL:∀(w:ByteArray) (b:List Int) (s:Bool×af),s.1=true->(b.foldl (eE x p q w) s).1=true:=by
  intro w b
  induction b with
  |nil=>intro s hs;exact hs
  |cons k b ih=>intro s hs;rw[QU];exact ih _ (dm w s k hs)
 have gL:∀(w:ByteArray) (b:List Int) (s:Bool×af),G s->G (b.foldl (eE x p q w) s):=by
  intro w b
  induction b with
  |nil=>intro s hs;exact hs
  |cons k b ih=>
   intro s hs;rw[QU];refine ih _ ?_;unfold eE;split
   ·exact .inl rfl
   ·exact hs
 have hit:∀(b:List Int) (s:Bool×af),n∈b->G s->(b.foldl (eE x p q v) s).1=true:=by
  intro b
  induction b with
  |nil=>intro s hb;cases hb
  |cons k b ih=>
   intro s hb hs;rw[QU];rcases QA.1 hb with e|hb
   ·refine keepL v b _ ?_;rw[<-e];rcases hs with hs|hs
    ·exact dm v s n hs
    ·unfold eE;rw[hs,Qr];have:bb ⟨0,fV⟩ ⟨n,v⟩=true:=(ow _ _).2 (.inl (by show(0:Int)<n;omega))
     rw[this,ha,hx];rfl
   ·refine ih _ hb ?_;unfold eE;split
    ·exact .inl rfl
    ·exact hs
 have outer:∀(vs:List ByteArray) (s:Bool×af),v∈vs->G s->(vs.foldl (fun s v=>(bK l v).foldl (eE x p q v) s) s).1=true:=by
  intro vs
  induction vs with
  |nil=>intro s hb;cases hb
  |cons w vs ih=>
   intro s hb hs;rw[QU];rcases QA.1 hb with e|hb
   ·have h0:((bK l w).foldl (eE x p q w) s).1=true:=by
     rw[<-e];exact hit _ s hn hs
    revert h0;generalize (bK l w).foldl (eE x p q w) s=s1;intro h0;clear ih hb hs e
    induction vs generalizing s1 with
    |nil=>exact h0
    |cons u vs ih=>rw[QU];exact ih _ (keepL u _ _ h0)
   ·exact ih _ hb (gL w _ s hs)
 exact outer _ _ hv (.inr rfl)
theorem VC{b:List Int}{ready:Int->Int->Bool}{low bM n:Int}(hn:n∈b)(hlt:bM<n)(hr:ready n n=true):bM<(EN b ready low bM).2:=by
 unfold EN;split
 ·rename_i hno;rw[List.find?_eq_none]at hno;have:=hno n (List.mem_reverse.2 hn);rw[Qg hlt,hr]at this;exact absurd rfl this
 ·rename_i k hk;have:=List.find?_some hk;rw[Qm,Qi]at this;exact this.1
theorem R0{b:List Int}{sure:Int->Int->Bool}{n:Int}(hn:n∈b)(hs:sure n n=true):(sC b sure).2.2.1=true:=by
 unfold sC;split
 ·rfl
 ·rename_i hno;rw[List.find?_eq_none]at hno;exact absurd hs (hno n (List.mem_reverse.2 hn))
def eX(n:Nat)(k:Int)(v:ByteArray)(c:Int)(i:Int):ai:=⟨i,1,1,flat n k,3,⟨c,v⟩,bm,bm,c,c⟩
theorem K0{n:Nat}(hn:n<=10){k:Int}(h1:1<=k)(h2:k<=n){v:ByteArray}(hv:1<=v.size/\v.size<=200){c i:Int}(hi:0<=i/\i<10)(hc:1<=c/\c<=1000):a8 (eX n k v c i)=true:=by
 rw[a8,show(eX n k v c i).ae=flat n k from rfl,show DW (flat n k)=0 from AQ (rB n hn k h1 h2)]
 have h5:ct (⟨c,v⟩:af)=true:=by
  unfold ct;simp only[Qm,Qn,Qi];exact⟨⟨.inl hc,hv.1⟩,hv.2⟩
 have hz:aF bm=true:=bl;simp[ln,yC,zO,tN,eX,h5,hz,hi.1,hi.2,hc.1,hc.2]
structure eJ (n:Nat) (k:Int) (v:ByteArray) (c:Int) (m:ab):Prop where
 az:m.au=0
 bL:m.bw=1
 aZ:m.ae=flat n k
 heard:∀e∈m.aC,∃i,e=eX n k v c i/\1<=i/\i<10
 one:m.aB=1->(m.al=bm\/m.al.Value=v)/\m.aw=bm
 two:m.aB≠1->m.aa.Value=v
section
variable {n : Nat} {k : Int} {v : ByteArray} {c : Int} (hn : n <= 10) (hk1 : 2 <= k) (hkn : k <= n) {m : ab} (h : aU m) (hC : eJ n k v c m)
 include hC
theorem eJ.mem{e:ai}(he:e∈aK m):e=dR m\/∃i,e=eX n k v c i/\1<=i/\i<10:=by
 rcases qS he with h1|⟨_,h1⟩
 ·exact .inr (hC.heard e h1)
 ·exact .inl h1
 include hn hk1 hkn
theorem eJ.flat:lK n k m:=⟨hn,by omega,hkn,hC.aZ,fun e he=>by
 obtain⟨i,rfl,_⟩:=hC.heard e he
 rfl⟩
 include h
theorem eJ.acc(h1:m.aB=1){b:af}(ha:iB m.au.toNat m.ae (aK m) b=true):b.Value=v:=by
 refine Classical.byContradiction fun hb=> ?_
 have hf:=hC.flat hn hk1 hkn
 have hown:da (dR m) b=false:=by
  cases hx:da (dR m) b with
  |false=>rfl
  |true=>
   obtain⟨_,h2⟩:=Dy h1 hx;obtain⟨h3,h4⟩:=hC.one h1;rw[sb,h4]at h2;rcases h2 with h2|h2|⟨h2,_⟩
   ·unfold ir at h2;rw[Qm,Qm,Bool.not_eq_true']at h2;rcases h3 with h3|h3
    ·rw[h3,bl]at h2;exact absurd h2.1.1 (by decide)
    ·exact absurd ((fj.1 h2.1.2).symm.trans h3) hb
   ·unfold ir at h2;rw[bl]at h2;cases h2
   ·rw[bl]at h2;cases h2
 have hacc:∀e∈aK m,da e b=false:=fun e he=>by
  rcases hC.mem he with rfl|⟨i,rfl,_⟩
  ·exact hown
  ·unfold da eX;simp[bs,Ne.symm hb]
 rw[Tl h hf]at ha;unfold HX at ha;rw[DT hacc,M5 hn hkn,Bool.false_or,Nat.or_zero]at ha;unfold gT at ha;rw[Qm,Qi]at ha
 have:=IA h n (p:=fun e=>pY e b||da e b) fun e he hp=>by
  rcases hC.mem he with rfl|⟨i,rfl,_⟩
  ·rfl
  ·rw[hacc _ he,Bool.or_false]at hp;unfold pY eX at hp;simp[bs,Ne.symm hb]at hp
 omega
theorem eJ.ready(h1:m.aB=1){w:ByteArray}{lo hi:Int}(ha:dL m w lo hi=true):w=v:=by
 refine Classical.byContradiction fun hb=> ?_
 have hf:=hC.flat hn hk1 hkn
 have hacc:∀e∈aK m,dn e w lo hi=false:=fun e he=>by
  rcases hC.mem he with rfl|⟨i,rfl,_⟩
  ·have:(dR m).bS=1:=by rw[<-h1];exact IQ m
   unfold dn;rw[this];simp
  ·unfold dn xf eX;simp[Ne.symm hb]
 rw[Cu h hf]at ha;unfold mz at ha;rw[DT hacc,M5 hn hkn,Bool.false_or,Nat.or_zero]at ha;unfold gT at ha;rw[Qm,Qi]at ha
 have:=IA h n (p:=fun e=>rN e w lo hi||dn e w lo hi) fun e he hp=>by
  rcases hC.mem he with rfl|⟨i,rfl,_⟩
  ·rfl
  ·rw[hacc _ he,Bool.or_false]at hp;unfold rN xf eX at hp;simp[Ne.symm hb]at hp
 omega
theorem eJ.of{m':ab}(he:ff m m')(h1:m'.aB=1->(m'.al=bm\/m'.al.Value=v)/\m'.aw=bm)(h2:m'.aB≠1->m'.aa.Value=v):eJ n k v c m':=
 ⟨by rw[he.az,hC.az],by rw[he.bL,hC.bL],by rw[he.aZ,hC.aZ],by rw[he.heard];exact hC.heard,h1,h2⟩
theorem eJ.pP:eJ n k v c (bZ m):=by
 refine hC.of hn hk1 hkn h (rj m) (fun hp=> ?_) fun hp=> ?_
 ·have h1:m.aB=1:=by
   unfold bZ at hp;split at hp
   ·exact hp
   ·exact hp
  have h3:m.aB≠3:=by omega
  unfold bZ;split
  ·exact hC.one h1
  ·rename_i hz
   have hnz:aF m.aa=false:=by
    cases hq:aF m.aa with
    |false=>rfl
    |true=>exact absurd (.inr hq) hz
   have hok:mI m.al m.aw:=by
    rcases h.body with h0|h1'|h2|h3'
    ·have:=ll.2 h0.aD;rw[this]at hnz;cases hnz
    ·exact h1'.fp
    ·exact h2.fp
    ·exact absurd h3'.aA h3
   have hr:=yp h hok
   have hbv:cp (di m)=bm\/(cp (di m)).Value=v:=by
    rcases BB h with e|⟨_,_,_,ha⟩
    ·left;rw[e];rfl
    ·right;rw[<-hC.acc hn hk1 hkn h h1 ha];unfold cp;split<;>rfl
   obtain⟨o1,o2⟩:=hC.one h1;show((bY m.al m.aw (cp (di m))).1=bm\/(bY m.al m.aw (cp (di m))).1.Value=v)/\(bY m.al m.aw (cp (di m))).2=bm;rcases pb h with hb0|hbf
   ·rw[hb0];unfold bY;rw[Qr bl];exact⟨o1,o2⟩
   ·have hbv:(cp (di m)).Value=v:=by
     rcases hbv with e|e
     ·exact absurd e (na hbf)
     ·exact e
    revert hr;generalize bY m.al m.aw (cp (di m))=r;intro hr
    have key:∀a b,a=r.1->b=r.2->nW m.al m.aw (cp (di m)) a b->(a=bm\/a.Value=v)/\b=bm:=by
     intro a b ea eb hj
     cases hj with
     |same=>exact⟨o1,o2⟩
     |first _ _=>exact⟨.inr hbv,rfl⟩
     |up hp hl hc=>exact⟨.inr hbv,o2⟩
     |vN hp hl hc=>
      rcases o1 with o1|o1
      ·exact absurd o1 (na hp)
      ·exact absurd (o1.trans hbv.symm) hc
     |under hp hl hc hq=>
      rcases o1 with o1|o1
      ·exact absurd o1 (na hp)
      ·exact absurd (hbv.trans o1.symm) hc
    exact key _ _ rfl rfl hr
 ·have h1:m.aB≠1:=by
   unfold bZ at hp;split at hp
   ·exact hp
   ·exact hp
  rw[Vj];exact hC.two h1
theorem eJ.pS:eJ n k v c (gg m):=by
 by_cases hid:m.aB≠1\/aF m.aa=true\/aF (ib m)=true
 ·rw[lQ hid];exact hC
 ·have h1:m.aB=1:=by
   by_cases h1:m.aB=1
   ·exact h1
   ·exact absurd (.inl h1) hid
  have hnz:¬aF m.aa=true:=fun e=>hid (.inr (.inl e))
  have p1:P1 m:=by
   rcases h.body with h0|h1'|h2|h3'
   ·exact absurd (ll.2 h0.aD) hnz
   ·exact h1'
   ·have:=h2.aA;omega
   ·have:=h3'.aA;omega
  obtain⟨q1,q2⟩:=Cz h p1;have hp:=q1.aA;refine hC.of hn hk1 hkn h (oi m) (fun _=> ?_) fun hq=>absurd hp hq
  rcases q2 with e|⟨e1,e2,_⟩
  ·rw[e];exact hC.one h1
  ·rw[e1,e2];exact hC.one h1
theorem eJ.pC:eJ n k v c (dq m):=by
 by_cases h1:m.aB=1
 ·by_cases hk:(dx m).2.2.2.1=true
  ·have hf:=yE h hk;have hv:=hC.ready hn hk1 hkn h h1 hf.top
   have e:dq m=xQ m (dx m).1 (dx m).2.1 (dx m).2.2.1:=by
    unfold dq;rw[Qr h1,Qr hk]
   have p2:P2 (xQ m (dx m).1 (dx m).2.1 (dx m).2.2.1):=by
    rcases h.body with h0|h1'|h2|h3'
    ·exact B4 (.inl h0.aD) (.inl h0.cy) hf.fin hf.Pr hf.le
    ·exact B4 (.inr h1'.aD) h1'.cy hf.fin hf.Pr hf.le
    ·have:=h2.aA;omega
    ·have:=h3'.aA;omega
   have env:=mS m;rw[e]at env ⊢;refine hC.of hn hk1 hkn h env (fun hq=>absurd hq (by rw[p2.aA];decide)) fun _=> ?_
   rcases p2.dj with e|⟨_,e⟩
   ·exact absurd e (na hf.fin)
   ·rw[<-e];exact hv
  ·have e:dq m=m:=by unfold dq;rw[Qr h1,Qs hk]
   rw[e];exact hC
 ·have hp:(dq m).aB=m.aB/\(dq m).aa.Value=m.aa.Value:=by
   unfold dq;rw[Qs h1];split<;>exact⟨rfl,rfl⟩
  refine hC.of hn hk1 hkn h (mS m) (fun hq=>absurd hq (by rw[hp.1];exact h1)) fun _=> ?_
  rw[hp.2];exact hC.two h1
theorem eJ.pF:eJ n k v c (gX m):=by
 unfold gX;split
 ·rename_i hc;have h1:m.aB≠1:=by omega
  exact hC.of hn hk1 hkn h ⟨rfl,rfl,rfl,rfl,rfl,rfl⟩ (fun hq=>absurd hq (by show¬(3:Int)=1;decide)) fun _=>hC.two h1
 ·exact hC
theorem eJ.pK:eJ n k v c (eu m):=by
 unfold eu;split
 ·exact hC
 ·refine hC.of hn hk1 hkn h ⟨rfl,rfl,rfl,rfl,rfl,rfl⟩ (fun hq=>hC.one hq) fun hq=> ?_
  have hq:m.aB≠1:=hq;show j5 m=v;unfold j5;rw[Qs hq];exact hC.two hq
theorem eJ.step:eJ n k v c (cI m):=vx (hC.pP hn hk1 hkn h) (hC.pS hn hk1 hkn h) (hC.pC hn hk1 hkn h) (hC.pF hn hk1 hkn h) (hC.pK hn hk1 hkn h)
end
theorem eJ.seq{n:Nat}{k:Int}{v:ByteArray}{c:Int}{m:ab}(hC:eJ n k v c m)(s:Int):eJ n k v c {m with aL:=s}:=⟨hC.az,hC.bL,hC.aZ,hC.heard,hC.one,hC.two⟩
theorem eJ.num{n:Nat}{k:Int}{v:ByteArray}{c:Int}(m:ab)(hC:eJ n k v c m):eJ n k v c (dv m):=by
 unfold dv;split
 ·exact hC.seq _
 ·exact hC
theorem eJ.bump{n:Nat}{k:Int}{v:ByteArray}{c:Int}(m m2:ab)(hC:eJ n k v c m2):eJ n k v c (gk m m2):=by
 obtain⟨s,e,_⟩:=E2 m m2;rw[e];exact hC.seq _
theorem eJ.TG{n:Nat}{k:Int}{v:ByteArray}{c:Int}{m:ab}(h:aU m)(hC:eJ n k v c m)(w:ByteArray):eJ n k v c (dO m w):=by
 unfold dO;split
 ·rename_i hz;have hz:=ll.1 hz
  have hp:m.aB=1:=by
   rcases h.body with h0|h1'|h2|h3'
   ·exact h0.aA
   ·exact h1'.aA
   ·exact absurd hz (na h2.aD)
   ·exact absurd hz (na h3'.aD)
  exact⟨hC.az,hC.bL,hC.aZ,hC.heard,hC.one,fun hq=>absurd hp hq⟩
 ·exact⟨hC.az,hC.bL,hC.aZ,hC.heard,hC.one,hC.two⟩
theorem eJ.time{n:Nat}{k:Int}{v:ByteArray}{c:Int}{m:ab}(h:aU m)(hC:eJ n k v c m)(h3:m.aB≠3):eJ n k v c (lp m):=by
 refine⟨hC.az,hC.bL,hC.aZ,hC.heard,hC.one,fun hq=> ?_⟩
 have hq:m.aB≠1:=hq;show c6 m=v;rcases h.body with h0|h1'|h2|h3'
 ·exact absurd h0.aA hq
 ·exact absurd h1'.aA hq
 ·rw[SI h2];exact hC.two hq
 ·exact absurd h3'.aA h3
theorem eJ.XP{n:Nat}{k:Int}{v:ByteArray}{c:Int}{m:ab}(hC:eJ n k v c m){i:Int}(hi:1<=i/\i<10):eJ n k v c (o5 m (eX n k v c i)):=by
 refine⟨hC.az,hC.bL,hC.aZ,fun e he=> ?_,hC.one,hC.two⟩
 rcases Cv he with rfl|he
 ·exact⟨i,rfl,hi⟩
 ·exact hC.heard e he
theorem Uq{n:Nat}{k:Int}{v:ByteArray}{c:Int}(hn2:2<=n)(hn:n<=10)(hk1:2<=k)(hkn:k<=n)(hv:1<=v.size/\v.size<=200)(hc:1<=c/\c<=1000){m:ab}(hm:G0 m)(hC:eJ n k v c m)(hall:∀i:Int,1<=i->i<n->eX n k v c i∈m.aC):m.aB=3/\m.aa.Value=v:=by
 have h:=hm.inv;have hf:=hC.flat hn hk1 hkn
 have hmem:∀i:Int,1<=i->i<n->eX n k v c i∈aK m:=fun i h1 h2=>by
  have:=hall i h1 h2;unfold aK;split
  ·exact this
  ·exact(rA _ _).symm.subset (Qz.2 (.inl this))
 have hsml:=h.ev.mR;have h1v:a8 (eX n k v c 1)=true:=K0 hn (by omega) hkn hv (by omega) hc
 have hcb:c∈bK (aK m) v:=by
  rw[(jk hsml.1.aZ hsml.2 v).2.2.2 c];unfold ends;rw[QQ];refine⟨eX n k v c 1,hmem 1 (by omega) (by omega),?_⟩
  have:fZ v (eX n k v c 1)=true:=by
   unfold fZ;rw[h1v,show(eX n k v c 1).aa.Value=v from rfl,show(eX n k v c 1).aO=c from rfl,Qg rfl,Qh (by omega)]
   rfl
  rw[Qr this];exact Qx
 have hvv:v∈fA (aK m):=((mT hsml.1.aZ hsml.2).2.2.2 v).2 ⟨eX n k v c 1,hmem 1 (by omega) (by omega),h1v,rfl⟩
 have hacc:∀i:Int,∀j:Int,c<=j->dn (eX n k v c i) v j j=true:=fun i j hj=>by
  unfold dn xf eX;simp;omega
 have hbit:∀(p:ai->Bool) (i:Nat),1<=i->i<n->p (eX n k v c i)=true->(dh p (aK m)).testBit i=true:=fun p i h1 h2 hp=>by
  rw[lP,List.any_eq_true];refine⟨eX n k v c i,hmem i (by omega) (by omega),?_⟩
  rw[hp];simp[eX]
 have hrdy:∀j:Int,c<=j->dL m v j j=true:=fun j hj=>by
  rw[Cu h hf];unfold mz;rw[Qn];left;unfold bT;rw[hC.az];rw[Bool.not_eq_true',Qj]
  have hle:(kU n).countP (fT (rn (dh (fun x=>dn x v j j) (aK m)) (0:Int).toNat))<=1:=by
   refine QK (List.countP_mono_left fun x hx hh=> ?_) (Mn 0 n)
   obtain⟨i,hi,rfl⟩:=CD.1 hx;simp only[fT,Qm,QV]at hh;have hb:=hh.2
   rw[sf (oP fun e he=>by
    rcases hC.mem he with rfl|⟨i,rfl,h1,h2⟩
    ·have e0:(dR m).au=m.au:=kj m;rw[e0,hC.az];omega
    ·show 0<=i/\i<10
     omega)]at hb
   refine Qg ?_
   by_cases h0:i=0
   ·rw[h0];rfl
   ·exfalso;rw[hbit _ i (by omega) hi (hacc i j hj)]at hb
    simp at hb;omega
  omega
 have h3:m.aB=3:=by
  refine Classical.byContradiction fun h3=> ?_
  by_cases h1:m.aB=1
  ·obtain⟨o1,o2⟩:=hC.one h1
   have hab:kI m.al m.aw v c=false:=by
    unfold kI dZ;rw[o2,bl];rcases o1 with o1|o1
    ·rw[o1,bl];rfl
    ·have:bs m.al ⟨c,v⟩=true:=fj.2 o1;rw[this];simp
   have hb:=P8 (x:=dL m) (p:=m.al) (q:=m.aw) hvv hcb hc.1 hab (hrdy c (Int.le_refl _))
   have hk:(dx m).2.2.2.1=true:=by
    unfold dx nv;rw[Qr hb]
   have e:dq m=xQ m (dx m).1 (dx m).2.1 (dx m).2.2.1:=by
    unfold dq;rw[Qr h1,Qr hk]
   have:=hm.fix.c;rw[e]at this;have:(2:Int)=m.aB:=congrArg ab.aB this;omega
  ·have p2:P2 m:=by
    rcases h.body with h0|h1'|h2|h3'
    ·exact absurd h0.aA h1
    ·exact absurd h1'.aA h1
    ·exact h2
    ·exact absurd h3'.aA h3
   have hbv:=hC.two h1;have hnz:aF m.aa=false:=p2.aD.nz;have hr:=p2.range
   have eC:dq m=sE m (c9 m).1 (c9 m).2:=by
    unfold dq;rw[Qs h1,Qr p2.aA]
   have hH:(c9 m).2=m.aX:=by
    have:=hm.fix.c;rw[eC]at this;exact congrArg ab.aX this
   have hcH:c<=m.aX:=by
    refine Classical.byContradiction fun hlt=> ?_
    have:=VC (b:=bK (aK m) m.aa.Value) (ready:=dL m m.aa.Value) (low:=m.aO) (bM:=m.aX) (n:=c) (by rw[hbv];exact hcb) (by omega) (by rw[hbv];exact hrdy c (Int.le_refl _))
    have:m.aX<(c9 m).2:=this;omega
   have hown:dR m∈aK m:=by
    unfold aK;rw[hnz];exact(rA _ _).symm.subset (Qz.2 (.inr (List.mem_singleton.2 rfl)))
   have hownE:dR m=⟨m.au,m.bw,bn m.aL 1,m.ae,m.aB,m.aa,m.al,bm,m.aO,m.aX⟩:=by
    unfold dR cg;rw[Qs h1,Qr p2.aA]
   have hHb:m.aX∈bK (aK m) v:=by
    rw[(jk hsml.1.aZ hsml.2 v).2.2.2 m.aX];unfold ends;rw[QQ];refine⟨dR m,hown,?_⟩
    have:fZ v (dR m)=true:=by
     unfold fZ;rw[Bz h hnz,hownE];simp[hbv];omega
    rw[Qr this,hownE];exact Qy _ Qx
   have hsure:wW m v m.aX m.aX=true:=by
    rw[O0 h hf];unfold Co gT
    have ho:dn (dR m) v m.aX m.aX=true:=by
     rw[hownE];unfold dn xf;simp[hbv,p2.aA];omega
    have hb0:(dh (fun x=>dn x v m.aX m.aX) (aK m)).testBit 0=true:=by
     rw[lP,List.any_eq_true];refine⟨dR m,hown,?_⟩;rw[ho,show(dR m).au=m.au from kj m,hC.az]
     rfl
    have hfull:(kU n).countP (fT (dh (fun x=>dn x v m.aX m.aX) (aK m)))=n:=GD hn fun i hi=>by
     by_cases h0:i=0
     ·rw[h0];exact hb0
     ·exact hbit _ i (by omega) hi (hacc i m.aX hcH)
    rw[hfull,hC.az,Qm,Qi];exact⟨hb0,hkn⟩
   have hk:(iQ m).2.2.1=true:=by
    unfold iQ;rw[hbv];exact R0 hHb hsure
   have e:gX m=zT m (iQ m).1 (iQ m).2.1:=by
    unfold gX;rw[Qr ⟨p2.aA,hk⟩]
   have:=hm.fix.f;rw[e]at this;have:(3:Int)=m.aB:=congrArg ab.aB this;omega
 exact⟨h3,hC.two (by omega)⟩
end Go.Proofs.YtkgenianmdfmdaaGreat
namespace Go.Proofs.YtkgenianmdfmdaaGreat
open Go.TQ
def qV(n:Nat)(k:Int)(m:ab):Prop:=m.aC=[]/\∀v c,eJ n k v c m
theorem Vo{n:Int}(h:0<=n)(h':n<=5):Rz .i64 n 2=n / 2:=by
 have:n=0\/n=1\/n=2\/n=3\/n=4\/n=5:=by omega
 rcases this with rfl|rfl|rfl|rfl|rfl|rfl<;>decide
theorem follows(l:List Int):mg l=some true:=by
 refine Yd.eq_true ?_;unfold mg;simp only[ab.eta,aq.eta,ai.eta,U7,Qa];refine Yd.bind (VU l) fun s hO=> ?_
 refine Yd.bind (E8 hO (by omega) (by omega) (by omega)) fun p2 ⟨hO2,hn2,hn5,_⟩=> ?_
 have hn5:=hn5 (by omega)
 obtain⟨n,hn⟩:∃n:Nat,p2.1=(n:Int):=⟨p2.1.toNat,by omega⟩
 have hhalf:aJ .i64 (Rz .i64 p2.1 2) 1=p2.1 / 2+1:=by
  rw[Vo (by omega) hn5];exact cq (by omega) (by omega)
 rw[hhalf];refine Yd.bind (E8 hO2 (by omega) (by omega) (by omega)) fun p3 ⟨hO3,hk2,hkn,_⟩=> ?_
 have hkn:=hkn (by omega)
 rw[hn]at hk2 hkn hn2 hn5 ⊢;generalize hk:p3.1=k at hk2 hkn ⊢;have hk2:2<=k:=by omega
 have hF:mf (n:Int) k=some (flat n k):=Ng n (by omega) k
 have hgood:iV (flat n k):=rB n (by omega) k (by omega) (by omega)
 rw[hF];simp only[Qa];rw[Vd (by omega) (by omega) (by omega) (by omega) hgood]
 simp only[Qa];have hm0:=XN hgood;refine Yd.bind (OG hO3 (by omega)) fun p6 ⟨hO6,h60,h64,_⟩=> ?_
 have h64:=h64 (by omega)
 have hA0:qV n k (fY 0 1 (flat n k)):=⟨rfl,fun v c=>⟨rfl,rfl,rfl,fun e he=>absurd he QR,fun _=>⟨.inl rfl,rfl⟩,fun hq=>absurd rfl hq⟩⟩
 have hR1:∀m,aU m->qV n k m->qV n k (cI m):=fun m hi hA=>⟨by rw[(rh m).heard];exact hA.1,fun v c=>(hA.2 v c).step (by omega) hk2 hkn hi⟩
 have hR2:∀m,qV n k m->qV n k (dv m):=fun m hA=>⟨by rw[(vP m).2.2.2.2.1];exact hA.1,fun v c=>(hA.2 v c).num m⟩
 have hB:∀m m2,qV n k m2->qV n k (gk m m2):=fun m m2 hA=>⟨by rw[(E3 m m2).2.2.1];exact hA.1,fun v c=>(hA.2 v c).bump m m2⟩
 refine Yd.down (fun v=>0<=v.1/\v.1<=3/\DP v.2.1/\G0 v.2.2.1/\qV n k v.2.2.1) (fun v=>v.1.toNat) ?_ ⟨h60,by show p6.1<=3;omega,hO6,hm0,hA0⟩
 rintro⟨i,s',m,_⟩ ⟨hi0,hi3,hOs,hm,hA⟩;simp only at hi0 hi3 hOs hm hA;simp only
 by_cases hi:0<i
 ·rw[Qg hi];have hsub:gf .i64 i 1=i - 1:=yY (by omega) (by omega)
  simp only[Qk,bD,hsub]
  have fin:∀(x:ab×Int×Unit) (s'':iR),((x.2.1=0/\G0 x.1/\qV n k x.1)\/x.2.1≠0)->∃z,(bif decide (x.2.1=0)then some (Sum.inl (i - 1,s'',x.1,()))else some (Sum.inl (i - 1,s'',m,()):(Int×iR×ab×Unit)⊕Bool))=some (Sum.inl (i - 1,s'',z,()))/\G0 z/\qV n k z:=fun x s'' hx=>by
   rcases hx with⟨h0,h1,h2⟩|h0
   ·rw[Qg h0];exact⟨x.1,rfl,h1,h2⟩
   ·rw[Qh h0];exact⟨m,rfl,hm,hA⟩
  refine Yd.bind (OG hOs (by omega)) fun p12 ⟨hO12,_,_,_⟩=> ?_
  refine Yd.cond (fun _=> ?_) (fun _=> ?_)
  ·refine Yd.bind (Lw hO12) fun p13 ⟨hO13,hv⟩=> ?_
   have hb:G6 m (dO m p13.1):= .inl ⟨p13.1,JP hv,rfl⟩;have hi':=E5 hm.inv hb;refine Yd.bind (Ko (R:=qV n k) hR1 hR2 hm.inv hm.seq (JP hv) ⟨by unfold dO;split<;>exact hA.1,fun v c=>(hA.2 v c).TG hm.inv _⟩) fun q hq=> ?_
   obtain⟨m2,rfl,ha⟩:=hq;obtain⟨z,e,g1,g2⟩:=fin (gk m m2,0,()) p13.2 (.inl ⟨rfl,Ls hm hi' ha,hB _ _ ha.rel⟩);exact⟨_,e,⟨by show 0<=i - 1;omega,by show i - 1<=3;omega,hO13,g1,g2⟩,by show(i - 1).toNat<i.toNat;omega⟩
  ·have hR0:qV n k (lp m)\/m.aB=3:=by
    by_cases h3:m.aB=3
    ·exact .inr h3
    ·exact .inl ⟨hA.1,fun v c=>(hA.2 v c).time hm.inv h3⟩
   have hR:∃R:ab->Prop,(∀m,aU m->R m->R (cI m))/\(∀m,R m->R (dv m))/\R (lp m)/\(m.aB≠3->∀x,R x->qV n k x):=by
    rcases hR0 with h|h
    ·exact⟨qV n k,hR1,hR2,h,fun _ x hx=>hx⟩
    ·exact⟨fun _=>True,fun _ _ _=>trivial,fun _ _=>trivial,trivial,fun h'=>absurd h h'⟩
   obtain⟨R,r1,r2,r3,r4⟩:=hR;refine Yd.bind (RH r1 r2 hm.inv hm.seq r3) fun q hq=> ?_
   suffices hx:(q.2.1=0/\G0 q.1/\qV n k q.1)\/q.2.1≠0 by
    obtain⟨z,e,g1,g2⟩:=fin q p12.2 hx;exact⟨_,e,⟨by show 0<=i - 1;omega,by show i - 1<=3;omega,hO12,g1,g2⟩,by show(i - 1).toNat<i.toNat;omega⟩
   rcases hq with⟨⟨m2,rfl,ha⟩,h3,hv,hc⟩|⟨rfl,_⟩|⟨rfl,_⟩
   ·have hb:G6 m (lp m):= .inr (.inr (.inl ⟨h3,hv,hc,rfl⟩));exact .inl ⟨rfl,Ls hm (E5 hm.inv hb) ha,hB _ _ (r4 h3 _ ha.rel)⟩
   ·exact .inr (by decide)
   ·exact .inr (by decide)
 ·rw[Qh hi];simp only[Ql,El hm.inv hm.seq,Qa]
  by_cases h3:m.aB=3
  ·rw[Qg h3];simp only[Qk];exact .some rfl
  ·rw[Qh h3];simp only[Ql];refine Yd.inr ?_;refine Yd.bind (Lw hOs) fun p18 ⟨hO18,hv⟩=> ?_
   refine Yd.bind (E8 hO18 (by omega) (by omega) (by omega)) fun p19 ⟨hO19,hc1,hc4,_⟩=> ?_
   have hc4:=hc4 (by omega)
   have hv:=JP hv;generalize p18.1=v at hv ⊢;generalize p19.1=c at hc1 hc4 ⊢
   refine Yd.down (fun(w:Int×ab×Unit)=>1<=w.1/\w.1<=(n:Int)/\G0 w.2.1/\eJ n k v c w.2.1/\(∀e∈w.2.1.aC,e.au<w.1)/\∀i:Int,1<=i->i<w.1->eX n k v c i∈w.2.1.aC) (fun w=>((n:Int) - w.1).toNat) ?_
    ⟨by show(1:Int)<=1;omega,by show(1:Int)<=n;omega,hm,hA.2 v c,fun e he=>(by have he:e∈m.aC:=he;rw[hA.1]at he;cases he),fun i h1 h2=>(by have h2:i<1:=h2;omega)⟩
   rintro⟨i,x,_⟩ ⟨hi1,hin,hx,hC,hlt,hall⟩;simp only at hi1 hin hx hC hlt hall;simp only
   by_cases hi:i<(n:Int)
   ·rw[Qg hi];simp only[Qk];have hadd:aJ .i64 i 1=i+1:=cq (by omega) (by omega)
    have he:Ch x (eX n k v c i):=⟨K0 (by omega) (by omega) hkn hv (by omega) (by omega),hgood,by rw[hx.bL];rfl,by rw[hx.az];show¬i=0;omega⟩
    have hb:G6 x (o5 x (eX n k v c i)):= .inr (.inl ⟨_,he,rfl⟩);refine Yd.bind (Kn (R:=eJ n k v c) (fun y hy hC=>hC.step (by omega) hk2 hkn hy) (fun y hC=>hC.num y) hx.inv hx.seq he (hC.XP (by omega))) fun q hq=> ?_
    rcases hq with⟨⟨m2,rfl,ha⟩,hok⟩|⟨_,hbad⟩
    ·have hok:(ky x.aC (eX n k v c i)).2.1=true:=hok;simp only[decide_true,Qo,Ql,hadd]
     have hH:(gk x m2).aC=(ky x.aC (eX n k v c i)).1:=by
      rw[(E3 x m2).2.2.1,ha.env.2.2.2.2,(vP _).2.2.2.2.1];rfl
     refine .some ⟨⟨by show 1<=i+1;omega,by show i+1<=n;omega,Ls hx (E5 hx.inv hb) ha,ha.rel.bump _ _,fun e he'=> ?_,fun j h1 h2=> ?_⟩,by show((n:Int) - (i+1)).toNat<((n:Int) - i).toNat;omega⟩
     ·have he':e∈(gk x m2).aC:=he';rw[hH]at he';show e.au<i+1;rcases Cv he' with rfl|he'
      ·show i<i+1;omega
      ·have:=hlt e he';omega
     ·have h2:j<i+1:=h2;show eX n k v c j∈(gk x m2).aC;rw[hH]
      by_cases e:j=i
      ·rw[e];exact Va he.valid hok
      ·have hj:=hall j h1 (by omega)
       rcases tO (l:=x.aC) he.valid with⟨y,_,_,_,hp⟩|⟨a,b,hab,hp⟩
       ·rw[hp]at hok;cases hok
       ·rw[hp];rcases hab with⟨y,hl,hyn,_⟩|⟨hl,_⟩
        ·rw[hl]at hj
         have hne:eX n k v c j≠y:=fun e'=>by
          rw[<-e']at hyn;exact e hyn
         rcases Qz.1 hj with h|h
         ·exact Qz.2 (.inl h)
         ·rcases QA.1 h with h|h
          ·exact absurd h hne
          ·exact Qz.2 (.inr (Qy _ h))
        ·rw[hl]at hj;rcases Qz.1 hj with h|h
         ·exact Qz.2 (.inl h)
         ·exact Qz.2 (.inr (Qy _ h))
    ·exfalso;have hbad:(ky x.aC (eX n k v c i)).2.1=false:=hbad;rcases tO (l:=x.aC) he.valid with⟨y,hy,hyn,_⟩|⟨a,b,_,hp⟩
     ·have:=hlt y hy;have hyn:y.au=i:=hyn;omega
     ·rw[hp]at hbad;cases hbad
   ·rw[Qh hi];have hin:i=n:=by omega
    obtain⟨g1,g2⟩:=Uq (by omega) (by omega) hk2 hkn hv (by omega) hx hC fun j h1 h2=>hall j h1 (by omega)
    have g1:x.aB=3:=g1;have ht1:decide ((flat n k).aY=1)=false:=Qh (by show¬k=1;omega)
    simp only[Ql,El hx.inv hx.seq,Qa,ht1,g1,decide_true,Qk,g2,ng];exact .some rfl
end Go.Proofs.YtkgenianmdfmdaaGreat
end
noncomputable section
namespace Go.TQ
open Go.RowKit
theorem rep_ints{w:World}{M:Nat->Prop}{G:Gh}{a:Option Addr}{len cap:Nat}{zs:List Int}(hM:∀b,¬M b)
  (h:(a=none/\len=0/\cap=0/\zs=[])\/∃x,a=some x/\len<=cap/\cap<=maxLen/\zs.length=cap/\(∀i,i<zs.length->w.cell? (x.add i)=some (.int .i64 (zs.getD i 0)))/\∀n∈zs,(Lit.int .i64 n).wf=true):
  aM w M G (.sl ((zs.take len).map fun n=>[.int .i64 n])) (.slice a len cap):=by
 rcases h with⟨rfl,rfl,rfl,rfl⟩|⟨x,rfl,h1,h2,h3,h4,_⟩
 ·exact .slnil
 ·have hfl:∀l:List Int,(l.map fun n=>[PV.int .i64 n]).flatten=l.map fun n=> .int .i64 n:=by
   intro l
   induction l with
   |nil=>rfl
   |cons n l ih=>simp only[QD,List.flatten_cons,ih];rfl
  have hlen:((zs.take len).map fun n=>[PV.int .i64 n]).length=len:=by simp;omega
  have:=aM.sl (w:=w) (M:=M) (G:=G) ((zs.take len).map fun n=>[.int .i64 n]) x cap 1 ((zs.take len).map fun n=> .int .i64 n) (fun e he=>by obtain⟨n,_,rfl⟩:=QP.1 he;rfl) (by rw[hfl];simp)
   (fun i v hv=> ?_) (fun i y v hy hv=> ?_) (by rw[hlen];exact h1) h2
  ·rw[hlen]at this;exact this
  ·refine⟨?_,hM _⟩;rw[QT,Qb]at hv;obtain⟨n,hn,rfl⟩:=hv;rw[List.getElem?_take]at hn;split at hn
   ·have hi:i<zs.length:=(Qw.1 hn).1;rw[h4 i hi,List.getD_eq_getElem?_getD,hn];rfl
   ·cases hn
  ·rw[hfl]at hy;rw[QT]at hy hv;rw[Qb]at hy hv;obtain⟨n,hn,rfl⟩:=hy;obtain⟨n',hn',rfl⟩:=hv;rw[hn]at hn';injection hn' with e
   subst e;exact .int _ _
theorem law_calls{P:Program}{f:FuncId}{args:List PV}{vs:List Value}{w:World}(h:Ri P f false [] args (.bool true) [])(hr:aN w (fun _=>False) cm args vs):
  Calls P f vs.toArray w fun e w'=>e= .returned (.bool true)/\Below w.heap.size w w':=by
 refine(h w (fun _=>False) (fun _ hb=>hb.elim) 0 0 [] vs (fun hq=>by cases hq) ?_).mono ?_
 ·exact⟨hr.1,fun i x v hx hv=>(hr.2 i x v hx hv).mono (cW.of fun _ _=>fun hq=>by rcases hq with⟨hq,_⟩|hq;cases hq;exact hq) (Gh.le.refl _)⟩
 ·rintro e w' ⟨v,_,rfl,hv,_,hF⟩;refine⟨by rw[hv.jO],hF.os,hF.tape,hF.output,hF.size,fun k hk=>hF.block k hk (by simp)⟩
end Go.TQ
end
