/-
  Texts made small by a program (see NOTES). Conditions: those that each theorem names.
-/
import Derived.Test.YtkgenianmdfmdaaGreatMachineAgreeMe
set_option linter.unusedVariables false
set_option linter.unusedSimpArgs false
set_option linter.unusedSectionVars false
set_option maxHeartbeats 2000000
noncomputable section
namespace Go.Proofs.YtkgenianmdfmdaaGreat
open Go.TQ
theorem lexLt{a a' b b' B:Nat}(hb:b<B)(h:a<a'):a*B+b<a'*B+b':=by
 have h1:(a+1)*B<=a'*B:=Nat.mul_le_mul_right B h;rw[Nat.add_mul]at h1;omega
theorem tG{a a' b b' B:Nat}(h:a=a')(hb:b<b'):a*B+b<a'*B+b':=by rw[h];omega
theorem zx{a b A B:Nat}(ha:a<A)(hb:b<B):a*B+b<A*B:=by
 have h1:(a+1)*B<=A*B:=Nat.mul_le_mul_right B ha;rw[Nat.add_mul]at h1;omega
theorem bX.sm{b:af}(h:bX b):Sm b:=⟨by have:=h.1;omega,h.2.1,h.2.2.2⟩
theorem Pq:Sm bm:=⟨by decide,by decide,by decide⟩
theorem mQ{b:af}(h:b=bm\/bX b):Sm b:=by
 rcases h with rfl|h
 ·exact Pq
 ·exact h.sm
theorem HP{b:af}(h:bX b):ke bm<ke b:=ou Pq h.sm ((rl _ _).2 (.inl h.1))
 def t1(m:ab):Nat:=2*m.aa.aj.toNat+(if m.aa.Value=jn m then 1 else 0)
 def pq(m:ab):Nat:=ke m.al*WB+ke m.aw
 def r1(m:ab):Nat:=(pq m*WB+ke m.au)*2002+t1 m
def K1:Nat:=(WB*WB)*WB*2002
 def r2(m:ab):Nat:=(((m.bc.toNat*1001+(1000 - m.aN).toNat)*WB+ke m.al)*WB+ke m.au)*1001+m.aa.aj.toNat
def K2:Nat:=((1001*1001)*WB*WB)*1001
 def iC(m:ab):Nat:=if m.aA=1 then r1 m else if m.aA=2 then K1+r2 m else K1+K2
def tE(m:ab):Prop:=(m.al=bm\/bX m.al)/\(m.aw=bm\/bX m.aw)/\(m.au=bm\/bX m.au)/\(m.aa=bm\/bX m.aa)
theorem P0.ok{m:ab}(h:P0 m):tE m:=⟨.inl h.cQ,.inl h.bG,.inl h.dz,.inl h.aF⟩
theorem P1.ok{m:ab}(h:P1 m):tE m:=⟨h.cQ,h.bG.imp id (·.1),h.dz.imp id (·.1),.inr h.aF⟩
theorem P2.ok{m:ab}(h:P2 m):tE m:=⟨.inr h.cQ.1,.inl h.bG,h.dz.imp id (·.1),.inr h.aF⟩
theorem Nl{m:ab}(h:tE m):t1 m<2002:=by
 have:m.aa.aj<=1000:=by
  rcases h.2.2.2 with e|e
  ·rw[e];decide
  ·exact e.2.1
 unfold t1;split<;>omega
theorem Wi{m:ab}(h:tE m):pq m<WB*WB:=zx (lg (mQ h.1)) (lg (mQ h.2.1))
theorem NA{m:ab}(h:tE m):r1 m<K1:=zx (zx (Wi h) (lg (mQ h.2.2.1))) (Nl h)
theorem P2.bP{m:ab}(h:P2 m):m.bc<=1000:=by have:=h.range.2.2;have:=h.cQ.1.2.1;omega
theorem S8{m:ab}(h:P2 m):r2 m<K2:=by
 have h1:=h.range;have h2:=h.bP;refine zx (zx (zx (zx (A:=1001) ?_ ?_) (lg h.cQ.1.sm)) (lg (mQ h.ok.2.2.1))) ?_
 ·omega
 ·omega
 ·have:=h.aF.2.1;omega
theorem rV{m:ab}(h:m.aA=1):iC m=r1 m:=Qr h
theorem rU{m:ab}(h:m.aA=2):iC m=K1+r2 m:=by unfold iC;rw[Qs (by omega),Qr h]
theorem O5{m:ab}(h:m.aA=3):iC m=K1+K2:=by unfold iC;rw[Qs (by omega),Qs (by omega)]
theorem TL{m:ab}(h:aW m):iC m<=K1+K2:=by
 rcases h.body with h0|h1|h2|h3
 ·rw[rV h0.aE];have:=NA h0.ok;omega
 ·rw[rV h1.aE];have:=NA h1.ok;omega
 ·rw[rU h2.aE];have:=S8 h2;omega
 ·rw[O5 h3.aE];exact QI _
theorem nV.Xa{p q b p' q':af}(h:mD p q)(hb:b=bm\/bX b)(hj:nV p q b p' q'):(p'=p/\q'=q)\/ke p*WB+ke q<ke p'*WB+ke q':=by
 have hok:=hj.ok h hb;have hp:=mQ h.1;have hq:Sm q:=mQ (h.2.imp id (·.1))
 cases hj with
 |same=>exact .inl ⟨rfl,rfl⟩
 |first h1 h2=>
  subst h1 h2;rcases hb with e|e
  ·exact .inl ⟨e,rfl⟩
  ·exact .inr (lexLt (lg hq) (HP e))
 |up h1 hl hc=>exact .inr (lexLt (lg hq) (ou hp (mQ hb) hl))
 |vO h1 hl hc=>exact .inr (lexLt (lg hq) (ou hp (mQ hb) hl))
 |under h1 hl hc hq'=>
  rcases hq' with e|e
  ·subst e;rcases hb with e2|e2
   ·exact .inl ⟨rfl,e2⟩
   ·exact .inr (tG rfl (HP e2))
  ·exact .inr (tG rfl (ou hq (mQ hb) e))
theorem qD{m m':ab}(he:fg m m')(h1:m'.aA=m.aA)(h2:m'.aa=m.aa)(h3:m'.al=m.al)(h4:m'.aw=m.aw)(h5:m'.au=m.au)(h6:m'.aN=m.aN)(h7:m'.bc=m.bc):m'=m:=by
 obtain⟨e1,e2,e3,e4,e5,e6⟩:=he;cases m;cases m';simp only at*;subst e1 e2 e3 e4 e5 e6 h1 h2 h3 h4 h5 h6 h7;rfl
theorem JY{m m':ab}(he:fg m m')(h:ll m m'=true):m'=m:=by
 unfold ll at h;simp only[Qm,Qi,n9]at h;obtain⟨⟨⟨⟨⟨⟨h1,h2⟩,h3⟩,h4⟩,h5⟩,h6⟩,h7⟩:=h;exact qD he h1.symm h2.symm h3.symm h4.symm h5.symm h6.symm h7.symm
theorem Nq(m:ab):ll m m=true:=by
 unfold ll;simp only[decide_true,n9.2 rfl,Bool.and_self]
theorem Wg{m m':ab}(h:tE m)(hlt:pq m<pq m'):r1 m<r1 m':=lexLt (Nl h) (lexLt (lg (mQ h.2.2.1)) hlt)
theorem XP{m m':ab}(h:tE m)(hpq:pq m=pq m')(hlt:ke m.au<ke m'.au):r1 m<r1 m':=lexLt (Nl h) (tG hpq hlt)
theorem XO{m m':ab}(hpq:pq m=pq m')(hc:m.au=m'.au)(hlt:t1 m<t1 m'):r1 m<r1 m':=tG (by rw[hpq,hc]) hlt
theorem FT{m:ab}(h1:P1 m):pD m m.al m.aw=m.aN:=by
 unfold pD;split
 ·rename_i hc;rcases h1.low with e|⟨g1,g2,g3⟩
  ·exact absurd e hc.2
  ·rw[Pv g1 g3,Qs (by omega)]
 ·rfl
theorem XD{m:ab}(h:aW m):bR m=m\/iC m<iC (bR m):=by
 have hid:m.aA=3\/aD m.aa=true->bR m=m:=fun hc=>Qr hc
 rcases h.body with h0|h1|h2|h3
 ·exact .inl (hid (.inr (by rw[h0.aF];exact br)))
 ·have hj:=(yq h h1.fo).Xa h1.fo (o7 h);have he:bR m={m with al:=(cg m.al m.aw (ct (dj m))).1,aw:=(cg m.al m.aw (ct (dj m))).2,aN:=pD m (cg m.al m.aw (ct (dj m))).1 (cg m.al m.aw (ct (dj m))).2}:=Qs (by rw[h1.aE,h1.aF.nz];decide)
  rcases hj with⟨e1,e2⟩|hlt
  ·left;rw[he,e1,e2,FT h1]
  ·right;rw[rV h1.aE,rV (by rw[he];exact h1.aE)]
   exact Wg h1.ok (by rw[he];exact hlt)
 ·have hj:=(yq h h2.fo).Xa h2.fo (o7 h);have hk:=Mz h h2;have he:bR m={m with al:=(cg m.al m.aw (ct (dj m))).1,aw:=(cg m.al m.aw (ct (dj m))).2,aN:=pD m (cg m.al m.aw (ct (dj m))).1 (cg m.al m.aw (ct (dj m))).2}:=Qs (by rw[h2.aE,h2.aF.nz];decide)
  have hlow:∀p q,pD m p q=m.aN:=fun p q=>Qs (fun h=>by have:=h.1;rw[h2.aE]at this;cases this)
  rcases hj with⟨e1,e2⟩|hlt
  ·left;rw[he,e1,e2,hlow]
  ·right;rw[rU h2.aE,rU (by rw[he];exact h2.aE)]
   have e2:(cg m.al m.aw (ct (dj m))).2=m.aw:=by
    have h3:=hk.2.2;rw[he]at h3;exact h3.trans h2.bG.symm
   have hp:ke m.al<ke (bR m).al:=by
    rw[he];simp only;rw[e2]at hlt;refine Nat.lt_of_not_le fun hle=> ?_
    have:=Nat.mul_le_mul_right WB hle;omega
   have e3:(bR m).bc=m.bc/\(bR m).aN=m.aN/\(bR m).au=m.au/\(bR m).aa=m.aa:=by rw[he];exact⟨rfl,hlow _ _,rfl,rfl⟩
   have:r2 m<r2 (bR m):=by
    unfold r2;rw[e3.1,e3.2.1,e3.2.2.1,e3.2.2.2];exact lexLt (by have:=h2.aF.2.1;omega) (lexLt (lg (mQ h2.ok.2.2.1)) (tG rfl hp))
   omega
 ·exact .inl (hid (.inl h3.aE))
theorem XC{m:ab}(h:aW m):fL m=m\/iC m<iC (fL m):=by
 rcases h.body with h0|h1|h2|h3
 ·exact .inl (kE (.inr (.inl (by rw[h0.aF];exact br))))
 ·obtain⟨g1,g2⟩:=CD h h1;rcases g2 with e|⟨e1,e2,e3,_⟩
  ·exact .inl e
  ·right;rw[rV h1.aE,rV g1.aE];exact XP h1.ok (by unfold pq;rw[e1,e2]) (ou (mQ h1.ok.2.2.1) (mQ g1.ok.2.2.1) e3)
 ·exact .inl (kE (.inl (by rw[h2.aE];decide)))
 ·exact .inl (kE (.inl (by rw[h3.aE];decide)))
theorem F5(a b:Int):(bl a b=a/\b<=a)\/(bl a b=b/\a<b):=by unfold bl;split<;>omega
theorem kg{a b:af}(h1:a.aj=b.aj)(h2:a.Value=b.Value):a=b:=by cases a;cases b;simp only at h1 h2;rw[h1,h2]
theorem XG{m:ab}(h:aW m):dC m=m\/iC m<iC (dC m):=by
 have hC:m.aA=1->tE m->dC m=m\/iC m<iC (dC m):=by
  intro hp hok
  by_cases hk:(dQ m).2.2.2.1=true
  ·right;have e:dC m=zZ m (dQ m).1 (dQ m).2.1 (dQ m).2.2.1:=by unfold dC;rw[Qr hp,Qr hk]
   rw[rV hp,rU (by rw[e];rfl)]
   have:=NA hok;omega
  ·left;unfold dC;rw[Qr hp,Qs hk]
 rcases h.body with h0|h1|h2|h3
 ·exact hC h0.aE h0.ok
 ·exact hC h1.aE h1.ok
 ·have e:dC m=sP m (dt m).1 (dt m).2:=by unfold dC;rw[Qs (by rw[h2.aE];decide),Qr h2.aE]
  obtain⟨g1,g2,g3,g4⟩:=KZ h h2;have h2':=N9 h2 g1 g2 g3;rw[e]
  have hr:m.bc.toNat<=1000/\(1000 - m.aN).toNat<1001/\m.aa.aj.toNat<1001:=by
   have:=h2.bP;have:=h2.range;have:=h2.aF.2.1;omega
  have hcB:m.au=(sP m (dt m).1 (dt m).2).au\/ke m.au<ke (sP m (dt m).1 (dt m).2).au:=by
   rcases h2.dz with e|⟨hf,hv⟩
   ·right;rw[e]
    exact HP (h2'.dz.resolve_left (fun e=>by
     have h1:=h2'.range;have h3:(sP m (dt m).1 (dt m).2).au.aj=bl m.au.aj (dt m).2:=rfl;rw[e]at h3;have h4:=F5 m.au.aj (dt m).2;have h5:(bm:af).aj=0:=rfl
     omega)).1
   ·rcases F5 m.au.aj (dt m).2 with⟨e1,_⟩|⟨e1,e2⟩
    ·exact .inl (kg e1.symm hv)
    ·right;refine ou hf.sm (mQ h2'.ok.2.2.1) ((rl _ _).2 (.inl ?_));show m.au.aj<bl m.au.aj (dt m).2;omega
  have hpB:m.al=(sP m (dt m).1 (dt m).2).al\/ke m.al<ke (sP m (dt m).1 (dt m).2).al:=by
   rcases F5 m.al.aj (dt m).2 with⟨e1,_⟩|⟨e1,e2⟩
   ·exact .inl (kg e1.symm rfl)
   ·right;refine ou h2.cQ.1.sm h2'.cQ.1.sm ((rl _ _).2 (.inl ?_));show m.al.aj<bl m.al.aj (dt m).2;omega
  have hbB:m.aa=(sP m (dt m).1 (dt m).2).aa\/m.aa.aj<(sP m (dt m).1 (dt m).2).aa.aj:=by
   rcases F5 m.aa.aj (dt m).2 with⟨e1,_⟩|⟨e1,e2⟩
   ·exact .inl (kg e1.symm rfl)
   ·right;show m.aa.aj<bl m.aa.aj (dt m).2;omega
  rw[rU h2.aE,rU h2'.aE];have hPs:=lg h2.cQ.1.sm;have hCs:=lg (mQ h2.ok.2.2.1);have hHi:(sP m (dt m).1 (dt m).2).bc=(dt m).2:=rfl;have hLo:(sP m (dt m).1 (dt m).2).aN=(dt m).1:=rfl;have fin:r2 m<r2 (sP m (dt m).1 (dt m).2)->K1+r2 m<K1+r2 (sP m (dt m).1 (dt m).2):=fun h=>by omega
  have hrng:=h2.range;rcases g4 with⟨e1,e2⟩|e1
  ·rcases Int.lt_or_eq_of_le e2 with e3|e3
   ·
    refine .inr (fin (lexLt hr.2.2 (lexLt hCs (lexLt hPs (tG ?_ ?_)))))
    ·rw[hHi,e1]
    ·rw[hLo];omega
   ·rcases hpB with hp|hp
    ·rcases hcB with hc|hc
     ·rcases hbB with hb|hb
      ·left;exact qD ⟨rfl,rfl,rfl,rfl,rfl,rfl⟩ rfl hb.symm hp.symm rfl hc.symm e3 e1
      ·refine .inr (fin (tG ?_ (by have:=h2.aF.1;omega)))
       rw[hHi,hLo,<-hp,<-hc,e1,e3]
     ·refine .inr (fin (lexLt hr.2.2 (tG ?_ hc)));rw[hHi,hLo,<-hp,e1,e3]
    ·refine .inr (fin (lexLt hr.2.2 (lexLt hCs (tG ?_ hp))));rw[hHi,hLo,e1,e3]
  ·refine .inr (fin (lexLt hr.2.2 (lexLt hCs (lexLt hPs (lexLt hr.2.1 ?_)))));rw[hHi];omega
 ·left;unfold dC;rw[Qs (by rw[h3.aE];decide),Qs (by rw[h3.aE];decide)]
theorem XF{m:ab}(h:aW m):gR m=m\/iC m<iC (gR m):=by
 by_cases hc:m.aA=2/\(jM m).2.2.1=true
 ·right;have e:gR m=CP m (jM m).1 (jM m).2.1:=Qr hc;rw[rU hc.1,O5 (by rw[e];rfl)]
  rcases h.body with h0|h1|h2|h3
  ·have:=h0.aE;have:=hc.1;omega
  ·have:=h1.aE;have:=hc.1;omega
  ·have:=S8 h2;omega
  ·have:=h3.aE;have:=hc.1;omega
 ·exact .inl (Qs hc)
theorem XE{m:ab}(h:aW m):dL m=m\/iC m<iC (dL m):=by
 have hid:m.aA=3\/gM m m.aa.aj=false->dL m=m:=fun hc=>Qr hc
 cases ha:gM m m.aa.aj with
 |false=>exact .inl (hid (.inr ha))
 |true=>
  have hC:m.aA=1->tE m->0<=m.aa.aj/\m.aa.aj<=1000->dL m=m\/iC m<iC (dL m):=by
   intro hp hok hb;obtain⟨c1,c2,c3,c4,_⟩:=Cb h hb;have e:dL m={m with aN:=if jn m=m.aa.Value then m.aN else 0,aa:=⟨bl m.aa.aj (dD (eV m) 1000),jn m⟩}:=Qs (by rw[hp,ha];decide)
   have hnv:jn (dL m)=jn m:=by
    unfold jn di;rw[e];simp only[hp,Qt,not_true_eq_false,Qu,ne_eq]
   by_cases hs:bl m.aa.aj (dD (eV m) 1000)=m.aa.aj/\jn m=m.aa.Value
   ·left;rw[e];refine qD ⟨rfl,rfl,rfl,rfl,rfl,rfl⟩ rfl (kg hs.1 hs.2) rfl rfl rfl ?_ rfl;exact Qr hs.2
   ·right;rw[rV hp,rV (by rw[e];exact hp)]
    refine XO (by rw[e];rfl) (by rw[e]) ?_
    unfold t1;rw[hnv];have hb':(dL m).aa=⟨bl m.aa.aj (dD (eV m) 1000),jn m⟩:=by rw[e]
    rw[hb',Qr rfl];simp only
    by_cases hv:jn m=m.aa.Value
    ·rw[Qr hv.symm];have:bl m.aa.aj (dD (eV m) 1000)≠m.aa.aj:=fun e=>hs ⟨e,hv⟩
     omega
    ·rw[Qs (fun e=>hv e.symm)]
     omega
  rcases h.body with h0|h1|h2|h3
  ·exact hC h0.aE h0.ok (by rw[h0.aF];decide)
  ·exact hC h1.aE h1.ok ⟨by have:=h1.aF.1;omega,h1.aF.2.1⟩
  ·obtain⟨c1,c2,c3,c4,_⟩:=Cb h ⟨by have:=h2.aF.1;omega,h2.aF.2.1⟩
   have hnv:jn m=m.aa.Value:=Qs (by rw[h2.aE];decide)
   have e:dL m={m with aa:=⟨bl m.aa.aj (dD (eV m) 1000),m.aa.Value⟩}:=by
    unfold dL;rw[Qs (by rw[h2.aE,ha];decide),hnv,Qr rfl]
   rw[e]
   by_cases hs:bl m.aa.aj (dD (eV m) 1000)=m.aa.aj
   ·left;exact qD ⟨rfl,rfl,rfl,rfl,rfl,rfl⟩ rfl (kg hs rfl) rfl rfl rfl rfl rfl
   ·right;rw[rU h2.aE,rU (show({m with aa:=⟨bl m.aa.aj (dD (eV m) 1000),m.aa.Value⟩}:ab).aA=2 from h2.aE)]
    have:r2 m<r2 {m with aa:=⟨bl m.aa.aj (dD (eV m) 1000),m.aa.Value⟩}:=by
     refine tG rfl ?_;have:=h2.aF.1;show m.aa.aj.toNat<(bl m.aa.aj (dD (eV m) 1000)).toNat;omega
    omega
  ·exact .inl (hid (.inl h3.aE))
end Go.Proofs.YtkgenianmdfmdaaGreat
namespace Go.Proofs.YtkgenianmdfmdaaGreat
open Go.TQ
def WW(p:ai->Bool):Prop:=∀e s,p {e with aK:=s}=p e
structure Alike (l l':List ai):Prop where
 view:∀az,az<10->∀t,fh az t l=fh az t l'
 Fb:∀p,WW p->dy p (bH l)=dy p (bH l')
 XA:eJ l=eJ l'
 val:ga l=ga l'
 gk:∀v,bV l v=bV l' v
section
variable {l l' : List ai} (h : Alike l l')
 include h
theorem Alike.acc{az:Nat}(hn:az<10)(t:aq):iA az t l=iA az t l':=by
 funext b
 unfold iA;rw[h.view az hn t,h.Fb _ (fun e s=>rfl),h.Fb _ (fun e s=>rfl)]
theorem Alike.dz{az:Nat}(hn:az<10)(t:aq):iD az t l=iD az t l':=by
 funext b
 unfold iD;rw[h.view az hn t,h.Fb _ (fun e s=>rfl)]
theorem Alike.ready{az:Nat}(hn:az<10)(t:aq):oG az t l=oG az t l':=by
 funext v lo hi
 unfold oG;rw[h.view az hn t,h.Fb _ (fun e s=>rfl),h.Fb _ (fun e s=>rfl)]
theorem Alike.sure{az:Nat}(hn:az<10)(t:aq):qN az t l=qN az t l':=by
 funext v lo hi
 unfold qN;rw[h.view az hn t,h.Fb _ (fun e s=>rfl)]
theorem Alike.next{az:Nat}(hn:az<10)(t:aq)(p q:af)(v:ByteArray):iw az t l p q v=iw az t l' p q v:=by
 unfold iw;rw[h.XA,h.acc hn t]
theorem Alike.bP{az:Nat}(hn:az<10)(t:aq)(a:af):vd az t l a=vd az t l' a:=by
 unfold vd;rw[h.XA,h.dz hn t]
theorem Alike.Cg(x:ByteArray->Int->Int->Bool)(p q:af):fP x l p q=fP x l' p q:=by
 unfold fP;rw[h.val];congr 1
 funext s v
 rw[h.gk]
theorem Alike.first(x:ByteArray->Int->Int->Bool)(p q:af)(s:Bool×af):oD x l p q s=oD x l' p q s:=by
 unfold oD;rw[h.gk]
end
theorem GS{l l':List ai}(hl:ny l)(hn:l.length<=1000)(hl':ny l')(hn':l'.length<=1000)
  (h1:∀x,(∃e∈l,x∈said e/\aD x=false)↔∃e∈l',x∈said e/\aD x=false) (h2:∀x,(∃e∈l,ba e=true/\x=e.aa.Value)↔∃e∈l',ba e=true/\x=e.aa.Value)
  (h3:∀v x,x∈ends v l↔x∈ends v l'):eJ l=eJ l'/\ga l=ga l'/\∀v,bV l v=bV l' v:=by
 obtain⟨_,a2,_,a4⟩:=nH hl.aY hn;obtain⟨_,b2,_,b4⟩:=nH hl'.aY hn';obtain⟨_,c2,_,c4⟩:=rL hl.aY hn;obtain⟨_,d2,_,d4⟩:=rL hl'.aY hn';refine⟨wY.flip.unique a2 b2 fun x=> ?_,wX.unique c2 d2 fun x=> ?_,fun v=> ?_⟩
 ·rw[a4,b4];exact h1 x
 ·rw[c4,d4];exact h2 x
 ·obtain⟨_,e2,_,e4⟩:=lF hl.aY hn v;obtain⟨_,f2,_,f4⟩:=lF hl'.aY hn' v;refine Cv.unique (e2.imp fun h=>Qg h) (f2.imp fun h=>Qg h) fun x=> ?_
  rw[e4,f4];exact h3 v x
theorem OC{l l':List ai}(hl:ny l)(hn:l.length<=1000)(ha:tL l)(h:l.Perm l'):Alike l l':=by
 have hl':ny l':=⟨by rw[<-h.length_eq];exact hl.len,fun e he=>hl.aY e (h.mem_iff.2 he)⟩
 have hm:∀(P:ai->Prop),(∃e∈l,P e)↔∃e∈l',P e:=fun P=>⟨fun⟨e,he,hp⟩=>⟨e,h.mem_iff.1 he,hp⟩,fun⟨e,he,hp⟩=>⟨e,h.mem_iff.2 he,hp⟩⟩
 obtain⟨a,b,c⟩:=GS hl hn hl' (by rw[<-h.length_eq];exact hn) (fun x=>hm _) (fun x=>hm _) (fun v x=>by rw[s9,s9];exact hm _)
 exact⟨fun az hn t=>Nj hn t ha h,fun p _=>OO (L0 h) p,a,b,c⟩
theorem Rf{l:List ai}(hl:ny l)(hn:l.length<=1000)(f:ai->ai)(hf:∀e∈l,f e={e with aK:=(f e).aK}/\ba (f e)=ba e):Alike l (l.map f):=by
 have e1:∀e∈l,(f e).ar=e.ar/\(f e).ae=e.ae/\(f e).aa=e.aa/\(f e).bQ=e.bQ/\(f e).al=e.al/\(f e).aw=e.aw/\(f e).aN=e.aN/\(f e).bc=e.bc:=fun e he=>by
  have:=(hf e he).1;rw[this];exact⟨rfl,rfl,rfl,rfl,rfl,rfl,rfl,rfl⟩
 have hl':ny (l.map f):=⟨by rw[QC];exact hl.len,fun e he=>by
  obtain⟨x,hx,rfl⟩:=QP.1 he
  rw[(e1 x hx).2.1];exact hl.aY x hx⟩
 have hm:∀(P:ai->Prop),(∀e∈l,P e↔P (f e))->((∃e∈l,P e)↔∃e∈l.map f,P e):=fun P hP=>⟨fun⟨e,he,hp⟩=>⟨f e,QP.2 ⟨e,he,rfl⟩,(hP e he).1 hp⟩,fun⟨e,he,hp⟩=>by
  obtain⟨x,hx,rfl⟩:=QP.1 he
  exact⟨x,hx,(hP x hx).2 hp⟩⟩
 have hsaid:∀e∈l,said (f e)=said e:=fun e he=>by
  obtain⟨g1,g2,g3,g4,g5,g6,g7,g8⟩:=e1 e he;unfold said at_
  rw[(hf e he).2,g4,g3,g5,g6]
 have hbnd:∀v,∀e∈l,jq v (f e)=jq v e:=fun v e he=>by
  obtain⟨g1,g2,g3,g4,g5,g6,g7,g8⟩:=e1 e he;unfold jq;simp only[(hf e he).2,g4,g3,g7,g8]
 obtain⟨a,b,c⟩:=GS hl hn hl' (by rw[QC];exact hn) (fun x=>hm _ fun e he=>by rw[hsaid e he]) (fun x=>hm _ fun e he=>by rw[(hf e he).2,(e1 e he).2.2.1])
  (fun v x=>by rw[s9,s9];exact hm _ fun e he=>by rw[hbnd v e he,(e1 e he).2.2.2.2.2.2.1,(e1 e he).2.2.2.2.2.2.2])
 refine⟨fun az hn t=> ?_,fun p hp=> ?_,a,b,c⟩
 ·unfold fh;generalize (List.replicate 10 fW).set az ⟨true,t⟩=ms
  suffices key:∀(k:List ai) (ms:List aU),(∀e∈k,e∈l)->k.foldl c8 ms=(k.map f).foldl c8 ms from key l ms fun e he=>he
  intro k
  induction k with
  |nil=>intro ms _;rfl
  |cons x k ih=>
   intro ms hk;have hx:=hk x Qx
   have:c8 ms (f x)=c8 ms x:=by
    unfold c8;rw[(hf x hx).2,(e1 x hx).1,(e1 x hx).2.1]
   rw[QD,QU,QU,this];exact ih _ fun e he=>hk e (Qy _ he)
 ·unfold bH
  suffices key:∀(k:List ai),(∀e∈k,e∈l)->dy p (k.filter ba)=dy p ((k.map f).filter ba)from key l fun e he=>he
  intro k
  induction k with
  |nil=>intro _;rfl
  |cons x k ih=>
   intro hk;have hx:=hk x Qx
   have hpx:p (f x)=p x:=by
    rw[(hf x hx).1];exact hp x _
   rw[QD,List.filter_cons,List.filter_cons,(hf x hx).2];split
   ·rw[dy,dy,hpx,(e1 x hx).1,ih fun e he=>hk e (Qy _ he)]
   ·exact ih fun e he=>hk e (Qy _ he)
structure fU (m:ab):Prop where
 zero:aD m.aa=true->m.aK=0
 pos:aD m.aa=false->1<=m.aK
def BE(m:ab):ai:=⟨m.ar,m.bs,m.aK,m.ae,m.aA,m.aa,m.al,m.aw,m.aN,if m.aA=1 then ez m else m.bc⟩
theorem tP(m:ab):bY m=some (BE m):=by
 unfold bY BE ez;simp only[bB,aq.eta,bZ,dV,Qa]
 by_cases h1:m.aA=1
 ·rw[Qg h1,Qr h1];cases aD m.au<;>cases bw m.au m.aa<;>rfl
 ·rw[Qh h1,Qs h1];rfl
theorem yt{m:ab}(h:aW m):BE m=bU m:=by
 unfold BE bU;rcases h.body with h0|h1|h2|h3
 ·rw[Qr h0.aE,Qr h0.aE]
 ·rw[Qr h1.aE,Qr h1.aE]
 ·rw[Qs (by rw[h2.aE];decide),Qs (by rw[h2.aE];decide),Qr h2.aE,h2.bG]
 ·rw[Qs (by rw[h3.aE];decide),Qs (by rw[h3.aE];decide),Qs (by rw[h3.aE];decide),h3.bG,h3.cQ]
theorem MC{m:ab}(hs:fU m)(hz:aD m.aa=false):fp m=bU m:=by
 unfold fp
 have:bl (bU m).aK 1=(bU m).aK:=by
  have:=hs.pos hz;rw[K3];unfold bl;split<;>omega
 rw[this]
def oV(m:ab):List ai:=if aD m.aa=true then m.aB else m.aB++[BE m]
theorem P9{l:List ai}(hl:l.length<=1000):dF l=some l:=by
 unfold dF;have h1:bW 176 (List.length ([]:List ai)+List.length l)=true:=er (by simp;omega)
 rw[h1]
 cases l with
 |nil=>simp
 |cons x l=>rfl
theorem BB{m:ab}(h:m.aB.length<=100):cu ⟨m⟩=some (oV m,⟨m⟩):=by
 unfold cu oV;simp only[ab.eta,aq.eta,ai.eta,ax.eta,bZ,tP,Qa,P9 (show m.aB.length<=1000 by omega)]
 cases aD m.aa with
 |true=>rfl
 |false=>
  simp only[Ql,Qq,Qu];rw[er (by simp;omega)]
  rfl
theorem aW.apart{m:ab}(h:aW m):tL (aO m):=by
 have hs:∀a∈m.aB,∀b∈m.aB,a.ar=b.ar->a=b:=by
  have:=h.nq;revert this;generalize m.aB=l;intro hp
  induction l with
  |nil=>intro a ha;cases ha
  |cons x l ih=>
   rw[Q4]at hp;intro a ha b hb e;rcases QA.1 ha with ha'|ha'<;>rcases QA.1 hb with hb'|hb'
   ·rw[ha',hb']
   ·have:=hp.1 b hb';rw[ha']at e;omega
   ·have:=hp.1 a ha';rw[hb']at e;omega
   ·exact ih hp.2 a ha' b hb' e
 intro a ha b hb e;rcases na ha with ha|⟨_,rfl⟩<;>rcases na hb with hb|⟨_,rfl⟩
 ·exact hs a ha b hb e
 ·exact absurd (e.trans (il m)) (h.hv a ha).2.2.2
 ·exact absurd (e.symm.trans (il m)) (h.hv b hb).2.2.2
 ·rfl
theorem Iy{m:ab}(h:aW m)(hs:fU m):(aO m).Perm (oV m):=by
 unfold aO oV;split
 ·exact .refl _
 ·rename_i hz;rw[yt h,<-MC hs (by simpa using hz)]
  exact xe _ _
theorem je{m:ab}(h:aW m)(hs:fU m):Alike (aO m) (oV m):=OC h.ev.mN.1 h.ev.mN.2 h.apart (Iy h hs)
theorem mS{m:ab}(h:aW m)(hs:fU m):ny (oV m)/\(oV m).length<=1000:=by
 have hp:=Iy h hs;have:=h.ev.mN;exact⟨⟨by rw[<-hp.length_eq];exact this.1.len,fun e he=>this.1.aY e (hp.mem_iff.2 he)⟩,by rw[<-hp.length_eq];exact this.2⟩
section
variable {m : ab} (h : aW m) (hs : fU m)
 include h hs
theorem Vi(p q:af)(v:ByteArray):ky m.ar m.ae (oV m) p q v=some (iw m.ar.toNat m.ae (aO m) p q v):=by
 have:=TX h.ev.az.2 h.ev.aY (mS h hs).1 (mS h hs).2 p q v
 rwa [h.ev.az.1,<-(je h hs).next h.ev.az.2]at this
theorem Vk(a:af):iN m.ar m.ae (oV m) a=some (vd m.ar.toNat m.ae (aO m) a):=by
 have:=TY h.ev.az.2 h.ev.aY (mS h hs).1 (mS h hs).2 a
 rwa [h.ev.az.1,<-(je h hs).bP h.ev.az.2]at this
theorem TZ:mG m.ar m.ae (oV m) m.al m.aw=some (dQ m):=by
 have hl:=mS h hs;have:=VZ (Kc h.ev.az.2 h.ev.aY hl.1) hl.1 hl.2 (look_eq h.ev.az.2 h.ev.aY hl.1) m.al m.aw;rw[h.ev.az.1,<-(je h hs).ready h.ev.az.2,<-(je h hs).Cg,<-(je h hs).first]at this
 exact this
theorem Wk:lK m.ar m.ae (oV m) m.aa.Value m.aN m.bc=some ((dt m).1,(dt m).2,()):=by
 have hl:=mS h hs;have:=U3 (Kc h.ev.az.2 h.ev.aY hl.1) hl.1 hl.2 (look_eq h.ev.az.2 h.ev.aY hl.1) m.aa.Value m.aN m.bc;rw[h.ev.az.1,<-(je h hs).ready h.ev.az.2,<-(je h hs).gk]at this;exact this
theorem Wj:mH m.ar m.ae (oV m) m.aa.Value=some (jM m):=by
 have hl:=mS h hs;have:=V0 (TG h.ev.az.2 h.ev.aY hl.1) hl.1 hl.2 (look_eq h.ev.az.2 h.ev.aY hl.1) m.aa.Value;rw[h.ev.az.1,<-(je h hs).sure h.ev.az.2,<-(je h hs).gk]at this;exact this
end
theorem Iq(v:ByteArray)(n:Int)(p q:af):kR v n p q=some (kc v n p q):=by
 unfold kR kc;generalize bl n 1=k
 have hst:∀(i:Nat) (x:af) (k:Int),i<2->[p,q][i]?=some x->
   (fun(v1:Int×Int×Unit)=>
    bif (decide (v1.2.1<((List.length [p,q]:Nat):Int)))then
    bL (fun(v2:Int×Unit)=>some (Sum.inl (v2.1,(aJ .i64 v1.2.1 (1:Int)),()))) fun j3=>
    Option.bind (idx [p,q] v1.2.1) fun x4=>
    Option.bind (eR x4) fun r5=>
    Option.bind (bif (!r5)then some true else Option.bind (df x4 (af.mk v1.1 v)) fun r6=>some (!r6)) fun b7=>
    bif b7 then j3 (v1.1,())
    else Option.bind (df x4 (af.mk x4.aj v)) fun r8=>
     bif r8 then j3 ((aJ .i64 x4.aj (1:Int)),())else j3 (x4.aj,())
    else(Option.map Sum.inr (some v1.1):Option ((Int×Int×Unit)⊕Int))) (k,(i:Int),())=some (Sum.inl (tz v k x,((i+1:Nat):Int),())):=by
  intro i x k hi hx;have hd:decide ((i:Int)<((List.length [p,q]:Nat):Int))=true:=Qg (by simp;omega)
  have hw:aJ .i64 (i:Int) 1=((i+1:Nat):Int):=cj (by omega) (by omega)
  have hx':idx [p,q] (i:Int)=some x:=by rw[bK];exact hx
  simp only[hd,hw,hx',Qk,bB,Qa,uk,nP];unfold tz
  cases hv:cF x with
  |false=>simp
  |true=>
   have hc:aJ .i64 x.aj 1=x.aj+1:=by
    have:1<=x.aj/\x.aj<=1000000:=by
     simp only[cF,Qm,Qn,Qi]at hv;omega
    exact cj (by omega) (by omega)
   cases h1:eE x ⟨k,v⟩with
   |false=>simp
   |true=>cases h2:eE x ⟨x.aj,v⟩<;>simp[hc]
 refine(bq (hst 0 p k (by omega) rfl)).trans ((bq (hst 1 q _ (by omega) rfl)).trans (cd ?_))
 rfl
theorem RU(b:af):(⟨dD b.aj 1000,b.Value⟩:af)=ct b:=by
 unfold dD ct;split<;>rfl
section
variable {m : ab} (h : aW m) (hs : fU m)
 include h
theorem NI(hz:aD (dj m)=true):bR m=m:=by
 have hid:m.aA=3\/aD m.aa=true->bR m=m:=fun hc=>Qr hc
 have hj:cg m.al m.aw (ct (dj m))=(m.al,m.aw):=by
  have:ct (dj m)=bm:=by rw[mM.1 hz];decide
  rw[this];exact Qr br
 have he:¬(m.aA=3\/aD m.aa=true)->pD m m.al m.aw=m.aN->bR m=m:=by
  intro hc hl;unfold bR;rw[Qs hc,hj];simp only;rw[hl]
 rcases h.body with h0|h1|h2|h3
 ·exact hid (.inr (by rw[h0.aF];exact br))
 ·exact he (by rw[h1.aE,h1.aF.nz];decide) (FT h1)
 ·exact he (by rw[h2.aE,h2.aF.nz];decide) (Qs (fun h=>by have:=h.1;rw[h2.aE]at this;cases this))
 ·exact hid (.inl h3.aE)
 include hs
theorem NH:iy ⟨m⟩=some ((),⟨bR m⟩):=by
 have hl:m.aB.length<=100:=by have:=h.len;omega
 unfold iy;simp only[ab.eta,aq.eta,ax.eta,bZ,BB hl,Vi h hs,TO,Iq,tP,Qa,bB,RU]
 by_cases h3:m.aA=3\/aD m.aa=true
 ·have e:bR m=m:=Qr h3;rw[e];rcases h3 with h3|h3
  ·rw[Qg h3];cases aD m.aa<;>rfl
  ·rw[h3];rfl
 ·have hz:aD m.aa=false:=by
   cases hz:aD m.aa with
   |true=>exact absurd (.inr hz) h3
   |false=>rfl
  have h3':¬m.aA=3:=fun e=>h3 (.inl e)
  rw[hz,Qh h3'];simp only[Ql,Qa]
  have hmain:∀v:ByteArray,v=Dx m->(bif aD (iw m.ar.toNat m.ae (aO m) m.al m.aw v)then some ((),(⟨m⟩:ax))else
    Option.bind (bif decide (m.aA=1)then some (!decide (m.aN=0))else some false) fun b9=>
    bif b9 then
     bif decide ((BE ⟨m.ar,m.bs,m.aK,m.ae,m.aA,m.aa,(cg m.al m.aw (ct (iw m.ar.toNat m.ae (aO m) m.al m.aw v))).1,(cg m.al m.aw (ct (iw m.ar.toNat m.ae (aO m) m.al m.aw v))).2,m.au,kc m.aa.Value m.aN (cg m.al m.aw (ct (iw m.ar.toNat m.ae (aO m) m.al m.aw v))).1 (cg m.al m.aw (ct (iw m.ar.toNat m.ae (aO m) m.al m.aw v))).2,m.bc,m.bj,m.aB⟩).bc<kc m.aa.Value m.aN (cg m.al m.aw (ct (iw m.ar.toNat m.ae (aO m) m.al m.aw v))).1 (cg m.al m.aw (ct (iw m.ar.toNat m.ae (aO m) m.al m.aw v))).2)then
      some ((),(⟨⟨m.ar,m.bs,m.aK,m.ae,m.aA,m.aa,(cg m.al m.aw (ct (iw m.ar.toNat m.ae (aO m) m.al m.aw v))).1,(cg m.al m.aw (ct (iw m.ar.toNat m.ae (aO m) m.al m.aw v))).2,m.au,0,m.bc,m.bj,m.aB⟩⟩:ax))
     else some ((),(⟨⟨m.ar,m.bs,m.aK,m.ae,m.aA,m.aa,(cg m.al m.aw (ct (iw m.ar.toNat m.ae (aO m) m.al m.aw v))).1,(cg m.al m.aw (ct (iw m.ar.toNat m.ae (aO m) m.al m.aw v))).2,m.au,kc m.aa.Value m.aN (cg m.al m.aw (ct (iw m.ar.toNat m.ae (aO m) m.al m.aw v))).1 (cg m.al m.aw (ct (iw m.ar.toNat m.ae (aO m) m.al m.aw v))).2,m.bc,m.bj,m.aB⟩⟩:ax))
    else some ((),(⟨⟨m.ar,m.bs,m.aK,m.ae,m.aA,m.aa,(cg m.al m.aw (ct (iw m.ar.toNat m.ae (aO m) m.al m.aw v))).1,(cg m.al m.aw (ct (iw m.ar.toNat m.ae (aO m) m.al m.aw v))).2,m.au,m.aN,m.bc,m.bj,m.aB⟩⟩:ax)))=some ((),(⟨bR m⟩:ax)):=by
   intro v hv;subst hv;rw[show iw m.ar.toNat m.ae (aO m) m.al m.aw (Dx m)=dj m from rfl]
   cases hzn:aD (dj m)with
   |true=>rw[NI h hzn];rfl
   |false=>
    simp only[Ql];have e:bR m={m with al:=(cg m.al m.aw (ct (dj m))).1,aw:=(cg m.al m.aw (ct (dj m))).2,aN:=pD m (cg m.al m.aw (ct (dj m))).1 (cg m.al m.aw (ct (dj m))).2}:=Qs h3
    rw[e];unfold pD
    by_cases hc:m.aA=1/\m.aN≠0
    ·rw[Qg hc.1,Qh hc.2,Qr hc];simp only[Qk,Qa,Qp];have hh:∀(p q:af) (L:Int),(BE {m with al:=p,aw:=q,aN:=L}).bc=ez m:=fun p q L=>by unfold BE;exact Qr hc.1
     rw[hh];split
     ·rename_i hlt;rw[Qg hlt];rfl
     ·rename_i hlt;rw[Qh hlt];rfl
    ·rw[Qs hc]
     by_cases h1:m.aA=1
     ·rw[Qg h1,Qg (show m.aN=0 from Classical.byContradiction fun hn=>hc ⟨h1,hn⟩)];rfl
     ·rw[Qh h1];rfl
  by_cases h2:m.aA=2
  ·rw[Qg h2];exact hmain _ (Qr h2).symm
  ·rw[Qh h2];exact hmain _ (Qs h2).symm
end
theorem JR(m:ab)(b:af):eK ⟨m⟩ b=some ((),⟨{m with aN:=bif bw m.aa b then m.aN else 0,aa:=b}⟩):=by
 unfold eK;simp only[ab.eta,aq.eta,ax.eta,dV,Qa,bB];cases bw m.aa b<;>rfl
theorem El(m:ab)(b:af){α:Type}(j:ab->Option α):
  (bif decide (m.aN=(0:Int))then(bif bw m.aa b then(bif decide (kc b.Value m.aa.aj m.al m.aw<=b.aj)then j {m with aN:=kc b.Value m.aa.aj m.al m.aw}else j m)else j m)else(bif false then(bif decide (kc b.Value m.aa.aj m.al m.aw<=b.aj)then j {m with aN:=kc b.Value m.aa.aj m.al m.aw}else j m)else j m))=j (kS m b):=by
 unfold kS
 by_cases hL:m.aN=0
 ·rw[Qg hL]
  cases hc:bw m.aa b with
  |true=>
   by_cases hle:kc b.Value m.aa.aj m.al m.aw<=b.aj
   ·rw[Qr ⟨hL,rfl,hle⟩,Qg hle];rfl
   ·rw[Qs (fun h=>hle h.2.2),Qh hle];rfl
  |false=>
   rw[Qs (fun h=>by cases h.2.1)];rfl
 ·rw[Qh hL,Qs (fun h=>hL h.1)];rfl
section
variable {m : ab} (h : aW m) (hs : fU m)
 include h hs
theorem U7:jG ⟨m⟩=some ((),⟨fL m⟩):=by
 have hl:m.aB.length<=100:=by have:=h.len;omega
 unfold jG;simp only[ab.eta,aq.eta,ax.eta,bZ,BB hl,Vk h hs,Iq,JR,dV,gz,Qa,bB];have hb:vd m.ar.toNat m.ae (aO m) m.au=gY m:=rfl;simp only[hb];unfold fL
 cases hz:aD m.aa with
 |true=>rw[Qr (.inr (.inl rfl))];rfl
 |false=>
  by_cases h1:m.aA=1
  ·rw[Qg h1]
   cases hzb:aD (gY m)with
   |true=>rw[Qr (.inr (.inr rfl))];rfl
   |false=>
    rw[Qs (by simp[h1])]
    simp only[Qo,Ql,Qa];unfold sO
    cases hlt:a8 m.aa (gY m)with
    |true=>
     simp only[Qk,Qt]
     cases hcp:bw m.aa (gY m)with
     |true=>exact El {m with au:=gY m,aa:=gY m} (gY m) (fun x=>some ((),(⟨x⟩:ax)))
     |false=>exact El {m with au:=gY m,aa:=gY m,aN:=0} (gY m) (fun x=>some ((),(⟨x⟩:ax)))
    |false=>
     simp only[Ql,Qq,Qu];exact El {m with au:=gY m} (gY m) (fun x=>some ((),(⟨x⟩:ax)))
  ·rw[Qh h1,Qr (.inl h1)];rfl
theorem P7:iK ⟨m⟩=some ((),⟨dC m⟩):=by
 have hl:m.aB.length<=100:=by have:=h.len;omega
 unfold iK;simp only[ab.eta,aq.eta,ax.eta,BB hl,TZ h hs,Wk h hs,dV,gz,Qa,bB];unfold dC
 by_cases h1:m.aA=1
 ·rw[Qg h1,Qr h1];simp only[Qk]
  cases hk:(dQ m).2.2.2.1 with
  |false=>rfl
  |true=>
   have hf:=BW h hk
   have hcov:im m.al ⟨(dQ m).2.2.1,(dQ m).1⟩= !(a8 m.al ⟨(dQ m).2.2.1,(dQ m).1⟩|| !bw m.al ⟨(dQ m).2.2.1,(dQ m).1⟩):=by
    cases hc:bw m.al ⟨(dQ m).2.2.1,(dQ m).1⟩with
    |false=>unfold im;rw[hc];simp
    |true=>
     have hv:=fO.1 hc
     have hnz:aD m.al=false:=by
      cases hz:aD m.al with
      |false=>rfl
      |true=>rw[mM.1 hz]at hv;exact absurd hv.symm hf.fin.ne
     unfold im;rw[hc,hnz,zy hv,Qo,Bool.or_false,Qp,Bool.and_self,Bool.true_and];rw[QW];simp only[Qi,Bool.not_eq_true',Qj];omega
   simp only[Qo,Ql,Qt];unfold zZ;rw[hcov];cases bw m.aa ⟨(dQ m).2.2.1,(dQ m).1⟩<;>cases a8 m.aa ⟨(dQ m).2.2.1,(dQ m).1⟩<;>cases a8 m.al ⟨(dQ m).2.2.1,(dQ m).1⟩<;>cases bw m.al ⟨(dQ m).2.2.1,(dQ m).1⟩<;>rfl
 ·rw[Qh h1,Qs h1]
  by_cases h2:m.aA=2
  ·rw[Qg h2,Qr h2];rcases h.body with k|k|k|k
   ·exact absurd k.aE h1
   ·exact absurd k.aE h1
   ·unfold sP;rw[k.cQ.2];rfl
   ·have:=k.aE;omega
  ·rw[Qh h2,Qs h2];rfl
theorem Sc:iV ⟨m⟩=some ((),⟨gR m⟩):=by
 have hl:m.aB.length<=100:=by have:=h.len;omega
 unfold iV gR;simp only[ab.eta,aq.eta,ax.eta,BB hl,Wj h hs,Qa]
 by_cases h2:m.aA=2
 ·rw[Qg h2]
  cases hk:(jM m).2.2.1 with
  |false=>rw[Qs (fun h=>by cases h.2)];rfl
  |true=>rw[Qr ⟨h2,rfl⟩];rfl
 ·rw[Qh h2,Qs (fun h=>h2 h.1)];rfl
end
theorem Em{m:ab}(h:Co m):dH ⟨m⟩=some (di m):=by
 have hl:m.aB.length<=1000:=by have:=h.len;omega
 unfold dH di;simp only[bZ,Qa]
 cases hz:aD m.au with
 |false=>rfl
 |true=>
  simp only[Qo,Ql,Bool.true_eq_false,Qu]
  by_cases h1:m.aA=1
  ·rw[Qg h1,Qs (fun h=>h h1)]
   simp only[Qo,Ql]
   by_cases hp:m.bj=gC
   ·have hp':decide (m.bj=ByteArray.mk #[])=true:=Qg hp;rw[hp',Qs (fun h=>h hp)]
    simp only[Qo,Ql]
    rw[IY m.aB hl (·.aa) (fin:=fun s=>Option.bind (jy s) fun r=>some r.Value) (fun i e s hs he hd hx hw=>by
     simp only[hd,hx,hw,Qk,Qa]
     rw[er (by simp;omega),Qk]) (fun s hd=>by simp only[hd,Ql]),RL _ (by simp;omega)]
    rfl
   ·have hp':decide (m.bj=ByteArray.mk #[])=false:=Qh hp;rw[hp',Qr hp];rfl
  ·rw[Qh h1,Qr h1];rfl
theorem TV(l:List ai)(hlen:l.length<=1000)(p:ai->Bool)(hp:∀e∈l,p e=true->0<=e.ar/\e.ar<10):lI l (l.map p)=some ((dy p l:Nat):Int):=by
 unfold lI
 suffices key:∀(k i s:Nat),i+k=l.length->s<1024->aI _ ((s:Int),(i:Int),())=some ((s|||dy p (l.drop i):Nat):Int)by
  have:=key l.length 0 0 (by omega) (by omega)
  rw[Nat.zero_or,List.drop_zero]at this;exact this
 intro k
 induction k with
 |zero=>
  intro i s hi hs;obtain rfl:i=l.length:=by omega
  have hd:decide (((l.length:Nat):Int)<((l.length:Nat):Int))=false:=Qh (Int.lt_irrefl _);rw[cd (r:=(s:Int)) (by simp only[hd,Ql,Qe]),List.drop_length,dy]
  simp
 |succ k ih=>
  intro i s hi hs;have hlt:i<l.length:=by omega
  have hd:decide ((i:Int)<((l.length:Nat):Int))=true:=Qg (by omega)
  have hd2:decide ((i:Int)<(((l.map p).length:Nat):Int))=true:=Qg (by rw[QC];omega)
  have hw:aJ .i64 (i:Int) 1=((i+1:Nat):Int):=cj (by omega) (by omega)
  have hx:idx l (i:Int)=some l[i]:=by rw[bK];exact Qv hlt
  have hx2:idx (l.map p) (i:Int)=some (p l[i]):=by rw[bK,QT,Qv hlt];rfl
  rw[QM hlt,dy]
  cases hpe:p l[i]with
  |false=>
   rw[bq (s':=((s:Int),((i+1:Nat):Int),())) (by simp only[hd,hd2,hx,hx2,hw,hpe,Qk,Ql,bB,Qa]),ih (i+1) s (by omega) hs]
   simp
  |true=>
   obtain⟨h0,h1⟩:=hp _ (Q0 hlt) hpe;have hn0:¬l[i].ar<0:=by omega
   have d1:decide ((0:Int)<=l[i].ar)=true:=Qg h0;have d2:decide (l[i].ar<(10:Int))=true:=Qg (by omega)
   rw[bq (s':=(((s|||2 ^ l[i].ar.toNat:Nat):Int),((i+1:Nat):Int),())) (by
    simp only[hd,hd2,hx,hx2,hw,hpe,Qk,bB,Qa,d1,d2,hn0,Qu]
    rw[CE hs h0 h1]),ih (i+1) _ (by omega) (Jy hs h1)]
   simp[Nat.or_assoc]
theorem RO{m:ab}(h:Co m)(n:Int):jj ⟨m⟩ n=some ((yL m n:Nat):Int):=by
 have hl:m.aB.length<=1000:=by have:=h.len;omega
 unfold jj;have d1:decide (((m.aB.length:Nat):Int)=((m.aB.length:Nat):Int))=true:=Qg rfl;have d2:decide (0<=((m.aB.length:Nat):Int))=true:=Qg (Int.natCast_nonneg _);have d3:bW 1 m.aB.length=true:=er (by omega)
 simp only[d1,d2,d3,QV,Bool.and_self,Qk]
 rw[PQ m.aB hl (fun e=>decide (n<eZ e)) (fin:=fun s=>Option.bind (lI m.aB s) fun r=>some r)
  (fun i e s hsl he hi hd hx hw=>by
   have h1:idx s (i:Int)=some s[i]:=by rw[bK];exact Qv (by omega)
   have h2:s[i]?=some s[i]:=Qv (by omega)
   simp only[hd,hx,hw,h1,h2,Qk,Qa,aq.eta,ai.eta,Kp (h.sm e he) (h.valid e he),QV])
  (fun s hd=>by simp only[hd,Ql]) (by simp),TV m.aB hl _ (fun e he _=>h.HK e he)]
 rfl
section
variable {m : ab} (h : aW m) (hs : fU m)
 include h hs
theorem IJ(n:Int):fQ n ⟨fh m.ar.toNat m.ae (oV m)⟩ ⟨m⟩=some (gM m n):=by
 unfold fQ;simp only[ab.eta,aq.eta,ax.eta,RO h.ev,Qa];have hb:=I7 (qu (az:=m.ar.toNat) h.ev.aY (mS h hs).1) (v:=m.ar.toNat) (Rg h.ev n);rw[h.ev.az.1]at hb;rw[hb,Qa];unfold gM;rw[(je h hs).view _ h.ev.az.2]
theorem R3:iU ⟨m⟩=some ((),⟨dL m⟩):=by
 have hl:m.aB.length<=100:=by have:=h.len;omega
 have hv:=M8 h.ev.az.2 h.ev.aY (mS h hs).1;rw[h.ev.az.1]at hv;unfold iU dL;simp only[ab.eta,aq.eta,ax.eta,bZ,BB hl,hv,IJ h hs,Em h.ev,JR,Qa,bB]
 by_cases h3:m.aA=3
 ·rw[Qg h3,Qr (.inl h3)];rfl
 ·rw[Qh h3]
  cases ha:gM m m.aa.aj with
  |false=>rw[Qr (.inr rfl)];rfl
  |true=>
   rw[Qs (by simp[h3])]
   simp only[Ql,Qo]
   have hbc:0<=m.aa.aj/\m.aa.aj<=1000:=by
    rcases h.body with k|k|k|k
    ·rw[k.aF];decide
    ·exact⟨by have:=k.aF.1;omega,k.aF.2.1⟩
    ·exact⟨by have:=k.aF.1;omega,k.aF.2.1⟩
    ·exact absurd k.aE h3
   have hz1:aD m.aa=true->m.aA=1:=by
    intro hz;rcases h.body with k|k|k|k
    ·exact k.aE
    ·exact k.aE
    ·rw[k.aF.nz]at hz;cases hz
    ·exact absurd k.aE h3
   refine(Sn h.ev (fin:=fun c=>some ((),(⟨{m with aN:=bif bw m.aa ⟨dD c 1000,jn m⟩then m.aN else 0,aa:=⟨dD c 1000,jn m⟩}⟩:ax))) (fun i e s he hd hx hw=> ?_) (fun s hd=> ?_)).trans ?_
   ·simp only[hd,hx,hw,Qk,bB,Qa,aq.eta,ai.eta,Kp (h.ev.sm e he) (h.ev.valid e he),IJ h hs];unfold jB
    by_cases c1:m.aa.aj<eZ e
    ·by_cases c2:eZ e<s
     ·rw[Qg c1,Qg c2]
      cases c3:gM m (eZ e)with
      |true=>rw[Qs (by simp)];rfl
      |false=>rw[Qr ⟨c1,c2,rfl⟩];rfl
     ·rw[Qg c1,Qh c2,Qs (fun h=>c2 h.2.1)];rfl
    ·rw[Qh c1,Qs (fun h=>c1 h.1)];rfl
   ·simp only[hd,Ql,bB,Qa];unfold jn
    by_cases h1:m.aA=1
    ·rw[Qg h1,Qr h1];cases aD m.aa<;>rfl
    ·rw[Qh h1,Qs h1]
     cases hz:aD m.aa with
     |true=>exact absurd (hz1 hz) h1
     |false=>rfl
   ·have hm:=(Cb h hbc).2.2.2.2;rw[hm]
    have hcp:(bif bw m.aa ⟨dD (eV m) 1000,jn m⟩then m.aN else 0)=(if jn m=m.aa.Value then m.aN else 0):=by
     by_cases e:jn m=m.aa.Value
     ·rw[Qr e,(fO (a:=m.aa) (b:=⟨dD (eV m) 1000,jn m⟩)).2 e.symm];rfl
     ·rw[Qs e,(fu (a:=m.aa) (b:=⟨dD (eV m) 1000,jn m⟩)).2 (fun hc=>e hc.symm)];rfl
    rw[hcp]
end
end Go.Proofs.YtkgenianmdfmdaaGreat
namespace Go.Proofs.YtkgenianmdfmdaaGreat
open Go.TQ
theorem Lt{m:ab}(h:aW m)(s:Int):aO {m with aK:=s}=(aO m).map (fun e=>if e.ar=m.ar then{e with aK:=bl s 1}else e):=by
 have hf:∀e∈m.aB,(if e.ar=m.ar then{e with aK:=bl s 1}else e)=e:=fun e he=>Qs (h.hv e he).2.2.2
 have hmap:m.aB.map (fun e=>if e.ar=m.ar then{e with aK:=bl s 1}else e)=m.aB:=by
  rw[List.map_congr_left hf];simp
 have hown:fp {m with aK:=s}={fp m with aK:=bl s 1}:=by
  unfold fp bU ez;split
  ·rfl
  ·split<;>rfl
 unfold aO;split
 ·exact hmap.symm
 ·rw[hown];have hn:(fp m).ar=m.ar:=il m
  suffices key:∀l:List ai,(∀e∈l,(if e.ar=m.ar then{e with aK:=bl s 1}else e)=e)->BU {fp m with aK:=bl s 1} l=(BU (fp m) l).map (fun e=>if e.ar=m.ar then{e with aK:=bl s 1}else e)from key _ hf
  intro l
  induction l with
  |nil=>
   intro _;simp only[BU,QD,QO,hn,Qt]
  |cons x l ih=>
   intro hx;unfold BU;simp only;split
   ·rw[QD,QD,hn,Qr rfl,hx x Qx,List.map_congr_left (fun e he=>hx e (Qy _ he))]
    simp
   ·rw[QD,hx x Qx,ih fun e he=>hx e (Qy _ he)]
theorem HJ{m:ab}(h:aW m){s:Int}(hs:0<=s/\s<=1000000):aW {m with aK:=s}:=by
 refine⟨h.n0,h.n1,h.bS,hs,h.aY,h.qB,h.hv,h.nq,?_⟩;rcases h.body with k|k|k|k
 ·exact .inl ⟨k.aE,k.aF,k.cQ,k.bG,k.dz,k.low,k.bP⟩
 ·exact .inr (.inl ⟨k.aE,k.aF,k.cQ,k.bG,k.dz,k.up,k.bP,k.low⟩)
 ·exact .inr (.inr (.inl ⟨k.aE,k.aF,k.cQ,k.bG,k.dz,k.range⟩))
 ·exact .inr (.inr (.inr ⟨k.aE,k.aF,k.cQ,k.bG,k.dz,k.range⟩))
theorem lH{m:ab}(h:aW m){s:Int}(hs:0<=s/\s<=1000000):Alike (aO m) (aO {m with aK:=s}):=by
 rw[Lt h s];refine Rf h.ev.mN.1 h.ev.mN.2 _ fun e he=> ?_
 split
 ·rename_i hn;refine⟨rfl,?_⟩;rw[h.iq e he];have hv:=h.iq e he
  have hm:{e with aK:=bl s 1}∈aO {m with aK:=s}:=by
   rw[Lt h s];exact QP.2 ⟨e,he,Qr hn⟩
  exact(HJ h hs).iq _ hm
 ·exact⟨rfl,rfl⟩
theorem Uk(m:ab)(s:Int)(b:af):sO {m with aK:=s} b={sO m b with aK:=s}:=by
 unfold sO
 by_cases h:a8 m.aa b=true
 ·simp only[Qr h]
 ·simp only[Qs h]
theorem OP(m:ab)(s:Int)(b:af):kS {m with aK:=s} b={kS m b with aK:=s}:=by
 unfold kS
 by_cases h:m.aN=0/\bw m.aa b=true/\kc b.Value m.aa.aj m.al m.aw<=b.aj
 ·simp only[Qr h]
 ·simp only[Qs h]
section
variable {m : ab} (h : aW m) {s : Int} (hs : 0 <= s /\ s <= 1000000)
 include h hs
theorem T5:dj {m with aK:=s}=dj m:=((lH h hs).next h.ev.az.2 m.ae _ _ _).symm
theorem Ui:gY {m with aK:=s}=gY m:=((lH h hs).bP h.ev.az.2 m.ae _).symm
theorem Il:eB {m with aK:=s}=eB m:=((lH h hs).ready h.ev.az.2 m.ae).symm
theorem Rx:yX {m with aK:=s}=yX m:=((lH h hs).sure h.ev.az.2 m.ae).symm
theorem Uu:dQ {m with aK:=s}=dQ m:=by
 unfold dQ;rw[Il h hs];simp only;rw[<-(lH h hs).Cg,<-(lH h hs).first]
theorem Ux:dt {m with aK:=s}=dt m:=by
 unfold dt;rw[Il h hs];simp only;rw[<-(lH h hs).gk]
theorem Uw:jM {m with aK:=s}=jM m:=by
 unfold jM;rw[Rx h hs];simp only;rw[<-(lH h hs).gk]
theorem I5(n:Int):gM {m with aK:=s} n=gM m n:=by
 unfold gM;simp only;rw[<-(lH h hs).view _ h.ev.az.2];rfl
theorem UP:eV {m with aK:=s}=eV m:=by
 unfold eV;simp only;congr 1
 funext b e
 unfold jB;simp only[I5 h hs]
theorem Pe:bR {m with aK:=s}={bR m with aK:=s}:=by
 unfold bR;simp only[T5 h hs];split<;>rfl
theorem Pc:fL {m with aK:=s}={fL m with aK:=s}:=by
 unfold fL;simp only[Ui h hs];split
 ·rfl
 ·rw[Uk,OP]
theorem Pk:dC {m with aK:=s}={dC m with aK:=s}:=by
 unfold dC;simp only[Uu h hs,Ux h hs];split
 ·split<;>rfl
 ·split<;>rfl
theorem Ph:gR {m with aK:=s}={gR m with aK:=s}:=by
 unfold gR;simp only[Uw h hs];split<;>rfl
theorem Pg:dL {m with aK:=s}={dL m with aK:=s}:=by
 unfold dL;simp only[I5 h hs,UP h hs];split<;>rfl
end
open Classical in
 def cn(m:ab):ab:=
 if bR m=m then(if fL m=m then(if dC m=m then(if gR m=m then dL m else gR m)else dC m)else fL m)else bR m
structure OI (m:ab):Prop where
 p:bR m=m
 s:fL m=m
 c:dC m=m
 f:gR m=m
 k:dL m=m
theorem Ry{m:ab}(h:cn m=m):OI m:=by
 unfold cn at h;split at h
 ·split at h
  ·split at h
   ·split at h
    ·exact⟨by assumption,by assumption,by assumption,by assumption,h⟩
    ·contradiction
   ·contradiction
  ·contradiction
 ·contradiction
theorem R4{m:ab}(h:OI m):cn m=m:=by
 unfold cn;rw[Qr h.p,Qr h.s,Qr h.c,Qr h.f,h.k]
theorem qw{m:ab}{Q:ab->Prop}(h1:Q (bR m))(h2:Q (fL m))(h3:Q (dC m))(h4:Q (gR m))(h5:Q (dL m)):Q (cn m):=by
 unfold cn;split
 ·split
  ·split
   ·split
    ·exact h5
    ·exact h4
   ·exact h3
  ·exact h2
 ·exact h1
theorem AV{m:ab}(h:aW m):aW (cn m):=qw (Iu h) (Is h) (Ix h) (Iw h) (Iv h)
theorem ra(m:ab):fg m (cn m):=qw (ri m) (oh m) (mO m) (rj m) (w6 m)
theorem Rz{m:ab}(h:aW m):cn m=m\/iC m<iC (cn m):=qw (Q:=fun x=>x=m\/iC m<iC x) (XD h) (XC h) (XG h) (XF h) (XE h)
theorem RQ(m:ab):(bR m).aa=m.aa:=by unfold bR;split<;>rfl
theorem JU{m:ab}(h:aW m)(hz:aD m.aa=false):aD (cn m).aa=false:=by
 have hb:P1 m\/P2 m\/P3 m:=h.body.resolve_left fun k=>by rw[k.aF,br]at hz;cases hz
 refine qw (Q:=fun x=>aD x.aa=false) (by rw[RQ];exact hz) ?_ ?_ ?_ ?_
 ·rcases hb with k|k|k
  ·exact(CD h k).1.aF.nz
  ·rw[kE (.inl (by rw[k.aE];decide))];exact hz
  ·rw[kE (.inl (by rw[k.aE];decide))];exact hz
 ·unfold dC;rcases hb with k|k|k
  ·rw[Qr k.aE];split
   ·rename_i hk;have hf:=BW h hk;exact(B9 (.inr k.aF) k.cQ hf.fin hf.Px hf.le).aF.nz
   ·exact hz
  ·rw[Qs (by rw[k.aE];decide),Qr k.aE]
   obtain⟨g1,g2,g3,_⟩:=KZ h k;exact(N9 k g1 g2 g3).aF.nz
  ·rw[Qs (by rw[k.aE];decide),Qs (by rw[k.aE];decide)];exact hz
 ·unfold gR;split
  ·rename_i hc;rcases hb with k|k|k
   ·have:=k.aE;have:=hc.1;omega
   ·exact(MB h k hc.2).aF.nz
   ·have:=k.aE;have:=hc.1;omega
  ·exact hz
 ·cases ha:gM m m.aa.aj with
  |false=>
   have:dL m=m:=Qr (.inr ha);rw[this];exact hz
  |true=>
   rcases hb with k|k|k
   ·exact(Hv h (.inr k) ha).aF.nz
   ·exact(MA h k).aF.nz
   ·have:dL m=m:=Qr (.inl k.aE);rw[this];exact hz
def c9(m:ab):ab:=if aD m.aa=false then{m with aK:=bl m.aK 1}else m
theorem T6{m:ab}(h:aW m):0<=bl m.aK 1/\bl m.aK 1<=1000000:=by
 have:=h.seq;unfold bl;split<;>omega
theorem Ku{m:ab}(h:aW m):aW (c9 m):=by
 unfold c9;split
 ·exact HJ h (T6 h)
 ·exact h
theorem MF{m:ab}(h:aD m.aa=true->m.aK=0):fU (c9 m):=by
 unfold c9;split
 ·rename_i hz;exact⟨fun e=>(by rw[show({m with aK:=bl m.aK 1}:ab).aa=m.aa from rfl,hz]at e;cases e),fun _=>by show 1<=bl m.aK 1;unfold bl;split<;>omega⟩
 ·rename_i hz;exact⟨h,fun e=>absurd e hz⟩
theorem T7{m:ab}(hs:fU m):c9 m=m:=by
 unfold c9;split
 ·rename_i hz;have:=hs.pos hz;have e:bl m.aK 1=m.aK:=by unfold bl;split<;>omega
  rw[e]
 ·rfl
theorem RF(m:ab):iC (c9 m)=iC m:=by
 unfold c9;split<;>rfl
theorem Kt{m:ab}(h:0<=m.aK):cy ⟨m⟩=some ((),⟨c9 m⟩):=by
 unfold cy c9;simp only[ab.eta,aq.eta,ax.eta,bZ,Qa]
 cases hz:aD m.aa with
 |true=>rfl
 |false=>
  simp only[Qp,Qk,Qa,Qt]
  by_cases hs:m.aK=0
  ·have e:bl m.aK 1=1:=by unfold bl;split<;>omega
   rw[Qg hs,e];rfl
  ·have e:bl m.aK 1=m.aK:=by unfold bl;split<;>omega
   rw[Qh hs,e];rfl
theorem qa{m m':ab}(he:fg m m'):
  (decide (m'.aA=m.aA)&&(decide (m'.aN=m.aN)&&(decide (m'.bc=m.bc)&&(decide (m'.aa.aj=m.aa.aj)&&(decide (m'.aa.Value=m.aa.Value)&&(decide (m'.al.aj=m.al.aj)&&(decide (m'.al.Value=m.al.Value)&&(decide (m'.aw.aj=m.aw.aj)&&(decide (m'.aw.Value=m.aw.Value)&&(decide (m'.au.aj=m.au.aj)&&(decide (m'.au.Value=m.au.Value)&&true)))))))))))=true↔m'=m:=by
 simp only[Qm,Qi];constructor
 ·rintro⟨h1,h2,h3,h4,h5,h6,h7,h8,h9,h10,h11,_⟩;exact qD he h1 (kg h4 h5) (kg h6 h7) (kg h8 h9) (kg h10 h11) h2 h3
 ·rintro rfl;simp
open Classical in
theorem U8{m:ab}(h:aW m)(hs:fU m):jH ⟨m⟩=some (if cn m=m then(false,⟨m⟩)else(true,⟨c9 (cn m)⟩)):=by
 have hnum:∀{x:ab},aW x->cy ⟨x⟩=some ((),⟨c9 x⟩):=fun hx=>Kt hx.seq.1
 unfold jH;simp only[ab.eta,aq.eta,ax.eta,ec,Qa,NH h hs]
 by_cases hP:bR m=m
 ·simp only[(qa (ri m)).2 hP,Bool.xor_true,Qo,Ql,show xor true true=false from rfl]
  rw[hP,U7 h hs];simp only[Qa]
  by_cases hS:fL m=m
  ·simp only[(qa (oh m)).2 hS,Ql,show xor true true=false from rfl]
   rw[hS,P7 h hs];simp only[Qa]
   by_cases hC:dC m=m
   ·simp only[(qa (mO m)).2 hC,Ql,show xor true true=false from rfl]
    rw[hC,Sc h hs];simp only[Qa]
    by_cases hF:gR m=m
    ·simp only[(qa (rj m)).2 hF,Ql,show xor true true=false from rfl]
     rw[hF,R3 h hs];simp only[Qa];have e:cn m=dL m:=by unfold cn;rw[Qr hP,Qr hS,Qr hC,Qr hF]
     rw[e]
     by_cases hK:dL m=m
     ·simp only[(qa (w6 m)).2 hK,Ql,show xor true true=false from rfl]
      rw[Qr hK,hK]
     ·have hb:=mt (qa (w6 m)).1 hK;rw[QX]at hb;simp only[hb,Qk,show xor true false=true from rfl]
      rw[hnum (Iv h),Qs hK];rfl
    ·have e:cn m=gR m:=by unfold cn;rw[Qr hP,Qr hS,Qr hC,Qs hF]
     have hb:=mt (qa (rj m)).1 hF;rw[QX]at hb;simp only[hb,Qk,show xor true false=true from rfl]
     rw[hnum (Iw h),e,Qs hF];rfl
   ·have e:cn m=dC m:=by unfold cn;rw[Qr hP,Qr hS,Qs hC]
    have hb:=mt (qa (mO m)).1 hC;rw[QX]at hb;simp only[hb,Qk,show xor true false=true from rfl]
    rw[hnum (Ix h),e,Qs hC];rfl
  ·have e:cn m=fL m:=by unfold cn;rw[Qr hP,Qs hS]
   have hb:=mt (qa (oh m)).1 hS;rw[QX]at hb;simp only[hb,Qk,show xor true false=true from rfl]
   rw[hnum (Is h),e,Qs hS];rfl
 ·have e:cn m=bR m:=by unfold cn;rw[Qs hP]
  have hb:=mt (qa (ri m)).1 hP;rw[QX]at hb;simp only[hb,Qk,show xor true false=true from rfl]
  rw[hnum (Iu h),e,Qs hP];rfl
structure Ak (R:ab->Prop) (m m':ab):Prop where
 inv:aW m'
 seq:fU m'
 env:m'.ar=m.ar/\m'.bs=m.bs/\m'.ae=m.ae/\m'.bj=m.bj/\m'.aB=m.aB
 num:m'.aK=m.aK\/(m.aK=0/\m'.aK=1)
 nz:aD m.aa=false->aD m'.aa=false
 rel:R m'
 fix:OI m'
theorem Rh{R:ab->Prop}(hR1:∀m,aW m->R m->R (cn m))(hR2:∀m,R m->R (c9 m)){m:ab}(h:aW m)(hs:aD m.aa=true->m.aK=0)(hr:R m):Yd (dM ⟨m⟩) fun q=>∃m',q=((),⟨m'⟩)/\Ak R m m':=by
 unfold dM;simp only[ab.eta,aq.eta,ax.eta,Kt h.seq.1,Qa]
 have num1:∀{x:ab},aW x->(c9 x).aK=x.aK\/(x.aK=0/\(c9 x).aK=1):=fun{x} hx=>by
  have:=hx.seq;unfold c9;split
  ·show bl x.aK 1=x.aK\/(x.aK=0/\bl x.aK 1=1);unfold bl;split<;>omega
  ·exact .inl rfl
 have env1:∀x:ab,(c9 x).ar=x.ar/\(c9 x).bs=x.bs/\(c9 x).ae=x.ae/\(c9 x).bj=x.bj/\(c9 x).aB=x.aB/\(c9 x).aa=x.aa:=fun x=>by
  unfold c9;split<;>exact⟨rfl,rfl,rfl,rfl,rfl,rfl⟩
 refine Yd.down (fun s=>∃x,s=((⟨x⟩:ax),())/\aW x/\fU x/\R x/\(x.ar=m.ar/\x.bs=m.bs/\x.ae=m.ae/\x.bj=m.bj/\x.aB=m.aB)/\(x.aK=m.aK\/(m.aK=0/\x.aK=1))/\(aD m.aa=false->aD x.aa=false)) (fun s=>K1+K2 - iC s.1.ak) ?_ ⟨c9 m,rfl,Ku h,MF hs,hR2 _ hr,⟨(env1 m).1,(env1 m).2.1,(env1 m).2.2.1,(env1 m).2.2.2.1,(env1 m).2.2.2.2.1⟩,num1 h,fun hz=>by rw[(env1 m).2.2.2.2.2];exact hz⟩
 rintro s ⟨x,rfl,hx,hsx,hrx,hex,hnx,hzx⟩;simp only[U8 hx hsx,Qa]
 by_cases hst:cn x=x
 ·rw[Qr hst];exact .some ⟨x,rfl,⟨hx,hsx,hex,hnx,hzx,hrx,Ry hst⟩⟩
 ·rw[Qs hst];have hi:=AV hx;have hv:=ra x;have hup:=(Rz hx).resolve_left hst;refine .some ⟨⟨c9 (cn x),rfl,Ku hi,MF ?_,hR2 _ (hR1 _ hx hrx),?_,?_,?_⟩,?_⟩
  ·intro hz;rw[hv.seq];refine hsx.zero ?_
   cases hzz:aD x.aa with
   |true=>rfl
   |false=>rw[JU hx hzz]at hz;cases hz
  ·obtain⟨e1,e2,e3,e4,e5,_⟩:=env1 (cn x);exact⟨e1.trans (hv.az.trans hex.1),e2.trans (hv.bS.trans hex.2.1),e3.trans (hv.aY.trans hex.2.2.1),e4.trans (hv.qB.trans hex.2.2.2.1),e5.trans (hv.heard.trans hex.2.2.2.2)⟩
  ·have h1:=num1 hi;rw[hv.seq]at h1;rcases h1 with e|⟨e1,e2⟩
   ·rw[e];exact hnx
   ·right;rcases hnx with e3|⟨_,e3⟩
    ·exact⟨by rw[<-e3];exact e1,e2⟩
    ·omega
  ·intro hz;rw[(env1 (cn x)).2.2.2.2.2];exact JU hx (hzx hz)
  ·have h1:=TL hi;show K1+K2 - iC (c9 (cn x))<K1+K2 - iC x;rw[RF];omega
end Go.Proofs.YtkgenianmdfmdaaGreat
namespace Go.Proofs.YtkgenianmdfmdaaGreat
open Go.TQ
theorem VO{α:Type}{s t:List α}(hl:s.length=t.length)(hn:s.length<=1000000){step:Int×Unit->Option ((Int×Unit)⊕Bool)}
  (h1:∀(i:Nat) (h:i<s.length) (h':i<t.length),decide ((i:Int)<((s.length:Nat):Int))=true->idx s (i:Int)=some s[i]->idx t (i:Int)=some t[i]->aJ .i64 (i:Int) 1=((i+1:Nat):Int)->∃b:Bool,step ((i:Int),())=some (bif b then .inl (((i+1:Nat):Int),())else .inr false)/\(b=true↔s[i]=t[i]))
  (h2:decide (((s.length:Nat):Int)<((s.length:Nat):Int))=false->step (((s.length:Nat):Int),())=some (.inr true)):∃b,aI step (0,())=some b/\(b=true↔s=t):=by
 suffices key:∀(k i:Nat),i+k=s.length->∃b,aI step ((i:Int),())=some b/\(b=true↔s.drop i=t.drop i)from by simpa using key s.length 0 (by omega)
 intro k
 induction k with
 |zero=>
  intro i hi;obtain rfl:i=s.length:=by omega
  refine⟨true,cd (h2 (Qh (Int.lt_irrefl _))),?_⟩;rw[List.drop_eq_nil_of_le (by omega),List.drop_eq_nil_of_le (by omega)]
  simp
 |succ k ih=>
  intro i hi;have hi':i<s.length:=by omega
  have hi'':i<t.length:=by omega
  obtain⟨b,h3,h4⟩:=h1 i hi' hi'' (Qg (by omega)) (by rw[bK];exact Qv hi') (by rw[bK];exact Qv hi'') (cj (by omega) (by omega))
  rw[QM hi',QM hi'',List.cons.injEq]
  cases b with
  |false=>
   refine⟨false,cd h3,?_⟩;simp only[Qq,false_iff]at h4 ⊢;exact fun h=>h4 h.1
  |true=>
   obtain⟨b,h5,h6⟩:=ih (i+1) (by omega)
   refine⟨b,(bq h3).trans h5,?_⟩;rw[h6];exact⟨fun h=>⟨h4.1 rfl,h⟩,fun h=>h.2⟩
theorem PB{α:Type}{s t:List α}(h:s.length≠t.length):(false=true↔s=t):=by
 simp only[Qq,false_iff];exact fun h1=>h (by rw[h1])
 def Tn(a0:List Int)(a1:List Int):Option Bool:=
 bif (!decide (((List.length a0:Nat):Int)=((List.length a1:Nat):Int)))then
 some false
 else
 aI (fun(v1:Int×Unit)=>
 bif (decide (v1.1<((List.length a0:Nat):Int)))then
 Option.bind (idx a0 v1.1) fun x2=>
 Option.bind (idx a1 v1.1) fun x3=>
 bif (!decide (x2=x3))then
 Option.map Sum.inr (some false)
 else
 some (Sum.inl ((aJ .i64 v1.1 (1:Int)),()))
 else
 Option.map Sum.inr (some true)) ((0:Int),())
theorem Wo(s t:List Int)(h:s.length<=1000000):∃b,Tn s t=some b/\(b=true↔s=t):=by
 unfold Tn
 by_cases hl:s.length=t.length
 ·rw[Qg (by omega:((s.length:Nat):Int)=((t.length:Nat):Int)),Qo,Ql]
  refine VO hl h (fun i hi hi' hd hx hy hw=> ?_) (fun hd=> ?_)
  ·refine⟨decide (s[i]=t[i]),?_,by simp⟩
   simp only[hd,hx,hy,hw,Qk,Qa];cases decide (s[i]=t[i])<;>rfl
  ·simp only[hd,Ql];rfl
 ·rw[Qh (by omega:¬((s.length:Nat):Int)=((t.length:Nat):Int)),Qp,Qk]
  exact⟨false,rfl,PB hl⟩
theorem Wp(s t:List Int)(h:s.length<=1000000):∃b,lV s t=some b/\(b=true↔s=t):=Wo s t h
theorem OZ(a b:aq):a=b↔a.aZ=b.aZ/\a.bu=b.bu/\a.aS=b.aS:=by
 cases a;cases b;simp
theorem WY{n:Nat}:∀{a b:aq},SizeOf.sizeOf a<n->fb a->∃r,qS n (a,b,())=some r/\(r=true↔a=b):=by
 induction n with
 |zero=>intro a b h;omega
 |succ n ih=>
  intro a b hs hm;show∃r,np (qS n) a b=some r/\(r=true↔a=b);have hl:=hm.len;have hns:=hm.nodes;obtain⟨r,h1,h2⟩:=Wp a.bu b.bu hns;rw[OZ];unfold np
  by_cases ht:a.aZ=b.aZ
  ·rw[Qg ht];simp only[Qk,h1,Qa]
   cases r with
   |false=>
    simp only[Ql,Qa];refine⟨false,rfl,?_⟩;simp only[Qq,false_iff]at h2 ⊢;exact fun h=>h2 h.2.1
   |true=>
    simp only[Qk,Qa]
    have key:∀o:Option Bool,(∃r,o=some r/\(r=true↔a.aS=b.aS))->∃r,(Option.bind (Option.bind o fun r3=>some r3) fun b4=>some b4)=some r/\(r=true↔a.aZ=b.aZ/\a.bu=b.bu/\a.aS=b.aS):=by
     rintro o ⟨r,rfl,h4⟩;exact⟨r,rfl,by rw[h4];exact⟨fun h=>⟨ht,h2.1 rfl,h⟩,fun h=>h.2.2⟩⟩
    refine key _ ?_;unfold cz
    by_cases hi:a.aS.length=b.aS.length
    ·rw[Qg (by omega:((a.aS.length:Nat):Int)=((b.aS.length:Nat):Int)),Qo,Ql]
     refine VO hi hl (fun i hi hi' hd hx hy hw=> ?_) (fun hd=> ?_)
     ·have hu:=Q0 hi;obtain⟨r,h3,h4⟩:=ih (a:=a.aS[i]) (b:=b.aS[i]) (by have:=tf hu;omega) (hm.inner _ hu)
      refine⟨r,?_,h4⟩;simp only[hd,hx,hy,hw,Qk,Qa,aq.eta,h3];cases r<;>rfl
     ·simp only[hd,Ql];rfl
    ·rw[Qh (by omega:¬((a.aS.length:Nat):Int)=((b.aS.length:Nat):Int)),Qp,Qk]
     exact⟨false,rfl,PB hi⟩
  ·rw[Qh ht];refine⟨false,rfl,?_⟩;simp only[Qq,false_iff];exact fun h=>ht h.1
theorem Ya{a b:aq}(h:fb a):∃r,qU a b=some r/\(r=true↔a=b):=WY (by omega) h
theorem Uy(a b:Int)(s t:ByteArray):kV false a b s t=(decide (a=b)&&decide (s=t)):=by
 simp
theorem Oz(a b:af):a=b↔a.aj=b.aj/\a.Value=b.Value:=by
 cases a;cases b;simp
theorem MT(a b:ai):a=b↔a.ar=b.ar/\a.bs=b.bs/\a.aK=b.aK/\a.ae=b.ae/\a.bQ=b.bQ/\a.aa=b.aa/\a.al=b.al/\a.aw=b.aw/\a.aN=b.aN/\a.bc=b.bc:=by
 cases a;cases b;simp
theorem UN(a b:Bool):(bif a then some b else some false)=some (a&&b):=by cases a<;>rfl
end Go.Proofs.YtkgenianmdfmdaaGreat
namespace Go.Proofs.YtkgenianmdfmdaaGreat
open Go.TQ
theorem NY{m:ab}(h:aW m){ρ:Type}{step:Int×Unit->Option ((Int×Unit)⊕ρ)}{fin:Option ρ}
  (h1:∀(i:Nat) (e:ai),e∈m.aB->decide ((i:Int)<((m.aB.length:Nat):Int))=true->idx m.aB (i:Int)=some e->aJ .i64 (i:Int) 1=((i+1:Nat):Int)->
   (i=0\/(decide ((0:Int)<(i:Int))=true/\∃x,idx m.aB (gJ .i64 (i:Int) 1)=some x/\decide (e.ar<=x.ar)=false))->step ((i:Int),())=some (.inl (((i+1:Nat):Int),())))
  (h2:decide (((m.aB.length:Nat):Int)<((m.aB.length:Nat):Int))=false->step (((m.aB.length:Nat):Int),())=Option.map Sum.inr fin):aI step (0,())=fin:=by
 have hl:=h.len;refine Ik m.aB.length (by omega) (fun i hi hd hw=> ?_) h2
 have hx:idx m.aB (i:Int)=some m.aB[i]:=by rw[bK];exact Qv hi
 refine h1 i m.aB[i] (Q0 hi) hd hx hw ?_
 cases i with
 |zero=>exact .inl rfl
 |succ i=>
  refine .inr ⟨Qg (by omega),m.aB[i],?_,?_⟩
  ·have:gJ .i64 ((i+1:Nat):Int) 1=(i:Int):=by rw[Cu (by omega) (by omega)];omega
   rw[this,bK];exact Qv (by omega)
  ·have:=List.pairwise_iff_getElem.1 h.nq i (i+1) (by omega) hi (by omega)
   exact Qh (by omega)
theorem Uj{m:ab}(h:aW m):nY m=some true:=by
 unfold nY;refine NY h (fun i e he hd hx hw hi=> ?_) (fun hd=>by simp only[hd,Ql])
 obtain⟨g1,g2,g3,g4⟩:=h.hv e he;simp only[hd,hx,hw,Qk,Qa,bB,aq.eta,ai.eta,lS g2.sm,g1,Qo,Ql,Qg g3,Qh g4];rcases hi with rfl|⟨hi,x,hx2,hn⟩
 ·rfl
 ·rw[hi,hx2];simp only[Qk,Qa,hn,Ql]
theorem MD{m:ab}(h:aW m)(hs:fU m)(hz:aD m.aa=false):ba (bU m)=true:=by
 rw[<-MC hs hz];exact Iz h hz
theorem T8:kV false bm.aj (0:Int) bm.Value (ByteArray.mk #[])=true:=by decide
theorem vq{m:ab}(h:aW m)(hs:fU m):gE m=some true:=by
 have d1:decide (m.ar<0)=false:=Qh (by have:=h.n0;omega)
 have d2:decide ((10:Int)<=m.ar)=false:=Qh (by have:=h.n1;omega)
 have d3:decide (m.bs<1)=false:=Qh (by have:=h.bS;omega)
 have d4:decide ((1000000:Int)<m.bs)=false:=Qh (by have:=h.bS;omega)
 have d5:decide (m.aK<0)=false:=Qh (by have:=h.seq;omega)
 have d6:decide ((1000000:Int)<m.aK)=false:=Qh (by have:=h.seq;omega)
 have d7:decide ((200:Int)<((m.bj.size:Nat):Int))=false:=Qh (by have:=h.qB;omega)
 have hm:fb (bU m).ae:=by rw[sA];exact h.aY.sm
 unfold gE;simp only[d1,d2,d3,d4,d5,d6,d7,Ql,Qa,aq.eta,ab.eta,ai.eta,lU h.aY,decide_true,Qo,Uj h,bZ,tP,yt h,lS hm]
 cases hz:aD m.aa with
 |true=>
  have h0:P0 m:=by
   rcases h.body with k|k|k|k
   ·exact k
   ·rw[k.aF.nz]at hz;cases hz
   ·rw[k.aF.nz]at hz;cases hz
   ·rw[k.aF.nz]at hz;cases hz
  unfold sE;simp only[h0.aE,hs.zero hz,h0.cQ,h0.bG,h0.dz,h0.low,h0.bP,T8,decide_true,Qk,Qa]
 |false=>
  have hv:=MD h hs hz;simp only[hv,Ql,Qk]
  have hconf:kT m=some true:=by
   unfold kT;simp only[bZ,uk,mJ,dV,Qa]
   have fin:∀(hf:bX m.au) (hp:(dG m.al m.aw m.au||(!decide (m.aA=1)&&bw m.au m.aa))=true),_:=fun hf hp=>(show(bif aD m.au then some true else
     (bif !cF m.au then some true else some (decide (1000<m.au.aj))).bind fun b3=>bif b3 then some false else
     (bif dG m.al m.aw m.au then some true else(bif !decide (m.aA=1)then some (bw m.au m.aa)else some false).bind fun b6=>some b6).bind fun b7=>some b7)=some true by
    rw[hf.nz,hf.valid,Qh (show¬1000<m.au.aj by have:=hf.2.1;omega)]
    revert hp
    cases dG m.al m.aw m.au<;>cases decide (m.aA=1)<;>cases bw m.au m.aa<;>simp)
   have nob:m.au=bm->(bif aD m.au then some true else
     (bif !cF m.au then some true else some (decide (1000<m.au.aj))).bind fun b3=>bif b3 then some false else
     (bif dG m.al m.aw m.au then some true else(bif !decide (m.aA=1)then some (bw m.au m.aa)else some false).bind fun b6=>some b6).bind fun b7=>some b7)=some true:=fun e=>by rw[e,br];rfl
   rcases h.body with k|k|k|k
   ·exact nob k.dz
   ·rcases k.dz with e|⟨hf,hp⟩
    ·exact nob e
    ·exact fin hf (by rw[hp];rfl)
   ·rcases k.dz with e|⟨hf,hp⟩
    ·exact nob e
    ·exact fin hf (by rw[fO.2 hp,Qh (show¬m.aA=1 by have:=k.aE;omega)];simp)
   ·exact nob k.dz
  rw[hconf];simp only[Qa,Qk];rcases h.body with k|k|k|k
  ·rw[k.aF,br]at hz;cases hz
  ·simp only[k.aE,k.bP,decide_true,Qo,Ql,Qa,Qp,Qk,show decide ((1:Int)=3)=false from rfl]
  ·simp only[k.aE,k.bG,br,show decide ((2:Int)=1)=false from rfl,show decide ((2:Int)=3)=false from rfl,Qo,Ql,Qa,Qp,Qk]
  ·simp only[k.aE,k.bG,k.cQ,br,show decide ((3:Int)=1)=false from rfl,decide_true,Qo,Ql,Qa,Qp,Qk]
end Go.Proofs.YtkgenianmdfmdaaGreat
namespace Go.Proofs.YtkgenianmdfmdaaGreat
open Go.TQ
theorem vQ(x:ab):(c9 x).ar=x.ar/\(c9 x).bs=x.bs/\(c9 x).ae=x.ae/\(c9 x).bj=x.bj/\(c9 x).aB=x.aB/\(c9 x).aa=x.aa:=by
 unfold c9;split<;>exact⟨rfl,rfl,rfl,rfl,rfl,rfl⟩
theorem RR{m m':ab}(he:fg m m')(h:¬m'=m):ll m m'=false:=by
 cases hs:ll m m' with
 |false=>rfl
 |true=>exact absurd (JY he hs) h
open Classical in
 def gU(m m2:ab):ab:=if aD m.aa=false/\{bU m with aK:=0}≠{bU m2 with aK:=0}then{m2 with aK:=dD (m2.aK+1) 1000000}else m2
theorem z7(m m2:ab):∃s,gU m m2={m2 with aK:=s}/\(s=m2.aK\/s=dD (m2.aK+1) 1000000):=by
 unfold gU;split
 ·exact⟨_,rfl,.inr rfl⟩
 ·exact⟨m2.aK,rfl,.inl rfl⟩
theorem DS{m m2:ab}(h:aW m2):∃s,gU m m2={m2 with aK:=s}/\m2.aK<=s/\0<=s/\s<=1000000:=by
 obtain⟨s,h1,h2⟩:=z7 m m2;have:=h.seq;refine⟨s,h1,?_⟩;rcases h2 with rfl|rfl
 ·omega
 ·unfold dD;split<;>omega
theorem E5{m m2:ab}(h:aW m2):aW (gU m m2):=by
 obtain⟨s,h1,h2⟩:=DS (m:=m) h;rw[h1];exact HJ h h2.2
theorem HW{m m2:ab}(h:aW m2)(hs:fU m2)(hnz:aD m.aa=false->aD m2.aa=false):fU (gU m m2):=by
 unfold gU;split
 ·rename_i hc;have:=hs.pos (hnz hc.1);refine⟨fun hz=> ?_,fun _=> ?_⟩
  ·rw[show({m2 with aK:=dD (m2.aK+1) 1000000}:ab).aa=m2.aa from rfl,hnz hc.1]at hz
   cases hz
  ·show 1<=dD (m2.aK+1) 1000000;unfold dD;split<;>omega
 ·exact hs
def Tw(R:ab->Prop)(m m1:ab)(q:ab×Int×Unit):Prop:=∃m2,q=(gU m m2,(0:Int),())/\Ak R (c9 m1) m2
theorem UU{R:ab->Prop}{m1 m2:ab}(h1:aW m1)(h:Ak R m1 m2):Ak R (c9 m1) m2:=by
 obtain⟨e1,e2,e3,e4,e5,e6⟩:=vQ m1;refine⟨h.inv,h.seq,?_,?_,fun hz=>h.nz (by rw[e6]at hz;exact hz),h.rel,h.fix⟩
 ·obtain⟨a1,a2,a3,a4,a5⟩:=h.env;exact⟨a1.trans e1.symm,a2.trans e2.symm,a3.trans e3.symm,a4.trans e4.symm,a5.trans e5.symm⟩
 ·have hn:=h.num;have hq:=h1.seq
  cases hz:aD m1.aa with
  |true=>
   have:c9 m1=m1:=Qs (by rw[hz];decide)
   rw[this];exact hn
  |false=>
   have h3:=h.seq.pos (h.nz hz);have:(c9 m1).aK=bl m1.aK 1:=by unfold c9;rw[Qr hz]
   rw[this];left;unfold bl;split<;>omega
theorem Ve(a b:ai)(h:fb a.ae)(hn:a.ar=b.ar)(hs:a.bs=b.bs):∃r,jc a b=some r/\(r=true↔{a with aK:=0}={b with aK:=0}):=by
 obtain⟨r,h1,h2⟩:=Ya (a:=a.ae) (b:=b.ae) h;refine⟨r&&decide (a.bQ=b.bQ)&&decide (a.aa=b.aa)&&decide (a.al=b.al)&&decide (a.aw=b.aw)&&decide (a.aN=b.aN)&&decide (a.bc=b.bc),?_,?_⟩
 ·unfold jc;simp only[aq.eta,h1,Qa,UN,Uy,<-Bool.decide_and,<-Oz,Qa]
 ·rw[MT];simp only[Qm,Qi,hn,hs,h2,true_and];simp only[and_assoc]
theorem wq{m:ab}(h:aW m):ib m=some m:=by
 unfold ib;simp only[aq.eta,rB h.aY.sm,Qa];rw[Rp (fun e he=>(h.hv e he).2.1.sm) (by have:=h.len;omega)]
 rfl
theorem tN{l:List ai}{e:ai}(hv:ba e=true):
  (∃x∈l,x.ar=e.ar/\e.aK<=x.aK/\kb l e=(l,false,()))\/
  (∃a b,((∃x,l=a++x::b/\x.ar=e.ar/\x.aK<e.aK)\/(l=a++b/\(∀x∈l,x.ar≠e.ar)/\(∀x∈a,¬e.ar<x.ar)/\(∀x,b.head?=some x->e.ar<x.ar)))/\kb l e=(a++e::b,true,())):=by
 unfold kb;rw[Qr hv]
 cases hf:l.findIdx? (fun x=>decide (x.ar=e.ar))with
 |some i=>
  obtain⟨hi,h2,_⟩:=List.findIdx?_eq_some_iff_getElem.1 hf;have hx:l[i]?=some l[i]:=Qv hi;have h2:=of_decide_eq_true h2;simp only[hx,Q3]
  by_cases hle:e.aK<=l[i].aK
  ·left;rw[Qr hle];exact⟨l[i],Q0 hi,h2,hle,rfl⟩
  ·right;rw[Qs hle];refine⟨l.take i,l.drop (i+1),.inl ⟨l[i],?_,h2,by omega⟩,?_⟩
   ·rw[List.getElem_cons_drop];exact(List.take_append_drop i l).symm
   ·rw[List.set_eq_take_append_cons_drop,Qr hi]
 |none=>
  right
  have hne:∀x∈l,x.ar≠e.ar:=fun x hx he=>by
   have:=List.findIdx?_eq_none_iff.1 hf x hx;rw[he]at this;simp at this
  refine⟨l.take (Ch l e),l.drop (Ch l e),.inr ⟨(List.take_append_drop _ l).symm,hne,?_,?_⟩,by rw[QL];rfl⟩
  ·intro x hx hlt;obtain⟨j,hj,rfl⟩:=List.getElem_of_mem hx;rw[List.getElem_take]at hlt;rw[List.length_take]at hj;unfold Ch at hj
   cases hg:l.findIdx? (fun x=>decide (e.ar<x.ar))with
   |none=>
    have:=List.findIdx?_eq_none_iff.1 hg _ (Q0 (show j<l.length by omega))
    simp[hlt]at this
   |some k=>
    obtain⟨_,_,h3⟩:=List.findIdx?_eq_some_iff_getElem.1 hg;rw[hg,Q3]at hj;have:=h3 j (by omega)
    simp[hlt]at this
  ·intro x hx;rw[List.head?_drop]at hx;unfold Ch at hx
   cases hg:l.findIdx? (fun x=>decide (e.ar<x.ar))with
   |none=>rw[hg,Option.getD_none,List.getElem?_eq_none (QI _)]at hx;cases hx
   |some k=>
    obtain⟨hk,h2,_⟩:=List.findIdx?_eq_some_iff_getElem.1 hg;rw[hg,Q3,Qv hk]at hx;obtain rfl:=Option.some.inj hx;exact of_decide_eq_true h2
theorem yn{l:List ai}{e:ai}{y:ai}(hy:y∈(kb l e).1):y=e\/y∈l:=by
 by_cases hv:ba e=true
 ·rcases tN (l:=l) hv with⟨x,_,_,_,h⟩|⟨a,b,h1,h⟩
  ·rw[h]at hy;exact .inr hy
  ·rw[h]at hy;rcases Qz.1 hy with hy|hy
   ·rcases h1 with⟨x,rfl,_⟩|⟨rfl,_⟩
    ·exact .inr (List.mem_append_left _ hy)
    ·exact .inr (List.mem_append_left _ hy)
   ·rcases QA.1 hy with hy|hy
    ·exact .inl hy
    ·rcases h1 with⟨x,rfl,_⟩|⟨rfl,_⟩
     ·exact .inr (List.mem_append_right _ (Qy _ hy))
     ·exact .inr (List.mem_append_right _ hy)
 ·unfold kb at hy;rw[Qs hv]at hy;exact .inr hy
theorem NF{l:List ai}{e:ai}(hl:l.Pairwise (fun a b=>a.ar<b.ar)):(kb l e).1.Pairwise (fun a b=>a.ar<b.ar):=by
 by_cases hv:ba e=true
 ·rcases tN (l:=l) hv with⟨x,_,_,_,h⟩|⟨a,b,h1,h⟩
  ·rw[h];exact hl
  ·rw[h];show(a++e::b).Pairwise _;rcases h1 with⟨x,rfl,hn,_⟩|⟨rfl,hne,ha,hb⟩
   ·rw[List.pairwise_append,Q4]at hl ⊢;obtain⟨g1,⟨g2,g3⟩,g4⟩:=hl;refine⟨g1,⟨fun y hy=> ?_,g3⟩,fun y hy z hz=> ?_⟩
    ·rw[<-hn];exact g2 y hy
    ·rcases QA.1 hz with rfl|hz
     ·rw[<-hn];exact g4 y hy x Qx
     ·exact g4 y hy z (Qy _ hz)
   ·rw[List.pairwise_append]at hl;rw[List.pairwise_append,Q4];obtain⟨g1,g3,g4⟩:=hl
    have hbe:∀y∈b,e.ar<y.ar:=by
     intro y hy
     cases b with
     |nil=>cases hy
     |cons z b=>
      have:=hb z rfl;rcases QA.1 hy with rfl|hy
      ·exact this
      ·have:=(Q4.1 g3).1 y hy;omega
    refine⟨g1,⟨hbe,g3⟩,fun y hy z hz=> ?_⟩
    rcases QA.1 hz with rfl|hz
    ·have h2:=ha y hy;have h3:=hne y (List.mem_append_left _ hy);omega
    ·exact g4 y hy z hz
 ·unfold kb;rw[Qs hv];exact hl
structure G0 (m:ab) (e:ai):Prop where
 valid:ba e=true
 aY:kh e.ae
 bS:e.bs=m.bs
 az:e.ar≠m.ar
 def mh(m:ab)(e:ai):ab:={m with aB:=(kb m.aB e).1}
theorem KM{m:ab}(h:aW m){e:ai}(he:G0 m e):aW (mh m e):=by
 refine⟨h.n0,h.n1,h.bS,h.seq,h.aY,h.qB,fun y hy=> ?_,NF h.nq,?_⟩
 ·rcases yn hy with rfl|hy
  ·exact⟨he.valid,he.aY,he.bS,he.az⟩
  ·exact h.hv y hy
 ·rcases h.body with k|k|k|k
  ·exact .inl ⟨k.aE,k.aF,k.cQ,k.bG,k.dz,k.low,k.bP⟩
  ·exact .inr (.inl ⟨k.aE,k.aF,k.cQ,k.bG,k.dz,k.up,k.bP,k.low⟩)
  ·exact .inr (.inr (.inl ⟨k.aE,k.aF,k.cQ,k.bG,k.dz,k.range⟩))
  ·exact .inr (.inr (.inr ⟨k.aE,k.aF,k.cQ,k.bG,k.dz,k.range⟩))
def dw(m:ab)(v:ByteArray):ab:=if aD m.aa=true then{m with bj:=v,aa:=⟨1,di {m with bj:=v}⟩}else{m with bj:=v}
theorem TI{v:ByteArray}(h:1<=v.size):v≠gC:=by
 rintro rfl;exact absurd h (by decide)
theorem JN{m:ab}(h:P0 m){v:ByteArray}(hv:1<=v.size):di {m with bj:=v}=v:=by
 unfold di;rw[Qs (by rw[show({m with bj:=v}:ab).au=m.au from rfl,h.dz,br];decide),Qs (by rw[show({m with bj:=v}:ab).aA=m.aA from rfl,h.aE];decide),Qr (TI hv)]
theorem Ep{m:ab}(h:aW m){v:ByteArray}(hv:1<=v.size/\v.size<=200):aW (dw m v):=by
 unfold dw;rcases h.body with k|k|k|k
 ·rw[Qr (by rw[k.aF];exact br),JN k hv.1]
  refine⟨h.n0,h.n1,h.bS,h.seq,h.aY,hv.2,h.hv,h.nq,.inr (.inl ⟨k.aE,⟨by show(1:Int)<=1;omega,by show(1:Int)<=1000;omega,hv.1,hv.2⟩,.inl k.cQ,.inl k.bG,.inl k.dz,?_,k.bP,.inl k.low⟩)⟩
  show a8 _ m.au=false;rw[k.dz]
  cases hl:a8 (⟨1,v⟩:af) bm with
  |false=>rfl
  |true=>have:=fT hl;exact absurd (show(1:Int)<=0 from this) (by decide)
 ·rw[Qs (by rw[k.aF.nz];decide)]
  exact⟨h.n0,h.n1,h.bS,h.seq,h.aY,hv.2,h.hv,h.nq,.inr (.inl ⟨k.aE,k.aF,k.cQ,k.bG,k.dz,k.up,k.bP,k.low⟩)⟩
 ·rw[Qs (by rw[k.aF.nz];decide)]
  exact⟨h.n0,h.n1,h.bS,h.seq,h.aY,hv.2,h.hv,h.nq,.inr (.inr (.inl ⟨k.aE,k.aF,k.cQ,k.bG,k.dz,k.range⟩))⟩
 ·rw[Qs (by rw[k.aF.nz];decide)]
  exact⟨h.n0,h.n1,h.bS,h.seq,h.aY,hv.2,h.hv,h.nq,.inr (.inr (.inr ⟨k.aE,k.aF,k.cQ,k.bG,k.dz,k.range⟩))⟩
def ka(m:ab):ab:={m with aN:=if di m=m.aa.Value then m.aN else 0,aa:=⟨m.aa.aj+1,di m⟩}
theorem Ru{m:ab}(h:aW m)(h3:m.aA≠3)(hv:di m≠gC):1<=(di m).size/\(di m).size<=200:=by
 have h1:m.aA=1->(m.au=bm\/bX m.au)->1<=(di m).size/\(di m).size<=200:=fun hp hc=>by
  refine Mo h hp hc ?_;refine Classical.byContradiction fun hn=>hv ?_
  simp only[not_or,Classical.not_not]at hn;obtain⟨a1,a2,a3⟩:=hn;unfold di;rw[Qs (by rw[a3,br];decide),Qs (by rw[hp];decide),Qs (by rw[a2];exact fun e=>e rfl),a1]
  rfl
 rcases h.body with k|k|k|k
 ·exact h1 k.aE (.inl k.dz)
 ·exact h1 k.aE (k.dz.imp_right And.left)
 ·unfold di;rcases k.dz with e|⟨hf,_⟩
  ·rw[Qs (by rw[e,br];decide),Qr (by rw[k.aE];decide)]
   exact k.aF.2.2
  ·rw[Qr hf.nz];exact hf.2.2
 ·exact absurd k.aE h3
theorem SP{m:ab}(k:P2 m):di m=m.aa.Value:=by
 unfold di;rcases k.dz with e|⟨hf,he⟩
 ·rw[Qs (by rw[e,br];decide),Qr (by rw[k.aE];decide)]
 ·rw[Qr hf.nz,he]
theorem Rw{m:ab}(h:aW m)(h3:m.aA≠3)(hv:di m≠gC)(hc:m.aa.aj<1000):aW (ka m):=by
 have hsz:=Ru h h3 hv;refine⟨h.n0,h.n1,h.bS,h.seq,h.aY,h.qB,h.hv,h.nq,?_⟩;have hfin:0<=m.aa.aj->bX (ka m).aa:=fun h0=>⟨by show 1<=m.aa.aj+1;omega,by show m.aa.aj+1<=1000;omega,hsz⟩
 rcases h.body with k|k|k|k
 ·have h0:m.aa.aj=0:=by rw[k.aF];rfl
  refine .inr (.inl ⟨k.aE,hfin (by omega),.inl k.cQ,.inl k.bG,.inl k.dz,?_,k.bP,.inl ?_⟩)
  ·show a8 (⟨m.aa.aj+1,di m⟩:af) m.au=false;rw[k.dz]
   cases hl:a8 (⟨m.aa.aj+1,di m⟩:af) bm with
   |false=>rfl
   |true=>have:=fT hl;exact absurd (show m.aa.aj+1<=0 from this) (by omega)
  ·show(if di m=m.aa.Value then m.aN else 0)=0
   rw[k.low,ite_self]
 ·have hb:=k.aF;have h0:0<=m.aa.aj:=by have:=hb.1;omega
  refine .inr (.inl ⟨k.aE,hfin h0,k.cQ,k.bG,k.dz,?_,k.bP,?_⟩)
  ·show a8 (⟨m.aa.aj+1,di m⟩:af) m.au=false
   cases hl:a8 (⟨m.aa.aj+1,di m⟩:af) m.au with
   |false=>rfl
   |true=>
    have h1:=fT hl;have h2:=Eu k.up;exact absurd (show m.aa.aj+1<=m.au.aj from h1) (by omega)
  ·show(if di m=m.aa.Value then m.aN else 0)=0\/_
   by_cases he:di m=m.aa.Value
   ·have hlow:(ka m).aN=m.aN:=by show(if di m=m.aa.Value then m.aN else 0)=m.aN;rw[Qr he]
    have hhigh:ez (ka m)=ez m:=by
     show(if(!aD m.au&&bw m.au ⟨m.aa.aj+1,di m⟩)=true then m.au.aj else 0)=ez m
     rw[he];rfl
    rw[Qr he,hlow,hhigh];rcases k.low with e|⟨g1,g2,g3⟩
    ·exact .inl e
    ·refine .inr ⟨g1,g2,?_⟩;show ma m.al m.aw (di m) m.aN=false;rw[he];exact g3
   ·rw[Qs he];exact .inl rfl
 ·have hb:=k.aF;have h0:0<=m.aa.aj:=by have:=hb.1;omega
  have hv2:=SP k;have hval:(ka m).aa.Value=m.aa.Value:=hv2;have hlow:(ka m).aN=m.aN:=by show(if di m=m.aa.Value then m.aN else 0)=m.aN;rw[Qr hv2]
  refine .inr (.inr (.inl ⟨k.aE,hfin h0,?_,k.bG,?_,?_⟩))
  ·rw[hval];exact k.cQ
  ·rw[hval];exact k.dz
  ·rw[hlow];exact k.range
 ·exact absurd k.aE h3
end Go.Proofs.YtkgenianmdfmdaaGreat
namespace Go.Proofs.YtkgenianmdfmdaaGreat
open Go.TQ
def V4:aq:=⟨0,[],[]⟩
def Jt:ab:=⟨0,0,0,V4,0,bm,bm,bm,bm,0,0,gC,[]⟩
theorem Vp{m m1:ab}(hs:fU m)(hb:aD m1.aa=aD m.aa)(hq:m1.aK=m.aK):c9 m1=m1:=by
 refine T7 ⟨fun hz=> ?_,fun hz=> ?_⟩
 ·rw[hq];exact hs.zero (by rw[<-hb];exact hz)
 ·rw[hq];exact hs.pos (by rw[<-hb];exact hz)
theorem sZ{m:ab}{v:ByteArray}:(aD m.aa=false->aD (dw m v).aa=false)/\(dw m v).aK=m.aK:=by
 unfold dw;split
 ·rename_i hz;refine⟨fun e=> ?_,rfl⟩
  rw[hz]at e;cases e
 ·exact⟨fun e=>e,rfl⟩
theorem Ki{m:ab}(h:aW m){v:ByteArray}(hv:1<=v.size/\v.size<=200):aD (dw m v).aa=false:=by
 rcases h.body with k|k|k|k
 ·unfold dw;rw[Qr (by rw[k.aF];exact br),JN k hv.1]
  exact bX.nz ⟨by show(1:Int)<=1;omega,by show(1:Int)<=1000;omega,hv.1,hv.2⟩
 ·exact sZ.1 k.aF.nz
 ·exact sZ.1 k.aF.nz
 ·exact sZ.1 k.aF.nz
theorem Ha{m:ab}(h:aW m):aD (ka m).aa=false:=by
 have:0<=m.aa.aj:=by
  rcases h.body with k|k|k|k
  ·rw[k.aF];decide
  ·have:=k.aF.1;omega
  ·have:=k.aF.1;omega
  ·have:=k.aF.1;omega
 cases hz:aD (ka m).aa with
 |false=>rfl
 |true=>
  have:=mM.1 hz;have h2:m.aa.aj+1=0:=congrArg af.aj this;omega
section
variable {R : ab -> Prop} (hR1 : ∀ m, aW m -> R m -> R (cn m)) (hR2 : ∀ m, R m -> R (c9 m)) {m : ab} (h : aW m) (hs : fU m)
 include hR1 hR2 h hs
end
def fq(az bS:Int)(t:aq):ab:=⟨az,bS,0,t,1,bm,bm,bm,bm,0,0,gC,[]⟩
theorem Vj{az bS:Int}{t:aq}(h0:0<=az)(h1:az<10)(h2:1<=bS)(h3:bS<=1000000)(ht:kh t):lj az bS t=some (fq az bS t,(0:Int),()):=by
 unfold lj;simp only[aq.eta,Qh (show¬az<0 by omega),Qh (show¬(10:Int)<=az by omega),Qh (show¬bS<1 by omega),Qh (show¬(1000000:Int)<bS by omega),Ql,Qa,lU ht,decide_true,Qo,rB ht.sm]
 rfl
theorem MH{az bS:Int}{t:aq}(h0:0<=az)(h1:az<10)(h2:1<=bS)(h3:bS<=1000000)(ht:kh t):aW (fq az bS t)/\fU (fq az bS t):=
 ⟨⟨h0,h1,⟨h2,h3⟩,⟨by show(0:Int)<=0;omega,by show(0:Int)<=1000000;omega⟩,ht,(by show gC.size<=200;decide),(fun e he=>absurd he QR),List.Pairwise.nil,.inl ⟨rfl,rfl,rfl,rfl,rfl,rfl,rfl⟩⟩,⟨fun _=>rfl,fun hz=>absurd (show aD bm=false from hz) (by rw[br];decide)⟩⟩
section
variable {R : ab -> Prop} (hR1 : ∀ m, aW m -> R m -> R (cn m)) (hR2 : ∀ m, R m -> R (c9 m)) {m : ab} (h : aW m) (hs : fU m)
 include hR1 hR2 h hs
theorem E3{m1:ab}(h1:aW m1)(hz1:aD m1.aa=true->m1.aK=0)(hnz:aD m.aa=false->aD m1.aa=false)(hn:m1.ar=m.ar)(hsl:m1.bs=m.bs)(hr:R m1):
  Yd (Option.bind (dM ⟨m1⟩) fun p4=>
   bL (fun(v5:ax×Unit)=>some (v5.1.ak,(0:Int),())) fun j6=>
   bL (fun(v7:Bool×Unit)=>
   bif v7.1 then
   j6 ((ax.mk (ab.mk p4.2.ak.ar p4.2.ak.bs (dD (aJ .i64 p4.2.ak.aK (1:Int)) (1000000:Int)) p4.2.ak.ae p4.2.ak.aA p4.2.ak.aa p4.2.ak.al p4.2.ak.aw p4.2.ak.au p4.2.ak.aN p4.2.ak.bc p4.2.ak.bj p4.2.ak.aB)),())
   else
   j6 (p4.2,())) fun j8=>
   Option.bind (aR m.aa) fun r9=>
   bif (!r9)then
   Option.bind (bY m) fun r10=>
   Option.bind (bY p4.2.ak) fun r11=>
   Option.bind (jc r10 r11) fun r12=>
   j8 ((!r12),())
   else
   j8 (false,())) (Tw R m m1):=by
 refine Yd.bind (Rh hR1 hR2 h1 hz1 hr) fun q hq=> ?_
 obtain⟨m2,rfl,ha⟩:=hq;have hq:=ha.inv.seq;have hadd:aJ .i64 m2.aK 1=m2.aK+1:=cj (by omega) (by omega)
 obtain⟨r,g1,g2⟩:=Ve (bU m) (bU m2) (by rw[sA];exact h.aY.sm) (by rw[il,il,ha.env.1,hn]) (by rw[ub,ub,ha.env.2.1,hsl])
 simp only[bB,bZ,Qa,tP,yt h,yt ha.inv,hadd,g1];have hb:=UU h1 ha;refine Yd.of_eq (x:=(gU m m2,(0:Int),())) ?_ ⟨m2,rfl,hb⟩;unfold gU
 cases hz:aD m.aa with
 |true=>rw[Qs (by rintro⟨e,_⟩;cases e)];rfl
 |false=>
  cases r with
  |true=>rw[Qs (fun e=>e.2 (g2.1 rfl))];rfl
  |false=>rw[Qr ⟨rfl,fun e=>by have:=g2.2 e;cases this⟩];rfl
theorem Km{v:ByteArray}(hv:1<=v.size/\v.size<=200)(hr:R (dw m v)):Yd (fF m v) (Tw R m (dw m v)):=by
 have d1:decide (((ByteArray.size v:Nat):Int)<(1:Int))=false:=Qh (by omega)
 have d2:decide ((200:Int)<((ByteArray.size v:Nat):Int))=false:=Qh (by omega)
 have hi:=Ep h hv;have hval:dH ⟨{m with bj:=v}⟩=some (di {m with bj:=v}):=Em (m:={m with bj:=v}) ⟨h.ev.n0,h.ev.n1,h.ev.aY,h.ev.len,h.ev.sm,h.ev.valid⟩
 have hdo:kU ⟨m⟩ v=some ((0:Int),⟨dw m v⟩):=by
  unfold kU dw;simp only[ab.eta,ax.eta,d1,d2,Ql,Qa,bZ,bB]
  cases hz:aD m.aa with
  |true=>
   simp only[Qk,Qt,aq.eta];rw[show(⟨m.ar,m.bs,m.aK,m.ae,m.aA,m.aa,m.al,m.aw,m.au,m.aN,m.bc,v,m.aB⟩:ab)={m with bj:=v}from rfl,hval]
   rfl
  |false=>simp only[Ql,Qq,Qu,aq.eta]
 unfold fF nk;simp only[ab.eta,aq.eta,ai.eta,ax.eta,vq h hs,wq h,hdo,Qa,Qo,Ql,decide_true];refine Yd.bind (E3 hR1 hR2 h hs hi (fun hz=>by rw[sZ.2];exact hs.zero (by cases hc:aD m.aa with|true=>rfl|false=>rw[sZ.1 hc]at hz;cases hz)) sZ.1 (by unfold dw;split<;>rfl) (by unfold dw;split<;>rfl) hr) fun q hq=> ?_
 obtain⟨m2,rfl,ha⟩:=hq;exact .some ⟨m2,rfl,ha⟩
theorem Kl{e:ai}(he:G0 m e)(hr:R (mh m e)):Yd (fE m e) fun q=>(Tw R m (mh m e) q/\(kb m.aB e).2.1=true)\/(q=(Jt,(9:Int),())/\(kb m.aB e).2.1=false):=by
 have hi:=KM h he;have hlen:=h.len;have hput:=VW (l:=m.aB) (fun x hx=>(h.hv x hx).2.1.sm) (by omega) (e:=e) he.aY.sm
 have hdo:gG ⟨m⟩ e=some (bif (kb m.aB e).2.1 then((0:Int),⟨mh m e⟩)else((9:Int),⟨m⟩)):=by
  unfold gG;simp only[ab.eta,ax.eta,ai.eta,aq.eta,bB,lS he.aY.sm,he.valid,Qa,Qo,Ql,Qh he.az,Qg he.bS,hput];cases (kb m.aB e).2.1<;>rfl
 unfold fE ki;simp only[ab.eta,aq.eta,ai.eta,ax.eta,vq h hs,wq h,hdo,Qa,Qo,Ql]
 cases hp:(kb m.aB e).2.1 with
 |false=>exact .some (.inr ⟨rfl,rfl⟩)
 |true=>
  simp only[Qk,decide_true,Qo,Ql];refine Yd.bind (E3 hR1 hR2 h hs hi hs.zero (fun e=>e) rfl rfl hr) fun q hq=> ?_
  obtain⟨m2,rfl,ha⟩:=hq;exact .some (.inl ⟨⟨m2,rfl,ha⟩,trivial⟩)
theorem RP(hr:R (ka m)):Yd (mj m) fun q=>(Tw R m (ka m) q/\m.aA≠3/\di m≠gC/\m.aa.aj<1000)\/(q=(Jt,(62:Int),())/\(m.aA=3\/di m=gC))\/(q=(Jt,(3:Int),())/\1000<=m.aa.aj):=by
 unfold mj nj nN;simp only[ab.eta,aq.eta,ai.eta,ax.eta,vq h hs,wq h,Qa,Qo,Ql,Em h.ev]
 by_cases h3:m.aA=3
 ·rw[Qg h3];exact .some (.inr (.inl ⟨rfl,.inl h3⟩))
 ·rw[Qh h3]
  by_cases hv:di m=ByteArray.mk #[]
  ·rw[Qg hv];exact .some (.inr (.inl ⟨rfl,.inr hv⟩))
  ·rw[Qh hv]
   by_cases hc:(1000:Int)<=m.aa.aj
   ·rw[Qg hc];exact .some (.inr (.inr ⟨rfl,hc⟩))
   ·rw[Qh hc];have hi:=Rw h h3 hv (by omega)
    have hb0:0<=m.aa.aj:=by
     rcases h.body with k|k|k|k
     ·rw[k.aF];decide
     ·have:=k.aF.1;omega
     ·have:=k.aF.1;omega
     ·have:=k.aF.1;omega
    have hadd:aJ .i64 m.aa.aj 1=m.aa.aj+1:=cj (by omega) (by omega)
    have ht:eK ⟨m⟩ ⟨m.aa.aj+1,di m⟩=some ((),⟨ka m⟩):=by
     rw[JR];unfold ka
     by_cases hev:di m=m.aa.Value
     ·have:bw m.aa ⟨m.aa.aj+1,di m⟩=true:=fO.2 hev.symm;rw[this,Qr hev];rfl
     ·have:bw m.aa ⟨m.aa.aj+1,di m⟩=false:=fu.2 (Ne.symm hev);rw[this,Qs hev];rfl
    simp only[hadd,Ql,Qk,Qa,ht,decide_true,Qo,ab.eta,ax.eta];refine Yd.bind (E3 hR1 hR2 h hs hi (fun hz=>by rw[Ha h]at hz;cases hz) (fun _=>Ha h) rfl rfl hr) fun q hq=> ?_
    obtain⟨m2,rfl,ha⟩:=hq;exact .some (.inl ⟨⟨m2,rfl,ha⟩,h3,hv,by omega⟩)
end
theorem Kn{m:ab}(h:aW m)(hs:fU m):∃e,jY m=some (e,!aD m.aa,())/\(aD m.aa=false->e=bU m):=by
 unfold jY;simp only[ab.eta,aq.eta,ai.eta,bZ,vq h hs,wq h,tP,yt h,Qa]
 cases aD m.aa with
 |true=>exact⟨_,rfl,fun e=>by cases e⟩
 |false=>exact⟨_,rfl,fun _=>rfl⟩
theorem Ko{m:ab}(h:aW m)(hs:fU m):iO m=some (bif decide (m.aA=3)then m.aa.Value else gC,decide (m.aA=3),()):=by
 unfold iO;simp only[ab.eta,aq.eta,vq h hs,Qa];cases decide (m.aA=3)<;>rfl
theorem TW{m:ab}(h:aW m)(hs:fU m){e:ai}(ht:fb e.ae)(hbad:ba e=false\/e.ar=m.ar\/e.bs≠m.bs):fE m e=some (Jt,(61:Int),()):=by
 have hdo:gG ⟨m⟩ e=some ((61:Int),⟨m⟩):=by
  unfold gG;simp only[ab.eta,ax.eta,ai.eta,aq.eta,bB,lS ht,Qa]
  cases hv:ba e with
  |false=>rfl
  |true=>
   by_cases hn:e.ar=m.ar
   ·rw[Qg hn];rfl
   ·have hsl:e.bs≠m.bs:=(hbad.resolve_left (by rw[hv];decide)).resolve_left hn
    rw[Qh hn,Qh hsl];rfl
 unfold fE ki;simp only[ab.eta,aq.eta,ai.eta,ax.eta,vq h hs,wq h,hdo,Qa,Qo,Ql];rfl
end Go.Proofs.YtkgenianmdfmdaaGreat
namespace Go.Proofs.YtkgenianmdfmdaaGreat
open Go.TQ
def gT(n:Nat)(k:Int)(i s:Nat):Bool:=s.testBit i&&decide (k<=(((kp n).countP (gd s):Nat):Int))
def bT(n:Nat)(k:Int)(i s:Nat):Bool:= !decide (k<=(((kp n).countP (gd (s7 s i)):Nat):Int))
structure iH (n:Nat) (k:Int) (m:ab):Prop where
 n10:n<=10
 k1:1<=k
 kn:k<=n
 aY:m.ae=flat n k
 heard:∀e∈m.aB,e.ae=flat n k
theorem iH.all{n:Nat}{k:Int}{m:ab}(hf:iH n k m){e:ai}(he:e∈aO m):e.ae=flat n k:=by
 rcases na he with he|⟨_,rfl⟩
 ·exact hf.heard e he
 ·rw[zm];exact hf.aY
section
variable {n : Nat} {k : Int} {m : ab} (h : aW m) (hf : iH n k m)
 include h
theorem sX:bH (aO m)=aO m:=FL h.iq
 include hf
theorem JX{j:Nat}(hj:j<10)(hs:j=m.ar.toNat\/∃e∈aO m,e.ar.toNat=j):mz (fh m.ar.toNat m.ae (aO m)) j=true/\kq (fh m.ar.toNat m.ae (aO m)) j=flat n k:=
 OR h.ev.az.2 (fun _=>flat n k) hf.aY.symm (fun e he=>by rw[sX h]at he;exact hf.all he) hj (by rw[sX h];exact hs)
theorem N1{s:Nat}(hs:∀j,s.testBit j=true->∃e∈aO m,e.ar.toNat=j):(gq (fh m.ar.toNat m.ae (aO m)) s).testBit m.ar.toNat=gT n k m.ar.toNat s:=by
 have hs10:∀j,s.testBit j=true->j<10:=fun j hj=>by
  obtain⟨e,he,rfl⟩:=hs j hj;have:=jo (h.iq e he);omega
 have hg:=Gw (qu (az:=m.ar.toNat) h.aY.sm h.ev.mN.1) (yu hs10);have hi:=JX h hf h.ev.az.2 (.inl rfl);unfold gT;rw[QW,Qm,Qi];constructor
 ·intro hb;have h1:=hg.inside _ hb;refine⟨h1.1,?_⟩;have h3:=h1.2.2;rw[hi.2,D5]at h3;have h3:=of_decide_eq_true h3;have h2:=Ol (s':=s) (fun j hj=>(hg.inside j hj).1) (kp n)
  omega
 ·rintro⟨hb,hc⟩;refine hg.max s (fun j hj=> ?_) _ hb
  obtain⟨g1,g2⟩:=JX h hf (hs10 j hj) (.inr (hs j hj));exact⟨hj,g1,by rw[g2,D5];exact Qg hc⟩
theorem Sq(s:Nat):tr (fh m.ar.toNat m.ae (aO m)) m.ar.toNat s=bT n k m.ar.toNat s:=by
 obtain⟨g1,g2⟩:=JX h hf h.ev.az.2 (.inl rfl);unfold tr bT;rw[g1,g2,D5,Bool.true_and]
end
theorem Cr{p:ai->Bool}{l:List ai}{j:Nat}(hb:(dy p l).testBit j=true):∃e∈l,e.ar.toNat=j:=by
 rw[mP,List.any_eq_true]at hb;obtain⟨e,he,hp⟩:=hb;rw[Qm,Qi]at hp;exact⟨e,he,hp.2⟩
theorem JL{p q:ai->Bool}{l:List ai}{j:Nat}(hb:(dy p l|||dy q l).testBit j=true):∃e∈l,e.ar.toNat=j:=by
 rw[Nat.testBit_or,Qn]at hb;rcases hb with hb|hb
 ·exact Cr hb
 ·exact Cr hb
def H0(n:Nat)(k:Int)(i:Nat)(l:List ai)(b:af):Bool:=bT n k i (dy (db · b) l)||gT n k i (dy (fun e=>pT e b||db e b) l|||dy (db · b) l)
def GG(n:Nat)(k:Int)(i:Nat)(l:List ai)(b:af):Bool:=gT n k i (dy (db · b) l)
def nu(n:Nat)(k:Int)(i:Nat)(l:List ai)(v:ByteArray)(lo hi:Int):Bool:=bT n k i (dy (et · v lo hi) l)||gT n k i (dy (fun e=>rK e v lo hi||et e v lo hi) l|||dy (et · v lo hi) l)
def Ct(n:Nat)(k:Int)(i:Nat)(l:List ai)(v:ByteArray)(lo hi:Int):Bool:=gT n k i (dy (et · v lo hi) l)
def SX(e:ai):List af:=if e.bQ=1 then[e.aa,e.al,e.aw]else if e.bQ=2 then[e.al,at_ e 1000000]else[at_ e 1000000]
def oK(l:List ai):List af:=((l.flatMap SX).filter fun b=> !aD b).foldl (fun l x=>oA (fun x y=>a8 y x) x l) []
def G7(l:List ai):List ByteArray:=(l.map (·.aa.Value)).foldl (fun l x=>oA mT x l) []
def JG(v:ByteArray)(e:ai):List Int:=if e.aa.Value=v/\e.aN≠0 then[e.aN,e.bc]else[]
def nG(l:List ai)(v:ByteArray):List Int:=(l.flatMap (JG v)).foldl (fun l x=>oA (fun a b=>decide (a<b)) x l) []
section
variable {l : List ai} (hv : ∀ e ∈ l, ba e = true) (hsm : ∀ e ∈ l, fb e.ae) (hlen : l.length <= 1000)
 include hv hsm hlen
theorem I2:eJ l=oK l:=by
 obtain⟨_,h2,_,h4⟩:=nH hsm hlen;obtain⟨h5,h6⟩:=Gm wY.flip ((l.flatMap SX).filter fun b=> !aD b) [] .nil
 refine wY.flip.unique h2 h5 fun x=> ?_
 unfold oK;rw[h4,h6];simp only[List.mem_filter,QQ,QR,or_false,Bool.not_eq_true'];constructor
 ·rintro⟨e,he,hx,hz⟩;refine⟨⟨e,he,?_⟩,hz⟩;unfold said at hx;rw[hv e he]at hx;exact hx
 ·rintro⟨⟨e,he,hx⟩,hz⟩;refine⟨e,he,?_,hz⟩;unfold said;rw[hv e he];exact hx
theorem Rs:ga l=G7 l:=by
 obtain⟨_,h2,_,h4⟩:=rL hsm hlen;obtain⟨h5,h6⟩:=Gm wX (l.map (·.aa.Value)) [] .nil;refine wX.unique h2 h5 fun x=> ?_
 unfold G7;rw[h4,h6];simp only[QP,QR,or_false];constructor
 ·rintro⟨e,he,_,rfl⟩;exact⟨e,he,rfl⟩
 ·rintro⟨e,he,rfl⟩;exact⟨e,he,hv e he,rfl⟩
theorem E6:bV l=nG l:=by
 funext v
 obtain⟨_,h2,_,h4⟩:=lF hsm hlen v;obtain⟨h5,h6⟩:=Gm Cv (l.flatMap (JG v)) [] .nil;refine Cv.unique (h2.imp fun hab=>Qg hab) h5 fun x=> ?_
 unfold nG;rw[h4,h6,s9];simp only[QQ,QR,or_false];constructor
 ·rintro⟨e,he,hb,hx⟩;refine⟨e,he,?_⟩;simp only[jq,Qm,Qi,Bool.not_eq_true',Qj]at hb;unfold JG;rw[Qr ⟨hb.1.2,hb.2⟩];simpa using hx
 ·rintro⟨e,he,hx⟩;unfold JG at hx;split at hx
  ·rename_i hc;refine⟨e,he,?_,by simpa using hx⟩
   simp only[jq,Qm,Qi,Bool.not_eq_true',Qj];exact⟨⟨hv e he,hc.1⟩,hc.2⟩
  ·cases hx
end
section
variable {n : Nat} {k : Int} {m : ab} (h : aW m) (hf : iH n k m)
 include h hf
theorem Tt:iA m.ar.toNat m.ae (aO m)=H0 n k m.ar.toNat (aO m):=by
 funext b
 unfold iA o0 H0;rw[sX h,Sq h hf,N1 h hf fun j hj=>JL hj]
theorem VK:iD m.ar.toNat m.ae (aO m)=GG n k m.ar.toNat (aO m):=by
 funext b
 unfold iD GG;rw[sX h,N1 h hf fun j hj=>Cr hj]
theorem Hs:eB m=nu n k m.ar.toNat (aO m):=by
 funext v lo hi
 unfold eB oG o0 nu;rw[sX h,Sq h hf,N1 h hf fun j hj=>JL hj]
theorem O0:yX m=Ct n k m.ar.toNat (aO m):=by
 funext v lo hi
 unfold yX qN Ct;rw[sX h,N1 h hf fun j hj=>Cr hj]
end
def Ra(x:ByteArray->Int->Int->Bool)(p q:af)(v:ByteArray)(s:Bool×af)(n:Int):Bool×af:=
 if a8 s.2 ⟨n,v⟩&& !ma p q v n&&x v n n then(true,⟨n,v⟩)else s
def JK(x:ByteArray->Int->Int->Bool)(l:List ai)(p q:af):Bool×af:=
 (G7 l).foldl (fun s v=>(nG l v).foldl (Ra x p q v) s) (false,⟨0,gC⟩)
def GA(x:ByteArray->Int->Int->Bool)(l:List ai)(p q:af)(s:Bool×af):ByteArray×Int×Int×Bool×Unit:=
 if s.1 then(s.2.Value,dU (fun n=> !ma p q s.2.Value n&&x s.2.Value n s.2.aj) (nG l s.2.Value).reverse s.2.aj,s.2.aj,true,())else(gC,0,0,false,())
def R6(b:List Int)(ready:Int->Int->Bool)(low bP:Int):Int×Int:=
 match b.reverse.find? (fun n=>decide (bP<n)&&ready n n)with
 |none=>(dU (fun x=>ready x bP) b.reverse low,bP)
 |some n=>
  let bottom:=dU (fun x=>ready x n) b.reverse n
  (dU (fun x=>ready x n) b.reverse (if bP<bottom - 1\/bottom<low then bottom else low),n)
def Pf(nx:af)(m:ab):ab:=
 if m.aA=3\/aD m.aa=true then m else
  {m with al:=(cg m.al m.aw (ct nx)).1,aw:=(cg m.al m.aw (ct nx)).2,aN:=pD m (cg m.al m.aw (ct nx)).1 (cg m.al m.aw (ct nx)).2}
def Pd(hg:af)(m:ab):ab:=if m.aA≠1\/aD m.aa=true\/aD hg=true then m else kS (sO m hg) hg
def Pl(fs:ByteArray×Int×Int×Bool×Unit)(ex:Int×Int)(m:ab):ab:=
 if m.aA=1 then(if fs.2.2.2.1=true then zZ m fs.1 fs.2.1 fs.2.2.1 else m)
 else if m.aA=2 then sP m ex.1 ex.2 else m
def Pj(fn:Int×Int×Bool×Unit)(m:ab):ab:=if m.aA=2/\fn.2.2.1=true then CP m fn.1 fn.2.1 else m
def Sp(ah:Int->Bool)(m:ab):Int:=m.aB.foldl (fun Cg e=>if m.aa.aj<eZ e/\eZ e<Cg/\ah (eZ e)=false then eZ e else Cg) 1000000
def Tb(m:ab):ByteArray:=if m.aA=1 then di m else m.aa.Value
def Kk(ah:Int->Bool)(m:ab):ab:=
 if m.aA=3\/ah m.aa.aj=false then m
 else{m with aN:=if Tb m=m.aa.Value then m.aN else 0,aa:=⟨bl m.aa.aj (dD (Sp ah m) 1000),Tb m⟩}
def GU(n:Nat)(k:Int)(m:ab)(c:Int):Bool:=bT n k m.ar.toNat (yL m c)
def CC(m p r:ab):ab:=bif ll m p then r else p
def stepT(n:Nat)(k:Int)(m:ab):ab:=
 CC m (Pf (((oK (aO m)).find? (u4 (H0 n k m.ar.toNat (aO m)) m.al m.aw (Dx m))).getD w9) m)<|
 CC m (Pd (((oK (aO m)).find? (vb (GG n k m.ar.toNat (aO m)) m.au)).getD w9) m)<|
 CC m (Pl (GA (nu n k m.ar.toNat (aO m)) (aO m) m.al m.aw (JK (nu n k m.ar.toNat (aO m)) (aO m) m.al m.aw)) (R6 (nG (aO m) m.aa.Value) (nu n k m.ar.toNat (aO m) m.aa.Value) m.aN m.bc) m)<|
 CC m (Pj (wh (nG (aO m) m.aa.Value) (Ct n k m.ar.toNat (aO m) m.aa.Value)) m)<|
 Kk (GU n k m) m
open Classical in
theorem CB{m m' r:ab}(he:fg m m'):CC m m' r=if m'=m then r else m':=by
 unfold CC
 by_cases h:m'=m
 ·rw[Qr h,h,Nq];rfl
 ·rw[Qs h,RR he h];rfl
section
variable {n : Nat} {k : Int} {m : ab} (h : aW m) (hf : iH n k m)
 include h hf
theorem Wm:dj m=((oK (aO m)).find? (u4 (H0 n k m.ar.toNat (aO m)) m.al m.aw (Dx m))).getD w9:=by
 unfold dj iw;rw[Tt h hf,I2 h.iq h.ev.mN.1.aY h.ev.mN.2]
theorem Wr:gY m=((oK (aO m)).find? (vb (GG n k m.ar.toNat (aO m)) m.au)).getD w9:=by
 unfold gY vd;rw[VK h hf,I2 h.iq h.ev.mN.1.aY h.ev.mN.2]
theorem WD:dQ m=GA (nu n k m.ar.toNat (aO m)) (aO m) m.al m.aw (JK (nu n k m.ar.toNat (aO m)) (aO m) m.al m.aw):=by
 unfold dQ oD fP GA JK;rw[Hs h hf,E6 h.iq h.ev.mN.1.aY h.ev.mN.2,Rs h.iq h.ev.mN.1.aY h.ev.mN.2];rfl
theorem WI:dt m=R6 (nG (aO m) m.aa.Value) (nu n k m.ar.toNat (aO m) m.aa.Value) m.aN m.bc:=by
 unfold dt;rw[Hs h hf,E6 h.iq h.ev.mN.1.aY h.ev.mN.2];rfl
theorem WH:jM m=wh (nG (aO m) m.aa.Value) (Ct n k m.ar.toNat (aO m) m.aa.Value):=by
 unfold jM;rw[O0 h hf,E6 h.iq h.ev.mN.1.aY h.ev.mN.2]
theorem M7:gM m=GU n k m:=by
 funext c
 exact Sq h hf _
theorem TT:dL m=Kk (GU n k m) m:=by
 have e:eV m=Sp (GU n k m) m:=by
  unfold eV Sp jB;rw[M7 h hf]
 unfold dL Kk;rw[M7 h hf,e];rfl
theorem U9:cn m=stepT n k m:=by
 have eP:Pf (((oK (aO m)).find? (u4 (H0 n k m.ar.toNat (aO m)) m.al m.aw (Dx m))).getD w9) m=bR m:=by rw[<-Wm h hf];rfl
 have eS:Pd (((oK (aO m)).find? (vb (GG n k m.ar.toNat (aO m)) m.au)).getD w9) m=fL m:=by rw[<-Wr h hf];rfl
 have eC:Pl (GA (nu n k m.ar.toNat (aO m)) (aO m) m.al m.aw (JK (nu n k m.ar.toNat (aO m)) (aO m) m.al m.aw)) (R6 (nG (aO m) m.aa.Value) (nu n k m.ar.toNat (aO m) m.aa.Value) m.aN m.bc) m=dC m:=by rw[<-WD h hf,<-WI h hf];rfl
 have eF:Pj (wh (nG (aO m) m.aa.Value) (Ct n k m.ar.toNat (aO m) m.aa.Value)) m=gR m:=by rw[<-WH h hf];rfl
 unfold cn stepT;rw[eP,eS,eC,eF,<-TT h hf,CB (ri m),CB (oh m),CB (mO m),CB (rj m)]
end
 def rq:Nat->ab->ab
 |0,m=>m
 |j+1,m=>rq j (cn m)
theorem EK:∀(j:Nat) (m:ab),rq (j+1) m=cn (rq j m)
 |0,_=>rfl
 |j+1,m=>EK j (cn m)
theorem HH{m:ab}(h:aW m):∀j,aW (rq j m)
 |0=>h
 |j+1=>by rw[EK];exact AV (HH h j)
theorem EL{m:ab}(h:cn m=m):∀j,rq j m=m
 |0=>rfl
 |j+1=>by rw[rq,h];exact EL h j
theorem HI:∀(i j:Nat) (m:ab),rq (i+j) m=rq j (rq i m)
 |0,j,m=>by rw[Nat.zero_add];rfl
 |i+1,j,m=>by rw[show i+1+j=(i+j)+1 by omega,rq,HI i j];rfl
theorem Ud{m:ab}{i j:Nat}(hi:cn (rq i m)=rq i m)(hj:cn (rq j m)=rq j m):rq i m=rq j m:=by
 rcases Nat.le_total i j with hl|hl
 ·have:=HI i (j - i) m;rw[EL hi]at this;rw[<-this,show i+(j - i)=j by omega]
 ·have:=HI j (i - j) m;rw[EL hj]at this;rw[<-this,show j+(i - j)=i by omega]
theorem A0{m m':ab}(he:fg m m')(s:Int):({m' with aK:=s}:ab)={m with aK:=s}↔m'=m:=by
 constructor
 ·intro h;have e1:m'.aA=m.aA:=(congrArg ab.aA h:_);have e2:m'.aa=m.aa:=(congrArg ab.aa h:_);have e3:m'.al=m.al:=(congrArg ab.al h:_);have e4:m'.aw=m.aw:=(congrArg ab.aw h:_);have e5:m'.au=m.au:=(congrArg ab.au h:_);have e6:m'.aN=m.aN:=(congrArg ab.aN h:_);have e7:m'.bc=m.bc:=(congrArg ab.bc h:_);exact qD he e1 e2 e3 e4 e5 e6 e7
 ·rintro rfl;rfl
open Classical in
theorem Ib{m:ab}(h:aW m){s:Int}(hs:0<=s/\s<=1000000):cn {m with aK:=s}={cn m with aK:=s}:=by
 unfold cn;rw[Pe h hs,Pc h hs,Pk h hs,Ph h hs,Pg h hs];simp only[A0 (ri m),A0 (oh m),A0 (mO m),A0 (rj m)]
 by_cases hP:bR m=m
 ·by_cases hS:fL m=m
  ·by_cases hC:dC m=m
   ·by_cases hF:gR m=m
    ·simp only[Qr hP,Qr hS,Qr hC,Qr hF]
    ·simp only[Qr hP,Qr hS,Qr hC,Qs hF]
   ·simp only[Qr hP,Qr hS,Qs hC]
  ·simp only[Qr hP,Qs hS]
 ·simp only[Qs hP]
def Reach(m x:ab):Prop:=∃j s,(0<=s/\s<=1000000)/\x={rq j m with aK:=s}
theorem Mw{m:ab}(h:aW m):∀x,aW x->Reach m x->Reach m (cn x):=by
 rintro x _ ⟨j,s,hs,rfl⟩;exact⟨j+1,s,hs,by rw[Ib (HH h j) hs,EK]⟩
theorem Mu{m:ab}:∀x,Reach m x->Reach m (c9 x):=by
 rintro x ⟨j,s,hs,rfl⟩;unfold c9;split
 ·exact⟨j,bl s 1,by unfold bl;split<;>omega,rfl⟩
 ·exact⟨j,s,hs,rfl⟩
theorem Mx{m:ab}(h:aW m):Reach m m:=⟨0,m.aK,h.seq,rfl⟩
def runT(n:Nat)(k:Int):Nat->ab->Option ab
 |0,_=>none
 |f+1,m=>if ll m (stepT n k m)=true then some m else runT n k f (stepT n k m)
theorem iH.step{n:Nat}{k:Int}{m m':ab}(hf:iH n k m)(he:fg m m'):iH n k m':=⟨hf.n10,hf.k1,hf.kn,by rw[he.aY];exact hf.aY,by rw[he.heard];exact hf.heard⟩
theorem J4{n:Nat}{k:Int}:∀{f:Nat} {m z:ab},aW m->iH n k m->runT n k f m=some z->∃j,rq j m=z/\cn z=z
 |0,m,z,_,_,e=>by cases e
 |f+1,m,z,h,hf,e=>by
  rw[runT,<-U9 h hf]at e;split at e
  ·rename_i hs;obtain rfl:=Option.some.inj e;exact⟨0,rfl,JY (ra m) hs⟩
  ·obtain⟨j,h1,h2⟩:=J4 (AV h) (hf.step (ra m)) e;exact⟨j+1,h1,h2⟩
theorem Tr{n:Nat}{k:Int}{f:Nat}{m1 z m m2:ab}(h:aW m1)(hf:iH n k m1)(hz:runT n k f m1=some z)(ha:Ak (Reach m1) m m2):m2={z with aK:=m2.aK}:=by
 obtain⟨j,s,hs,e⟩:=ha.rel;obtain⟨i,h1,h2⟩:=J4 h hf hz;have h3:=R4 ha.fix;rw[e,Ib (HH h j) hs]at h3;have h4:=(A0 (ra (rq j m1)) s).1 h3;rw[<-h1]at h2;have h5:=Ud h2 h4;rw[e,<-h5,h1]
def Hu(l:List ai)(e:ai):List ai×Bool:=
 match l.findIdx? fun x=>decide (x.ar=e.ar)with
 |some i=>if e.aK<=((l[i]?).getD e).aK then(l,false)else(l.set i e,true)
 |none=>(l.take (Ch l e)++[e]++l.drop (Ch l e),true)
theorem Wh{l:List ai}{e:ai}(hv:ba e=true):(kb l e).1=(Hu l e).1/\(kb l e).2.1=(Hu l e).2:=by
 unfold kb Hu;rw[Qr hv]
 cases l.findIdx? (fun x=>decide (x.ar=e.ar))with
 |none=>exact⟨rfl,rfl⟩
 |some i=>
  by_cases hc:e.aK<=((l[i]?).getD e).aK
  ·simp only[Qr hc];exact⟨trivial,trivial⟩
  ·simp only[Qs hc];exact⟨trivial,trivial⟩
def Ju(a b:ai):Bool:=decide (a.bQ=b.bQ)&&uP a.aa b.aa&&uP a.al b.al&&uP a.aw b.aw&&decide (a.aN=b.aN)&&decide (a.bc=b.bc)
def JJ(m m2:ab):ab:=if Ju (bU m) (bU m2)=true then m2 else{m2 with aK:=dD (m2.aK+1) 1000000}
theorem VM{m m2:ab}(hz:aD m.aa=false)(hn:m2.ar=m.ar)(hs:m2.bs=m.bs)(ht:m2.ae=m.ae):gU m m2=JJ m m2:=by
 have key:(Ju (bU m) (bU m2)=true)↔({bU m with aK:=0}:ai)={bU m2 with aK:=0}:=by
  rw[MT];unfold Ju;simp only[Qm,Qi,n9,il,ub,sA,hn,hs,ht,true_and,and_assoc]
 unfold gU JJ
 by_cases hk:Ju (bU m) (bU m2)=true
 ·rw[Qr hk,Qs (fun e=>e.2 (key.1 hk))]
 ·rw[Qs hk,Qr ⟨hz,fun e=>hk (key.2 e)⟩]
structure mi (n:Nat) (k:Int) (m:ab):Prop where
 inv:aW m
 seq:fU m
 flat:iH n k m
 nz:aD m.aa=false
 bS:m.bs=1
theorem mi.env{n:Nat}{k:Int}{m:ab}(h:mi n k m):ba (bU m)=true/\(bU m).ae=Go.Proofs.YtkgenianmdfmdaaGreat.flat n k/\(bU m).bs=1:=⟨MD h.inv h.seq h.nz,by rw[sA];exact h.flat.aY,by rw[ub];exact h.bS⟩
def Ny(n:Nat)(k:Int)(m:ab)(e:ai):Option ab:=
 if e.ar=m.ar then some m else
 if(Hu m.aB e).2=false then some m else
 (runT n k 20 {m with aB:=(Hu m.aB e).1}).map fun z=>JJ m {z with aK:=m.aK}
theorem RW{n:Nat}{k:Int}{m m1 m2:ab}{R:ab->Prop}(h:mi n k m)(hf:iH n k m1)(hnz:aD m1.aa=false)(hsl:m1.bs=1)(ha:Ak R m1 m2):mi n k (gU m m2):=by
 have hz2:=ha.nz hnz;obtain⟨s,e,hs⟩:=DS (m:=m) ha.inv;refine⟨E5 ha.inv,HW ha.inv ha.seq (fun _=>hz2),?_,by rw[e];exact hz2,by rw[e];exact ha.env.2.1.trans hsl⟩
 rw[e];exact⟨hf.n10,hf.k1,hf.kn,ha.env.2.2.1.trans hf.aY,fun x hx=>hf.heard x (by have:x∈m2.aB:=hx;rw[ha.env.2.2.2.2]at this;exact this)⟩
theorem O3{n:Nat}{k:Int}{m x:ab}{e:ai}(h:mi n k m)(hv:ba e=true)(ht:e.ae=flat n k)(hsl:e.bs=1)(hx:Ny n k m e=some x):
  ∃y c,fE m e=some (y,c,())/\((c=0/\y=x)\/(c≠0/\x=m))/\mi n k x:=by
 have hgood:kh e.ae:=by rw[ht];exact tZ n h.flat.n10 k h.flat.k1 h.flat.kn
 unfold Ny at hx;split at hx
 ·rename_i hn;obtain rfl:=Option.some.inj hx;exact⟨_,_,TW h.inv h.seq hgood.sm (.inr (.inl hn)),.inr ⟨by decide,rfl⟩,h⟩
 ·rename_i hn;have he:G0 m e:=⟨hv,hgood,by rw[hsl,h.bS],hn⟩
  have hi:=KM h.inv he;have hp:=Wh (l:=m.aB) hv;have hm1:mh m e={m with aB:=(Hu m.aB e).1}:=by unfold mh;rw[hp.1]
  obtain⟨q,hq,hq2⟩:=Kl (R:=Reach (mh m e)) (Mw hi) Mu h.inv h.seq he (Mx hi);rcases hq2 with⟨⟨m2,rfl,ha⟩,hok⟩|⟨rfl,hok⟩
  ·rw[hp.2]at hok;rw[Qs (by rw[hok];decide),<-hm1]at hx
   obtain⟨z,hz,rfl⟩:=Qb.1 hx
   have hf1:iH n k (mh m e):=⟨h.flat.n10,h.flat.k1,h.flat.kn,h.flat.aY,fun y hy=>by
    rcases yn hy with rfl|hy
    ·exact ht
    ·exact h.flat.heard y hy⟩
   have e2:=Tr hi hf1 hz ha;have hid:c9 (mh m e)=mh m e:=Vp h.seq rfl rfl;rw[hid]at ha
   have hsq:m2.aK=m.aK:=by
    rcases ha.num with g|⟨g,_⟩
    ·exact g
    ·have:=h.seq.pos h.nz;have g:m.aK=0:=g;omega
   have hb:gU m m2=JJ m {z with aK:=m.aK}:=by
    rw[VM h.nz ha.env.1 ha.env.2.1 ha.env.2.2.1,<-hsq,<-e2]
   refine⟨_,_,hq,.inl ⟨rfl,hb⟩,?_⟩;rw[<-hb];exact RW h hf1 h.nz h.bS ha
  ·rw[hp.2]at hok;rw[Qr hok]at hx;obtain rfl:=Option.some.inj hx;exact⟨_,_,hq,.inr ⟨by decide,rfl⟩,h⟩
end Go.Proofs.YtkgenianmdfmdaaGreat
namespace Go.Proofs.YtkgenianmdfmdaaGreat
open Go.TQ
theorem PL{σ ρ:Type}(n:Nat)(P:Nat->σ->Prop)(r:ρ->Prop){step:Int×σ×Unit->Option ((Int×σ×Unit)⊕ρ)}
  (h1:∀(i:Nat) (s:σ),i<n->P i s->∃s',step ((i:Int),s,())=some (.inl (((i+1:Nat):Int),s',()))/\P (i+1) s')
  (h2:∀s,P n s->Yd (step ((n:Int),s,())) fun y=>match y with| .inl _=>False| .inr q=>r q):∀s0,P 0 s0->Yd (aI step ((0:Int),s0,())) r:=by
 suffices key:∀(d i:Nat),i+d=n->∀s,P i s->Yd (aI step ((i:Int),s,())) r from fun s0 h=>key n 0 (by omega) s0 h
 intro d
 induction d with
 |zero=>
  intro i hi s hs;obtain rfl:i=n:=by omega
  refine Yd.loop ((h2 s hs).mono fun y hy=> ?_)
  cases y with
  |inl _=>exact hy.elim
  |inr q=>exact hy
 |succ d ih=>
  intro i hi s hs;obtain⟨s',e,hs'⟩:=h1 i s (by omega) hs
  exact Yd.loop (Yd.of_eq e (ih (i+1) (by omega) s' hs'))
theorem V6{α:Type}{o:Option α}{x:α}(h:Yd o fun q=>q=x):o=some x:=by
 obtain⟨q,rfl,rfl⟩:=h;rfl
theorem V5{α β:Type}{o:Option β}{f:α->β}{P:α->Prop}(h:Yd o fun q=>∃s,q=f s/\P s):∃s,o=some (f s)/\P s:=by
 obtain⟨q,rfl,s,rfl,hp⟩:=h;exact⟨s,rfl,hp⟩
def rh(n:Nat)(k:Int):ab->List ai->Option ab
 |m,[]=>some m
 |m,e::es=>(Ny n k m e).bind fun x=>rh n k x es
def Bv(n:Nat)(k:Int)(es:List ai):List ab->Option (List ab)
 |[]=>some []
 |m::ms=>(rh n k m es).bind fun x=>(Bv n k es ms).map (x::·)
theorem J9{n:Nat}{k:Int}{es:List ai}:∀{ms ms':List ab},Bv n k es ms=some ms'->ms'.length=ms.length/\∀(t:Nat) (m:ab),ms[t]?=some m->∃x,ms'[t]?=some x/\rh n k m es=some x
 |[],ms',h=>by
  obtain rfl:=Option.some.inj h;exact⟨rfl,fun t m e=>by simp at e⟩
 |m::ms,ms',h=>by
  rw[Bv]at h;obtain⟨x,h1,h2⟩:=Qc.1 h;obtain⟨r,h3,rfl⟩:=Qb.1 h2;obtain⟨g1,g2⟩:=J9 h3;refine⟨by simp[g1],fun t y e=> ?_⟩
  cases t with
  |zero=>exact⟨x,rfl,by rw[List.getElem?_cons_zero]at e;rw[<-Option.some.inj e];exact h1⟩
  |succ t=>exact g2 t y (by rw[List.getElem?_cons_succ]at e;exact e)
section
variable {n : Nat} {k : Int}
theorem Bx:∀{es:List ai} {m x:ab},mi n k m->(∀e∈es,ba e=true/\e.ae=flat n k/\e.bs=1)->rh n k m es=some x->mi n k x
 |[],m,x,h,_,e=>by rw[<-Option.some.inj e];exact h
 |e::es,m,x,h,he,hx=>by
  rw[rh]at hx;obtain⟨y,h1,h2⟩:=Qc.1 hx;obtain⟨g1,g2,g3⟩:=he e Qx;obtain⟨_,_,_,_,hl⟩:=O3 h g1 g2 g3 h1;exact Bx hl (fun e he'=>he e (Qy _ he')) h2
theorem vi{ms ms':List ab}(hl:ms.length<=10)(h:∀m∈ms,mi n k m)(hr:Bv n k (ms.map bU) ms=some ms'):qt ms=some ms'/\(∀m∈ms',mi n k m)/\ms'.length=ms.length:=by
 obtain⟨hlen,hat⟩:=J9 hr
 have hes:∀e∈ms.map bU,ba e=true/\e.ae=flat n k/\e.bs=1:=fun e he=>by
  obtain⟨m,hm,rfl⟩:=QP.1 he;exact(h m hm).env
 refine⟨?_,fun m hm=> ?_,hlen⟩
 ·have hlo:∀{b c:Nat},b<=240->c<=1000000->bW b c=true:=fun hb hc=>er ⟨QK (Nat.mul_le_mul hc hb) (by decide),hc⟩
  unfold qt;refine Eq.trans (IY ms (by omega) bU (fin:= ?fin) (fun i m s hs hm hd hx hw=> ?h1) (fun s hd=> ?h2)) ?h3
  case h2=>
   simp only[hd,Ql];exact rfl
  case h1=>
   obtain⟨e,he1,he2⟩:=Kn (h m hm).inv (h m hm).seq;have hz:=(h m hm).nz;rw[he2 hz]at he1;have hlo1:bW 176 (s.length+[bU m].length)=true:=hlo (by omega) (by simp only[List.length_singleton];omega)
   simp only[hd,hx,hw,Qk,bB,Qa,ab.eta,aq.eta,ai.eta,he1,hz,Qp,hlo1]
  case h3=>
   rw[hlo (b:=240) (c:=ms.length) (by omega) (by omega)]
   simp only[Qk];refine V6 (PL ms.length (fun i out=>out.length=ms.length/\(∀t,t<i->out[t]?=ms'[t]?)/\∀t,i<=t->out[t]?=ms[t]?) (fun q=>q=ms') (fun i out hi ho=> ?_) (fun out ho=> ?_) ms ⟨rfl,fun t ht=>by omega,fun t _=>rfl⟩)
   ·
    obtain⟨ho1,ho2,ho3⟩:=ho;have hd6:decide ((i:Int)<((ms.length:Nat):Int))=true:=Qg (by omega)
    have hm:ms[i]?=some ms[i]:=Qv hi;obtain⟨x,hx1,hx2⟩:=hat i ms[i] hm;have hw6:aJ .i64 (i:Int) 1=((i+1:Nat):Int):=cj (by omega) (by omega)
    simp only[hd6,Qk]
    suffices hin:∃o:List ab,_=some (Sum.inl (((i+1:Nat):Int),o,()))/\(o.length=ms.length/\(∀t,t≠i->o[t]?=out[t]?)/\o[i]?=some x)by
     obtain⟨o,hq,g1,g2,g3⟩:=hin;refine⟨o,hq,g1,fun t ht=> ?_,fun t ht=> ?_⟩
     ·by_cases hti:t=i
      ·rw[hti,g3,hx1]
      ·rw[g2 t hti];exact ho2 t (by omega)
     ·rw[g2 t (by omega)];exact ho3 t (by omega)
    refine V5 (f:=fun o:List ab=>Sum.inl (((i+1:Nat):Int),o,())) (PL (ms.map bU).length
     (fun j o=>o.length=ms.length/\(∀t,t≠i->o[t]?=out[t]?)/\∃y,o[i]?=some y/\mi n k y/\rh n k y ((ms.map bU).drop j)=some x) _ (fun j o hj ho=> ?_) (fun o ho=> ?_) out ⟨ho1,fun t _=>rfl,ms[i],by rw[ho3 i (QI i)];exact hm,h _ (Q0 hi),hx2⟩)
    ·obtain⟨g1,g2,y,g3,g4,g5⟩:=ho;have hd7:decide ((j:Int)<(((ms.map bU).length:Nat):Int))=true:=Qg (by omega)
     have hw7:aJ .i64 (j:Int) 1=((j+1:Nat):Int):=cj (by omega) (by rw[QC]at hj;omega)
     have he:(ms.map bU)[j]?=some (ms.map bU)[j]:=Qv hj;have hdrop:(ms.map bU).drop j=(ms.map bU)[j]::(ms.map bU).drop (j+1):=(QM hj);rw[hdrop,rh]at g5;obtain⟨z,h1,h2⟩:=Qc.1 g5;obtain⟨a1,a2,a3⟩:=hes _ (Q0 hj);obtain⟨w,c,b1,b2,b3⟩:=O3 g4 a1 a2 a3 h1;have hxj:idx (ms.map bU) (j:Int)=some (ms.map bU)[j]:=by rw[bK];exact he
     have hxi:idx o (i:Int)=some y:=by rw[bK];exact g3
     simp only[hd7,Qk,bB,ab.eta,aq.eta,ai.eta,hxj,QV,he,Qa,hxi,g3,b1,hw7];rcases b2 with⟨rfl,rfl⟩|⟨hc,rfl⟩
     ·refine⟨o.set i w,by rw[Qg rfl];rfl,by rw[QY];exact g1,fun t ht=>by rw[List.getElem?_set_ne (Ne.symm ht)];exact g2 t ht,w,by rw[List.getElem?_set_self (by omega)],b3,h2⟩
     ·exact⟨o,by rw[Qh hc];rfl,g1,g2,z,g3,b3,h2⟩
    ·obtain⟨g1,g2,y,g3,g4,g5⟩:=ho;have hd7:decide ((((ms.map bU).length:Nat):Int)<(((ms.map bU).length:Nat):Int))=false:=Qh (by omega)
     rw[List.drop_length,rh]at g5;obtain rfl:=Option.some.inj g5;simp only[hd7,Ql,hw6];exact .some ⟨o,rfl,g1,g2,g3⟩
   ·obtain⟨ho1,ho2,ho3⟩:=ho;have hd6:decide (((ms.length:Nat):Int)<((ms.length:Nat):Int))=false:=Qh (by omega)
    simp only[hd6,Ql];refine .some (List.ext_getElem? fun t=> ?_)
    by_cases ht:t<ms.length
    ·exact ho2 t ht
    ·rw[List.getElem?_eq_none (by omega),List.getElem?_eq_none (by omega)]
 ·obtain⟨t,ht,rfl⟩:=List.getElem_of_mem hm;obtain⟨x,hx1,hx2⟩:=hat t (ms[t]'(by omega)) (Qv (by omega))
  rw[Qv ht]at hx1;obtain rfl:=Option.some.inj hx1;exact Bx (h _ (Q0 _)) hes hx2
end
end Go.Proofs.YtkgenianmdfmdaaGreat
namespace Go.Proofs.YtkgenianmdfmdaaGreat
open Go.TQ
def aV:ByteArray:=ByteArray.mk #[97]
def firstM(n:Nat)(k:Int)(i:Int)(v:ByteArray):ab:={dw (fq i 1 (flat n k)) v with aK:=1}
def CG(n:Nat)(k:Int)(s:List ab):Option (List ab):=Bv n k (s.map bU) s
def Vc(n:Nat)(k:Int)(s:List ab):Option (List ab):=(CG n k s).bind fun s=>(CG n k s).bind fun s=>(CG n k s).bind fun s=>(CG n k s).bind fun s=>(CG n k s).bind fun s=>CG n k s
def Of(m:ab):Bool:=decide (m.aA=3)&&decide (m.aa.Value=aV)
def SY:List ab:=[firstM 4 3 0 aV,firstM 4 3 1 aV,firstM 4 3 2 aV,firstM 4 3 3 aV]
theorem PM:([0,1,2,3]:List Int).all (fun i=>(runT 4 3 5 (dw (fq i 1 (flat 4 3)) aV)).any (ll (firstM 4 3 i aV)))=true:=by decide+kernel
theorem Vb:((Vc 4 3 SY).map (List.all · Of))=some true:=by decide+kernel
section
variable {n : Nat} {k : Int} (hn : n <= 10) (hk1 : 1 <= k) (hkn : k <= n) {i : Int} (hi0 : 0 <= i) (hi9 : i < 10) {v : ByteArray} (hv : 1 <= v.size /\ v.size <= 200)
 include hn hk1 hkn hi0 hi9
theorem Pr:aW (fq i 1 (flat n k))/\fU (fq i 1 (flat n k))/\iH n k (fq i 1 (flat n k)):=by
 obtain⟨h1,h2⟩:=MH hi0 hi9 (show(1:Int)<=1 by omega) (show(1:Int)<=1000000 by omega) (tZ n hn k hk1 hkn)
 exact⟨h1,h2,hn,hk1,hkn,rfl,fun e he=>absurd he QR⟩
 include hv
theorem R5{z:ab}(hz:runT n k 5 (dw (fq i 1 (flat n k)) v)=some z):fF (fq i 1 (flat n k)) v=some ({z with aK:=1},(0:Int),())/\mi n k {z with aK:=1}:=by
 obtain⟨h1,h2,h3⟩:=Pr hn hk1 hkn hi0 hi9;have hp:=Ep h1 hv;have hz0:aD (fq i 1 (flat n k)).aa=true:=br
 have henv:(dw (fq i 1 (flat n k)) v).ae=flat n k/\(dw (fq i 1 (flat n k)) v).aB=[]/\(dw (fq i 1 (flat n k)) v).bs=1:=by
  unfold dw;split<;>exact⟨rfl,rfl,rfl⟩
 have hf:iH n k (dw (fq i 1 (flat n k)) v):=⟨hn,hk1,hkn,henv.1,fun e he=>by rw[henv.2.1]at he;cases he⟩
 obtain⟨q,hq,m2,rfl,ha⟩:=Km (R:=Reach (dw (fq i 1 (flat n k)) v)) (Mw hp) Mu h1 h2 hv (Mx hp);have hnz:=Ki h1 hv;have e1:=Tr hp hf hz ha
 have hsq:(c9 (dw (fq i 1 (flat n k)) v)).aK=1:=by
  unfold c9;rw[Qr hnz,sZ.2];rfl
 have hs2:m2.aK=1:=by
  have:=ha.num;rw[hsq]at this;omega
 have hb:gU (fq i 1 (flat n k)) m2=m2:=by
  unfold gU;rw[Qs (fun e=>by rw[hz0]at e;cases e.1)]
 rw[hb]at hq;rw[hs2]at e1;obtain⟨f1,f2,f3,f4,f5,f6⟩:=vQ (dw (fq i 1 (flat n k)) v);refine⟨by rw[hq,e1],?_⟩
 rw[<-e1];exact⟨ha.inv,ha.seq,⟨hn,hk1,hkn,ha.env.2.2.1.trans (f3.trans hf.aY),fun e he=>by rw[ha.env.2.2.2.2,f5,henv.2.1]at he;cases he⟩,ha.nz (by rw[f6];exact hnz),ha.env.2.1.trans (f2.trans henv.2.2)⟩
end
theorem Tu:1<=aV.size/\aV.size<=200:=by decide
theorem BZ(i:Int)(hi:i=0\/i=1\/i=2\/i=3):fF (fq i 1 (flat 4 3)) aV=some (firstM 4 3 i aV,(0:Int),())/\mi 4 3 (firstM 4 3 i aV):=by
 have h:=QH.1 PM i (by simp;exact hi)
 cases hr:runT 4 3 5 (dw (fq i 1 (flat 4 3)) aV)with
 |none=>rw[hr]at h;cases h
 |some z=>
  rw[hr]at h;have h:ll (firstM 4 3 i aV) z=true:=h;have hg:=R5 (n:=4) (k:=3) (by omega) (by omega) (by omega) (by omega) (by omega) Tu hr
  obtain⟨h1,h2,h3⟩:=Pr (n:=4) (k:=3) (i:=i) (by omega) (by omega) (by omega) (by omega) (by omega)
  have hp:=Ep h1 Tu
  have hf:iH 4 3 (dw (fq i 1 (flat 4 3)) aV):=⟨by omega,by omega,by omega,by unfold dw;split<;>rfl,fun e he=>by
   have:(dw (fq i 1 (flat 4 3)) aV).aB=[]:=by unfold dw;split<;>rfl
   rw[this]at he;cases he⟩
  obtain⟨j,hj,_⟩:=J4 hp hf hr
  have henv:∀(j:Nat) (m:ab),fg m (rq j m):=by
   intro j
   induction j with
   |zero=>exact fun m=>fg.refl m
   |succ j ih=>
    intro m;have a:=ra m;have b:=ih (cn m);exact⟨b.az.trans a.az,b.bS.trans a.bS,b.seq.trans a.seq,b.aY.trans a.aY,b.qB.trans a.qB,b.heard.trans a.heard⟩
  have he:=henv j (dw (fq i 1 (flat 4 3)) aV);rw[hj]at he
  have hz:({z with aK:=1}:ab)=firstM 4 3 i aV:=qD (m:=firstM 4 3 i aV) (m':={z with aK:=1}) ⟨he.az,he.bS,rfl,he.aY,he.qB,he.heard⟩
   (by simp only[ll,Qm,Qi]at h;exact h.1.1.1.1.1.1.symm)
   (by simp only[ll,Qm,Qi,n9]at h;exact h.1.1.1.1.1.2.symm)
   (by simp only[ll,Qm,Qi,n9]at h;exact h.1.1.1.1.2.symm)
   (by simp only[ll,Qm,Qi,n9]at h;exact h.1.1.1.2.symm)
   (by simp only[ll,Qm,Qi,n9]at h;exact h.1.1.2.symm)
   (by simp only[ll,Qm,Qi]at h;exact h.1.2.symm)
   (by simp only[ll,Qm,Qi]at h;exact h.2.symm)
  rw[hz]at hg;exact hg
theorem PW{n:Nat}{k:Int}{m:ab}(h:mi n k m)(hd:Of m=true):iO m=some (aV,true,()):=by
 simp only[Of,Qm,Qi]at hd;rw[Ko h.inv h.seq,Qg hd.1,hd.2];rfl
theorem Vd:sF=some true:=by
 have hF:lY 4 3=some (flat 4 3):=Nf 4 (by omega) 3
 have hlo:∀{c:Nat},c<=1000000->bW 240 c=true:=fun hc=>er ⟨QK (Nat.mul_le_mul hc (QI 240)) (by decide),hc⟩
 have hN:∀i:Int,(i=0\/i=1\/i=2\/i=3)->lj i 1 (flat 4 3)=some (fq i 1 (flat 4 3),(0:Int),()):=fun i hi=>Vj (by omega) (by omega) (by omega) (by omega) (tZ 4 (by omega) 3 (by omega) (by omega))
 have ha:(ByteArray.mk #[97]:ByteArray)=aV:=rfl;have hsim:=Vb;obtain⟨s6,hs6,hdone⟩:=Qb.1 hsim;unfold Vc at hs6;obtain⟨s1,e1,hs6⟩:=Qc.1 hs6;obtain⟨s2,e2,hs6⟩:=Qc.1 hs6;obtain⟨s3,e3,hs6⟩:=Qc.1 hs6;obtain⟨s4,e4,hs6⟩:=Qc.1 hs6;obtain⟨s5,e5,e6⟩:=Qc.1 hs6
 have h0:∀m∈SY,mi 4 3 m:=by
  intro m hm;simp only[SY,QA,QR,or_false]at hm;rcases hm with rfl|rfl|rfl|rfl
  ·exact(BZ 0 (by omega)).2
  ·exact(BZ 1 (by omega)).2
  ·exact(BZ 2 (by omega)).2
  ·exact(BZ 3 (by omega)).2
 obtain⟨g1,h1,l1⟩:=vi (by decide) h0 e1
 have l1:s1.length=4:=l1;obtain⟨g2,h2,l2⟩:=vi (by omega) h1 e2
 obtain⟨g3,h3,l3⟩:=vi (by omega) h2 e3
 obtain⟨g4,h4,l4⟩:=vi (by omega) h3 e4
 obtain⟨g5,h5,l5⟩:=vi (by omega) h4 e5
 obtain⟨g6,h6,l6⟩:=vi (by omega) h5 e6
 have l6':s6.length=4:=by omega
 unfold sF
 have hbeg:∀(i:Int) (l:List ab),(i=0\/i=1\/i=2\/i=3)->l.length<=1000->fF (fq i 1 (flat 4 3)) aV=some (firstM 4 3 i aV,(0:Int),())/\decide (i<4)=true/\aJ .i64 i 1=i+1/\bW 240 (l.length+[firstM 4 3 i aV].length)=true:=fun i l hi hl=>
  ⟨(BZ i hi).1,Qg (by omega),cj (by omega) (by omega),hlo (by simp only[List.length_singleton];omega)⟩
 obtain⟨a1,a2,a3,a4⟩:=hbeg 0 [] (by omega) (by decide)
 obtain⟨b1,b2,b3,b4⟩:=hbeg 1 ([]++[firstM 4 3 0 aV]) (by omega) (by decide)
 obtain⟨c1,c2,c3,c4⟩:=hbeg 2 ([]++[firstM 4 3 0 aV]++[firstM 4 3 1 aV]) (by omega) (by decide)
 obtain⟨d1,d2,d3,d4⟩:=hbeg 3 ([]++[firstM 4 3 0 aV]++[firstM 4 3 1 aV]++[firstM 4 3 2 aV]) (by omega) (by decide)
 rw[bq (s':=(1,[]++[firstM 4 3 0 aV],())) (by simp only[hF,hN 0 (by omega),a1,a2,a3,a4,ha,aq.eta,ab.eta,Qa,Qk,Ql,decide_true,Qo];rfl)]
 rw[bq (s':=(2,[]++[firstM 4 3 0 aV]++[firstM 4 3 1 aV],())) (by simp only[hF,hN 1 (by omega),b1,b2,b3,b4,ha,aq.eta,ab.eta,Qa,Qk,Ql,decide_true,Qo];rfl)]
 rw[bq (s':=(3,[]++[firstM 4 3 0 aV]++[firstM 4 3 1 aV]++[firstM 4 3 2 aV],())) (by simp only[hF,hN 2 (by omega),c1,c2,c3,c4,ha,aq.eta,ab.eta,Qa,Qk,Ql,decide_true,Qo];rfl)]
 rw[bq (s':=(4,SY,())) (by simp only[hF,hN 3 (by omega),d1,d2,d3,d4,ha,aq.eta,ab.eta,Qa,Qk,Ql,decide_true,Qo];rfl)]
 refine(cd (r:=true) ?_);have hk:∀j:Int,0<=j->j<6->decide (j<6)=true/\aJ .i64 j 1=j+1:=fun j h0 h6=>⟨Qg h6,cj (by omega) (by omega)⟩
 simp only[show decide ((4:Int)<4)=false from rfl,Ql]
 rw[bq (s':=(s1,1,())) (by simp only[(hk 0 (by omega) (by omega)).1,(hk 0 (by omega) (by omega)).2,Qk,g1,Qa];rfl)]
 rw[bq (s':=(s2,2,())) (by simp only[(hk 1 (by omega) (by omega)).1,(hk 1 (by omega) (by omega)).2,Qk,g2,Qa];rfl)]
 rw[bq (s':=(s3,3,())) (by simp only[(hk 2 (by omega) (by omega)).1,(hk 2 (by omega) (by omega)).2,Qk,g3,Qa];rfl)]
 rw[bq (s':=(s4,4,())) (by simp only[(hk 3 (by omega) (by omega)).1,(hk 3 (by omega) (by omega)).2,Qk,g4,Qa];rfl)]
 rw[bq (s':=(s5,5,())) (by simp only[(hk 4 (by omega) (by omega)).1,(hk 4 (by omega) (by omega)).2,Qk,g5,Qa];rfl)]
 rw[bq (s':=(s6,6,())) (by simp only[(hk 5 (by omega) (by omega)).1,(hk 5 (by omega) (by omega)).2,Qk,g6,Qa];rfl)]
 rw[cd (r:=true) ?_]
 ·rfl
 simp only[show decide ((6:Int)<6)=false from rfl,Ql]
 rw[Ik s6.length (fin:=some true) (by omega) (fun i hi hd hw=> ?_) (fun hd=> ?_)]
 ·rfl
 ·have hx:idx s6 (i:Int)=some s6[i]:=by rw[bK];exact Qv hi
  have hm:s6[i]∈s6:=Q0 hi;have hdec:=PW (h6 _ hm) (QH.1 hdone _ hm);simp only[hd,hx,hw,hdec,ha,Qk,Qa,ab.eta,aq.eta,Qo,Ql,decide_true]
 ·simp only[hd,Ql]
end Go.Proofs.YtkgenianmdfmdaaGreat
namespace Go.Proofs.YtkgenianmdfmdaaGreat
open Go.TQ
structure Yl (m m1:ab):Prop where
 inv:aW m1
 az:m1.ar=m.ar
 bS:m1.bs=m.bs
 seq:m1.aK=m.aK
 nz:aD m.aa=false->aD m1.aa=false
structure Yu (m:ab):Prop where
 inv:aW m
 seq:fU m
 fix:OI m
 az:m.ar=0
 bS:m.bs=1
theorem qP(m m2:ab):(gU m m2).ar=m2.ar/\(gU m m2).bs=m2.bs/\(gU m m2).aB=m2.aB/\(gU m m2).aa=m2.aa:=by
 obtain⟨s,e,_⟩:=z7 m m2;rw[e];exact⟨rfl,rfl,rfl,rfl⟩
theorem U4{v:ByteArray}(h:I6 v):1<=v.size/\v.size<=200:=by
 have:=h.size;omega
theorem Vg{l:List ai}{e:ai}(hv:ba e=true)(hok:(kb l e).2.1=true):e∈(kb l e).1:=by
 rcases tN (l:=l) hv with⟨x,_,_,_,h⟩|⟨a,b,h1,h⟩
 ·rw[h]at hok;cases hok
 ·rw[h];exact List.mem_append_right _ Qx
end Go.Proofs.YtkgenianmdfmdaaGreat
namespace Go.Proofs.YtkgenianmdfmdaaGreat
open Go.TQ
structure Yp (m x:ab):Prop where
 up:m.aK<=x.aK
 one:x.aK<=m.aK+1
 same:aD m.aa=false->x.aK=m.aK->bU x=bU m
 nz:aD m.aa=false->aD x.aa=false
end Go.Proofs.YtkgenianmdfmdaaGreat
namespace Go.Proofs.YtkgenianmdfmdaaGreat
open Go.TQ
theorem DZ{p:ai->Bool}:∀{l:List ai},(∀e∈l,p e=false)->dy p l=0
 |[],_=>rfl
 |e::l,hp=>by rw[dy,hp e Qx,DZ fun x hx=>hp x (Qy _ hx)];simp
theorem M4{n:Nat}(hn:n<=10){k:Int}(hkn:k<=n)(i:Nat):bT n k i 0=false:=by
 unfold bT
 have:(kp n).countP (gd (s7 0 i))=n:=Om hn fun j hj=>by
  rw[uZ (by omega)]
  have:j<10:=by omega
  simp[this]
 rw[this,Qg (by omega)]
 rfl
theorem TB(a:Int)(n:Nat):(kp n).countP (fun x=>decide (x=a))<=1:=by
 suffices key:∀n:Nat,(kp n).countP (fun x=>decide (x=a))=if 0<=a/\a<n then 1 else 0 by
  rw[key];split<;>omega
 intro n
 induction n with
 |zero=>rw[Qs (by omega)];rfl
 |succ n ih=>
  rw[D0,List.countP_append,ih]
  by_cases hz:(n:Int)=a
  ·have h1:¬(0<=a/\a<(n:Int)):=by omega
   have h2:0<=a/\a<((n+1:Nat):Int):=by omega
   rw[Qs h1,Qr h2];simp[hz]
  ·by_cases h1:0<=a/\a<(n:Int)
   ·have h2:0<=a/\a<((n+1:Nat):Int):=by omega
    rw[Qr h1,Qr h2];simp[hz]
   ·have h2:¬(0<=a/\a<((n+1:Nat):Int)):=by omega
    rw[Qs h1,Qs h2];simp[hz]
theorem IA{m:ab}(h:aW m)(n:Nat){p:ai->Bool}(hp:∀e∈aO m,p e=true->e=fp m):(kp n).countP (gd (dy p (aO m)))<=1:=by
 refine QK (List.countP_mono_left fun x hx hh=> ?_) (TB m.ar n)
 obtain⟨j,hj,rfl⟩:=CH.1 hx;simp only[gd,Qm,QV]at hh;have hb:=hh.2;rw[mP,List.any_eq_true]at hb;obtain⟨e,he,hb⟩:=hb;rw[Qm,Qi]at hb;have he2:=hp e he hb.1;have hn:e.ar=m.ar:=by rw[he2];exact il m
 have h0:=h.n0;exact Qg (by omega)
def eX(n:Nat)(k:Int)(v:ByteArray)(c:Int)(i:Int):ai:=⟨i,1,1,flat n k,3,⟨c,v⟩,bm,bm,c,c⟩
structure gZ (n:Nat) (k:Int) (v:ByteArray) (c:Int) (m:ab):Prop where
 az:m.ar=0
 bS:m.bs=1
 aY:m.ae=flat n k
 heard:∀e∈m.aB,∃i,e=eX n k v c i/\1<=i/\i<10
 one:m.aA=1->(m.al=bm\/m.al.Value=v)/\m.aw=bm
 two:m.aA≠1->m.aa.Value=v
section
variable {n : Nat} {k : Int} {v : ByteArray} {c : Int} (hn : n <= 10) (hk1 : 2 <= k) (hkn : k <= n) {m : ab} (h : aW m) (hC : gZ n k v c m)
 include hC
theorem gZ.mem{e:ai}(he:e∈aO m):e=fp m\/∃i,e=eX n k v c i/\1<=i/\i<10:=by
 rcases na he with h1|⟨_,h1⟩
 ·exact .inr (hC.heard e h1)
 ·exact .inl h1
 include hn hk1 hkn
theorem gZ.flat:iH n k m:=⟨hn,by omega,hkn,hC.aY,fun e he=>by
 obtain⟨i,rfl,_⟩:=hC.heard e he
 rfl⟩
 include h
theorem gZ.acc(h1:m.aA=1){b:af}(ha:iA m.ar.toNat m.ae (aO m) b=true):b.Value=v:=by
 refine Classical.byContradiction fun hb=> ?_
 have hf:=hC.flat hn hk1 hkn
 have hown:db (fp m) b=false:=by
  cases hx:db (fp m) b with
  |false=>rfl
  |true=>
   obtain⟨_,h2⟩:=DD h1 hx;obtain⟨h3,h4⟩:=hC.one h1;rw[rY,h4]at h2;rcases h2 with h2|h2|⟨h2,_⟩
   ·unfold im at h2;rw[Qm,Qm,Bool.not_eq_true']at h2;rcases h3 with h3|h3
    ·rw[h3,br]at h2;exact absurd h2.1.1 (by decide)
    ·exact absurd ((fO.1 h2.1.2).symm.trans h3) hb
   ·unfold im at h2;rw[br]at h2;cases h2
   ·rw[br]at h2;cases h2
 have hacc:∀e∈aO m,db e b=false:=fun e he=>by
  rcases hC.mem he with rfl|⟨i,rfl,_⟩
  ·exact hown
  ·unfold db eX;simp[bw,Ne.symm hb]
 rw[Tt h hf]at ha;unfold H0 at ha;rw[DZ hacc,M4 hn hkn,Bool.false_or,Nat.or_zero]at ha;unfold gT at ha;rw[Qm,Qi]at ha
 have:=IA h n (p:=fun e=>pT e b||db e b) fun e he hp=>by
  rcases hC.mem he with rfl|⟨i,rfl,_⟩
  ·rfl
  ·rw[hacc _ he,Bool.or_false]at hp;unfold pT eX at hp;simp[bw,Ne.symm hb]at hp
 omega
theorem gZ.ready(h1:m.aA=1){w:ByteArray}{lo hi:Int}(ha:eB m w lo hi=true):w=v:=by
 refine Classical.byContradiction fun hb=> ?_
 have hf:=hC.flat hn hk1 hkn
 have hacc:∀e∈aO m,et e w lo hi=false:=fun e he=>by
  rcases hC.mem he with rfl|⟨i,rfl,_⟩
  ·have:(fp m).bQ=1:=by rw[<-h1];exact xg m
   unfold et;rw[this];simp
  ·unfold et zO eX;simp[Ne.symm hb]
 rw[Hs h hf]at ha;unfold nu at ha;rw[DZ hacc,M4 hn hkn,Bool.false_or,Nat.or_zero]at ha;unfold gT at ha;rw[Qm,Qi]at ha
 have:=IA h n (p:=fun e=>rK e w lo hi||et e w lo hi) fun e he hp=>by
  rcases hC.mem he with rfl|⟨i,rfl,_⟩
  ·rfl
  ·rw[hacc _ he,Bool.or_false]at hp;unfold rK zO eX at hp;simp[Ne.symm hb]at hp
 omega
theorem gZ.of{m':ab}(he:fg m m')(h1:m'.aA=1->(m'.al=bm\/m'.al.Value=v)/\m'.aw=bm)(h2:m'.aA≠1->m'.aa.Value=v):gZ n k v c m':=
 ⟨by rw[he.az,hC.az],by rw[he.bS,hC.bS],by rw[he.aY,hC.aY],by rw[he.heard];exact hC.heard,h1,h2⟩
theorem gZ.pP:gZ n k v c (bR m):=by
 refine hC.of hn hk1 hkn h (ri m) (fun hp=> ?_) fun hp=> ?_
 ·have h1:m.aA=1:=by
   unfold bR at hp;split at hp
   ·exact hp
   ·exact hp
  have h3:m.aA≠3:=by omega
  unfold bR;split
  ·exact hC.one h1
  ·rename_i hz
   have hnz:aD m.aa=false:=by
    cases hq:aD m.aa with
    |false=>rfl
    |true=>exact absurd (.inr hq) hz
   have hok:mD m.al m.aw:=by
    rcases h.body with h0|h1'|h2|h3'
    ·have:=mM.2 h0.aF;rw[this]at hnz;cases hnz
    ·exact h1'.fo
    ·exact h2.fo
    ·exact absurd h3'.aE h3
   have hr:=yq h hok
   have hbv:ct (dj m)=bm\/(ct (dj m)).Value=v:=by
    rcases BD h with e|⟨_,_,_,ha⟩
    ·left;rw[e];rfl
    ·right;rw[<-hC.acc hn hk1 hkn h h1 ha];unfold ct;split<;>rfl
   obtain⟨o1,o2⟩:=hC.one h1;show((cg m.al m.aw (ct (dj m))).1=bm\/(cg m.al m.aw (ct (dj m))).1.Value=v)/\(cg m.al m.aw (ct (dj m))).2=bm;rcases o7 h with hb0|hbf
   ·rw[hb0];unfold cg;rw[Qr br];exact⟨o1,o2⟩
   ·have hbv:(ct (dj m)).Value=v:=by
     rcases hbv with e|e
     ·exact absurd e (qK hbf)
     ·exact e
    revert hr;generalize cg m.al m.aw (ct (dj m))=r;intro hr
    have key:∀a b,a=r.1->b=r.2->nV m.al m.aw (ct (dj m)) a b->(a=bm\/a.Value=v)/\b=bm:=by
     intro a b ea eb hj
     cases hj with
     |same=>exact⟨o1,o2⟩
     |first _ _=>exact⟨.inr hbv,rfl⟩
     |up hp hl hc=>exact⟨.inr hbv,o2⟩
     |vO hp hl hc=>
      rcases o1 with o1|o1
      ·exact absurd o1 (qK hp)
      ·exact absurd (o1.trans hbv.symm) hc
     |under hp hl hc hq=>
      rcases o1 with o1|o1
      ·exact absurd o1 (qK hp)
      ·exact absurd (hbv.trans o1.symm) hc
    exact key _ _ rfl rfl hr
 ·have h1:m.aA≠1:=by
   unfold bR at hp;split at hp
   ·exact hp
   ·exact hp
  rw[RQ];exact hC.two h1
theorem gZ.pS:gZ n k v c (fL m):=by
 by_cases hid:m.aA≠1\/aD m.aa=true\/aD (gY m)=true
 ·rw[kE hid];exact hC
 ·have h1:m.aA=1:=by
   by_cases h1:m.aA=1
   ·exact h1
   ·exact absurd (.inl h1) hid
  have hnz:¬aD m.aa=true:=fun e=>hid (.inr (.inl e))
  have p1:P1 m:=by
   rcases h.body with h0|h1'|h2|h3'
   ·exact absurd (mM.2 h0.aF) hnz
   ·exact h1'
   ·have:=h2.aE;omega
   ·have:=h3'.aE;omega
  obtain⟨q1,q2⟩:=CD h p1;have hp:=q1.aE;refine hC.of hn hk1 hkn h (oh m) (fun _=> ?_) fun hq=>absurd hp hq
  rcases q2 with e|⟨e1,e2,_⟩
  ·rw[e];exact hC.one h1
  ·rw[e1,e2];exact hC.one h1
theorem gZ.pC:gZ n k v c (dC m):=by
 by_cases h1:m.aA=1
 ·by_cases hk:(dQ m).2.2.2.1=true
  ·have hf:=BW h hk;have hv:=hC.ready hn hk1 hkn h h1 hf.top
   have e:dC m=zZ m (dQ m).1 (dQ m).2.1 (dQ m).2.2.1:=by
    unfold dC;rw[Qr h1,Qr hk]
   have p2:P2 (zZ m (dQ m).1 (dQ m).2.1 (dQ m).2.2.1):=by
    rcases h.body with h0|h1'|h2|h3'
    ·exact B9 (.inl h0.aF) (.inl h0.cQ) hf.fin hf.Px hf.le
    ·exact B9 (.inr h1'.aF) h1'.cQ hf.fin hf.Px hf.le
    ·have:=h2.aE;omega
    ·have:=h3'.aE;omega
   have env:=mO m;rw[e]at env ⊢;refine hC.of hn hk1 hkn h env (fun hq=>absurd hq (by rw[p2.aE];decide)) fun _=> ?_
   rcases p2.dz with e|⟨_,e⟩
   ·exact absurd e (qK hf.fin)
   ·rw[<-e];exact hv
  ·have e:dC m=m:=by unfold dC;rw[Qr h1,Qs hk]
   rw[e];exact hC
 ·have hp:(dC m).aA=m.aA/\(dC m).aa.Value=m.aa.Value:=by
   unfold dC;rw[Qs h1];split<;>exact⟨rfl,rfl⟩
  refine hC.of hn hk1 hkn h (mO m) (fun hq=>absurd hq (by rw[hp.1];exact h1)) fun _=> ?_
  rw[hp.2];exact hC.two h1
theorem gZ.pF:gZ n k v c (gR m):=by
 unfold gR;split
 ·rename_i hc;have h1:m.aA≠1:=by omega
  exact hC.of hn hk1 hkn h ⟨rfl,rfl,rfl,rfl,rfl,rfl⟩ (fun hq=>absurd hq (by show¬(3:Int)=1;decide)) fun _=>hC.two h1
 ·exact hC
theorem gZ.pK:gZ n k v c (dL m):=by
 unfold dL;split
 ·exact hC
 ·refine hC.of hn hk1 hkn h ⟨rfl,rfl,rfl,rfl,rfl,rfl⟩ (fun hq=>hC.one hq) fun hq=> ?_
  have hq:m.aA≠1:=hq;show jn m=v;unfold jn;rw[Qs hq];exact hC.two hq
theorem gZ.step:gZ n k v c (cn m):=qw (hC.pP hn hk1 hkn h) (hC.pS hn hk1 hkn h) (hC.pC hn hk1 hkn h) (hC.pF hn hk1 hkn h) (hC.pK hn hk1 hkn h)
end
theorem gZ.seq{n:Nat}{k:Int}{v:ByteArray}{c:Int}{m:ab}(hC:gZ n k v c m)(s:Int):gZ n k v c {m with aK:=s}:=⟨hC.az,hC.bS,hC.aY,hC.heard,hC.one,hC.two⟩
theorem gZ.num{n:Nat}{k:Int}{v:ByteArray}{c:Int}(m:ab)(hC:gZ n k v c m):gZ n k v c (c9 m):=by
 unfold c9;split
 ·exact hC.seq _
 ·exact hC
theorem gZ.bump{n:Nat}{k:Int}{v:ByteArray}{c:Int}(m m2:ab)(hC:gZ n k v c m2):gZ n k v c (gU m m2):=by
 obtain⟨s,e,_⟩:=z7 m m2;rw[e];exact hC.seq _
theorem gZ.KN{n:Nat}{k:Int}{v:ByteArray}{c:Int}{m:ab}(hC:gZ n k v c m){i:Int}(hi:1<=i/\i<10):gZ n k v c (mh m (eX n k v c i)):=by
 refine⟨hC.az,hC.bS,hC.aY,fun e he=> ?_,hC.one,hC.two⟩
 rcases yn he with rfl|he
 ·exact⟨i,rfl,hi⟩
 ·exact hC.heard e he
end Go.Proofs.YtkgenianmdfmdaaGreat
namespace Go.Proofs.YtkgenianmdfmdaaGreat
open Go.TQ
def y1(v:ByteArray)(e:ai):Bool:= !decide (e.bQ=1)&&decide (e.aa.Value=v)
theorem Sx{e:ai}{v:ByteArray}{lo hi:Int}(h:et e v lo hi=true):y1 v e=true:=by
 unfold et zO at h;unfold y1;simp only[Qm,Qn,Qi]at h;obtain⟨⟨⟨_,hv⟩,_⟩,hk⟩:=h;rw[Qg hv,Bool.and_true,Bool.not_eq_true',Qj];omega
def zM(x:ab)(j:Int):Bool:=decide (j=x.ar)||x.aB.any fun e=>decide (e.ar=j)&&y1 x.aa.Value e
def E9(n:Nat)(k:Int)(x:ab):Prop:=x.aA=3->k<=(((kp n).countP (zM x):Nat):Int)
theorem UA{n:Nat}{k:Int}{m:ab}(h:aW m)(hf:iH n k m)(hk:(jM m).2.2.1=true):k<=(((kp n).countP (zM m):Nat):Int):=by
 obtain⟨_,_,_,hs⟩:=PO h hk;rw[O0 h hf]at hs;unfold Ct gT at hs;rw[Qm,Qi]at hs;refine Int.le_trans hs.2 (Int.ofNat_le.2 (List.countP_mono_left fun x hx hh=> ?_))
 obtain⟨j,hj,rfl⟩:=CH.1 hx;simp only[gd,Qm,QV]at hh;have hb:=hh.2;rw[mP,List.any_eq_true]at hb;obtain⟨e,he,hb⟩:=hb;rw[Qm,Qi]at hb;have hv:=h.iq e he
 have h0:0<=e.ar:=(h.ev.mN.1|>fun _=>by
  rcases na he with h1|⟨_,h1⟩
  ·have:=h.ev.HK e h1;exact this.1
  ·rw[h1,show(fp m).ar=m.ar from il m];exact h.n0)
 unfold zM;rw[Qn];rcases na he with h1|⟨_,h1⟩
 ·right;rw[List.any_eq_true];exact⟨e,h1,by rw[Sx hb.1,Qg (show e.ar=(j:Int)by omega)];rfl⟩
 ·left;have:e.ar=m.ar:=by rw[h1];exact il m
  exact Qg (by omega)
theorem TP(m:ab):(fL m).aA=m.aA:=by
 unfold fL;split
 ·rfl
 ·have h1:∀(m:ab) (b:af),(sO m b).aA=m.aA:=fun m b=>by unfold sO;split<;>rfl
  have h2:∀(m:ab) (b:af),(kS m b).aA=m.aA:=fun m b=>by unfold kS;split<;>rfl
  rw[h2,h1]
theorem PC{m:ab}(h1:m.aA≠1):(cn m).aA≠1/\(cn m).aa.Value=m.aa.Value:=by
 refine qw (Q:=fun y=>y.aA≠1/\y.aa.Value=m.aa.Value) ⟨?_,by rw[RQ]⟩ ?_ ?_ ?_ ?_
 ·unfold bR;split<;>exact h1
 ·rw[kE (.inl h1)];exact⟨h1,rfl⟩
 ·unfold dC;rw[Qs h1];split<;>exact⟨h1,rfl⟩
 ·unfold gR;split
  ·exact⟨by show¬(3:Int)=1;decide,rfl⟩
  ·exact⟨h1,rfl⟩
 ·unfold dL;split
  ·exact⟨h1,rfl⟩
  ·refine⟨h1,?_⟩;show jn m=_;unfold jn;rw[Qs h1]
theorem Sd{n:Nat}{k:Int}{m:ab}(h:aW m)(hf:iH n k m)(hd:E9 n k m):E9 n k (cn m):=by
 refine qw (Q:=E9 n k) ?_ ?_ ?_ ?_ ?_
 ·intro h3;have e:m.aA=3:=by unfold bR at h3;split at h3<;>exact h3
  rw[show bR m=m by unfold bR;rw[Qr (.inl e)]];exact hd e
 ·intro h3;rw[TP]at h3;rw[kE (.inl (by omega))];exact hd h3
 ·intro h3
  have e:dC m=m:=by
   unfold dC at h3 ⊢;split
   ·rename_i h1;rw[Qr h1]at h3;split
    ·rename_i hk;rw[Qr hk]at h3;have h3:(2:Int)=3:=h3;omega
    ·rfl
   ·rename_i h1;rw[Qs h1]at h3;split
    ·rename_i h2;rw[Qr h2]at h3;have h3:m.aA=3:=h3;omega
    ·rfl
  rw[e]at h3 ⊢;exact hd h3
 ·unfold gR;split
  ·rename_i hc;intro _;show k<=(((kp n).countP (zM m):Nat):Int);exact UA h hf hc.2
  ·exact hd
 ·intro h3;have e:m.aA=3:=by unfold dL at h3;split at h3<;>exact h3
  rw[show dL m=m by unfold dL;rw[Qr (.inl e)]];exact hd e
structure lZ (n:Nat) (k:Int) (a x:ab):Prop where
 flat:iH n k x
 dec:E9 n k x
 da:a.aA≠1->x.aA≠1/\x.aa.Value=a.aa.Value
theorem WN{n:Nat}{k:Int}{a:ab}(x:ab)(h:aW x)(hr:lZ n k a x):lZ n k a (cn x):=
 ⟨hr.flat.step (ra x),Sd h hr.flat hr.dec,fun hq=>by
  obtain⟨h1,h2⟩:=hr.da hq;obtain⟨h3,h4⟩:=PC h1
  exact⟨h3,h4.trans h2⟩⟩
theorem lZ.seq{n:Nat}{k:Int}{a x:ab}(hr:lZ n k a x)(s:Int):lZ n k a {x with aK:=s}:=⟨⟨hr.flat.n10,hr.flat.k1,hr.flat.kn,hr.flat.aY,hr.flat.heard⟩,hr.dec,hr.da⟩
theorem WM{n:Nat}{k:Int}{a:ab}(x:ab)(hr:lZ n k a x):lZ n k a (c9 x):=by
 unfold c9;split
 ·exact hr.seq _
 ·exact hr
theorem lZ.bump{n:Nat}{k:Int}{a:ab}(m m2:ab)(hr:lZ n k a m2):lZ n k a (gU m m2):=by
 obtain⟨s,e,_⟩:=z7 m m2;rw[e];exact hr.seq _
structure LF (n:Nat) (k:Int) (i:Nat) (m:ab):Prop where
 inv:aW m
 seq:fU m
 flat:iH n k m
 az:m.ar=i
 bS:m.bs=1
 dec:E9 n k m
 nz:aD m.aa=false
structure LG (n:Nat) (k:Int) (all:List ab):Prop where
 len:all.length=n
 one:∀(i:Nat) m,all[i]?=some m->LF n k i m
 heard:∀(i:Nat) m,all[i]?=some m->∀e∈m.aB,e.bQ≠1->∃x,all[e.ar.toNat]?=some x/\x.aA≠1/\x.aa.Value=e.aa.Value
theorem LG.set{n:Nat}{k:Int}{all:List ab}(h:LG n k all){i:Nat}{m x:ab}(hi:all[i]?=some m)(hx:LF n k i x)(hk:m.aA≠1->x.aA≠1/\x.aa.Value=m.aa.Value)
  (hh:∀e∈x.aB,e∈m.aB\/∃(j:Nat) (y:ab),j≠i/\all[j]?=some y/\e=bU y):LG n k (all.set i x):=by
 have hlt:i<all.length:=(Qw.1 hi).1
 have hset:∀j:Nat,(all.set i x)[j]?=if j=i then some x else all[j]?:=fun j=>by
  rw[List.getElem?_set]
  by_cases e:i=j
  ·subst e;simp[hlt]
  ·rw[Qs e,Qs (fun e'=>e e'.symm)]
 have up:∀(j:Nat) (y:ab) (v:ByteArray),all[j]?=some y->y.aA≠1->y.aa.Value=v->∃z,(all.set i x)[j]?=some z/\z.aA≠1/\z.aa.Value=v:=fun j y v hj h1 h2=>by
  rw[hset]
  by_cases e:j=i
  ·subst e;rw[hi]at hj;injection hj with hj
   subst hj;rw[Qr rfl];exact⟨x,rfl,(hk h1).1,(hk h1).2.trans h2⟩
  ·rw[Qs e];exact⟨y,hj,h1,h2⟩
 refine⟨by rw[QY];exact h.len,fun j y hy=> ?_,fun j y hy e he hkd=> ?_⟩
 ·rw[hset]at hy
  by_cases e:j=i
  ·rw[Qr e]at hy;injection hy with hy
   rw[e,<-hy];exact hx
  ·rw[Qs e]at hy;exact h.one j y hy
 ·rw[hset]at hy
  have old:∀(j:Nat) (y:ab),all[j]?=some y->e∈y.aB->∃z,(all.set i x)[e.ar.toNat]?=some z/\z.aA≠1/\z.aa.Value=e.aa.Value:=fun j y hj he=>by
   obtain⟨z,h1,h2,h3⟩:=h.heard j y hj e he hkd;exact up _ z _ h1 h2 h3
  by_cases e':j=i
  ·rw[Qr e']at hy;injection hy with hy
   rw[<-hy]at he;rcases hh e he with h1|⟨j',y',hne,hj',rfl⟩
   ·exact old i m hi h1
   ·have hn:(bU y').ar.toNat=j':=by
     rw[il,(h.one j' y' hj').az];rfl
    rw[hn,DM];rw[xg]at hkd;exact up j' y' _ hj' hkd rfl
  ·rw[Qs e']at hy;exact old j y hy he
theorem IW{α:Type}{p q:α->Bool}:∀{l:List α},l.length<l.countP p+l.countP q->∃x∈l,p x=true/\q x=true
 |[],h=>by simp at h
 |x::l,h=>by
  rw[List.countP_cons,List.countP_cons,QE]at h
  by_cases hb:p x=true/\q x=true
  ·exact⟨x,Qx,hb⟩
  ·obtain⟨y,hy,h1⟩:=IW (p:=p) (q:=q) (l:=l) (by
    by_cases h1:p x=true
    ·have h2:¬q x=true:=fun e=>hb ⟨h1,e⟩
     rw[Qr h1,Qs h2]at h;omega
    ·rw[Qs h1]at h
     split at h<;>omega)
   exact⟨y,Qy _ hy,h1⟩
theorem LG.agree{n:Nat}{k:Int}{all:List ab}(h:LG n k all)(hk:(n:Int)<k+k){i j:Nat}{m y:ab}(hi:all[i]?=some m)(hj:all[j]?=some y)(h1:m.aA=3)(h2:y.aA=3):m.aa.Value=y.aa.Value:=by
 have c1:=(h.one i m hi).dec h1;have c2:=(h.one j y hj).dec h2;obtain⟨x,hx,g1,g2⟩:=IW (p:=zM m) (q:=zM y) (l:=kp n) (by rw[Fc];omega)
 have Fb:∀(i:Nat) (m:ab),all[i]?=some m->m.aA=3->zM m x=true->∃z,all[x.toNat]?=some z/\z.aa.Value=m.aa.Value:=fun i m hi h1 g=>by
  unfold zM at g;rw[Qn,Qi,List.any_eq_true]at g;rcases g with g|⟨e,he,g⟩
  ·refine⟨m,?_,rfl⟩;rw[g,(h.one i m hi).az];exact hi
  ·rw[Qm,Qi]at g;unfold y1 at g;rw[Qm,Bool.not_eq_true',Qj,Qi]at g;obtain⟨z,z1,_,z3⟩:=h.heard i m hi e he g.2.1;rw[g.1]at z1;exact⟨z,z1,z3.trans g.2.2⟩
 obtain⟨z,z1,z2⟩:=Fb i m hi h1 g1;obtain⟨z',z1',z2'⟩:=Fb j y hj h2 g2;rw[z1]at z1';injection z1' with z1'
 rw[<-z2,<-z2',z1']
end Go.Proofs.YtkgenianmdfmdaaGreat
namespace Go.Proofs.YtkgenianmdfmdaaGreat
open Go.TQ
theorem Vt{n:Int}(h:0<=n)(h':n<=5):RG .i64 n 2=n / 2:=by
 have:n=0\/n=1\/n=2\/n=3\/n=4\/n=5:=by omega
 rcases this with rfl|rfl|rfl|rfl|rfl|rfl<;>decide
theorem Kr{n:Nat}{k:Int}{i:Nat}{m m1 m2:ab}(h:LF n k i m)(hz:aD m1.aa=false)(hsl:m1.bs=1)(hnd:m1.ar=i)(ha:Ak (lZ n k m1) (c9 m1) m2):LF n k i (gU m m2):=by
 have hr:=ha.rel.bump m m2;obtain⟨f1,f2,f3,f4,f5,f6⟩:=vQ m1;have hnz:aD m2.aa=false:=ha.nz (by rw[f6];exact hz)
 exact⟨E5 ha.inv,HW ha.inv ha.seq (fun _=>hnz),hr.flat,by rw[(qP m m2).1,ha.env.1,f1,hnd],by rw[(qP m m2).2.1,ha.env.2.1,f2,hsl],hr.dec,by rw[(qP m m2).2.2.2];exact hnz⟩
theorem z8{R:ab->Prop}{m m1 m2:ab}(ha:Ak R (c9 m1) m2):(gU m m2).aB=m1.aB:=by
 rw[(qP m m2).2.2.1,ha.env.2.2.2.2,(vQ _).2.2.2.2.1]
theorem agree(l:List Int):nm l=some true:=by
 refine Yd.eq_true ?_;unfold nm;simp only[ab.eta,aq.eta,ai.eta,Vd,Qa];refine Yd.bind (VX l) fun s hO=> ?_
 refine Yd.bind (SD hO (by omega) (by omega) (by omega)) fun p2 ⟨hO2,hn2,hn4,_⟩=> ?_
 have hn4:=hn4 (by omega)
 obtain⟨n,hn⟩:∃n:Nat,p2.1=(n:Int):=⟨p2.1.toNat,by omega⟩
 have hhalf:aJ .i64 (RG .i64 p2.1 2) 1=p2.1 / 2+1:=by
  rw[Vt (by omega) (by omega)];exact cj (by omega) (by omega)
 rw[hhalf,hn];rw[hn]at hn2 hn4;generalize hk:(n:Int) / 2+1=k;have hk2:2<=k:=by omega
 have hkn:k<=n:=by omega
 have hkk:(n:Int)<k+k:=by omega
 have hF:lY (n:Int) k=some (flat n k):=Nf n (by omega) k
 have hgood:kh (flat n k):=tZ n (by omega) k (by omega) (by omega)
 rw[hF];simp only[Qa];have hR1:∀a:ab,∀m,aW m->lZ n k a m->lZ n k a (cn m):=fun a m h hr=>WN m h hr
 have hR2:∀a:ab,∀m,lZ n k a m->lZ n k a (c9 m):=fun a m hr=>WM m hr
 refine Yd.down (fun(v:Int×List ab×iQ×Unit)=>0<=v.1/\v.1<=(n:Int)/\v.2.1.length=v.1.toNat/\Cm v.2.2.1/\∀(j:Nat) m,v.2.1[j]?=some m->LF n k j m/\m.aB=[]) (fun v=>((n:Int) - v.1).toNat) ?_
  ⟨by show(0:Int)<=0;omega,by show(0:Int)<=n;omega,rfl,hO2,fun j m hj=>by cases hj⟩
 rintro⟨i,all,s',_⟩ ⟨hi0,hin,hlen,hOs,hall⟩;simp only at hi0 hin hlen hOs hall;simp only
 by_cases hi:i<(n:Int)
 ·
  rw[Qg hi];simp only[Qk];have hm0:=MH (az:=i) (bS:=1) (t:=flat n k) hi0 (by omega) (by omega) (by omega) hgood
  rw[Vj hi0 (by omega) (by omega) (by omega) hgood]
  simp only[Qa];refine Yd.bind (Sz hOs) fun p6 ⟨hO6,hv⟩=> ?_
  have hv:=U4 hv;have hz:aD (dw (fq i 1 (flat n k)) p6.1).aa=false:=Ki hm0.1 hv
  have hpm:∀w,(dw (fq i 1 (flat n k)) w).aB=[]/\(dw (fq i 1 (flat n k)) w).ae=flat n k/\(dw (fq i 1 (flat n k)) w).aA=1/\(dw (fq i 1 (flat n k)) w).ar=i/\(dw (fq i 1 (flat n k)) w).bs=1:=fun w=>by
   unfold dw;split<;>exact⟨rfl,rfl,rfl,rfl,rfl⟩
  obtain⟨q1,q2,q3,q4,q5⟩:=hpm p6.1;have hr0:lZ n k (dw (fq i 1 (flat n k)) p6.1) (dw (fq i 1 (flat n k)) p6.1):=⟨⟨by omega,by omega,hkn,q2,fun e he=>by rw[q1]at he;cases he⟩,fun h3=>by rw[q3]at h3;exact absurd h3 (by decide),fun hq=>⟨hq,rfl⟩⟩
  refine Yd.bind (Km (hR1 _) (hR2 _) hm0.1 hm0.2 hv hr0) fun q hq=> ?_
  obtain⟨m2,rfl,ha⟩:=hq;have hadd:aJ .i64 i 1=i+1:=cj (by omega) (by omega)
  have hlo:bW 240 (all.length+[gU (fq i 1 (flat n k)) m2].length)=true:=er (by simp only[List.length_singleton];omega)
  simp only[decide_true,Qo,Ql,hlo,Qk,hadd];have hr:=ha.rel.bump (fq i 1 (flat n k)) m2;obtain⟨f1,f2,f3,f4,f5,f6⟩:=vQ (dw (fq i 1 (flat n k)) p6.1);have hnz:aD m2.aa=false:=ha.nz (by rw[f6];exact hz)
  refine .some ⟨⟨by show 0<=i+1;omega,by show i+1<=n;omega,by show(all++[_]).length=(i+1).toNat;rw[QB,List.length_singleton,hlen];omega,hO6,fun j m hj=> ?_⟩,by show((n:Int) - (i+1)).toNat<((n:Int) - i).toNat;omega⟩
  have hj:(all++[gU (fq i 1 (flat n k)) m2])[j]?=some m:=hj;rw[List.getElem?_append]at hj;split at hj
  ·exact hall j m hj
  ·rename_i hge
   have hji:j - all.length=0:=by
    rcases Nat.eq_zero_or_pos (j - all.length)with h|h
    ·exact h
    ·rw[List.getElem?_eq_none (by simp only[List.length_singleton];omega)]at hj;cases hj
   rw[hji]at hj;injection hj with hj
   have hjn:((j:Nat):Int)=i:=by omega
   rw[<-hj];refine⟨⟨E5 ha.inv,HW ha.inv ha.seq (fun _=>hnz),hr.flat,?_,?_,hr.dec,?_⟩,?_⟩
   ·rw[(qP _ m2).1,ha.env.1,f1,q4,hjn]
   ·rw[(qP _ m2).2.1,ha.env.2.1,f2,q5]
   ·rw[(qP _ m2).2.2.2];exact hnz
   ·rw[z8 ha,q1]
 ·
  rw[Qh hi];have hin:i=n:=by omega
  simp only[Ql];refine Yd.inr ?_;have hA:LG n k all:=⟨by rw[hlen];omega,fun j m hj=>(hall j m hj).1,fun j m hj e he=>by rw[(hall j m hj).2]at he;cases he⟩
  clear hall hlen hi0 hi hin;refine Yd.down (fun(v:Int×List ab×iQ×Unit)=>0<=v.1/\v.1<=25/\LG n k v.2.1/\Cm v.2.2.1) (fun v=>(25 - v.1).toNat) ?_ ⟨by show(0:Int)<=0;omega,by show(0:Int)<=25;omega,hA,hOs⟩
  rintro⟨r,all,s',_⟩ ⟨hr0,hr25,hA,hOs⟩;simp only at hr0 hr25 hA hOs;simp only
  by_cases hr:r<25
  ·rw[Qg hr];have hadd:aJ .i64 r 1=r+1:=cj (by omega) (by omega)
   simp only[Qk,bB,hadd];refine Yd.bind (LH hOs (by omega)) fun p11 ⟨hO11,a0,a1,_⟩=> ?_
   refine Yd.bind (LH hO11 (by omega)) fun p12 ⟨hO12,b0,b1,_⟩=> ?_
   refine Yd.bind (LH hO12 (by omega)) fun p13 ⟨hO13,_,_,_⟩=> ?_
   have a1:=a1 (by omega)
   have b1:=b1 (by omega)
   obtain⟨i,hi⟩:∃i:Nat,p11.1=(i:Int):=⟨p11.1.toNat,by omega⟩
   obtain⟨j,hj⟩:∃j:Nat,p12.1=(j:Int):=⟨p12.1.toNat,by omega⟩
   rw[hi]at a1;rw[hj]at b1;have hil:i<all.length:=by rw[hA.len];omega
   have hjl:j<all.length:=by rw[hA.len];omega
   have hgi:all[i]?=some all[i]:=Qv hil;have hgj:all[j]?=some all[j]:=Qv hjl;have hxi:idx all (i:Int)=some all[i]:=by rw[bK];exact hgi
   have hxj:idx all (j:Int)=some all[j]:=by rw[bK];exact hgj
   have hmi:=hA.one i _ hgi;have hmj:=hA.one j _ hgj;generalize hm:all[i]=m at hgi hxi hmi;generalize hy:all[j]=y at hgj hxj hmj;rw[hi,hj];simp only[hxi,hxj,QV,hgi,hgj,Qa];have hrefl:∀x:ab,iH n k x->E9 n k x->lZ n k x x:=fun x h1 h2=>⟨h1,h2,fun hq=>⟨hq,rfl⟩⟩
   refine Yd.cond (fun _=> ?_) (fun _=> ?_)
   ·
    have hR0:lZ n k (ka m) (ka m)\/m.aA=3:=by
     by_cases h3:m.aA=3
     ·exact .inr h3
     ·exact .inl (hrefl _ ⟨hmi.flat.n10,hmi.flat.k1,hmi.flat.kn,hmi.flat.aY,hmi.flat.heard⟩ fun h=>absurd h h3)
    have hR:∃R:ab->Prop,(∀m,aW m->R m->R (cn m))/\(∀m,R m->R (c9 m))/\R (ka m)/\(m.aA≠3->∀x,R x->lZ n k (ka m) x):=by
     rcases hR0 with h|h
     ·exact⟨lZ n k (ka m),hR1 _,hR2 _,h,fun _ x hx=>hx⟩
     ·exact⟨fun _=>True,fun _ _ _=>trivial,fun _ _=>trivial,trivial,fun h'=>absurd h h'⟩
    obtain⟨R,r1,r2,r3,r4⟩:=hR;refine Yd.bind (RP r1 r2 hmi.inv hmi.seq r3) fun q hq=> ?_
    rcases hq with⟨⟨m2,rfl,ha⟩,h3,hv,hc⟩|⟨rfl,_⟩|⟨rfl,_⟩
    ·have ha':Ak (lZ n k (ka m)) (c9 (ka m)) m2:=⟨ha.inv,ha.seq,ha.env,ha.num,ha.nz,r4 h3 _ ha.rel,ha.fix⟩;have hrel:=ha'.rel.bump m m2
     have hset:=hA.set hgi (Kr hmi (Ha hmi.inv) hmi.bS hmi.az ha') (fun hq=>by
      obtain⟨g1,g2⟩:=hrel.da hq;refine⟨g1,g2.trans ?_⟩
      have p2:P2 m:=by
       rcases hmi.inv.body with k0|k1|k2|k3
       ·exact absurd k0.aE hq
       ·exact absurd k1.aE hq
       ·exact k2
       ·exact absurd k3.aE h3
      exact SP p2) (fun e he=> .inl (by rw[z8 ha']at he;exact he))
     simp only[decide_true,Qk];exact .some ⟨⟨by show 0<=r+1;omega,by show r+1<=25;omega,hset,hO13⟩,by show(25 - (r+1)).toNat<(25 - r).toNat;omega⟩
    ·have:decide ((62:Int)=0)=false:=by decide
     simp only[this,Ql];exact .some ⟨⟨by show 0<=r+1;omega,by show r+1<=25;omega,hA,hO13⟩,by show(25 - (r+1)).toNat<(25 - r).toNat;omega⟩
    ·have:decide ((3:Int)=0)=false:=by decide
     simp only[this,Ql];exact .some ⟨⟨by show 0<=r+1;omega,by show r+1<=25;omega,hA,hO13⟩,by show(25 - (r+1)).toNat<(25 - r).toNat;omega⟩
   ·
    obtain⟨e,he1,he2⟩:=Kn hmj.inv hmj.seq;have he2:=he2 hmj.nz;simp only[he1,hmj.nz,Qa,Qp,Qk]
    by_cases hij:(i:Int)=(j:Int)
    ·rw[Qg hij];simp only[Qo,Ql];exact .some ⟨⟨by show 0<=r+1;omega,by show r+1<=25;omega,hA,hO13⟩,by show(25 - (r+1)).toNat<(25 - r).toNat;omega⟩
    ·rw[Qh hij];simp only[Qp,Qk];have hlike:mi n k y:=⟨hmj.inv,hmj.seq,hmj.flat,hmj.nz,hmj.bS⟩;obtain⟨w1,w2,w3⟩:=hlike.env
     have KN:G0 m e:=by
      rw[he2];exact⟨w1,by rw[w2];exact hgood,by rw[w3,hmi.bS],by rw[il,hmj.az,hmi.az];exact fun e=>hij e.symm⟩
     have hjne:j≠i:=fun e=>hij (by rw[e])
     have hHe:∀z∈(kb m.aB e).1,z∈m.aB\/∃(j:Nat) (y:ab),j≠i/\all[j]?=some y/\z=bU y:=fun z hz=>by
      rcases yn hz with h|h
      ·exact .inr ⟨j,y,hjne,hgj,h.trans he2⟩
      ·exact .inl h
     have hflat:iH n k (mh m e):=⟨hmi.flat.n10,hmi.flat.k1,hmi.flat.kn,hmi.flat.aY,fun z hz=>by
      rcases yn hz with h|h
      ·rw[h,he2,w2]
      ·exact hmi.flat.heard z h⟩
     have hdec:E9 n k (mh m e):=fun h3=>by
      have h3:m.aA=3:=h3;have hd:=hmi.dec h3
      by_cases hok:(kb m.aB e).2.1=true
      ·refine Int.le_trans hd (Int.ofNat_le.2 (List.countP_mono_left fun x _ hx=> ?_))
       unfold zM at hx ⊢;rw[Qn]at hx ⊢;rcases hx with hx|hx
       ·exact .inl hx
       ·right;rw[List.any_eq_true]at hx ⊢;obtain⟨z,hz,hzz⟩:=hx;rw[Qm,Qi]at hzz;have hsay:=hzz.2;unfold y1 at hsay;rw[Qm,Bool.not_eq_true',Qj,Qi]at hsay
        by_cases hzn:z.ar=e.ar
        ·
         refine⟨e,Vg KN.valid hok,?_⟩;obtain⟨u,u1,u2,u3⟩:=hA.heard i m hgi z hz hsay.1;have hun:z.ar.toNat=j:=by rw[hzn,he2,il,hmj.az];rfl
         rw[hun,hgj]at u1;injection u1 with u1
         rw[Qm,Qi];refine⟨by rw[<-hzn];exact hzz.1,?_⟩
         show y1 m.aa.Value e=true;unfold y1;rw[he2,xg,DM,u1,Qh u2,Qg (u3.trans hsay.2)];rfl
        ·refine⟨z,?_,by rw[Qm,Qi];exact hzz⟩
         show z∈(kb m.aB e).1;rcases tN (l:=m.aB) KN.valid with⟨_,_,_,_,hp⟩|⟨a,b,hab,hp⟩
         ·rw[hp];exact hz
         ·rw[hp];rcases hab with⟨u,hl,hun,_⟩|⟨hl,_⟩
          ·rw[hl]at hz;rcases Qz.1 hz with h|h
           ·exact Qz.2 (.inl h)
           ·rcases QA.1 h with h|h
            ·rw[h]at hzn;exact absurd hun hzn
            ·exact Qz.2 (.inr (Qy _ h))
          ·rw[hl]at hz;rcases Qz.1 hz with h|h
           ·exact Qz.2 (.inl h)
           ·exact Qz.2 (.inr (Qy _ h))
      ·have hsame:(kb m.aB e).1=m.aB:=by
        rcases tN (l:=m.aB) KN.valid with⟨_,_,_,_,hp⟩|⟨a,b,_,hp⟩
        ·rw[hp]
        ·rw[hp]at hok;exact absurd rfl hok
       have:mh m e=m:=by unfold mh;rw[hsame]
       rw[this];exact hd
     refine Yd.bind (Kl (hR1 _) (hR2 _) hmi.inv hmi.seq KN (hrefl _ hflat hdec)) fun q hq=> ?_
     rcases hq with⟨⟨m2,rfl,ha⟩,_⟩|⟨rfl,_⟩
     ·have hrel:=ha.rel.bump m m2;have hset:=hA.set hgi (Kr (m1:=mh m e) hmi hmi.nz hmi.bS hmi.az ha) hrel.da (fun z hz=>hHe z (by rw[z8 ha]at hz;exact hz))
      simp only[decide_true,Qk];exact .some ⟨⟨by show 0<=r+1;omega,by show r+1<=25;omega,hset,hO13⟩,by show(25 - (r+1)).toNat<(25 - r).toNat;omega⟩
     ·have:decide ((9:Int)=0)=false:=by decide
      simp only[this,Ql];exact .some ⟨⟨by show 0<=r+1;omega,by show r+1<=25;omega,hA,hO13⟩,by show(25 - (r+1)).toNat<(25 - r).toNat;omega⟩
  ·
   rw[Qh hr];simp only[Ql];refine Yd.inr ?_;have hlen:=hA.len;refine Yd.down (fun(v:ByteArray×Int×Unit)=>0<=v.2.1/\v.2.1<=(n:Int)/\(v.1=gC\/∃(j:Nat) (y:ab),all[j]?=some y/\y.aA=3/\y.aa.Value=v.1)) (fun v=>((n:Int) - v.2.1).toNat) ?_ ⟨by show(0:Int)<=0;omega,by show(0:Int)<=n;omega,.inl rfl⟩
   rintro⟨v,i,_⟩ ⟨hi0,hin,hv⟩;simp only at hi0 hin hv;simp only
   by_cases hi:i<(n:Int)
   ·obtain⟨t,ht⟩:∃t:Nat,i=(t:Int):=⟨i.toNat,by omega⟩
    subst ht;have htl:t<all.length:=by omega
    have hg:all[t]?=some all[t]:=Qv htl;have hx:idx all (t:Int)=some all[t]:=by rw[bK];exact hg
    have hm:=hA.one t _ hg;have hadd:aJ .i64 (t:Int) 1=(t:Int)+1:=cj (by omega) (by omega)
    have hd:decide ((t:Int)<((all.length:Nat):Int))=true:=Qg (by omega)
    generalize all[t]=m at hg hx hm;simp only[hd,hx,hg,hadd,QV,Qk,bB,Qa,Ko hm.inv hm.seq]
    by_cases h3:m.aA=3
    ·rw[Qg h3];simp only[Qk]
     have hb:(bif (!decide (v=ByteArray.mk #[]))then !decide (m.aa.Value=v)else false)=false:=by
      rcases hv with hv|⟨j,y,g1,g2,g3⟩
      ·have hv:v=ByteArray.mk #[]:=hv;rw[Qg hv];rfl
      ·rw[Qg ((hA.agree hkk hg g1 h3 g2).trans g3)];simp
     simp only[mZ,Qa,hb,Ql];exact .some ⟨⟨by show 0<=(t:Int)+1;omega,by show(t:Int)+1<=n;omega,.inr ⟨t,m,hg,h3,rfl⟩⟩,by show((n:Int) - ((t:Int)+1)).toNat<((n:Int) - t).toNat;omega⟩
    ·rw[Qh h3];simp only[Ql];exact .some ⟨⟨by show 0<=(t:Int)+1;omega,by show(t:Int)+1<=n;omega,hv⟩,by show((n:Int) - ((t:Int)+1)).toNat<((n:Int) - t).toNat;omega⟩
   ·have hd:decide (i<((all.length:Nat):Int))=false:=Qh (by omega)
    simp only[hd,Ql];exact .some rfl
end Go.Proofs.YtkgenianmdfmdaaGreat
end
noncomputable section
namespace Go.TQ
open Go.RowKit
theorem rep_ints{w:World}{M:Nat->Prop}{G:Gh}{a:Option Addr}{len cap:Nat}{zs:List Int}(hM:∀b,¬M b)
  (h:(a=none/\len=0/\cap=0/\zs=[])\/∃x,a=some x/\len<=cap/\cap<=maxLen/\zs.length=cap/\(∀i,i<zs.length->w.cell? (x.add i)=some (.int .i64 (zs.getD i 0)))/\∀n∈zs,(Lit.int .i64 n).wf=true):
  aL w M G (.sl ((zs.take len).map fun n=>[.int .i64 n])) (.slice a len cap):=by
 rcases h with⟨rfl,rfl,rfl,rfl⟩|⟨x,rfl,h1,h2,h3,h4,_⟩
 ·exact .slnil
 ·have hfl:∀l:List Int,(l.map fun n=>[PV.int .i64 n]).flatten=l.map fun n=> .int .i64 n:=by
   intro l
   induction l with
   |nil=>rfl
   |cons n l ih=>simp only[QD,List.flatten_cons,ih];rfl
  have hlen:((zs.take len).map fun n=>[PV.int .i64 n]).length=len:=by simp;omega
  have:=aL.sl (w:=w) (M:=M) (G:=G) ((zs.take len).map fun n=>[.int .i64 n]) x cap 1 ((zs.take len).map fun n=> .int .i64 n) (fun e he=>by obtain⟨n,_,rfl⟩:=QP.1 he;rfl) (by rw[hfl];simp)
   (fun i v hv=> ?_) (fun i y v hy hv=> ?_) (by rw[hlen];exact h1) h2
  ·rw[hlen]at this;exact this
  ·refine⟨?_,hM _⟩;rw[QT,Qb]at hv;obtain⟨n,hn,rfl⟩:=hv;rw[List.getElem?_take]at hn;split at hn
   ·have hi:i<zs.length:=(Qw.1 hn).1;rw[h4 i hi,List.getD_eq_getElem?_getD,hn];rfl
   ·cases hn
  ·rw[hfl]at hy;rw[QT]at hy hv;rw[Qb]at hy hv;obtain⟨n,hn,rfl⟩:=hy;obtain⟨n',hn',rfl⟩:=hv;rw[hn]at hn';injection hn' with e
   subst e;exact .int _ _
theorem law_calls{P:Program}{f:FuncId}{args:List PV}{vs:List Value}{w:World}(h:Ro P f false [] args (.bool true) [])(hr:aM w (fun _=>False) cq args vs):
  Calls P f vs.toArray w fun e w'=>e= .returned (.bool true)/\Below w.heap.size w w':=by
 refine(h w (fun _=>False) (fun _ hb=>hb.elim) 0 0 [] vs (fun hq=>by cases hq) ?_).mono ?_
 ·exact⟨hr.1,fun i x v hx hv=>(hr.2 i x v hx hv).mono (cW.of fun _ _=>fun hq=>by rcases hq with⟨hq,_⟩|hq;cases hq;exact hq) (Gh.le.refl _)⟩
 ·rintro e w' ⟨v,_,rfl,hv,_,hF⟩;refine⟨by rw[hv.jO],hF.os,hF.tape,hF.output,hF.size,fun k hk=>hF.block k hk (by simp)⟩
end Go.TQ
end
